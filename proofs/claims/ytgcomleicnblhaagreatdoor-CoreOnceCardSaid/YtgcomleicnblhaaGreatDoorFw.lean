import Derived.Test.YtgcomleicnblhaaGreatDoorProg
import Derived.Test.YtgcomleicnblhaaGreatDoorEn2
set_option linter.all false
namespace Go.Proofs.YtgcomleicnblhaaGreatDoor
open Go.Vx
noncomputable abbrev P := Tryz.prog
def bmask : Nat := 90854840621558278574172815063877242821841667470919702342169167618119398727975963177176248484829375662550067054818334195298794685333500
theorem bodies_ok : Bodies P bmask := bodies_of 446 (by decide +kernel) (by kernel_rfl) (by kernel_rfl)
section
variable {K : Value → St → Prop} {w : World} {ds : List Deferred}

/-- gosem.cut.init -/
def D2 (K : Value → World → Prop) (s : St) : Prop :=
  Dy P (.func (.func 1) #[] #[]) #[] (fun _ s => Ret P (fun w => K (.tuple #[]) w) s) s
theorem s2 (h : D2 (fun v w' => K v ⟨w', ds⟩) ⟨w, []⟩) : Cl P 2 #[] K ⟨w, ds⟩ := cl_st bodies_ok Tryz.func2 1 [] h

/-- rollcall/rollcalllaw23.CoreOnce -/
def D3 (a0 : Value) (K : Value → World → Prop) (s : St) : Prop :=
  Cl P 6 #[] (fun v1 s => Uo P .not v1 (fun v2 s => CondP v2 (Ret P (fun w => K (.bool false) w) s) (Bi P .len #[22] 3 #[false] #[a0] (fun v3 s => Bo P .gtr 3 false true v3 (.int .i64 40) (fun v4 s => CondP v4 (Ret P (fun w => K (.bool true) w) s) (Bd P 29 #[(0, .string ⟨#[105, 114, 99, 46, 120]⟩), (4, .int .i64 9), (5, .int .i64 65536), (6, .int .i64 1), (7, .int .i64 1), (8, .int .i64 1), (9, .int .i64 5), (10, .int .i64 5), (12, .int .i64 9), (13, .int .i64 9), (14, .int .i64 9)] (fun v5 s => Cl P 7 #[v5] (fun v6 s => Ex P v6 0 (fun v7 s => Ex P v6 1 (fun v8 s => Bo P .neq 25 false true v8 (.int .i64 0) (fun v9 s => CondP v9 (Ret P (fun w => K (.bool false) w) s) (L1 (.int .i64 1) s (fun N10 x11 s => Bo P .leq 3 false true x11 (.int .i64 3) (fun v12 s => CondP v12 (Cl P 8 #[v7, x11, .string ⟨#[104]⟩] (fun _ s => Cl P 10 #[x11] (fun v14 s => Bo P .add 9 true false (.string ⟨#[110]⟩) v14 (fun v15 s => Cl P 9 #[v7, x11, v15] (fun _ s => Bd P 34 #[(4, .string ⟨#[117]⟩)] (fun v17 s => Cl P 11 #[v7, x11, v17] (fun _ s => Cl P 12 #[v7, x11] (fun _ s => Bo P .add 3 false true x11 (.int .i64 1) (fun v20 s => N10 v20 s) s) s) s) s) s) s) s) s) (Cl P 13 #[v7] (fun v21 s => Cl P 14 #[v21, .int .i64 1, .string ⟨#[88]⟩] (fun _ s => L1 (.int .i64 0) s (fun N23 x24 s => Bi P .len #[22] 3 #[false] #[a0] (fun v25 s => Bo P .lss 3 false false x24 v25 (fun v26 s => CondP v26 (J0 (fun A27 => Ia P 22 a0 x24 (fun v28 s => Ld P 5 v28 (fun v29 s => Bo P .quo 5 false true v29 (byteV 2) (fun v30 s => Cv P 5 3 v30 (fun v31 s => Bo P .rem 3 false true v31 (.int .i64 2) (fun v32 s => Bo P .add 3 true false (.int .i64 2) v32 (fun v33 s => Ia P 22 a0 x24 (fun v34 s => Ld P 5 v34 (fun v35 s => Bo P .rem 5 false true v35 (byteV 2) (fun v36 s => Bo P .eql 5 false true v36 (byteV 0) (fun v37 s => CondP v37 (Cl P 9 #[v7, v33, .string ⟨#[120]⟩] (fun _ s => A27 s) s) (Cl P 10 #[v33] (fun v39 s => Bo P .add 9 true false (.string ⟨#[110]⟩) v39 (fun v40 s => Cl P 9 #[v7, v33, v40] (fun _ s => A27 s) s) s) s)) s) s) s) s) s) s) s) s) s) s) (fun s => Bo P .add 3 false true x24 (.int .i64 1) (fun v42 s => N23 v42 s) s)) (Cl P 15 #[v7, .string ⟨#[120]⟩] (fun v43 s => Ex P v43 0 (fun _ s => Ex P v43 1 (fun v45 s => Cl P 16 #[v7, .int .i64 1, .int .i64 65536] (fun v46 s => Cv P 22 9 v46 (fun v47 s => L2 v47 (.bool false) s (fun N48 x49 x50 s => Bo P .neq 9 false true x49 (.string ⟨#[]⟩) (fun v51 s => CondP v51 (J1 (fun A52 => Uo P .not x50 (fun v54 s => J1 (fun A55 => Grd v54 true (Bi P .len #[9] 3 #[false] #[x49] (fun v57 s => Bi P .len #[9] 3 #[false] #[.string ⟨#[58, 105, 114, 99, 46, 120, 32, 55, 51, 48, 32, 110, 49, 32, 120, 33, 117, 64, 104, 13, 10]⟩] (fun v58 s => Bo P .geq 3 false false v57 v58 (fun v59 s => A55 v59 s) s) s) s) (A55 undef s)) (fun x56 s => Pk P v54 x56 (.bool false) (fun v60 s => J1 (fun A61 => Grd v60 true (Bi P .len #[9] 3 #[false] #[.string ⟨#[58, 105, 114, 99, 46, 120, 32, 55, 51, 48, 32, 110, 49, 32, 120, 33, 117, 64, 104, 13, 10]⟩] (fun v63 s => Sl P 9 x49 none (some v63) none (fun v64 s => Bo P .eql 9 false false v64 (.string ⟨#[58, 105, 114, 99, 46, 120, 32, 55, 51, 48, 32, 110, 49, 32, 120, 33, 117, 64, 104, 13, 10]⟩) (fun v65 s => A61 v65 s) s) s) s) (A61 undef s)) (fun x62 s => Pk P v60 x62 (.bool false) (fun v66 s => CondP v66 (Bi P .len #[9] 3 #[false] #[.string ⟨#[58, 105, 114, 99, 46, 120, 32, 55, 51, 48, 32, 110, 49, 32, 120, 33, 117, 64, 104, 13, 10]⟩] (fun v67 s => Sl P 9 x49 (some v67) none none (fun v68 s => A52 v68 s) s) s) (J1 (fun A69 => Grd x50 true (Bi P .len #[9] 3 #[false] #[x49] (fun v71 s => Bi P .len #[9] 3 #[false] #[.string ⟨#[58, 105, 114, 99, 46, 120, 32, 55, 51, 49, 32, 110, 49, 32, 120, 13, 10]⟩] (fun v72 s => Bo P .geq 3 false false v71 v72 (fun v73 s => A69 v73 s) s) s) s) (A69 undef s)) (fun x70 s => Pk P x50 x70 (.bool false) (fun v74 s => J1 (fun A75 => Grd v74 true (Bi P .len #[9] 3 #[false] #[.string ⟨#[58, 105, 114, 99, 46, 120, 32, 55, 51, 49, 32, 110, 49, 32, 120, 13, 10]⟩] (fun v77 s => Sl P 9 x49 none (some v77) none (fun v78 s => Bo P .eql 9 false false v78 (.string ⟨#[58, 105, 114, 99, 46, 120, 32, 55, 51, 49, 32, 110, 49, 32, 120, 13, 10]⟩) (fun v79 s => A75 v79 s) s) s) s) (A75 undef s)) (fun x76 s => Pk P v74 x76 (.bool false) (fun v80 s => CondP v80 (Bi P .len #[9] 3 #[false] #[.string ⟨#[58, 105, 114, 99, 46, 120, 32, 55, 51, 49, 32, 110, 49, 32, 120, 13, 10]⟩] (fun v81 s => Sl P 9 x49 (some v81) none none (fun v82 s => A52 v82 s) s) s) (Ret P (fun w => K (.bool false) w) s)) s)) s))) s)) s)) s) (fun x53 s => Uo P .not x50 (fun v83 s => N48 x53 v83 s) s)) (Bo P .eql 4 false false x50 v45 (fun v84 s => Ret P (fun w => K v84 w) s) s)) s)) s) s) s) s) s)) s) s)) s) s)) s))) s) s) s) s) s)) s) s)) s) s
theorem s3 {a0 : Value} (h : D3 a0 (fun v w' => K v ⟨w', ds⟩) ⟨w, []⟩) : Cl P 3 #[a0] K ⟨w, ds⟩ := cl_st bodies_ok Tryz.func3 134 [.tmp 2] h

/-- rollcall/rollcalllaw23.CorePlays -/
def D4 (a0 a1 a2 : Value) (K : Value → World → Prop) (s : St) : Prop :=
  Bx P 29 a0 (fun v1 s => Cl P 6 #[] (fun v2 s => Uo P .not v2 (fun v3 s => CondP v3 (Ret P (fun w => K (.bool false) w) s) (Ld P 29 v1 (fun v4 s => Cl P 17 #[v4] (fun v5 s => J1 (fun A6 => Grd v5 false (Cl P 18 #[a1] (fun v8 s => A6 v8 s) s) (A6 undef s)) (fun x7 s => Pk P v5 (.bool true) x7 (fun v9 s => J1 (fun A10 => Grd v9 false (Bi P .len #[9] 3 #[false] #[a2] (fun v12 s => Bo P .gtr 3 false true v12 (.int .i64 100) (fun v13 s => A10 v13 s) s) s) (A10 undef s)) (fun x11 s => Pk P v9 (.bool true) x11 (fun v14 s => CondP v14 (Ret P (fun w => K (.bool true) w) s) (Ld P 29 v1 (fun v15 s => Cl P 7 #[v15] (fun v16 s => Ex P v16 0 (fun v17 s => Ex P v16 1 (fun v18 s => Ld P 29 v1 (fun v19 s => Cl P 19 #[v19] (fun v20 s => Ld P 29 v1 (fun v21 s => Cl P 20 #[v21] (fun v22 s => Ex P v22 0 (fun v23 s => Ex P v22 1 (fun _ s => Bo P .neq 3 false false v18 v20 (fun v25 s => J1 (fun A26 => Grd v25 false (Bo P .eql 24 false true v17 (.pointer none) (fun v28 s => Bo P .neq 3 false true v20 (.int .i64 0) (fun v29 s => Bo P .neq 4 false false v28 v29 (fun v30 s => A26 v30 s) s) s) s) (A26 undef s)) (fun x27 s => Pk P v25 (.bool true) x27 (fun v31 s => CondP v31 (Ret P (fun w => K (.bool false) w) s) (Bo P .eql 24 false true v17 (.pointer none) (fun v32 s => CondP v32 (Cl P 21 #[v17] (fun v33 s => Bo P .eql 3 false true v33 (.int .i64 0) (fun v34 s => J1 (fun A35 => Grd v34 true (Cl P 22 #[v17, .int .i64 1] (fun v37 s => Uo P .not v37 (fun v38 s => A35 v38 s) s) s) (A35 undef s)) (fun x36 s => Pk P v34 x36 (.bool false) (fun v39 s => J1 (fun A40 => Grd v39 true (Cl P 8 #[v17, .int .i64 1, .string ⟨#[104]⟩] (fun v42 s => Uo P .not v42 (fun v43 s => A40 v43 s) s) s) (A40 undef s)) (fun x41 s => Pk P v39 x41 (.bool false) (fun v44 s => Ret P (fun w => K v44 w) s) s)) s)) s) s) (L1 (.int .i64 0) s (fun N45 x46 s => Bi P .len #[43] 3 #[false] #[a1] (fun v47 s => Bo P .lss 3 false false x46 v47 (fun v48 s => CondP v48 (Ia P 43 a1 x46 (fun v49 s => Ld P 53 v49 (fun v50 s => Cl P 23 #[v17, v23, v50] (fun v51 s => Uo P .not v51 (fun v52 s => J1 (fun A53 => Grd v52 false (Cl P 24 #[v17, v23, .int .i64 8] (fun v55 s => Uo P .not v55 (fun v56 s => A53 v56 s) s) s) (A53 undef s)) (fun x54 s => Pk P v52 (.bool true) x54 (fun v57 s => CondP v57 (Ret P (fun w => K (.bool false) w) s) (Cl P 15 #[v17, a2] (fun v58 s => Ex P v58 0 (fun v59 s => Ex P v58 1 (fun v60 s => Cl P 25 #[v23, a2] (fun v61 s => Bo P .neq 55 false true v61 (.pointer none) (fun v62 s => Bo P .neq 4 false false v60 v62 (fun v63 s => J1 (fun A64 => Grd v63 false (A64 v60 s) (A64 undef s)) (fun x65 s => J1 (fun A66 => Grd x65 true (Nc P v61 (fun v68 s => Fa P 61 v68 0 (fun v69 s => Fa P 58 v69 0 (fun v70 s => Ld P 3 v70 (fun v71 s => Bo P .neq 3 false false v59 v71 (fun v72 s => A66 v72 s) s) s) s) s) s) (A66 undef s)) (fun x67 s => J1 (fun A73 => Grd v63 false (Pk P x65 x67 (.bool false) (fun v75 s => A73 v75 s) s) (A73 undef s)) (fun x74 s => Pk P v63 (.bool true) x74 (fun v76 s => J1 (fun A77 => Grd v76 false (Uo P .not v60 (fun v79 s => A77 v79 s) s) (A77 undef s)) (fun x78 s => J1 (fun A80 => Grd x78 true (Bo P .neq 3 false true v59 (.int .i64 0) (fun v82 s => A80 v82 s) s) (A80 undef s)) (fun x81 s => J1 (fun A83 => Grd v76 false (Pk P x78 x81 (.bool false) (fun v85 s => A83 v85 s) s) (A83 undef s)) (fun x84 s => Pk P v76 (.bool true) x84 (fun v86 s => CondP v86 (Ret P (fun w => K (.bool false) w) s) (Bo P .add 3 false true x46 (.int .i64 1) (fun v87 s => N45 v87 s) s)) s)))) s)))) s) s) s) s) s) s)) s)) s) s) s) s) (J1 (fun A88 => Dw (fun s => Qt (Ld P 29 v1) s fun v90 => Cl P 26 #[v17] (fun v91 s => Ck (Ld P 29 v1) v90 s ∧ (Qt (Bo P .eql 29 false false v91 v90) s fun v92 => Grd v92 true (Cl P 27 #[v17, v23, .int .i64 8] (fun v93 s => Qt (Pk P v92 v93 (.bool false)) s fun v94 => A88 v94 s) s) (Qt (Pk P v92 undef (.bool false)) s fun v95 => A88 v95 s))) s) s) (fun x89 s => Ret P (fun w => K x89 w) s))) s) s))) s)) s)) s) s) s) s) s) s) s) s) s) s) s)) s)) s)) s) s)) s) s) s
theorem s4 {a0 a1 a2 : Value} (h : D4 a0 a1 a2 (fun v w' => K v ⟨w', ds⟩) ⟨w, []⟩) : Cl P 4 #[a0, a1, a2] K ⟨w, ds⟩ := cl_st bodies_ok Tryz.func4 128 [.tmp 6] h

/-- rollcall/rollcalllaw23.CoreQuits -/
def D5 (a0 a1 a2 : Value) (K : Value → World → Prop) (s : St) : Prop :=
  Bx P 29 a0 (fun v1 s => Cl P 6 #[] (fun v2 s => Uo P .not v2 (fun v3 s => CondP v3 (Ret P (fun w => K (.bool false) w) s) (Ld P 29 v1 (fun v4 s => Cl P 17 #[v4] (fun v5 s => J1 (fun A6 => Grd v5 false (Cl P 18 #[a1] (fun v8 s => A6 v8 s) s) (A6 undef s)) (fun x7 s => Pk P v5 (.bool true) x7 (fun v9 s => J1 (fun A10 => Grd v9 false (Ld P 29 v1 (fun v12 s => Cl P 19 #[v12] (fun v13 s => Bo P .neq 3 false true v13 (.int .i64 0) (fun v14 s => A10 v14 s) s) s) s) (A10 undef s)) (fun x11 s => Pk P v9 (.bool true) x11 (fun v15 s => CondP v15 (Ret P (fun w => K (.bool true) w) s) (Ld P 29 v1 (fun v16 s => Cl P 7 #[v16] (fun v17 s => Ex P v17 0 (fun v18 s => Ex P v17 1 (fun v19 s => Ld P 29 v1 (fun v20 s => Cl P 20 #[v20] (fun v21 s => Ex P v21 0 (fun v22 s => Ex P v21 1 (fun _ s => Bo P .neq 25 false true v19 (.int .i64 0) (fun v24 s => CondP v24 (Ret P (fun w => K (.bool false) w) s) (L1 (.int .i64 0) s (fun N25 x26 s => Bi P .len #[43] 3 #[false] #[a1] (fun v27 s => Bo P .lss 3 false false x26 v27 (fun v28 s => CondP v28 (Ia P 43 a1 x26 (fun v29 s => Ld P 53 v29 (fun v30 s => Cl P 23 #[v18, v22, v30] (fun _ s => Bo P .add 3 false true x26 (.int .i64 1) (fun v32 s => N25 v32 s) s) s) s) s) (Cl P 28 #[v18] (fun v33 s => Ex P v33 0 (fun v34 s => Ex P v33 1 (fun _ s => Cl P 29 #[v18] (fun v36 s => Bi P .len #[64] 3 #[false] #[v34] (fun v37 s => Bo P .gtr 3 false false v36 v37 (fun v38 s => J1 (fun A39 => Grd v38 false (Cl P 29 #[v18] (fun v41 s => Bo P .neq 3 false true v41 (.int .i64 0) (fun v42 s => A39 v42 s) s) s) (A39 undef s)) (fun x40 s => Pk P v38 (.bool true) x40 (fun v43 s => CondP v43 (Ret P (fun w => K (.bool false) w) s) (Cl P 30 #[v18, a2] (fun v44 s => Ex P v44 0 (fun v45 s => Ex P v44 1 (fun v46 s => Al P 58 (fun v47 s => Sv P 58 v47 v45 (fun _ s => Cl P 31 #[v18] (fun v48 s => Cl P 32 #[v48] (fun v49 s => Cl P 33 #[v18] (fun v50 s => Cl P 34 #[v50] (fun v51 s => Cl P 35 #[v18, a2, .string ⟨#[98, 121, 101]⟩] (fun _ s => Cl P 22 #[v18, a2] (fun v53 s => J1 (fun A54 => Grd v53 false (Cl P 33 #[v18] (fun v56 s => Cl P 36 #[v56, a2] (fun v57 s => Bo P .neq 3 false true v57 (.int .i64 0) (fun v58 s => A54 v58 s) s) s) s) (A54 undef s)) (fun x55 s => Pk P v53 (.bool true) x55 (fun v59 s => J1 (fun A60 => Grd v59 false (Cl P 13 #[v18] (fun v62 s => Cl P 37 #[v62, a2] (fun v63 s => Bo P .neq 3 false true v63 (.int .i64 0) (fun v64 s => A60 v64 s) s) s) s) (A60 undef s)) (fun x61 s => Pk P v59 (.bool true) x61 (fun v65 s => J1 (fun A66 => Grd v65 false (Cl P 38 #[v18] (fun v68 s => Cl P 37 #[v68, a2] (fun v69 s => Bo P .neq 3 false true v69 (.int .i64 0) (fun v70 s => A66 v70 s) s) s) s) (A66 undef s)) (fun x67 s => Pk P v65 (.bool true) x67 (fun v71 s => J1 (fun A72 => Grd v71 false (Cl P 33 #[v18] (fun v74 s => Cl P 34 #[v74] (fun v75 s => Bo P .gtr 3 false false v75 v51 (fun v76 s => A72 v76 s) s) s) s) (A72 undef s)) (fun x73 s => Pk P v71 (.bool true) x73 (fun v77 s => CondP v77 (Ret P (fun w => K (.bool false) w) s) (Fa P 58 v47 1 (fun v78 s => Ld P 9 v78 (fun v79 s => Cl P 15 #[v18, v79] (fun v80 s => Ex P v80 0 (fun v81 s => Ex P v80 1 (fun v82 s => J1 (fun A83 => Grd v82 true (Bo P .eql 3 false false v81 a2 (fun v85 s => A83 v85 s) s) (A83 undef s)) (fun x84 s => Pk P v82 x84 (.bool false) (fun v86 s => CondP v86 (Ret P (fun w => K (.bool false) w) s) (Dw (fun s => Qt (Fa P 29 v1 11) s fun v87 => Qt (Ld P 3 v87) s fun v88 => Cl P 31 #[v18] (fun v89 s => Ck (Fa P 29 v1 11) v87 s ∧ Ck (Ld P 3 v87) v88 s ∧ (Cl P 32 #[v89] (fun v90 s => Ck (Fa P 29 v1 11) v87 s ∧ Ck (Ld P 3 v87) v88 s ∧ (Cl P 39 #[v46] (fun v91 s => Ck (Fa P 29 v1 11) v87 s ∧ Ck (Ld P 3 v87) v88 s ∧ (Qt (Bo P .add 3 false false v49 v91) s fun v92 => Qt (Bi P .min #[3, 3] 3 #[false, false] #[v92, v88]) s fun v93 => Qt (Bo P .eql 3 false false v90 v93) s fun v94 => Ret P (fun w => K v94 w) s)) s)) s)) s) s)) s)) s) s) s) s) s)) s)) s)) s)) s)) s) s) s) s) s) s) s) s) s) s) s)) s)) s) s) s) s) s) s)) s) s))) s) s) s) s) s) s) s) s) s)) s)) s)) s) s)) s) s) s
theorem s5 {a0 a1 a2 : Value} (h : D5 a0 a1 a2 (fun v w' => K v ⟨w', ds⟩) ⟨w, []⟩) : Cl P 5 #[a0, a1, a2] K ⟨w, ds⟩ := cl_st bodies_ok Tryz.func5 143 [.tmp 6] h

/-- rollcall/rollcalllaw23.awake -/
def D6 (K : Value → World → Prop) (s : St) : Prop :=
  Bd P 29 #[(0, .string ⟨#[105, 114, 99, 46, 120]⟩), (4, .int .i64 1), (5, .int .i64 512), (6, .int .i64 1), (7, .int .i64 1), (8, .int .i64 1), (9, .int .i64 1), (10, .int .i64 1), (12, .int .i64 1), (13, .int .i64 1), (14, .int .i64 1)] (fun v1 s => Cl P 7 #[v1] (fun v2 s => Ex P v2 0 (fun v3 s => Ex P v2 1 (fun v4 s => Bo P .neq 25 false true v4 (.int .i64 0) (fun v5 s => J1 (fun A6 => Grd v5 false (Cl P 8 #[v3, .int .i64 1, .string ⟨#[104]⟩] (fun v8 s => Uo P .not v8 (fun v9 s => A6 v9 s) s) s) (A6 undef s)) (fun x7 s => Pk P v5 (.bool true) x7 (fun v10 s => CondP v10 (Ret P (fun w => K (.bool false) w) s) (Bs P 134 1 #[(0, .string ⟨#[104, 105]⟩)] (fun v11 s => Cl P 40 #[v3, .int .i64 1, v11] (fun _ s => Cl P 16 #[v3, .int .i64 1, .int .i64 9] (fun v13 s => Cv P 22 9 v13 (fun v14 s => Bo P .eql 9 false true v14 (.string ⟨#[104, 105, 13, 10]⟩) (fun v15 s => J1 (fun A16 => Grd v15 true (Cl P 22 #[v3, .int .i64 1] (fun v18 s => A16 v18 s) s) (A16 undef s)) (fun x17 s => Pk P v15 x17 (.bool false) (fun v19 s => Ret P (fun w => K v19 w) s) s)) s) s) s) s) s)) s)) s) s) s) s) s
theorem s6 (h : D6 (fun v w' => K v ⟨w', ds⟩) ⟨w, []⟩) : Cl P 6 #[] K ⟨w, ds⟩ := cl_st bodies_ok Tryz.func6 26 [.tmp 0] h

/-- rollcall/core.New -/
def D7 (a0 : Value) (K : Value → World → Prop) (s : St) : Prop :=
  Bx P 29 a0 (fun v1 s => Ld P 29 v1 (fun v2 s => Cl P 41 #[v2] (fun v3 s => Bo P .neq 25 false true v3 (.int .i64 0) (fun v4 s => CondP v4 (Ret P (fun w => K (.tuple #[.pointer none, v3]) w) s) (Cl P 42 #[.int .i64 1000] (fun v5 s => Ex P v5 0 (fun v6 s => Ex P v5 1 (fun v7 s => Bo P .neq 25 false true v7 (.int .i64 0) (fun v8 s => CondP v8 (Ret P (fun w => K (.tuple #[.pointer none, v7]) w) s) (Fa P 29 v1 11 (fun v9 s => Ld P 3 v9 (fun v10 s => Cl P 43 #[v10] (fun v11 s => Ex P v11 0 (fun v12 s => Ex P v11 1 (fun v13 s => Bo P .neq 25 false true v13 (.int .i64 0) (fun v14 s => CondP v14 (Ret P (fun w => K (.tuple #[.pointer none, v13]) w) s) (J2 (fun A15 => Dw (fun s => Qt (Ld P 29 v1) s fun v18 => Qt (Ld P 29 v1) s fun v19 => Qt (Fa P 29 v1 10) s fun v20 => Qt (Ld P 3 v20) s fun v21 => Qt (Fa P 29 v1 9) s fun v22 => Qt (Ld P 3 v22) s fun v23 => Qt (Ld P 29 v1) s fun v24 => (Mm P 84 none (fun v25 s => Ck (Ld P 29 v1) v18 s ∧ Ck (Ld P 29 v1) v19 s ∧ Ck (Fa P 29 v1 10) v20 s ∧ Ck (Ld P 3 v20) v21 s ∧ Ck (Fa P 29 v1 9) v22 s ∧ Ck (Ld P 3 v22) v23 s ∧ Ck (Ld P 29 v1) v24 s ∧ (Cl P 44 #[v19] (fun v26 s => Ck (Ld P 29 v1) v18 s ∧ Ck (Fa P 29 v1 10) v20 s ∧ Ck (Ld P 3 v20) v21 s ∧ Ck (Fa P 29 v1 9) v22 s ∧ Ck (Ld P 3 v22) v23 s ∧ Ck (Ld P 29 v1) v24 s ∧ (Cl P 45 #[v21] (fun v27 s => Ck (Ld P 29 v1) v18 s ∧ Ck (Fa P 29 v1 9) v22 s ∧ Ck (Ld P 3 v22) v23 s ∧ Ck (Ld P 29 v1) v24 s ∧ (Cl P 45 #[v23] (fun v28 s => Ck (Ld P 29 v1) v18 s ∧ Ck (Ld P 29 v1) v24 s ∧ (Cl P 46 #[v24] (fun v29 s => Ck (Ld P 29 v1) v18 s ∧ (Qt (Bd P 90 #[(0, v18), (2, v25), (3, v6), (4, v26), (5, v27), (6, v28), (7, v12), (8, v29)]) s fun v30 => Bx P 90 v30 (fun v31 s => A15 v31 (.int .i64 0) s) s)) s)) s)) s)) s)) s) ∧ (Cl P 44 #[v19] (fun v32 s => Ck (Ld P 29 v1) v18 s ∧ Ck (Fa P 29 v1 10) v20 s ∧ Ck (Ld P 3 v20) v21 s ∧ Ck (Fa P 29 v1 9) v22 s ∧ Ck (Ld P 3 v22) v23 s ∧ Ck (Ld P 29 v1) v24 s ∧ ((Mm P 84 none (fun v33 s => Ck (Ld P 29 v1) v18 s ∧ Ck (Fa P 29 v1 10) v20 s ∧ Ck (Ld P 3 v20) v21 s ∧ Ck (Fa P 29 v1 9) v22 s ∧ Ck (Ld P 3 v22) v23 s ∧ Ck (Ld P 29 v1) v24 s ∧ (Cl P 45 #[v21] (fun v34 s => Ck (Ld P 29 v1) v18 s ∧ Ck (Fa P 29 v1 9) v22 s ∧ Ck (Ld P 3 v22) v23 s ∧ Ck (Ld P 29 v1) v24 s ∧ (Cl P 45 #[v23] (fun v35 s => Ck (Ld P 29 v1) v18 s ∧ Ck (Ld P 29 v1) v24 s ∧ (Cl P 46 #[v24] (fun v36 s => Ck (Ld P 29 v1) v18 s ∧ (Qt (Bd P 90 #[(0, v18), (2, v33), (3, v6), (4, v32), (5, v34), (6, v35), (7, v12), (8, v36)]) s fun v37 => Bx P 90 v37 (fun v38 s => A15 v38 (.int .i64 0) s) s)) s)) s)) s)) s) ∧ (Cl P 45 #[v21] (fun v39 s => Ck (Ld P 29 v1) v18 s ∧ Ck (Fa P 29 v1 9) v22 s ∧ Ck (Ld P 3 v22) v23 s ∧ Ck (Ld P 29 v1) v24 s ∧ ((Mm P 84 none (fun v40 s => Ck (Ld P 29 v1) v18 s ∧ Ck (Fa P 29 v1 9) v22 s ∧ Ck (Ld P 3 v22) v23 s ∧ Ck (Ld P 29 v1) v24 s ∧ (Cl P 45 #[v23] (fun v41 s => Ck (Ld P 29 v1) v18 s ∧ Ck (Ld P 29 v1) v24 s ∧ (Cl P 46 #[v24] (fun v42 s => Ck (Ld P 29 v1) v18 s ∧ (Qt (Bd P 90 #[(0, v18), (2, v40), (3, v6), (4, v32), (5, v39), (6, v41), (7, v12), (8, v42)]) s fun v43 => Bx P 90 v43 (fun v44 s => A15 v44 (.int .i64 0) s) s)) s)) s)) s) ∧ (Cl P 45 #[v23] (fun v45 s => Ck (Ld P 29 v1) v18 s ∧ Ck (Ld P 29 v1) v24 s ∧ ((Mm P 84 none (fun v46 s => Ck (Ld P 29 v1) v18 s ∧ Ck (Ld P 29 v1) v24 s ∧ (Cl P 46 #[v24] (fun v47 s => Ck (Ld P 29 v1) v18 s ∧ (Qt (Bd P 90 #[(0, v18), (2, v46), (3, v6), (4, v32), (5, v39), (6, v45), (7, v12), (8, v47)]) s fun v48 => Bx P 90 v48 (fun v49 s => A15 v49 (.int .i64 0) s) s)) s)) s) ∧ (Cl P 46 #[v24] (fun v50 s => Ck (Ld P 29 v1) v18 s ∧ (Mm P 84 none (fun v51 s => Ck (Ld P 29 v1) v18 s ∧ (Qt (Bd P 90 #[(0, v18), (2, v51), (3, v6), (4, v32), (5, v39), (6, v45), (7, v12), (8, v50)]) s fun v52 => Bx P 90 v52 (fun v53 s => A15 v53 (.int .i64 0) s) s)) s)) s))) s))) s))) s)) s) (fun x16 x17 s => Ret P (fun w => K (.tuple #[x16, x17]) w) s))) s) s) s) s) s) s)) s) s) s) s)) s) s) s) s
theorem s7 {a0 : Value} (h : D7 a0 (fun v w' => K v ⟨w', ds⟩) ⟨w, []⟩) : Cl P 7 #[a0] K ⟨w, ds⟩ := cl_st bodies_ok Tryz.func7 45 [.tmp 2, .tmp 3] h

/-- (*rollcall/core.Core).Connect -/
def D8 (a0 a1 a2 : Value) (K : Value → World → Prop) (s : St) : Prop :=
  J1 (fun A1 => Dw (fun s => Qt (Bo P .eql 24 false true a0 (.pointer none)) s fun v3 => Grd v3 false (Qt (Bo P .lss 3 false true a1 (.int .i64 0)) s fun v4 => Qt (Pk P v3 (.bool true) v4) s fun v5 => Grd v5 false (Cl P 47 #[a0, a1] (fun v6 s => Qt (Pk P v5 (.bool true) v6) s fun v7 => Grd v7 false (Qt (Nc P a0) s fun v8 => Qt (Fa P 90 v8 2) s fun v9 => Qt (Ld P 84 v9) s fun v10 => Qt (Bi P .len #[84] 3 #[false] #[v10]) s fun v11 => Qt (Nc P a0) s fun v12 => Qt (Fa P 90 v12 0) s fun v13 => Qt (Fa P 29 v13 4) s fun v14 => Qt (Ld P 3 v14) s fun v15 => Qt (Bo P .geq 3 false false v11 v15) s fun v16 => Qt (Pk P v7 (.bool true) v16) s fun v17 => A1 v17 s) (Qt (Pk P v7 (.bool true) undef) s fun v18 => A1 v18 s)) s) (Qt (Pk P v5 (.bool true) undef) s fun v19 => Grd v19 false (Qt (Nc P a0) s fun v20 => Qt (Fa P 90 v20 2) s fun v21 => Qt (Ld P 84 v21) s fun v22 => Qt (Bi P .len #[84] 3 #[false] #[v22]) s fun v23 => Qt (Nc P a0) s fun v24 => Qt (Fa P 90 v24 0) s fun v25 => Qt (Fa P 29 v25 4) s fun v26 => Qt (Ld P 3 v26) s fun v27 => Qt (Bo P .geq 3 false false v23 v27) s fun v28 => Qt (Pk P v19 (.bool true) v28) s fun v29 => A1 v29 s) (Qt (Pk P v19 (.bool true) undef) s fun v30 => A1 v30 s))) (Qt (Pk P v3 (.bool true) undef) s fun v31 => Grd v31 false (Cl P 47 #[a0, a1] (fun v32 s => Qt (Pk P v31 (.bool true) v32) s fun v33 => Grd v33 false (Qt (Nc P a0) s fun v34 => Qt (Fa P 90 v34 2) s fun v35 => Qt (Ld P 84 v35) s fun v36 => Qt (Bi P .len #[84] 3 #[false] #[v36]) s fun v37 => Qt (Nc P a0) s fun v38 => Qt (Fa P 90 v38 0) s fun v39 => Qt (Fa P 29 v39 4) s fun v40 => Qt (Ld P 3 v40) s fun v41 => Qt (Bo P .geq 3 false false v37 v41) s fun v42 => Qt (Pk P v33 (.bool true) v42) s fun v43 => A1 v43 s) (Qt (Pk P v33 (.bool true) undef) s fun v44 => A1 v44 s)) s) (Qt (Pk P v31 (.bool true) undef) s fun v45 => Grd v45 false (Qt (Nc P a0) s fun v46 => Qt (Fa P 90 v46 2) s fun v47 => Qt (Ld P 84 v47) s fun v48 => Qt (Bi P .len #[84] 3 #[false] #[v48]) s fun v49 => Qt (Nc P a0) s fun v50 => Qt (Fa P 90 v50 0) s fun v51 => Qt (Fa P 29 v51 4) s fun v52 => Qt (Ld P 3 v52) s fun v53 => Qt (Bo P .geq 3 false false v49 v53) s fun v54 => Qt (Pk P v45 (.bool true) v54) s fun v55 => A1 v55 s) (Qt (Pk P v45 (.bool true) undef) s fun v56 => A1 v56 s)))) s) (fun x2 s => CondP x2 (Ret P (fun w => K (.bool false) w) s) (J1 (fun A57 => Cl P 48 #[a2] (fun v59 s => Uo P .not v59 (fun v60 s => CondP v60 (A57 (.string ⟨#[117, 110, 107, 110, 111, 119, 110]⟩) s) (A57 a2 s)) s) s) (fun x58 s => Nc P a0 (fun v61 s => Fa P 90 v61 0 (fun v62 s => Fa P 29 v62 5 (fun v63 s => Ld P 3 v63 (fun v64 s => Cl P 49 #[v64] (fun v65 s => Ex P v65 0 (fun v66 s => Ex P v65 1 (fun v67 s => Bo P .neq 25 false true v67 (.int .i64 0) (fun v68 s => CondP v68 (Ret P (fun w => K (.bool false) w) s) (Dw (fun s => Qt (Nc P a0) s fun v69 => Qt (Fa P 90 v69 2) s fun v70 => Qt (Ld P 84 v70) s fun v71 => Qt (Bd P 58 #[(0, a1), (3, x58)]) s fun v72 => Cl P 50 #[] (fun v73 s => Ck (Nc P a0) v69 s ∧ Ck (Fa P 90 v69 2) v70 s ∧ Ck (Ld P 84 v70) v71 s ∧ Ck (Bd P 58 #[(0, a1), (3, x58)]) v72 s ∧ (Qt (Bd P 99 #[(0, v72), (2, v66), (3, v73)]) s fun v74 => Bx P 99 v74 (fun v75 s => Ck (Nc P a0) v69 s ∧ Ck (Fa P 90 v69 2) v70 s ∧ Ck (Ld P 84 v70) v71 s ∧ (Mu P 84 v71 a1 v75 (fun _ s => Dw (fun s => Qt (Nc P a0) s fun v76 => Qt (Fa P 90 v76 8) s fun v77 => Qt (Ld P 87 v77) s fun v78 => Qt (Nc P a0) s fun v79 => Qt (Fa P 90 v79 1) s fun v80 => Qt (Ld P 3 v80) s fun v81 => Cl P 51 #[v78, a1, v81] (fun _ s => Ret P (fun w => K (.bool true) w) s) s) s) s)) s)) s) s)) s) s) s) s) s) s) s) s)))
theorem s8 {a0 a1 a2 : Value} (h : D8 a0 a1 a2 (fun v w' => K v ⟨w', ds⟩) ⟨w, []⟩) : Cl P 8 #[a0, a1, a2] K ⟨w, ds⟩ := cl_st bodies_ok Tryz.func8 69 [.tmp 6] h

/-- (*rollcall/core.Core).Claim -/
def D9 (a0 a1 a2 : Value) (K : Value → World → Prop) (s : St) : Prop :=
  Cl P 52 #[a0, a1] (fun v1 s => Bo P .eql 95 false true v1 (.pointer none) (fun v2 s => J1 (fun A3 => Grd v2 false (Cl P 53 #[a2] (fun v5 s => Uo P .not v5 (fun v6 s => A3 v6 s) s) s) (A3 undef s)) (fun x4 s => Pk P v2 (.bool true) x4 (fun v7 s => CondP v7 (Ret P (fun w => K (.bool false) w) s) (Cl P 15 #[a0, a2] (fun v8 s => Ex P v8 0 (fun v9 s => Ex P v8 1 (fun v10 s => J1 (fun A11 => Grd v10 true (Bo P .neq 3 false false v9 a1 (fun v13 s => A11 v13 s) s) (A11 undef s)) (fun x12 s => Pk P v10 x12 (.bool false) (fun v14 s => CondP v14 (Ret P (fun w => K (.bool false) w) s) (Cl P 30 #[a0, a1] (fun v15 s => Ex P v15 0 (fun v16 s => Ex P v15 1 (fun v17 s => Al P 58 (fun v18 s => Sv P 58 v18 v16 (fun _ s => J0 (fun A19 => Nc P v1 (fun v20 s => Fa P 99 v20 1 (fun v21 s => Fa P 34 v21 3 (fun v22 s => Ld P 9 v22 (fun v23 s => Bo P .neq 9 false true v23 (.string ⟨#[]⟩) (fun v24 s => CondP v24 (Dw (fun s => Qt (Nc P a0) s fun v25 => Qt (Fa P 90 v25 3) s fun v26 => Qt (Ld P 79 v26) s fun v27 => Qt (Nc P v1) s fun v28 => Qt (Fa P 99 v28 1) s fun v29 => Qt (Fa P 34 v29 3) s fun v30 => Qt (Ld P 9 v30) s fun v31 => Cl P 54 #[v27, v31] (fun _ s => A19 s) s) s) (A19 s)) s) s) s) s) s) (fun s => Nc P a0 (fun v33 s => Fa P 90 v33 3 (fun v34 s => Ld P 79 v34 (fun v35 s => Cl P 55 #[v35, a2, a1] (fun _ s => Nc P v1 (fun v37 s => Fa P 99 v37 1 (fun v38 s => Fa P 34 v38 3 (fun v39 s => Sv P 9 v39 a2 (fun _ s => J0 (fun A40 => J1 (fun A41 => Grd v17 true (Fa P 58 v18 1 (fun v43 s => Ld P 9 v43 (fun v44 s => Cl P 56 #[v44, a2] (fun v45 s => Uo P .not v45 (fun v46 s => A41 v46 s) s) s) s) s) (A41 undef s)) (fun x42 s => Pk P v17 x42 (.bool false) (fun v47 s => CondP v47 (Ld P 58 v18 (fun v48 s => Cl P 57 #[a0, v48] (fun _ s => Cl P 59 #[v1] (fun v50 s => Cl P 58 #[a0, v50] (fun _ s => A40 s) s) s) s) s) (A40 s)) s)) (fun s => Ret P (fun w => K (.bool true) w) s)) s) s) s) s) s) s) s) s)) s) s) s) s) s)) s)) s) s) s)) s)) s) s
theorem s9 {a0 a1 a2 : Value} (h : D9 a0 a1 a2 (fun v w' => K v ⟨w', ds⟩) ⟨w, []⟩) : Cl P 9 #[a0, a1, a2] K ⟨w, ds⟩ := cl_st bodies_ok Tryz.func9 83 [.tmp 6] h

/-- rollcall/rollcallref01.Digits -/
def D10 (a0 : Value) (K : Value → World → Prop) (s : St) : Prop :=
  Bo P .lss 3 false true a0 (.int .i64 10) (fun v1 s => CondP v1 (Bo P .add 3 true false (.int .i64 48) a0 (fun v2 s => Cv P 3 5 v2 (fun v3 s => Bs P 22 1 #[(0, v3)] (fun v4 s => Cv P 22 9 v4 (fun v5 s => Ret P (fun w => K v5 w) s) s) s) s) s) (J1 (fun A6 => Dw (fun s => Qt (Bo P .quo 3 false true a0 (.int .i64 10)) s fun v8 => Qt (Bo P .rem 3 false true a0 (.int .i64 10)) s fun v9 => Qt (Bo P .add 3 true false (.int .i64 48) v9) s fun v10 => Qt (Cv P 3 5 v10) s fun v11 => (Cl P 10 #[v8] (fun v12 s => Ck (Bo P .rem 3 false true a0 (.int .i64 10)) v9 s ∧ Ck (Bo P .add 3 true false (.int .i64 48) v9) v10 s ∧ Ck (Cv P 3 5 v10) v11 s ∧ (Bs P 22 1 #[(0, v11)] (fun v13 s => Qt (Cv P 22 9 v13) s fun v14 => Qt (Bo P .add 9 false false v12 v14) s fun v15 => A6 v15 s) s)) s) ∧ (Bs P 22 1 #[(0, v11)] (fun v16 s => Ck (Bo P .quo 3 false true a0 (.int .i64 10)) v8 s ∧ (Qt (Cv P 22 9 v16) s fun v17 => Cl P 10 #[v8] (fun v18 s => Ck (Cv P 22 9 v16) v17 s ∧ (Qt (Bo P .add 9 false false v18 v17) s fun v19 => A6 v19 s)) s)) s)) s) (fun x7 s => Ret P (fun w => K x7 w) s))) s
theorem s10 {a0 : Value} (h : D10 a0 (fun v w' => K v ⟨w', ds⟩) ⟨w, []⟩) : Cl P 10 #[a0] K ⟨w, ds⟩ := cl_st bodies_ok Tryz.func10 20 [.tmp 2] h

/-- (*rollcall/core.Core).SetSign -/
def D11 (a0 a1 a2 : Value) (K : Value → World → Prop) (s : St) : Prop :=
  Bx P 34 a2 (fun v1 s => Cl P 52 #[a0, a1] (fun v2 s => Bo P .neq 95 false true v2 (.pointer none) (fun v3 s => CondP v3 (Dw (fun s => Qt (Nc P v2) s fun v4 => Qt (Fa P 99 v4 1) s fun v5 => Qt (Fa P 34 v5 3) s fun v6 => Qt (Ld P 9 v6) s fun v7 => Qt (Nc P v2) s fun v8 => Qt (Fa P 99 v8 1) s fun v9 => Qt (Fa P 34 v9 6) s fun v10 => Qt (Ld P 4 v10) s fun v11 => Qt (Fa P 34 v1 3) s fun v12 => Sv P 9 v12 v7 (fun _ s => Ck (Nc P v2) v8 s ∧ Ck (Fa P 99 v8 1) v9 s ∧ Ck (Fa P 34 v9 6) v10 s ∧ Ck (Ld P 4 v10) v11 s ∧ (Qt (Fa P 34 v1 6) s fun v13 => Sv P 4 v13 v11 (fun _ s => Ld P 34 v1 (fun v14 s => Nc P v2 (fun v15 s => Fa P 99 v15 1 (fun v16 s => Sv P 34 v16 v14 (fun _ s => Ret P (fun w => K (.tuple #[]) w) s) s) s) s) s) s)) s) s) (Ret P (fun w => K (.tuple #[]) w) s)) s) s) s
theorem s11 {a0 a1 a2 : Value} (h : D11 a0 a1 a2 (fun v w' => K v ⟨w', ds⟩) ⟨w, []⟩) : Cl P 11 #[a0, a1, a2] K ⟨w, ds⟩ := cl_st bodies_ok Tryz.func11 28 [] h

/-- (*rollcall/core.Core).Register -/
def D12 (a0 a1 : Value) (K : Value → World → Prop) (s : St) : Prop :=
  Cl P 52 #[a0, a1] (fun v1 s => Bo P .eql 95 false true v1 (.pointer none) (fun v2 s => J1 (fun A3 => Grd v2 false (Nc P v1 (fun v5 s => Fa P 99 v5 1 (fun v6 s => Fa P 34 v6 6 (fun v7 s => Ld P 4 v7 (fun v8 s => A3 v8 s) s) s) s) s) (A3 undef s)) (fun x4 s => Pk P v2 (.bool true) x4 (fun v9 s => J1 (fun A10 => Grd v9 false (Nc P v1 (fun v12 s => Fa P 99 v12 1 (fun v13 s => Fa P 34 v13 3 (fun v14 s => Ld P 9 v14 (fun v15 s => Bo P .eql 9 false true v15 (.string ⟨#[]⟩) (fun v16 s => A10 v16 s) s) s) s) s) s) (A10 undef s)) (fun x11 s => Pk P v9 (.bool true) x11 (fun v17 s => J1 (fun A18 => Grd v17 false (Nc P v1 (fun v20 s => Fa P 99 v20 1 (fun v21 s => Fa P 34 v21 4 (fun v22 s => Ld P 9 v22 (fun v23 s => Bo P .eql 9 false true v23 (.string ⟨#[]⟩) (fun v24 s => A18 v24 s) s) s) s) s) s) (A18 undef s)) (fun x19 s => Pk P v17 (.bool true) x19 (fun v25 s => CondP v25 (Ret P (fun w => K (.bool false) w) s) (Nc P v1 (fun v26 s => Fa P 99 v26 1 (fun v27 s => Fa P 34 v27 6 (fun v28 s => Sv P 4 v28 (.bool true) (fun _ s => Nc P v1 (fun v29 s => Fa P 99 v29 1 (fun v30 s => Fa P 34 v30 1 (fun v31 s => Sv P 4 v31 (.bool false) (fun _ s => Dw (fun s => Qt (Nc P a0) s fun v32 => Qt (Fa P 90 v32 1) s fun v33 => Qt (Ld P 3 v33) s fun v34 => Qt (Nc P a0) s fun v35 => Qt (Fa P 90 v35 1) s fun v36 => Qt (Ld P 3 v36) s fun v37 => Qt (Nc P v1) s fun v38 => Qt (Fa P 99 v38 0) s fun v39 => Qt (Fa P 58 v39 8) s fun v40 => Sv P 3 v40 v34 (fun _ s => Qt (Nc P v1) s fun v41 => Qt (Fa P 99 v41 0) s fun v42 => Qt (Fa P 58 v42 9) s fun v43 => Sv P 3 v43 v37 (fun _ s => Dw (fun s => Qt (Nc P a0) s fun v44 => Qt (Fa P 90 v44 8) s fun v45 => Qt (Ld P 87 v45) s fun v46 => Qt (Nc P a0) s fun v47 => Qt (Fa P 90 v47 1) s fun v48 => Qt (Ld P 3 v48) s fun v49 => Cl P 60 #[v46, a1, v49] (fun _ s => Cl P 59 #[v1] (fun v51 s => Cl P 58 #[a0, v51] (fun _ s => Ret P (fun w => K (.bool true) w) s) s) s) s) s) s) s) s) s) s) s) s) s) s) s) s)) s)) s)) s)) s) s
theorem s12 {a0 a1 : Value} (h : D12 a0 a1 (fun v w' => K v ⟨w', ds⟩) ⟨w, []⟩) : Cl P 12 #[a0, a1] K ⟨w, ds⟩ := cl_st bodies_ok Tryz.func12 72 [.tmp 4] h

/-- (*rollcall/core.Core).Monitor -/
def D13 (a0 : Value) (K : Value → World → Prop) (s : St) : Prop :=
  Bo P .eql 24 false true a0 (.pointer none) (fun v1 s => CondP v1 (Ret P (fun w => K (.pointer none) w) s) (Nc P a0 (fun v2 s => Fa P 90 v2 5 (fun v3 s => Ld P 36 v3 (fun v4 s => Ret P (fun w => K v4 w) s) s) s) s)) s
theorem s13 {a0 : Value} (h : D13 a0 (fun v w' => K v ⟨w', ds⟩) ⟨w, []⟩) : Cl P 13 #[a0] K ⟨w, ds⟩ := cl_st bodies_ok Tryz.func13 9 [.tmp 2] h

/-- (*rollcall/wish.Lists).Add -/
def D14 (a0 a1 a2 : Value) (K : Value → World → Prop) (s : St) : Prop :=
  Bo P .eql 36 false true a0 (.pointer none) (fun v1 s => CondP v1 (Ret P (fun w => K (.int .i64 1) w) s) (Cl P 61 #[a2] (fun v2 s => Nc P a0 (fun v3 s => Fa P 110 v3 0 (fun v4 s => Ld P 107 v4 (fun v5 s => Cl P 62 #[v5, a1, v2] (fun v6 s => J0 (fun A7 => Bo P .eql 25 false true v6 (.int .i64 0) (fun v8 s => CondP v8 (Nc P a0 (fun v9 s => Fa P 110 v9 1 (fun v10 s => Ld P 108 v10 (fun v11 s => Bd P 112 #[(0, a1), (1, v2)] (fun v12 s => Mu P 108 v11 v12 a2 (fun _ s => A7 s) s) s) s) s) s) (A7 s)) s) (fun s => Ret P (fun w => K v6 w) s)) s) s) s) s) s)) s
theorem s14 {a0 a1 a2 : Value} (h : D14 a0 a1 a2 (fun v w' => K v ⟨w', ds⟩) ⟨w, []⟩) : Cl P 14 #[a0, a1, a2] K ⟨w, ds⟩ := cl_st bodies_ok Tryz.func14 31 [.tmp 6] h

/-- (*rollcall/core.Core).Holder -/
def D15 (a0 a1 : Value) (K : Value → World → Prop) (s : St) : Prop :=
  Bo P .eql 24 false true a0 (.pointer none) (fun v1 s => CondP v1 (Ret P (fun w => K (.tuple #[.int .i64 0, .bool false]) w) s) (Nc P a0 (fun v2 s => Fa P 90 v2 3 (fun v3 s => Ld P 79 v3 (fun v4 s => Cl P 63 #[v4, a1] (fun v5 s => Ex P v5 0 (fun v6 s => Ex P v5 1 (fun v7 s => Ret P (fun w => K (.tuple #[v6, v7]) w) s) s) s) s) s) s) s)) s
theorem s15 {a0 a1 : Value} (h : D15 a0 a1 (fun v w' => K v ⟨w', ds⟩) ⟨w, []⟩) : Cl P 15 #[a0, a1] K ⟨w, ds⟩ := cl_st bodies_ok Tryz.func15 16 [.tmp 4, .tmp 5] h

/-- (*rollcall/core.Core).Drain -/
def D16 (a0 a1 a2 : Value) (K : Value → World → Prop) (s : St) : Prop :=
  Cl P 64 #[a0, a1] (fun v1 s => Bo P .eql 95 false true v1 (.pointer none) (fun v2 s => CondP v2 (Ret P (fun w => K (.slice none 0 0) w) s) ((none : Option Nat) = none ∧ Df P (.func (.func 65) #[] #[]) #[a0, a1] (fun _ s => Nc P v1 (fun v3 s => Fa P 99 v3 2 (fun v4 s => Ld P 92 v4 (fun v5 s => Cl P 66 #[v5, a2] (fun v6 s => Ret P (fun w => K v6 w) s) s) s) s) s) s)) s) s
theorem s16 {a0 a1 a2 : Value} (h : D16 a0 a1 a2 (fun v w' => K v ⟨w', ds⟩) ⟨w, []⟩) : Cl P 16 #[a0, a1, a2] K ⟨w, ds⟩ := cl_st bodies_ok Tryz.func16 21 [.tmp 6] h

/-- (*rollcall/core.Core).Live -/
def D22 (a0 a1 : Value) (K : Value → World → Prop) (s : St) : Prop :=
  Cl P 52 #[a0, a1] (fun v1 s => Bo P .neq 95 false true v1 (.pointer none) (fun v2 s => Ret P (fun w => K v2 w) s) s) s
theorem s22 {a0 a1 : Value} (h : D22 a0 a1 (fun v w' => K v ⟨w', ds⟩) ⟨w, []⟩) : Cl P 22 #[a0, a1] K ⟨w, ds⟩ := cl_st bodies_ok Tryz.func22 9 [.tmp 4] h

/-- (*rollcall/core.Core).Person -/
def D30 (a0 a1 : Value) (K : Value → World → Prop) (s : St) : Prop :=
  Al P 58 (fun v1 s => Cl P 52 #[a0, a1] (fun v2 s => Bo P .eql 95 false true v2 (.pointer none) (fun v3 s => J1 (fun A4 => Grd v3 false (Nc P v2 (fun v6 s => Fa P 99 v6 1 (fun v7 s => Fa P 34 v7 6 (fun v8 s => Ld P 4 v8 (fun v9 s => Uo P .not v9 (fun v10 s => A4 v10 s) s) s) s) s) s) (A4 undef s)) (fun x5 s => Pk P v3 (.bool true) x5 (fun v11 s => CondP v11 (Bd P 58 #[] (fun v12 s => Sv P 58 v1 v12 (fun _ s => Ret P (fun w => LdR P 58 v1 w fun v13 => K (.tuple #[v13, .bool false]) w) s) s) s) (Cl P 59 #[v2] (fun v14 s => Sv P 58 v1 v14 (fun _ s => Ret P (fun w => LdR P 58 v1 w fun v15 => K (.tuple #[v15, .bool true]) w) s) s) s)) s)) s) s) s
theorem s30 {a0 a1 : Value} (h : D30 a0 a1 (fun v w' => K v ⟨w', ds⟩) ⟨w, []⟩) : Cl P 30 #[a0, a1] K ⟨w, ds⟩ := cl_st bodies_ok Tryz.func30 23 [.cell 4 58, .tmp 5] h

/-- (*rollcall/core.Core).Watch -/
def D38 (a0 : Value) (K : Value → World → Prop) (s : St) : Prop :=
  Bo P .eql 24 false true a0 (.pointer none) (fun v1 s => CondP v1 (Ret P (fun w => K (.pointer none) w) s) (Nc P a0 (fun v2 s => Fa P 90 v2 6 (fun v3 s => Ld P 36 v3 (fun v4 s => Ret P (fun w => K v4 w) s) s) s) s)) s
theorem s38 {a0 : Value} (h : D38 a0 (fun v w' => K v ⟨w', ds⟩) ⟨w, []⟩) : Cl P 38 #[a0] K ⟨w, ds⟩ := cl_st bodies_ok Tryz.func38 9 [.tmp 2] h

/-- (*rollcall/core.Core).Tell -/
def D40 (a0 a1 a2 : Value) (K : Value → World → Prop) (s : St) : Prop :=
  Bi P .len #[134] 3 #[false] #[a2] (fun v1 s => L1 (.int .i64 0) s (fun N2 x3 s => Bo P .lss 3 false false x3 v1 (fun v4 s => CondP v4 (J0 (fun A5 => Ia P 134 a2 x3 (fun v6 s => Ld P 9 v6 (fun v7 s => Cl P 52 #[a0, a1] (fun v8 s => Bo P .eql 95 false true v8 (.pointer none) (fun v9 s => J1 (fun A10 => Grd v9 false (Nc P v8 (fun v12 s => Fa P 99 v12 2 (fun v13 s => Ld P 92 v13 (fun v14 s => Cl P 101 #[v14] (fun v15 s => A10 v15 s) s) s) s) s) (A10 undef s)) (fun x11 s => Pk P v9 (.bool true) x11 (fun v16 s => CondP v16 (Ret P (fun w => K (.tuple #[]) w) s) (Nc P v8 (fun v17 s => Fa P 99 v17 2 (fun v18 s => Ld P 92 v18 (fun v19 s => Cl P 113 #[v19, v7] (fun _ s => Nc P v8 (fun v21 s => Fa P 99 v21 2 (fun v22 s => Ld P 92 v22 (fun v23 s => Cl P 101 #[v23] (fun v24 s => CondP v24 (Nc P a0 (fun v25 s => Fa P 90 v25 9 (fun v26 s => Ld P 64 v26 (fun v27 s => Bs P 64 1 #[(0, a1)] (fun v28 s => Bi P .append #[64, 64] 64 #[false, false] #[v27, v28] (fun v29 s => Nc P a0 (fun v30 s => Fa P 90 v30 9 (fun v31 s => Sv P 64 v31 v29 (fun _ s => A5 s) s) s) s) s) s) s) s) s) (A5 s)) s) s) s) s) s) s) s) s)) s)) s) s) s) s) (fun s => Bo P .add 3 false true x3 (.int .i64 1) (fun v32 s => N2 v32 s) s)) (Ret P (fun w => K (.tuple #[]) w) s)) s)) s
theorem s40 {a0 a1 a2 : Value} (h : D40 a0 a1 a2 (fun v w' => K v ⟨w', ds⟩) ⟨w, []⟩) : Cl P 40 #[a0, a1, a2] K ⟨w, ds⟩ := cl_st bodies_ok Tryz.func40 49 [] h

/-- rollcall/config.Check -/
def D41 (a0 : Value) (K : Value → World → Prop) (s : St) : Prop :=
  Bx P 29 a0 (fun v1 s => Fa P 29 v1 0 (fun v2 s => Ld P 9 v2 (fun v3 s => Cl P 114 #[v3] (fun v4 s => Uo P .not v4 (fun v5 s => J1 (fun A6 => Grd v5 false (Fa P 29 v1 1 (fun v8 s => Ld P 9 v8 (fun v9 s => Cl P 115 #[v9] (fun v10 s => Uo P .not v10 (fun v11 s => A6 v11 s) s) s) s) s) (A6 undef s)) (fun x7 s => Pk P v5 (.bool true) x7 (fun v12 s => J1 (fun A13 => Grd v12 false (Fa P 29 v1 2 (fun v15 s => Ld P 9 v15 (fun v16 s => Cl P 115 #[v16] (fun v17 s => Uo P .not v17 (fun v18 s => A13 v18 s) s) s) s) s) (A13 undef s)) (fun x14 s => Pk P v12 (.bool true) x14 (fun v19 s => J1 (fun A20 => Grd v19 false (Fa P 29 v1 3 (fun v22 s => Ld P 9 v22 (fun v23 s => Cl P 115 #[v23] (fun v24 s => Uo P .not v24 (fun v25 s => A20 v25 s) s) s) s) s) (A20 undef s)) (fun x21 s => Pk P v19 (.bool true) x21 (fun v26 s => J1 (fun A27 => Grd v26 false (Fa P 29 v1 2 (fun v29 s => Ld P 9 v29 (fun v30 s => Bo P .eql 9 false true v30 (.string ⟨#[]⟩) (fun v31 s => Fa P 29 v1 3 (fun v32 s => Ld P 9 v32 (fun v33 s => Bo P .eql 9 false true v33 (.string ⟨#[]⟩) (fun v34 s => Bo P .neq 4 false false v31 v34 (fun v35 s => A27 v35 s) s) s) s) s) s) s) s) (A27 undef s)) (fun x28 s => Pk P v26 (.bool true) x28 (fun v36 s => CondP v36 (Ret P (fun w => K (.int .i64 4) w) s) (Fa P 29 v1 4 (fun v37 s => Ld P 3 v37 (fun v38 s => Bd P 162 #[(0, v38), (1, .int .i64 1), (2, .int .i64 1000)] (fun v39 s => Fa P 29 v1 5 (fun v40 s => Ld P 3 v40 (fun v41 s => Bd P 162 #[(0, v41), (1, .int .i64 512), (2, .int .i64 65536)] (fun v42 s => Fa P 29 v1 6 (fun v43 s => Ld P 3 v43 (fun v44 s => Bd P 162 #[(0, v44), (1, .int .i64 1), (2, .int .i64 1000)] (fun v45 s => Fa P 29 v1 7 (fun v46 s => Ld P 3 v46 (fun v47 s => Bd P 162 #[(0, v47), (1, .int .i64 1), (2, .int .i64 1000)] (fun v48 s => Fa P 29 v1 8 (fun v49 s => Ld P 3 v49 (fun v50 s => Bd P 162 #[(0, v50), (1, .int .i64 1), (2, .int .i64 1000)] (fun v51 s => Fa P 29 v1 9 (fun v52 s => Ld P 3 v52 (fun v53 s => Bd P 162 #[(0, v53), (1, .int .i64 1), (2, .int .i64 1000)] (fun v54 s => Fa P 29 v1 10 (fun v55 s => Ld P 3 v55 (fun v56 s => Bd P 162 #[(0, v56), (1, .int .i64 1), (2, .int .i64 1000)] (fun v57 s => Fa P 29 v1 11 (fun v58 s => Ld P 3 v58 (fun v59 s => Bd P 162 #[(0, v59), (1, .int .i64 0), (2, .int .i64 1000)] (fun v60 s => Fa P 29 v1 12 (fun v61 s => Ld P 3 v61 (fun v62 s => Bd P 162 #[(0, v62), (1, .int .i64 1), (2, .int .i64 1000000)] (fun v63 s => Fa P 29 v1 13 (fun v64 s => Ld P 3 v64 (fun v65 s => Bd P 162 #[(0, v65), (1, .int .i64 1), (2, .int .i64 1000000)] (fun v66 s => Fa P 29 v1 14 (fun v67 s => Ld P 3 v67 (fun v68 s => Bd P 162 #[(0, v68), (1, .int .i64 1), (2, .int .i64 1000000)] (fun v69 s => Bs P 163 11 #[(0, v39), (1, v42), (2, v45), (3, v48), (4, v51), (5, v54), (6, v57), (7, v60), (8, v63), (9, v66), (10, v69)] (fun v70 s => Bi P .len #[163] 3 #[false] #[v70] (fun v71 s => L1 (.int .i64 0) s (fun N72 x73 s => Bo P .lss 3 false false x73 v71 (fun v74 s => CondP v74 (Ia P 163 v70 x73 (fun v75 s => Ld P 162 v75 (fun v76 s => Al P 162 (fun v77 s => Sv P 162 v77 v76 (fun _ s => Fa P 162 v77 0 (fun v78 s => Ld P 3 v78 (fun v79 s => Fa P 162 v77 1 (fun v80 s => Ld P 3 v80 (fun v81 s => Bo P .lss 3 false false v79 v81 (fun v82 s => J1 (fun A83 => Grd v82 false (Fa P 162 v77 0 (fun v85 s => Ld P 3 v85 (fun v86 s => Fa P 162 v77 2 (fun v87 s => Ld P 3 v87 (fun v88 s => Bo P .gtr 3 false false v86 v88 (fun v89 s => A83 v89 s) s) s) s) s) s) (A83 undef s)) (fun x84 s => Pk P v82 (.bool true) x84 (fun v90 s => CondP v90 (Ret P (fun w => K (.int .i64 2) w) s) (Bo P .add 3 false true x73 (.int .i64 1) (fun v91 s => N72 v91 s) s)) s)) s) s) s) s) s) s) s) s) s) (Ret P (fun w => K (.int .i64 0) w) s)) s)) s) s) s) s) s) s) s) s) s) s) s) s) s) s) s) s) s) s) s) s) s) s) s) s) s) s) s) s) s) s) s) s) s) s) s)) s)) s)) s)) s)) s) s) s) s) s
theorem s41 {a0 : Value} (h : D41 a0 (fun v w' => K v ⟨w', ds⟩) ⟨w, []⟩) : Cl P 41 #[a0] K ⟨w, ds⟩ := cl_st bodies_ok Tryz.func41 88 [.tmp 2] h

/-- rollcall/book.New[int] -/
def D42 (a0 : Value) (K : Value → World → Prop) (s : St) : Prop :=
  Bo P .lss 3 false true a0 (.int .i64 0) (fun v1 s => J1 (fun A2 => Grd v1 false (Bo P .gtr 3 false true a0 (.int .i64 100000) (fun v4 s => A2 v4 s) s) (A2 undef s)) (fun x3 s => Pk P v1 (.bool true) x3 (fun v5 s => CondP v5 (Ret P (fun w => K (.tuple #[.pointer none, .int .i64 2]) w) s) (Bd P 166 #[(0, a0)] (fun v6 s => Bx P 166 v6 (fun v7 s => Ret P (fun w => K (.tuple #[v7, .int .i64 0]) w) s) s) s)) s)) s
theorem s42 {a0 : Value} (h : D42 a0 (fun v w' => K v ⟨w', ds⟩) ⟨w, []⟩) : Cl P 42 #[a0] K ⟨w, ds⟩ := cl_st bodies_ok Tryz.func42 13 [.tmp 2, .tmp 3] h

/-- rollcall/was.New[rollcall/api.Person] -/
def D43 (a0 : Value) (K : Value → World → Prop) (s : St) : Prop :=
  Bo P .lss 3 false true a0 (.int .i64 0) (fun v1 s => J1 (fun A2 => Grd v1 false (Bo P .gtr 3 false true a0 (.int .i64 100000) (fun v4 s => A2 v4 s) s) (A2 undef s)) (fun x3 s => Pk P v1 (.bool true) x3 (fun v5 s => CondP v5 (Ret P (fun w => K (.tuple #[.pointer none, .int .i64 2]) w) s) (Bd P 151 #[(0, a0)] (fun v6 s => Bx P 151 v6 (fun v7 s => Ret P (fun w => K (.tuple #[v7, .int .i64 0]) w) s) s) s)) s)) s
theorem s43 {a0 : Value} (h : D43 a0 (fun v w' => K v ⟨w', ds⟩) ⟨w, []⟩) : Cl P 43 #[a0] K ⟨w, ds⟩ := cl_st bodies_ok Tryz.func43 13 [.tmp 2, .tmp 3] h

/-- rollcall/rooms.New -/
def D44 (a0 : Value) (K : Value → World → Prop) (s : St) : Prop :=
  Bx P 29 a0 (fun v1 s => Fa P 29 v1 7 (fun v2 s => Ld P 3 v2 (fun v3 s => Bi P .min #[3, 3] 3 #[false, true] #[v3, .int .i64 1000] (fun v4 s => Bi P .max #[3, 3] 3 #[true, false] #[.int .i64 0, v4] (fun v5 s => Cl P 116 #[v5] (fun v6 s => Ex P v6 0 (fun v7 s => Ex P v6 1 (fun _ s => Fa P 29 v1 6 (fun v9 s => Ld P 3 v9 (fun v10 s => Bi P .min #[3, 3] 3 #[false, true] #[v10, .int .i64 1000] (fun v11 s => Bi P .max #[3, 3] 3 #[true, false] #[.int .i64 0, v11] (fun v12 s => Cl P 117 #[v12] (fun v13 s => Ex P v13 0 (fun v14 s => Ex P v13 1 (fun _ s => Ld P 29 v1 (fun v16 s => Bd P 154 #[(0, v16), (1, v7), (2, v14)] (fun v17 s => Bx P 154 v17 (fun v18 s => Ret P (fun w => K v18 w) s) s) s) s) s) s) s) s) s) s) s) s) s) s) s) s) s) s) s
theorem s44 {a0 : Value} (h : D44 a0 (fun v w' => K v ⟨w', ds⟩) ⟨w, []⟩) : Cl P 44 #[a0] K ⟨w, ds⟩ := cl_st bodies_ok Tryz.func44 28 [.tmp 2] h

/-- rollcall/wish.New -/
def D45 (a0 : Value) (K : Value → World → Prop) (s : St) : Prop :=
  Bi P .min #[3, 3] 3 #[false, true] #[a0, .int .i64 100000] (fun v1 s => Bi P .max #[3, 3] 3 #[true, false] #[.int .i64 0, v1] (fun v2 s => Cl P 117 #[v2] (fun v3 s => Ex P v3 0 (fun v4 s => Ex P v3 1 (fun _ s => Mm P 108 none (fun v6 s => Bd P 110 #[(0, v4), (1, v6)] (fun v7 s => Bx P 110 v7 (fun v8 s => Ret P (fun w => K v8 w) s) s) s) s) s) s) s) s) s
theorem s45 {a0 : Value} (h : D45 a0 (fun v w' => K v ⟨w', ds⟩) ⟨w, []⟩) : Cl P 45 #[a0] K ⟨w, ds⟩ := cl_st bodies_ok Tryz.func45 16 [.tmp 2] h

/-- rollcall/pulse.New -/
def D46 (a0 : Value) (K : Value → World → Prop) (s : St) : Prop :=
  Bx P 29 a0 (fun v1 s => J1 (fun A2 => Dw (fun s => Qt (Fa P 29 v1 12) s fun v4 => Qt (Ld P 3 v4) s fun v5 => Qt (Bi P .max #[3, 3] 3 #[false, true] #[v5, .int .i64 1]) s fun v6 => Qt (Fa P 29 v1 13) s fun v7 => Qt (Ld P 3 v7) s fun v8 => Qt (Bi P .max #[3, 3] 3 #[false, true] #[v8, .int .i64 1]) s fun v9 => Qt (Fa P 29 v1 14) s fun v10 => Qt (Ld P 3 v10) s fun v11 => Qt (Bi P .max #[3, 3] 3 #[false, true] #[v11, .int .i64 1]) s fun v12 => (Mm P 171 none (fun v13 s => Ck (Fa P 29 v1 12) v4 s ∧ Ck (Ld P 3 v4) v5 s ∧ Ck (Bi P .max #[3, 3] 3 #[false, true] #[v5, .int .i64 1]) v6 s ∧ Ck (Fa P 29 v1 13) v7 s ∧ Ck (Ld P 3 v7) v8 s ∧ Ck (Bi P .max #[3, 3] 3 #[false, true] #[v8, .int .i64 1]) v9 s ∧ Ck (Fa P 29 v1 14) v10 s ∧ Ck (Ld P 3 v10) v11 s ∧ Ck (Bi P .max #[3, 3] 3 #[false, true] #[v11, .int .i64 1]) v12 s ∧ (Cl P 118 #[] (fun v14 s => Ck (Fa P 29 v1 12) v4 s ∧ Ck (Ld P 3 v4) v5 s ∧ Ck (Bi P .max #[3, 3] 3 #[false, true] #[v5, .int .i64 1]) v6 s ∧ Ck (Fa P 29 v1 13) v7 s ∧ Ck (Ld P 3 v7) v8 s ∧ Ck (Bi P .max #[3, 3] 3 #[false, true] #[v8, .int .i64 1]) v9 s ∧ Ck (Fa P 29 v1 14) v10 s ∧ Ck (Ld P 3 v10) v11 s ∧ Ck (Bi P .max #[3, 3] 3 #[false, true] #[v11, .int .i64 1]) v12 s ∧ (Cl P 118 #[] (fun v15 s => Ck (Fa P 29 v1 12) v4 s ∧ Ck (Ld P 3 v4) v5 s ∧ Ck (Bi P .max #[3, 3] 3 #[false, true] #[v5, .int .i64 1]) v6 s ∧ Ck (Fa P 29 v1 13) v7 s ∧ Ck (Ld P 3 v7) v8 s ∧ Ck (Bi P .max #[3, 3] 3 #[false, true] #[v8, .int .i64 1]) v9 s ∧ Ck (Fa P 29 v1 14) v10 s ∧ Ck (Ld P 3 v10) v11 s ∧ Ck (Bi P .max #[3, 3] 3 #[false, true] #[v11, .int .i64 1]) v12 s ∧ (Cl P 118 #[] (fun v16 s => Ck (Fa P 29 v1 12) v4 s ∧ Ck (Ld P 3 v4) v5 s ∧ Ck (Bi P .max #[3, 3] 3 #[false, true] #[v5, .int .i64 1]) v6 s ∧ Ck (Fa P 29 v1 13) v7 s ∧ Ck (Ld P 3 v7) v8 s ∧ Ck (Bi P .max #[3, 3] 3 #[false, true] #[v8, .int .i64 1]) v9 s ∧ Ck (Fa P 29 v1 14) v10 s ∧ Ck (Ld P 3 v10) v11 s ∧ Ck (Bi P .max #[3, 3] 3 #[false, true] #[v11, .int .i64 1]) v12 s ∧ (Qt (Bd P 175 #[(0, v6), (1, v9), (2, v12), (3, v13), (4, v14), (5, v15), (6, v16)]) s fun v17 => Bx P 175 v17 (fun v18 s => A2 v18 s) s)) s)) s)) s)) s) ∧ (Cl P 118 #[] (fun v19 s => Ck (Fa P 29 v1 12) v4 s ∧ Ck (Ld P 3 v4) v5 s ∧ Ck (Bi P .max #[3, 3] 3 #[false, true] #[v5, .int .i64 1]) v6 s ∧ Ck (Fa P 29 v1 13) v7 s ∧ Ck (Ld P 3 v7) v8 s ∧ Ck (Bi P .max #[3, 3] 3 #[false, true] #[v8, .int .i64 1]) v9 s ∧ Ck (Fa P 29 v1 14) v10 s ∧ Ck (Ld P 3 v10) v11 s ∧ Ck (Bi P .max #[3, 3] 3 #[false, true] #[v11, .int .i64 1]) v12 s ∧ ((Mm P 171 none (fun v20 s => Ck (Fa P 29 v1 12) v4 s ∧ Ck (Ld P 3 v4) v5 s ∧ Ck (Bi P .max #[3, 3] 3 #[false, true] #[v5, .int .i64 1]) v6 s ∧ Ck (Fa P 29 v1 13) v7 s ∧ Ck (Ld P 3 v7) v8 s ∧ Ck (Bi P .max #[3, 3] 3 #[false, true] #[v8, .int .i64 1]) v9 s ∧ Ck (Fa P 29 v1 14) v10 s ∧ Ck (Ld P 3 v10) v11 s ∧ Ck (Bi P .max #[3, 3] 3 #[false, true] #[v11, .int .i64 1]) v12 s ∧ (Cl P 118 #[] (fun v21 s => Ck (Fa P 29 v1 12) v4 s ∧ Ck (Ld P 3 v4) v5 s ∧ Ck (Bi P .max #[3, 3] 3 #[false, true] #[v5, .int .i64 1]) v6 s ∧ Ck (Fa P 29 v1 13) v7 s ∧ Ck (Ld P 3 v7) v8 s ∧ Ck (Bi P .max #[3, 3] 3 #[false, true] #[v8, .int .i64 1]) v9 s ∧ Ck (Fa P 29 v1 14) v10 s ∧ Ck (Ld P 3 v10) v11 s ∧ Ck (Bi P .max #[3, 3] 3 #[false, true] #[v11, .int .i64 1]) v12 s ∧ (Cl P 118 #[] (fun v22 s => Ck (Fa P 29 v1 12) v4 s ∧ Ck (Ld P 3 v4) v5 s ∧ Ck (Bi P .max #[3, 3] 3 #[false, true] #[v5, .int .i64 1]) v6 s ∧ Ck (Fa P 29 v1 13) v7 s ∧ Ck (Ld P 3 v7) v8 s ∧ Ck (Bi P .max #[3, 3] 3 #[false, true] #[v8, .int .i64 1]) v9 s ∧ Ck (Fa P 29 v1 14) v10 s ∧ Ck (Ld P 3 v10) v11 s ∧ Ck (Bi P .max #[3, 3] 3 #[false, true] #[v11, .int .i64 1]) v12 s ∧ (Qt (Bd P 175 #[(0, v6), (1, v9), (2, v12), (3, v20), (4, v19), (5, v21), (6, v22)]) s fun v23 => Bx P 175 v23 (fun v24 s => A2 v24 s) s)) s)) s)) s) ∧ (Cl P 118 #[] (fun v25 s => Ck (Fa P 29 v1 12) v4 s ∧ Ck (Ld P 3 v4) v5 s ∧ Ck (Bi P .max #[3, 3] 3 #[false, true] #[v5, .int .i64 1]) v6 s ∧ Ck (Fa P 29 v1 13) v7 s ∧ Ck (Ld P 3 v7) v8 s ∧ Ck (Bi P .max #[3, 3] 3 #[false, true] #[v8, .int .i64 1]) v9 s ∧ Ck (Fa P 29 v1 14) v10 s ∧ Ck (Ld P 3 v10) v11 s ∧ Ck (Bi P .max #[3, 3] 3 #[false, true] #[v11, .int .i64 1]) v12 s ∧ ((Mm P 171 none (fun v26 s => Ck (Fa P 29 v1 12) v4 s ∧ Ck (Ld P 3 v4) v5 s ∧ Ck (Bi P .max #[3, 3] 3 #[false, true] #[v5, .int .i64 1]) v6 s ∧ Ck (Fa P 29 v1 13) v7 s ∧ Ck (Ld P 3 v7) v8 s ∧ Ck (Bi P .max #[3, 3] 3 #[false, true] #[v8, .int .i64 1]) v9 s ∧ Ck (Fa P 29 v1 14) v10 s ∧ Ck (Ld P 3 v10) v11 s ∧ Ck (Bi P .max #[3, 3] 3 #[false, true] #[v11, .int .i64 1]) v12 s ∧ (Cl P 118 #[] (fun v27 s => Ck (Fa P 29 v1 12) v4 s ∧ Ck (Ld P 3 v4) v5 s ∧ Ck (Bi P .max #[3, 3] 3 #[false, true] #[v5, .int .i64 1]) v6 s ∧ Ck (Fa P 29 v1 13) v7 s ∧ Ck (Ld P 3 v7) v8 s ∧ Ck (Bi P .max #[3, 3] 3 #[false, true] #[v8, .int .i64 1]) v9 s ∧ Ck (Fa P 29 v1 14) v10 s ∧ Ck (Ld P 3 v10) v11 s ∧ Ck (Bi P .max #[3, 3] 3 #[false, true] #[v11, .int .i64 1]) v12 s ∧ (Qt (Bd P 175 #[(0, v6), (1, v9), (2, v12), (3, v26), (4, v19), (5, v25), (6, v27)]) s fun v28 => Bx P 175 v28 (fun v29 s => A2 v29 s) s)) s)) s) ∧ (Cl P 118 #[] (fun v30 s => Ck (Fa P 29 v1 12) v4 s ∧ Ck (Ld P 3 v4) v5 s ∧ Ck (Bi P .max #[3, 3] 3 #[false, true] #[v5, .int .i64 1]) v6 s ∧ Ck (Fa P 29 v1 13) v7 s ∧ Ck (Ld P 3 v7) v8 s ∧ Ck (Bi P .max #[3, 3] 3 #[false, true] #[v8, .int .i64 1]) v9 s ∧ Ck (Fa P 29 v1 14) v10 s ∧ Ck (Ld P 3 v10) v11 s ∧ Ck (Bi P .max #[3, 3] 3 #[false, true] #[v11, .int .i64 1]) v12 s ∧ (Mm P 171 none (fun v31 s => Ck (Fa P 29 v1 12) v4 s ∧ Ck (Ld P 3 v4) v5 s ∧ Ck (Bi P .max #[3, 3] 3 #[false, true] #[v5, .int .i64 1]) v6 s ∧ Ck (Fa P 29 v1 13) v7 s ∧ Ck (Ld P 3 v7) v8 s ∧ Ck (Bi P .max #[3, 3] 3 #[false, true] #[v8, .int .i64 1]) v9 s ∧ Ck (Fa P 29 v1 14) v10 s ∧ Ck (Ld P 3 v10) v11 s ∧ Ck (Bi P .max #[3, 3] 3 #[false, true] #[v11, .int .i64 1]) v12 s ∧ (Qt (Bd P 175 #[(0, v6), (1, v9), (2, v12), (3, v31), (4, v19), (5, v25), (6, v30)]) s fun v32 => Bx P 175 v32 (fun v33 s => A2 v33 s) s)) s)) s))) s))) s)) s) (fun x3 s => Ret P (fun w => K x3 w) s)) s
theorem s46 {a0 : Value} (h : D46 a0 (fun v w' => K v ⟨w', ds⟩) ⟨w, []⟩) : Cl P 46 #[a0] K ⟨w, ds⟩ := cl_st bodies_ok Tryz.func46 18 [.tmp 2] h

/-- (*rollcall/core.Core).There -/
def D47 (a0 a1 : Value) (K : Value → World → Prop) (s : St) : Prop :=
  Cl P 64 #[a0, a1] (fun v1 s => Bo P .neq 95 false true v1 (.pointer none) (fun v2 s => Ret P (fun w => K v2 w) s) s) s
theorem s47 {a0 a1 : Value} (h : D47 a0 a1 (fun v w' => K v ⟨w', ds⟩) ⟨w, []⟩) : Cl P 47 #[a0, a1] K ⟨w, ds⟩ := cl_st bodies_ok Tryz.func47 9 [.tmp 4] h

/-- rollcall/valid.Host -/
def D48 (a0 : Value) (K : Value → World → Prop) (s : St) : Prop :=
  Cl P 119 #[a0, .int .i64 1, .int .i64 63, .int .u16 16] (fun v1 s => J1 (fun A2 => Grd v1 true (Ix P 9 a0 (.int .i64 0) (fun v4 s => Bo P .neq 5 false true v4 (byteV 58) (fun v5 s => A2 v5 s) s) s) (A2 undef s)) (fun x3 s => Pk P v1 x3 (.bool false) (fun v6 s => Ret P (fun w => K v6 w) s) s)) s
theorem s48 {a0 : Value} (h : D48 a0 (fun v w' => K v ⟨w', ds⟩) ⟨w, []⟩) : Cl P 48 #[a0] K ⟨w, ds⟩ := cl_st bodies_ok Tryz.func48 10 [.tmp 2] h

/-- rollcall/sendq.New -/
def D49 (a0 : Value) (K : Value → World → Prop) (s : St) : Prop :=
  Bo P .lss 3 false true a0 (.int .i64 512) (fun v1 s => J1 (fun A2 => Grd v1 false (Bo P .gtr 3 false true a0 (.int .i64 65536) (fun v4 s => A2 v4 s) s) (A2 undef s)) (fun x3 s => Pk P v1 (.bool true) x3 (fun v5 s => CondP v5 (Ret P (fun w => K (.tuple #[.pointer none, .int .i64 2]) w) s) (Bd P 180 #[(0, a0)] (fun v6 s => Bx P 180 v6 (fun v7 s => Ret P (fun w => K (.tuple #[v7, .int .i64 0]) w) s) s) s)) s)) s
theorem s49 {a0 : Value} (h : D49 a0 (fun v w' => K v ⟨w', ds⟩) ⟨w, []⟩) : Cl P 49 #[a0] K ⟨w, ds⟩ := cl_st bodies_ok Tryz.func49 13 [.tmp 2, .tmp 3] h

/-- rollcall/frame.New -/
def D50 (K : Value → World → Prop) (s : St) : Prop :=
  Bd P 182 #[] (fun v1 s => Bx P 182 v1 (fun v2 s => Ret P (fun w => K v2 w) s) s) s
theorem s50 (h : D50 (fun v w' => K v ⟨w', ds⟩) ⟨w, []⟩) : Cl P 50 #[] K ⟨w, ds⟩ := cl_st bodies_ok Tryz.func50 3 [.tmp 0] h

/-- (*rollcall/pulse.Pulse).Join -/
def D51 (a0 a1 a2 : Value) (K : Value → World → Prop) (s : St) : Prop :=
  Bo P .eql 87 false true a0 (.pointer none) (fun v1 s => CondP v1 (Ret P (fun w => K (.tuple #[]) w) s) (Cl P 105 #[a0, a1] (fun _ s => Nc P a0 (fun v3 s => Fa P 175 v3 3 (fun v4 s => Ld P 171 v4 (fun v5 s => Mu P 171 v5 a1 a2 (fun _ s => Dw (fun s => Qt (Nc P a0) s fun v6 => Qt (Fa P 175 v6 4) s fun v7 => Qt (Ld P 172 v7) s fun v8 => Qt (Nc P a0) s fun v9 => Qt (Fa P 175 v9 2) s fun v10 => Qt (Ld P 3 v10) s fun v11 => Qt (Bo P .add 3 false false a2 v11) s fun v12 => Cl P 120 #[v8, a1, v12] (fun _ s => Ret P (fun w => K (.tuple #[]) w) s) s) s) s) s) s) s) s)) s
theorem s51 {a0 a1 a2 : Value} (h : D51 a0 a1 a2 (fun v w' => K v ⟨w', ds⟩) ⟨w, []⟩) : Cl P 51 #[a0, a1, a2] K ⟨w, ds⟩ := cl_st bodies_ok Tryz.func51 29 [] h

/-- (*rollcall/core.Core).live -/
def D52 (a0 a1 : Value) (K : Value → World → Prop) (s : St) : Prop :=
  Cl P 64 #[a0, a1] (fun v1 s => Bo P .neq 95 false true v1 (.pointer none) (fun v2 s => J1 (fun A3 => Grd v2 true (Nc P v1 (fun v5 s => Fa P 99 v5 4 (fun v6 s => Ld P 4 v6 (fun v7 s => Uo P .not v7 (fun v8 s => A3 v8 s) s) s) s) s) (A3 undef s)) (fun x4 s => Pk P v2 x4 (.bool false) (fun v9 s => CondP v9 (Ret P (fun w => K v1 w) s) (Ret P (fun w => K (.pointer none) w) s)) s)) s) s
theorem s52 {a0 a1 : Value} (h : D52 a0 a1 (fun v w' => K v ⟨w', ds⟩) ⟨w, []⟩) : Cl P 52 #[a0, a1] K ⟨w, ds⟩ := cl_st bodies_ok Tryz.func52 19 [.tmp 4] h

/-- rollcall/valid.Nick -/
def D53 (a0 : Value) (K : Value → World → Prop) (s : St) : Prop :=
  Cl P 119 #[a0, .int .i64 1, .int .i64 16, .int .u16 2] (fun v1 s => J1 (fun A2 => Grd v1 true (Sl P 9 a0 none (some (.int .i64 1)) none (fun v4 s => Cl P 119 #[v4, .int .i64 1, .int .i64 1, .int .u16 1] (fun v5 s => A2 v5 s) s) s) (A2 undef s)) (fun x3 s => Pk P v1 x3 (.bool false) (fun v6 s => Ret P (fun w => K v6 w) s) s)) s
theorem s53 {a0 : Value} (h : D53 a0 (fun v w' => K v ⟨w', ds⟩) ⟨w, []⟩) : Cl P 53 #[a0] K ⟨w, ds⟩ := cl_st bodies_ok Tryz.func53 10 [.tmp 2] h

/-- (*rollcall/book.Book[int]).Delete -/
def D54 (a0 a1 : Value) (K : Value → World → Prop) (s : St) : Prop :=
  Cl P 121 #[a0, a1] (fun v1 s => Ex P v1 0 (fun v2 s => Ex P v1 1 (fun v3 s => J0 (fun A4 => CondP v3 (Nc P a0 (fun v5 s => Fa P 166 v5 1 (fun v6 s => Ld P 164 v6 (fun v7 s => Bo P .add 3 false true v2 (.int .i64 1) (fun v8 s => Cl P 122 #[v7, v2, v8] (fun v9 s => Nc P a0 (fun v10 s => Fa P 166 v10 1 (fun v11 s => Sv P 164 v11 v9 (fun _ s => A4 s) s) s) s) s) s) s) s) s) (A4 s)) (fun s => Ret P (fun w => K v3 w) s)) s) s) s
theorem s54 {a0 a1 : Value} (h : D54 a0 a1 (fun v w' => K v ⟨w', ds⟩) ⟨w, []⟩) : Cl P 54 #[a0, a1] K ⟨w, ds⟩ := cl_st bodies_ok Tryz.func54 26 [.tmp 4] h

/-- (*rollcall/book.Book[int]).Put -/
def D55 (a0 a1 a2 : Value) (K : Value → World → Prop) (s : St) : Prop :=
  Bo P .eql 79 false true a0 (.pointer none) (fun v1 s => CondP v1 (Ret P (fun w => K (.int .i64 1) w) s) (Cl P 121 #[a0, a1] (fun v2 s => Ex P v2 0 (fun v3 s => Ex P v2 1 (fun v4 s => J0 (fun A5 => CondP v4 (Nc P a0 (fun v6 s => Fa P 166 v6 1 (fun v7 s => Ld P 164 v7 (fun v8 s => Bd P 185 #[(0, a1), (1, a2)] (fun v9 s => Ia P 164 v8 v3 (fun v10 s => Sv P 185 v10 v9 (fun _ s => A5 s) s) s) s) s) s) s) (Dw (fun s => Qt (Nc P a0) s fun v11 => Qt (Fa P 166 v11 1) s fun v12 => Qt (Ld P 164 v12) s fun v13 => Qt (Bi P .len #[164] 3 #[false] #[v13]) s fun v14 => Qt (Nc P a0) s fun v15 => Qt (Fa P 166 v15 0) s fun v16 => Qt (Ld P 3 v16) s fun v17 => Qt (Bo P .geq 3 false false v14 v17) s fun v18 => CondP v18 (Ret P (fun w => K (.int .i64 7) w) s) (Nc P a0 (fun v19 s => Fa P 166 v19 1 (fun v20 s => Ld P 164 v20 (fun v21 s => Bd P 185 #[(0, a1), (1, a2)] (fun v22 s => Bs P 164 1 #[(0, v22)] (fun v23 s => Cl P 123 #[v21, v3, v23] (fun v24 s => Nc P a0 (fun v25 s => Fa P 166 v25 1 (fun v26 s => Sv P 164 v26 v24 (fun _ s => A5 s) s) s) s) s) s) s) s) s) s)) s)) (fun s => Ret P (fun w => K (.int .i64 0) w) s)) s) s) s)) s
theorem s55 {a0 a1 a2 : Value} (h : D55 a0 a1 a2 (fun v w' => K v ⟨w', ds⟩) ⟨w, []⟩) : Cl P 55 #[a0, a1, a2] K ⟨w, ds⟩ := cl_st bodies_ok Tryz.func55 52 [.tmp 6] h

/-- rollcall/fold.Same -/
def D56 (a0 a1 : Value) (K : Value → World → Prop) (s : St) : Prop :=
  Bi P .len #[9] 3 #[false] #[a0] (fun v1 s => Bi P .len #[9] 3 #[false] #[a1] (fun v2 s => Bo P .eql 3 false false v1 v2 (fun v3 s => J1 (fun A4 => Grd v3 true (Cl P 124 #[a0, a1] (fun v6 s => Bo P .eql 3 false true v6 (.int .i64 0) (fun v7 s => A4 v7 s) s) s) (A4 undef s)) (fun x5 s => Pk P v3 x5 (.bool false) (fun v8 s => Ret P (fun w => K v8 w) s) s)) s) s) s
theorem s56 {a0 a1 : Value} (h : D56 a0 a1 (fun v w' => K v ⟨w', ds⟩) ⟨w, []⟩) : Cl P 56 #[a0, a1] K ⟨w, ds⟩ := cl_st bodies_ok Tryz.func56 16 [.tmp 4] h

/-- (*rollcall/core.Core).offline -/
def D57 (a0 a1 : Value) (K : Value → World → Prop) (s : St) : Prop :=
  Bx P 58 a1 (fun v1 s => Dw (fun s => Qt (Nc P a0) s fun v2 => Qt (Fa P 90 v2 5) s fun v3 => Qt (Ld P 36 v3) s fun v4 => Qt (Fa P 58 v1 1) s fun v5 => Qt (Ld P 9 v5) s fun v6 => Qt (Fa P 58 v1 1) s fun v7 => Qt (Ld P 9 v7) s fun v8 => Bs P 134 1 #[(0, v8)] (fun v9 s => Ck (Nc P a0) v2 s ∧ Ck (Fa P 90 v2 5) v3 s ∧ Ck (Ld P 36 v3) v4 s ∧ Ck (Fa P 58 v1 1) v5 s ∧ Ck (Ld P 9 v5) v6 s ∧ (Cl P 125 #[a0, v4, v6, .int .i64 731, v9] (fun _ s => Dw (fun s => Qt (Nc P a0) s fun v11 => Qt (Fa P 90 v11 6) s fun v12 => Qt (Ld P 36 v12) s fun v13 => Qt (Fa P 58 v1 1) s fun v14 => Qt (Ld P 9 v14) s fun v15 => Qt (Fa P 58 v1 1) s fun v16 => Qt (Ld P 9 v16) s fun v17 => Qt (Fa P 58 v1 2) s fun v18 => Qt (Ld P 9 v18) s fun v19 => Qt (Fa P 58 v1 3) s fun v20 => Qt (Ld P 9 v20) s fun v21 => Qt (Nc P a0) s fun v22 => Qt (Fa P 90 v22 1) s fun v23 => Qt (Ld P 3 v23) s fun v24 => Cl P 126 #[v24] (fun v25 s => Ck (Nc P a0) v11 s ∧ Ck (Fa P 90 v11 6) v12 s ∧ Ck (Ld P 36 v12) v13 s ∧ Ck (Fa P 58 v1 1) v14 s ∧ Ck (Ld P 9 v14) v15 s ∧ Ck (Fa P 58 v1 1) v16 s ∧ Ck (Ld P 9 v16) v17 s ∧ Ck (Fa P 58 v1 2) v18 s ∧ Ck (Ld P 9 v18) v19 s ∧ Ck (Fa P 58 v1 3) v20 s ∧ Ck (Ld P 9 v20) v21 s ∧ (Bs P 134 5 #[(0, v17), (1, v19), (2, v21), (3, v25), (4, .string ⟨#[108, 111, 103, 103, 101, 100, 32, 111, 102, 102, 108, 105, 110, 101]⟩)] (fun v26 s => Ck (Nc P a0) v11 s ∧ Ck (Fa P 90 v11 6) v12 s ∧ Ck (Ld P 36 v12) v13 s ∧ Ck (Fa P 58 v1 1) v14 s ∧ Ck (Ld P 9 v14) v15 s ∧ (Cl P 125 #[a0, v13, v15, .int .i64 601, v26] (fun _ s => Ret P (fun w => K (.tuple #[]) w) s) s)) s)) s) s) s)) s) s) s
theorem s57 {a0 a1 : Value} (h : D57 a0 a1 (fun v w' => K v ⟨w', ds⟩) ⟨w, []⟩) : Cl P 57 #[a0, a1] K ⟨w, ds⟩ := cl_st bodies_ok Tryz.func57 35 [] h

/-- (*rollcall/core.Core).online -/
def D58 (a0 a1 : Value) (K : Value → World → Prop) (s : St) : Prop :=
  Bx P 58 a1 (fun v1 s => Dw (fun s => Qt (Nc P a0) s fun v2 => Qt (Fa P 90 v2 5) s fun v3 => Qt (Ld P 36 v3) s fun v4 => Qt (Fa P 58 v1 1) s fun v5 => Qt (Ld P 9 v5) s fun v6 => Qt (Ld P 58 v1) s fun v7 => Cl P 108 #[v7] (fun v8 s => Ck (Nc P a0) v2 s ∧ Ck (Fa P 90 v2 5) v3 s ∧ Ck (Ld P 36 v3) v4 s ∧ Ck (Fa P 58 v1 1) v5 s ∧ Ck (Ld P 9 v5) v6 s ∧ (Bs P 134 1 #[(0, v8)] (fun v9 s => Ck (Nc P a0) v2 s ∧ Ck (Fa P 90 v2 5) v3 s ∧ Ck (Ld P 36 v3) v4 s ∧ Ck (Fa P 58 v1 1) v5 s ∧ Ck (Ld P 9 v5) v6 s ∧ (Cl P 125 #[a0, v4, v6, .int .i64 730, v9] (fun _ s => Dw (fun s => Qt (Nc P a0) s fun v11 => Qt (Fa P 90 v11 6) s fun v12 => Qt (Ld P 36 v12) s fun v13 => Qt (Fa P 58 v1 1) s fun v14 => Qt (Ld P 9 v14) s fun v15 => Qt (Fa P 58 v1 1) s fun v16 => Qt (Ld P 9 v16) s fun v17 => Qt (Fa P 58 v1 2) s fun v18 => Qt (Ld P 9 v18) s fun v19 => Qt (Fa P 58 v1 3) s fun v20 => Qt (Ld P 9 v20) s fun v21 => Qt (Fa P 58 v1 8) s fun v22 => Qt (Ld P 3 v22) s fun v23 => Cl P 126 #[v23] (fun v24 s => Ck (Nc P a0) v11 s ∧ Ck (Fa P 90 v11 6) v12 s ∧ Ck (Ld P 36 v12) v13 s ∧ Ck (Fa P 58 v1 1) v14 s ∧ Ck (Ld P 9 v14) v15 s ∧ Ck (Fa P 58 v1 1) v16 s ∧ Ck (Ld P 9 v16) v17 s ∧ Ck (Fa P 58 v1 2) v18 s ∧ Ck (Ld P 9 v18) v19 s ∧ Ck (Fa P 58 v1 3) v20 s ∧ Ck (Ld P 9 v20) v21 s ∧ (Bs P 134 5 #[(0, v17), (1, v19), (2, v21), (3, v24), (4, .string ⟨#[108, 111, 103, 103, 101, 100, 32, 111, 110, 108, 105, 110, 101]⟩)] (fun v25 s => Ck (Nc P a0) v11 s ∧ Ck (Fa P 90 v11 6) v12 s ∧ Ck (Ld P 36 v12) v13 s ∧ Ck (Fa P 58 v1 1) v14 s ∧ Ck (Ld P 9 v14) v15 s ∧ (Cl P 125 #[a0, v13, v15, .int .i64 600, v25] (fun _ s => Ret P (fun w => K (.tuple #[]) w) s) s)) s)) s) s) s)) s)) s) s) s
theorem s58 {a0 a1 : Value} (h : D58 a0 a1 (fun v w' => K v ⟨w', ds⟩) ⟨w, []⟩) : Cl P 58 #[a0, a1] K ⟨w, ds⟩ := cl_st bodies_ok Tryz.func58 33 [] h

/-- (*rollcall/core.conn).whole -/
def D59 (a0 : Value) (K : Value → World → Prop) (s : St) : Prop :=
  Al P 58 (fun v1 s => Nc P a0 (fun v2 s => Fa P 99 v2 0 (fun v3 s => Ld P 58 v3 (fun v4 s => Al P 58 (fun v5 s => Sv P 58 v5 v4 (fun _ s => Dw (fun s => Qt (Nc P a0) s fun v6 => Qt (Fa P 99 v6 1) s fun v7 => Qt (Fa P 34 v7 3) s fun v8 => Qt (Ld P 9 v8) s fun v9 => Qt (Nc P a0) s fun v10 => Qt (Fa P 99 v10 1) s fun v11 => Qt (Fa P 34 v11 4) s fun v12 => Qt (Ld P 9 v12) s fun v13 => Qt (Nc P a0) s fun v14 => Qt (Fa P 99 v14 1) s fun v15 => Qt (Fa P 34 v15 5) s fun v16 => Qt (Ld P 9 v16) s fun v17 => Qt (Fa P 58 v5 1) s fun v18 => Sv P 9 v18 v9 (fun _ s => Ck (Nc P a0) v10 s ∧ Ck (Fa P 99 v10 1) v11 s ∧ Ck (Fa P 34 v11 4) v12 s ∧ Ck (Ld P 9 v12) v13 s ∧ Ck (Nc P a0) v14 s ∧ Ck (Fa P 99 v14 1) v15 s ∧ Ck (Fa P 34 v15 5) v16 s ∧ Ck (Ld P 9 v16) v17 s ∧ (Qt (Fa P 58 v5 2) s fun v19 => Sv P 9 v19 v13 (fun _ s => Ck (Nc P a0) v14 s ∧ Ck (Fa P 99 v14 1) v15 s ∧ Ck (Fa P 34 v15 5) v16 s ∧ Ck (Ld P 9 v16) v17 s ∧ (Qt (Fa P 58 v5 4) s fun v20 => Sv P 9 v20 v17 (fun _ s => Ld P 58 v5 (fun v21 s => Sv P 58 v1 v21 (fun _ s => Ret P (fun w => LdR P 58 v1 w fun v22 => K v22 w) s) s) s) s)) s)) s) s) s) s) s) s) s) s
theorem s59 {a0 : Value} (h : D59 a0 (fun v w' => K v ⟨w', ds⟩) ⟨w, []⟩) : Cl P 59 #[a0] K ⟨w, ds⟩ := cl_st bodies_ok Tryz.func59 27 [.cell 2 58] h

/-- (*rollcall/pulse.Pulse).Register -/
def D60 (a0 a1 a2 : Value) (K : Value → World → Prop) (s : St) : Prop :=
  Bo P .eql 87 false true a0 (.pointer none) (fun v1 s => CondP v1 (Ret P (fun w => K (.tuple #[]) w) s) (Nc P a0 (fun v2 s => Fa P 175 v2 3 (fun v3 s => Ld P 171 v3 (fun v4 s => Lk P 171 v4 a1 true (fun v5 s => Ex P v5 0 (fun _ s => Ex P v5 1 (fun v7 s => Uo P .not v7 (fun v8 s => CondP v8 (Ret P (fun w => K (.tuple #[]) w) s) (Nc P a0 (fun v9 s => Fa P 175 v9 4 (fun v10 s => Ld P 172 v10 (fun v11 s => Cl P 127 #[v11, a1] (fun _ s => Nc P a0 (fun v13 s => Fa P 175 v13 3 (fun v14 s => Ld P 171 v14 (fun v15 s => Mu P 171 v15 a1 a2 (fun _ s => Dw (fun s => Qt (Nc P a0) s fun v16 => Qt (Fa P 175 v16 5) s fun v17 => Qt (Ld P 172 v17) s fun v18 => Qt (Nc P a0) s fun v19 => Qt (Fa P 175 v19 0) s fun v20 => Qt (Ld P 3 v20) s fun v21 => Qt (Bo P .add 3 false false a2 v21) s fun v22 => Cl P 120 #[v18, a1, v22] (fun _ s => Dw (fun s => Qt (Nc P a0) s fun v24 => Qt (Fa P 175 v24 6) s fun v25 => Qt (Ld P 172 v25) s fun v26 => Qt (Nc P a0) s fun v27 => Qt (Fa P 175 v27 0) s fun v28 => Qt (Ld P 3 v28) s fun v29 => Qt (Bo P .add 3 false false a2 v29) s fun v30 => Qt (Nc P a0) s fun v31 => Qt (Fa P 175 v31 1) s fun v32 => Qt (Ld P 3 v32) s fun v33 => Qt (Bo P .add 3 false false v30 v33) s fun v34 => Cl P 120 #[v26, a1, v34] (fun _ s => Ret P (fun w => K (.tuple #[]) w) s) s) s) s) s) s) s) s) s) s) s) s) s)) s) s) s) s) s) s) s)) s
theorem s60 {a0 a1 a2 : Value} (h : D60 a0 a1 a2 (fun v w' => K v ⟨w', ds⟩) ⟨w, []⟩) : Cl P 60 #[a0, a1, a2] K ⟨w, ds⟩ := cl_st bodies_ok Tryz.func60 62 [] h

/-- rollcall/fold.Text -/
def D61 (a0 : Value) (K : Value → World → Prop) (s : St) : Prop :=
  Bi P .len #[9] 3 #[false] #[a0] (fun v1 s => Ms P 22 (.int .i64 0) v1 (fun v2 s => Bi P .len #[9] 3 #[false] #[a0] (fun v3 s => L2 v2 (.int .i64 0) s (fun N4 x5 x6 s => Bo P .lss 3 false false x6 v3 (fun v7 s => CondP v7 (Ix P 9 a0 x6 (fun v8 s => Cl P 128 #[v8] (fun v9 s => Bs P 22 1 #[(0, v9)] (fun v10 s => Bi P .append #[22, 22] 22 #[false, false] #[x5, v10] (fun v11 s => Bo P .add 3 false true x6 (.int .i64 1) (fun v12 s => N4 v11 v12 s) s) s) s) s) s) (Cv P 22 9 x5 (fun v13 s => Ret P (fun w => K v13 w) s) s)) s)) s) s) s
theorem s61 {a0 : Value} (h : D61 a0 (fun v w' => K v ⟨w', ds⟩) ⟨w, []⟩) : Cl P 61 #[a0] K ⟨w, ds⟩ := cl_st bodies_ok Tryz.func61 23 [.tmp 2] h

/-- (*rollcall/pair.Rel[int, string]).Add -/
def D62 (a0 a1 a2 : Value) (K : Value → World → Prop) (s : St) : Prop :=
  Bo P .eql 107 false true a0 (.pointer none) (fun v1 s => CondP v1 (Ret P (fun w => K (.int .i64 1) w) s) (Cl P 129 #[a0, a1, a2] (fun v2 s => CondP v2 (Ret P (fun w => K (.int .i64 6) w) s) (Dw (fun s => Qt (Nc P a0) s fun v3 => Qt (Fa P 193 v3 0) s fun v4 => Qt (Ld P 3 v4) s fun v5 => Cl P 112 #[a0, a1] (fun v6 s => Ck (Nc P a0) v3 s ∧ Ck (Fa P 193 v3 0) v4 s ∧ Ck (Ld P 3 v4) v5 s ∧ (Qt (Bo P .geq 3 false false v6 v5) s fun v7 => CondP v7 (Ret P (fun w => K (.int .i64 7) w) s) (Nc P a0 (fun v8 s => Fa P 193 v8 2 (fun v9 s => Ld P 190 v9 (fun v10 s => Cl P 130 #[v10, a1, a2] (fun _ s => Nc P a0 (fun v12 s => Fa P 193 v12 3 (fun v13 s => Ld P 191 v13 (fun v14 s => Cl P 131 #[v14, a2, a1] (fun _ s => Nc P a0 (fun v16 s => Fa P 193 v16 1 (fun v17 s => Ld P 3 v17 (fun v18 s => Bo P .add 3 false true v18 (.int .i64 1) (fun v19 s => Nc P a0 (fun v20 s => Fa P 193 v20 1 (fun v21 s => Sv P 3 v21 v19 (fun _ s => Ret P (fun w => K (.int .i64 0) w) s) s) s) s) s) s) s) s) s) s) s) s) s) s) s) s))) s) s)) s)) s
theorem s62 {a0 a1 a2 : Value} (h : D62 a0 a1 a2 (fun v w' => K v ⟨w', ds⟩) ⟨w, []⟩) : Cl P 62 #[a0, a1, a2] K ⟨w, ds⟩ := cl_st bodies_ok Tryz.func62 45 [.tmp 6] h

/-- (*rollcall/book.Book[int]).Get -/
def D63 (a0 a1 : Value) (K : Value → World → Prop) (s : St) : Prop :=
  Cl P 121 #[a0, a1] (fun v1 s => Ex P v1 0 (fun v2 s => Ex P v1 1 (fun v3 s => Uo P .not v3 (fun v4 s => CondP v4 (Ret P (fun w => K (.tuple #[.int .i64 0, .bool false]) w) s) (Nc P a0 (fun v5 s => Fa P 166 v5 1 (fun v6 s => Ld P 164 v6 (fun v7 s => Ia P 164 v7 v2 (fun v8 s => Fa P 185 v8 1 (fun v9 s => Ld P 3 v9 (fun v10 s => Ret P (fun w => K (.tuple #[v10, .bool true]) w) s) s) s) s) s) s) s)) s) s) s) s
theorem s63 {a0 a1 : Value} (h : D63 a0 a1 (fun v w' => K v ⟨w', ds⟩) ⟨w, []⟩) : Cl P 63 #[a0, a1] K ⟨w, ds⟩ := cl_st bodies_ok Tryz.func63 26 [.tmp 4, .tmp 5] h

/-- (*rollcall/core.Core).at -/
def D64 (a0 a1 : Value) (K : Value → World → Prop) (s : St) : Prop :=
  Bo P .eql 24 false true a0 (.pointer none) (fun v1 s => CondP v1 (Ret P (fun w => K (.pointer none) w) s) (Nc P a0 (fun v2 s => Fa P 90 v2 2 (fun v3 s => Ld P 84 v3 (fun v4 s => Lk P 84 v4 a1 false (fun v5 s => Ret P (fun w => K v5 w) s) s) s) s) s)) s
theorem s64 {a0 a1 : Value} (h : D64 a0 a1 (fun v w' => K v ⟨w', ds⟩) ⟨w, []⟩) : Cl P 64 #[a0, a1] K ⟨w, ds⟩ := cl_st bodies_ok Tryz.func64 13 [.tmp 4] h

/-- (*rollcall/core.Core).done -/
def D65 (a0 a1 : Value) (K : Value → World → Prop) (s : St) : Prop :=
  Cl P 64 #[a0, a1] (fun v1 s => Bo P .neq 95 false true v1 (.pointer none) (fun v2 s => J1 (fun A3 => Grd v2 true (Nc P v1 (fun v5 s => Fa P 99 v5 4 (fun v6 s => Ld P 4 v6 (fun v7 s => A3 v7 s) s) s) s) (A3 undef s)) (fun x4 s => Pk P v2 x4 (.bool false) (fun v8 s => J1 (fun A9 => Grd v8 true (Nc P v1 (fun v11 s => Fa P 99 v11 2 (fun v12 s => Ld P 92 v12 (fun v13 s => Cl P 132 #[v13] (fun v14 s => Bo P .eql 3 false true v14 (.int .i64 0) (fun v15 s => A9 v15 s) s) s) s) s) s) (A9 undef s)) (fun x10 s => Pk P v8 x10 (.bool false) (fun v16 s => CondP v16 (Nc P a0 (fun v17 s => Fa P 90 v17 2 (fun v18 s => Ld P 84 v18 (fun v19 s => Bi P .delete #[84, 3] 0 #[false, false] #[v19, a1] (fun _ s => Ret P (fun w => K (.tuple #[]) w) s) s) s) s) s) (Ret P (fun w => K (.tuple #[]) w) s)) s)) s)) s) s
theorem s65 {a0 a1 : Value} (h : D65 a0 a1 (fun v w' => K v ⟨w', ds⟩) ⟨w, []⟩) : Cl P 65 #[a0, a1] K ⟨w, ds⟩ := cl_st bodies_ok Tryz.func65 29 [] h

/-- (*rollcall/sendq.Queue).Drain -/
def D66 (a0 a1 : Value) (K : Value → World → Prop) (s : St) : Prop :=
  Bo P .eql 92 false true a0 (.pointer none) (fun v1 s => CondP v1 (Ret P (fun w => K (.slice none 0 0) w) s) (Nc P a0 (fun v2 s => Fa P 180 v2 1 (fun v3 s => Ld P 22 v3 (fun v4 s => Bi P .len #[22] 3 #[false] #[v4] (fun v5 s => Bi P .min #[3, 3] 3 #[false, false] #[a1, v5] (fun v6 s => Bi P .max #[3, 3] 3 #[true, false] #[.int .i64 0, v6] (fun v7 s => Ms P 22 v7 v7 (fun v8 s => Nc P a0 (fun v9 s => Fa P 180 v9 1 (fun v10 s => Ld P 22 v10 (fun v11 s => Bi P .copy #[22, 22] 3 #[false, false] #[v8, v11] (fun _ s => Dw (fun s => Qt (Nc P a0) s fun v13 => Qt (Fa P 180 v13 1) s fun v14 => Qt (Ld P 22 v14) s fun v15 => Qt (Nc P a0) s fun v16 => Qt (Fa P 180 v16 2) s fun v17 => Qt (Ld P 3 v17) s fun v18 => Cl P 133 #[v15, v18, v7] (fun v19 s => Qt (Nc P a0) s fun v20 => Qt (Fa P 180 v20 2) s fun v21 => Sv P 3 v21 v19 (fun _ s => Nc P a0 (fun v22 s => Fa P 180 v22 1 (fun v23 s => Ld P 22 v23 (fun v24 s => Sl P 22 v24 (some v7) none none (fun v25 s => Bi P .append #[22, 22] 22 #[true, false] #[.slice none 0 0, v25] (fun v26 s => Nc P a0 (fun v27 s => Fa P 180 v27 1 (fun v28 s => Sv P 22 v28 v26 (fun _ s => Nc P a0 (fun v29 s => Fa P 180 v29 3 (fun v30 s => Ld P 3 v30 (fun v31 s => Bo P .add 3 false false v31 v7 (fun v32 s => Nc P a0 (fun v33 s => Fa P 180 v33 3 (fun v34 s => Sv P 3 v34 v32 (fun _ s => Ret P (fun w => K v8 w) s) s) s) s) s) s) s) s) s) s) s) s) s) s) s) s) s) s) s) s) s) s) s) s) s) s) s) s) s) s)) s
theorem s66 {a0 a1 : Value} (h : D66 a0 a1 (fun v w' => K v ⟨w', ds⟩) ⟨w, []⟩) : Cl P 66 #[a0, a1] K ⟨w, ds⟩ := cl_st bodies_ok Tryz.func66 56 [.tmp 4] h

/-- (*rollcall/core.Core).Sign -/
def D72 (a0 a1 : Value) (K : Value → World → Prop) (s : St) : Prop :=
  Al P 34 (fun v1 s => Cl P 52 #[a0, a1] (fun v2 s => Bo P .neq 95 false true v2 (.pointer none) (fun v3 s => CondP v3 (Nc P v2 (fun v4 s => Fa P 99 v4 1 (fun v5 s => Ld P 34 v5 (fun v6 s => Sv P 34 v1 v6 (fun _ s => Ret P (fun w => LdR P 34 v1 w fun v7 => K v7 w) s) s) s) s) s) (Bd P 34 #[] (fun v8 s => Sv P 34 v1 v8 (fun _ s => Ret P (fun w => LdR P 34 v1 w fun v9 => K v9 w) s) s) s)) s) s) s
theorem s72 {a0 a1 : Value} (h : D72 a0 a1 (fun v w' => K v ⟨w', ds⟩) ⟨w, []⟩) : Cl P 72 #[a0, a1] K ⟨w, ds⟩ := cl_st bodies_ok Tryz.func72 16 [.cell 4 34] h

/-- rollcall/rollcallref01.Same -/
def D100 (a0 a1 : Value) (K : Value → World → Prop) (s : St) : Prop :=
  Cl P 168 #[a0] (fun v1 s => Cl P 168 #[a1] (fun v2 s => Bo P .eql 9 false false v1 v2 (fun v3 s => Ret P (fun w => K v3 w) s) s) s) s
theorem s100 {a0 a1 : Value} (h : D100 a0 a1 (fun v w' => K v ⟨w', ds⟩) ⟨w, []⟩) : Cl P 100 #[a0, a1] K ⟨w, ds⟩ := cl_st bodies_ok Tryz.func100 10 [.tmp 4] h

/-- (*rollcall/sendq.Queue).Over -/
def D101 (a0 : Value) (K : Value → World → Prop) (s : St) : Prop :=
  Bo P .neq 92 false true a0 (.pointer none) (fun v1 s => J1 (fun A2 => Grd v1 true (Nc P a0 (fun v4 s => Fa P 180 v4 4 (fun v5 s => Ld P 4 v5 (fun v6 s => A2 v6 s) s) s) s) (A2 undef s)) (fun x3 s => Pk P v1 x3 (.bool false) (fun v7 s => Ret P (fun w => K v7 w) s) s)) s
theorem s101 {a0 : Value} (h : D101 a0 (fun v w' => K v ⟨w', ds⟩) ⟨w, []⟩) : Cl P 101 #[a0] K ⟨w, ds⟩ := cl_st bodies_ok Tryz.func101 11 [.tmp 2] h

/-- slices.DeleteFunc[[]int,int] -/
def D103 (a0 a1 : Value) (K : Value → World → Prop) (s : St) : Prop :=
  Cl P 169 #[a0, a1] (fun v1 s => Bo P .eql 3 false true v1 (.int .i64 (-1)) (fun v2 s => CondP v2 (Ret P (fun w => K a0 w) s) (Bo P .add 3 false true v1 (.int .i64 1) (fun v3 s => L2 v1 v3 s (fun N4 x5 x6 s => Bi P .len #[64] 3 #[false] #[a0] (fun v7 s => Bo P .lss 3 false false x6 v7 (fun v8 s => CondP v8 (J1 (fun A9 => Ia P 64 a0 x6 (fun v11 s => Ld P 3 v11 (fun v12 s => Dy P a1 #[v12] (fun v13 s => Uo P .not v13 (fun v14 s => CondP v14 (Ia P 64 a0 x5 (fun v15 s => Sv P 3 v15 v12 (fun _ s => Bo P .add 3 false true x5 (.int .i64 1) (fun v16 s => A9 v16 s) s) s) s) (A9 x5 s)) s) s) s) s) (fun x10 s => Bo P .add 3 false true x6 (.int .i64 1) (fun v17 s => N4 x10 v17 s) s)) (Sl P 64 a0 (some x5) none none (fun v18 s => Bi P .clear #[64] 0 #[false] #[v18] (fun _ s => Sl P 64 a0 none (some x5) none (fun v19 s => Ret P (fun w => K v19 w) s) s) s) s)) s) s)) s)) s) s
theorem s103 {a0 a1 : Value} (h : D103 a0 a1 (fun v w' => K v ⟨w', ds⟩) ⟨w, []⟩) : Cl P 103 #[a0, a1] K ⟨w, ds⟩ := cl_st bodies_ok Tryz.func103 42 [.tmp 4] h

/-- (*rollcall/pulse.Pulse).Leave -/
def D105 (a0 a1 : Value) (K : Value → World → Prop) (s : St) : Prop :=
  Bo P .eql 87 false true a0 (.pointer none) (fun v1 s => CondP v1 (Ret P (fun w => K (.tuple #[]) w) s) (Nc P a0 (fun v2 s => Fa P 175 v2 3 (fun v3 s => Ld P 171 v3 (fun v4 s => Bi P .delete #[171, 3] 0 #[false, false] #[v4, a1] (fun _ s => Nc P a0 (fun v5 s => Fa P 175 v5 4 (fun v6 s => Ld P 172 v6 (fun v7 s => Cl P 127 #[v7, a1] (fun _ s => Nc P a0 (fun v9 s => Fa P 175 v9 5 (fun v10 s => Ld P 172 v10 (fun v11 s => Cl P 127 #[v11, a1] (fun _ s => Nc P a0 (fun v13 s => Fa P 175 v13 6 (fun v14 s => Ld P 172 v14 (fun v15 s => Cl P 127 #[v15, a1] (fun _ s => Ret P (fun w => K (.tuple #[]) w) s) s) s) s) s) s) s) s) s) s) s) s) s) s) s) s) s)) s
theorem s105 {a0 a1 : Value} (h : D105 a0 a1 (fun v w' => K v ⟨w', ds⟩) ⟨w, []⟩) : Cl P 105 #[a0, a1] K ⟨w, ds⟩ := cl_st bodies_ok Tryz.func105 29 [] h

/-- rollcall/message.Make -/
def D107 (a0 a1 a2 : Value) (K : Value → World → Prop) (s : St) : Prop :=
  Bi P .len #[9] 3 #[false] #[a0] (fun v1 s => Cl P 177 #[a0, v1] (fun v2 s => Cl P 176 #[v2, .string ⟨#[32]⟩, .string ⟨#[45]⟩] (fun v3 s => Bd P 250 #[(1, v3), (2, a1)] (fun v4 s => Al P 250 (fun v5 s => Sv P 250 v5 v4 (fun _ s => Bi P .len #[134] 3 #[false] #[a2] (fun v6 s => L1 (.int .i64 0) s (fun N7 x8 s => Bo P .lss 3 false false x8 v6 (fun v9 s => CondP v9 (Ia P 134 a2 x8 (fun v10 s => Ld P 9 v10 (fun v11 s => Bi P .len #[9] 3 #[false] #[v11] (fun v12 s => Cl P 177 #[v11, v12] (fun v13 s => J1 (fun A14 => Bi P .len #[134] 3 #[false] #[a2] (fun v16 s => Bo P .sub 3 false true v16 (.int .i64 1) (fun v17 s => Bo P .lss 3 false false x8 v17 (fun v18 s => CondP v18 (Cl P 178 #[v13] (fun v19 s => A14 v19 s) s) (A14 v13 s)) s) s) s) (fun x15 s => Fa P 250 v5 3 (fun v20 s => Ld P 134 v20 (fun v21 s => Bs P 134 1 #[(0, x15)] (fun v22 s => Bi P .append #[134, 134] 134 #[false, false] #[v21, v22] (fun v23 s => Fa P 250 v5 3 (fun v24 s => Sv P 134 v24 v23 (fun _ s => Bo P .add 3 false true x8 (.int .i64 1) (fun v25 s => N7 v25 s) s) s) s) s) s) s) s)) s) s) s) s) (Cl P 179 #[a1] (fun v26 s => Uo P .not v26 (fun v27 s => J1 (fun A28 => Grd v27 false (Cl P 180 #[a1] (fun v30 s => Bo P .neq 9 false false v30 a1 (fun v31 s => A28 v31 s) s) s) (A28 undef s)) (fun x29 s => Pk P v27 (.bool true) x29 (fun v32 s => J1 (fun A33 => Grd v32 false (Bi P .len #[134] 3 #[false] #[a2] (fun v35 s => Bo P .gtr 3 false true v35 (.int .i64 15) (fun v36 s => A33 v36 s) s) s) (A33 undef s)) (fun x34 s => Pk P v32 (.bool true) x34 (fun v37 s => CondP v37 (Ret P (fun w => K (.string ⟨#[]⟩) w) s) (Ld P 250 v5 (fun v38 s => Cl P 181 #[v38] (fun v39 s => Bi P .len #[9] 3 #[false] #[v39] (fun v40 s => Bi P .min #[3, 3] 3 #[false, true] #[v40, .int .i64 510] (fun v41 s => Sl P 9 v39 none (some v41) none (fun v42 s => Ret P (fun w => K v42 w) s) s) s) s) s) s)) s)) s)) s) s)) s)) s) s) s) s) s) s) s
theorem s107 {a0 a1 a2 : Value} (h : D107 a0 a1 a2 (fun v w' => K v ⟨w', ds⟩) ⟨w, []⟩) : Cl P 107 #[a0, a1, a2] K ⟨w, ds⟩ := cl_st bodies_ok Tryz.func107 64 [.tmp 6] h

/-- rollcall/person.Who -/
def D108 (a0 : Value) (K : Value → World → Prop) (s : St) : Prop :=
  Bx P 58 a0 (fun v1 s => Fa P 58 v1 1 (fun v2 s => Ld P 9 v2 (fun v3 s => Fa P 58 v1 2 (fun v4 s => Ld P 9 v4 (fun v5 s => Fa P 58 v1 3 (fun v6 s => Ld P 9 v6 (fun v7 s => Cl P 182 #[v3, v5, v7] (fun v8 s => Ret P (fun w => K v8 w) s) s) s) s) s) s) s) s) s
theorem s108 {a0 : Value} (h : D108 a0 (fun v w' => K v ⟨w', ds⟩) ⟨w, []⟩) : Cl P 108 #[a0] K ⟨w, ds⟩ := cl_st bodies_ok Tryz.func108 10 [.tmp 2] h

/-- (*rollcall/pair.Rel[int, string]).Count -/
def D112 (a0 a1 : Value) (K : Value → World → Prop) (s : St) : Prop :=
  Bo P .eql 107 false true a0 (.pointer none) (fun v1 s => CondP v1 (Ret P (fun w => K (.int .i64 0) w) s) (Nc P a0 (fun v2 s => Fa P 193 v2 2 (fun v3 s => Ld P 190 v3 (fun v4 s => Lk P 190 v4 a1 false (fun v5 s => Cl P 187 #[v5] (fun v6 s => Ret P (fun w => K v6 w) s) s) s) s) s) s)) s
theorem s112 {a0 a1 : Value} (h : D112 a0 a1 (fun v w' => K v ⟨w', ds⟩) ⟨w, []⟩) : Cl P 112 #[a0, a1] K ⟨w, ds⟩ := cl_st bodies_ok Tryz.func112 14 [.tmp 4] h

/-- (*rollcall/sendq.Queue).Push -/
def D113 (a0 a1 : Value) (K : Value → World → Prop) (s : St) : Prop :=
  Bo P .eql 92 false true a0 (.pointer none) (fun v1 s => J1 (fun A2 => Grd v1 false (Nc P a0 (fun v4 s => Fa P 180 v4 4 (fun v5 s => Ld P 4 v5 (fun v6 s => A2 v6 s) s) s) s) (A2 undef s)) (fun x3 s => Pk P v1 (.bool true) x3 (fun v7 s => J1 (fun A8 => Grd v7 false (Bi P .len #[9] 3 #[false] #[a1] (fun v10 s => Bo P .gtr 3 false true v10 (.int .i64 510) (fun v11 s => A8 v11 s) s) s) (A8 undef s)) (fun x9 s => Pk P v7 (.bool true) x9 (fun v12 s => J1 (fun A13 => Grd v12 false (Cl P 188 #[a1] (fun v15 s => Uo P .not v15 (fun v16 s => A13 v16 s) s) s) (A13 undef s)) (fun x14 s => Pk P v12 (.bool true) x14 (fun v17 s => CondP v17 (Ret P (fun w => K (.bool false) w) s) (Dw (fun s => Qt (Nc P a0) s fun v18 => Qt (Fa P 180 v18 1) s fun v19 => Qt (Ld P 22 v19) s fun v20 => Qt (Bi P .len #[22] 3 #[false] #[v20]) s fun v21 => Qt (Bi P .len #[9] 3 #[false] #[a1]) s fun v22 => Qt (Bo P .add 3 false false v21 v22) s fun v23 => Qt (Bo P .add 3 false true v23 (.int .i64 2)) s fun v24 => Qt (Nc P a0) s fun v25 => Qt (Fa P 180 v25 0) s fun v26 => Qt (Ld P 3 v26) s fun v27 => Qt (Bo P .gtr 3 false false v24 v27) s fun v28 => CondP v28 (Nc P a0 (fun v29 s => Fa P 180 v29 4 (fun v30 s => Sv P 4 v30 (.bool true) (fun _ s => Ret P (fun w => K (.bool false) w) s) s) s) s) (Nc P a0 (fun v31 s => Fa P 180 v31 1 (fun v32 s => Ld P 22 v32 (fun v33 s => Bi P .append #[22, 9] 22 #[false, false] #[v33, a1] (fun v34 s => Nc P a0 (fun v35 s => Fa P 180 v35 1 (fun v36 s => Sv P 22 v36 v34 (fun _ s => Nc P a0 (fun v37 s => Fa P 180 v37 1 (fun v38 s => Ld P 22 v38 (fun v39 s => Bi P .append #[22, 9] 22 #[false, true] #[v39, .string ⟨#[13, 10]⟩] (fun v40 s => Nc P a0 (fun v41 s => Fa P 180 v41 1 (fun v42 s => Sv P 22 v42 v40 (fun _ s => Ret P (fun w => K (.bool true) w) s) s) s) s) s) s) s) s) s) s) s) s) s) s) s)) s)) s)) s)) s)) s
theorem s113 {a0 a1 : Value} (h : D113 a0 a1 (fun v w' => K v ⟨w', ds⟩) ⟨w, []⟩) : Cl P 113 #[a0, a1] K ⟨w, ds⟩ := cl_st bodies_ok Tryz.func113 57 [.tmp 4] h

/-- rollcall/valid.Server -/
def D114 (a0 : Value) (K : Value → World → Prop) (s : St) : Prop :=
  Cl P 48 #[a0] (fun v1 s => J1 (fun A2 => Grd v1 true (Ix P 9 a0 (.int .i64 0) (fun v4 s => Cv P 5 3 v4 (fun v5 s => Cl P 189 #[v5] (fun v6 s => A2 v6 s) s) s) s) (A2 undef s)) (fun x3 s => Pk P v1 x3 (.bool false) (fun v7 s => J1 (fun A8 => Grd v7 true (Cl P 190 #[a0, .int .i64 46] (fun v10 s => A8 v10 s) s) (A8 undef s)) (fun x9 s => Pk P v7 x9 (.bool false) (fun v11 s => J1 (fun A12 => Grd v11 true (Cl P 190 #[a0, .int .i64 58] (fun v14 s => Uo P .not v14 (fun v15 s => A12 v15 s) s) s) (A12 undef s)) (fun x13 s => Pk P v11 x13 (.bool false) (fun v16 s => Ret P (fun w => K v16 w) s) s)) s)) s)) s
theorem s114 {a0 : Value} (h : D114 a0 (fun v w' => K v ⟨w', ds⟩) ⟨w, []⟩) : Cl P 114 #[a0] K ⟨w, ds⟩ := cl_st bodies_ok Tryz.func114 20 [.tmp 2] h

/-- rollcall/config.secret -/
def D115 (a0 : Value) (K : Value → World → Prop) (s : St) : Prop :=
  Bi P .len #[9] 3 #[false] #[a0] (fun v1 s => Bo P .gtr 3 false true v1 (.int .i64 50) (fun v2 s => J1 (fun A3 => Grd v2 false (Bo P .neq 9 false true a0 (.string ⟨#[]⟩) (fun v5 s => A3 v5 s) s) (A3 undef s)) (fun x4 s => J1 (fun A6 => Grd x4 true (Ix P 9 a0 (.int .i64 0) (fun v8 s => Bo P .eql 5 false true v8 (byteV 58) (fun v9 s => A6 v9 s) s) s) (A6 undef s)) (fun x7 s => J1 (fun A10 => Grd v2 false (Pk P x4 x7 (.bool false) (fun v12 s => A10 v12 s) s) (A10 undef s)) (fun x11 s => Pk P v2 (.bool true) x11 (fun v13 s => CondP v13 (Ret P (fun w => K (.bool false) w) s) (Bi P .len #[9] 3 #[false] #[a0] (fun v14 s => L1 (.int .i64 0) s (fun N15 x16 s => Bo P .lss 3 false false x16 v14 (fun v17 s => CondP v17 (Ix P 9 a0 x16 (fun v18 s => Bo P .lss 5 false true v18 (byteV 33) (fun v19 s => J1 (fun A20 => Grd v19 false (Ix P 9 a0 x16 (fun v22 s => Bo P .gtr 5 false true v22 (byteV 126) (fun v23 s => A20 v23 s) s) s) (A20 undef s)) (fun x21 s => Pk P v19 (.bool true) x21 (fun v24 s => CondP v24 (Ret P (fun w => K (.bool false) w) s) (Bo P .add 3 false true x16 (.int .i64 1) (fun v25 s => N15 v25 s) s)) s)) s) s) (Ret P (fun w => K (.bool true) w) s)) s)) s)) s)))) s) s
theorem s115 {a0 : Value} (h : D115 a0 (fun v w' => K v ⟨w', ds⟩) ⟨w, []⟩) : Cl P 115 #[a0] K ⟨w, ds⟩ := cl_st bodies_ok Tryz.func115 32 [.tmp 2] h

/-- rollcall/book.New[*rollcall/room.Room] -/
def D116 (a0 : Value) (K : Value → World → Prop) (s : St) : Prop :=
  Bo P .lss 3 false true a0 (.int .i64 0) (fun v1 s => J1 (fun A2 => Grd v1 false (Bo P .gtr 3 false true a0 (.int .i64 100000) (fun v4 s => A2 v4 s) s) (A2 undef s)) (fun x3 s => Pk P v1 (.bool true) x3 (fun v5 s => CondP v5 (Ret P (fun w => K (.tuple #[.pointer none, .int .i64 2]) w) s) (Bd P 230 #[(0, a0)] (fun v6 s => Bx P 230 v6 (fun v7 s => Ret P (fun w => K (.tuple #[v7, .int .i64 0]) w) s) s) s)) s)) s
theorem s116 {a0 : Value} (h : D116 a0 (fun v w' => K v ⟨w', ds⟩) ⟨w, []⟩) : Cl P 116 #[a0] K ⟨w, ds⟩ := cl_st bodies_ok Tryz.func116 13 [.tmp 2, .tmp 3] h

/-- rollcall/pair.New[int,string] -/
def D117 (a0 : Value) (K : Value → World → Prop) (s : St) : Prop :=
  Bo P .lss 3 false true a0 (.int .i64 0) (fun v1 s => J1 (fun A2 => Grd v1 false (Bo P .gtr 3 false true a0 (.int .i64 100000) (fun v4 s => A2 v4 s) s) (A2 undef s)) (fun x3 s => Pk P v1 (.bool true) x3 (fun v5 s => CondP v5 (Ret P (fun w => K (.tuple #[.pointer none, .int .i64 2]) w) s) (Mm P 190 none (fun v6 s => Mm P 191 none (fun v7 s => Bd P 193 #[(0, a0), (2, v6), (3, v7)] (fun v8 s => Bx P 193 v8 (fun v9 s => Ret P (fun w => K (.tuple #[v9, .int .i64 0]) w) s) s) s) s) s)) s)) s
theorem s117 {a0 : Value} (h : D117 a0 (fun v w' => K v ⟨w', ds⟩) ⟨w, []⟩) : Cl P 117 #[a0] K ⟨w, ds⟩ := cl_st bodies_ok Tryz.func117 15 [.tmp 2, .tmp 3] h

/-- rollcall/timer.New[int] -/
def D118 (K : Value → World → Prop) (s : St) : Prop :=
  Mm P 171 none (fun v1 s => Bd P 261 #[(1, v1)] (fun v2 s => Bx P 261 v2 (fun v3 s => Ret P (fun w => K v3 w) s) s) s) s
theorem s118 (h : D118 (fun v w' => K v ⟨w', ds⟩) ⟨w, []⟩) : Cl P 118 #[] K ⟨w, ds⟩ := cl_st bodies_ok Tryz.func118 4 [.tmp 0] h

/-- rollcall/valid.all -/
def D119 (a0 a1 a2 a3 : Value) (K : Value → World → Prop) (s : St) : Prop :=
  Bi P .len #[9] 3 #[false] #[a0] (fun v1 s => Bo P .lss 3 false false v1 a1 (fun v2 s => J1 (fun A3 => Grd v2 false (Bi P .len #[9] 3 #[false] #[a0] (fun v5 s => Bo P .gtr 3 false false v5 a2 (fun v6 s => A3 v6 s) s) s) (A3 undef s)) (fun x4 s => Pk P v2 (.bool true) x4 (fun v7 s => CondP v7 (Ret P (fun w => K (.bool false) w) s) (Cl P 191 #[] (fun v8 s => Al P 262 (fun v9 s => Sv P 262 v9 v8 (fun _ s => Bi P .len #[9] 3 #[false] #[a0] (fun v10 s => L1 (.int .i64 0) s (fun N11 x12 s => Bo P .lss 3 false false x12 v10 (fun v13 s => CondP v13 (Ix P 9 a0 x12 (fun v14 s => Ia P 262 v9 v14 (fun v15 s => Ld P 178 v15 (fun v16 s => Bo P .and 178 false false v16 a3 (fun v17 s => Bo P .eql 178 false true v17 (.int .u16 0) (fun v18 s => CondP v18 (Ret P (fun w => K (.bool false) w) s) (Bo P .add 3 false true x12 (.int .i64 1) (fun v19 s => N11 v19 s) s)) s) s) s) s) s) (Ret P (fun w => K (.bool true) w) s)) s)) s) s) s) s)) s)) s) s
theorem s119 {a0 a1 a2 a3 : Value} (h : D119 a0 a1 a2 a3 (fun v w' => K v ⟨w', ds⟩) ⟨w, []⟩) : Cl P 119 #[a0, a1, a2, a3] K ⟨w, ds⟩ := cl_st bodies_ok Tryz.func119 36 [.tmp 8] h

/-- (*rollcall/timer.Table[int]).Set -/
def D120 (a0 a1 a2 : Value) (K : Value → World → Prop) (s : St) : Prop :=
  Bo P .eql 172 false true a0 (.pointer none) (fun v1 s => CondP v1 (Ret P (fun w => K (.tuple #[]) w) s) (Cl P 127 #[a0, a1] (fun _ s => Nc P a0 (fun v3 s => Fa P 261 v3 0 (fun v4 s => Ld P 259 v4 (fun v5 s => Bd P 266 #[(0, a1), (1, a2)] (fun v6 s => Cl P 192 #[v5, v6, .func (.func 193) #[] #[]] (fun v7 s => Ex P v7 0 (fun v8 s => Ex P v7 1 (fun _ s => Nc P a0 (fun v10 s => Fa P 261 v10 0 (fun v11 s => Ld P 259 v11 (fun v12 s => Bd P 266 #[(0, a1), (1, a2)] (fun v13 s => Bs P 259 1 #[(0, v13)] (fun v14 s => Cl P 194 #[v12, v8, v14] (fun v15 s => Nc P a0 (fun v16 s => Fa P 261 v16 0 (fun v17 s => Sv P 259 v17 v15 (fun _ s => Nc P a0 (fun v18 s => Fa P 261 v18 1 (fun v19 s => Ld P 171 v19 (fun v20 s => Mu P 171 v20 a1 a2 (fun _ s => Ret P (fun w => K (.tuple #[]) w) s) s) s) s) s) s) s) s) s) s) s) s) s) s) s) s) s) s) s) s) s) s)) s
theorem s120 {a0 a1 a2 : Value} (h : D120 a0 a1 a2 (fun v w' => K v ⟨w', ds⟩) ⟨w, []⟩) : Cl P 120 #[a0, a1, a2] K ⟨w, ds⟩ := cl_st bodies_ok Tryz.func120 43 [] h

/-- (*rollcall/book.Book[int]).at -/
def D121 (a0 a1 : Value) (K : Value → World → Prop) (s : St) : Prop :=
  Bo P .eql 79 false true a0 (.pointer none) (fun v1 s => CondP v1 (Ret P (fun w => K (.tuple #[.int .i64 0, .bool false]) w) s) (Nc P a0 (fun v2 s => Fa P 166 v2 1 (fun v3 s => Ld P 164 v3 (fun v4 s => Cl P 195 #[v4, a1, .func (.func 196) #[] #[]] (fun v5 s => Ex P v5 0 (fun v6 s => Ex P v5 1 (fun v7 s => Ret P (fun w => K (.tuple #[v6, v7]) w) s) s) s) s) s) s) s)) s
theorem s121 {a0 a1 : Value} (h : D121 a0 a1 (fun v w' => K v ⟨w', ds⟩) ⟨w, []⟩) : Cl P 121 #[a0, a1] K ⟨w, ds⟩ := cl_st bodies_ok Tryz.func121 16 [.tmp 4, .tmp 5] h

/-- slices.Delete[[]rollcall/book.entry[int],rollcall/book.entry[int]] -/
def D122 (a0 a1 a2 : Value) (K : Value → World → Prop) (s : St) : Prop :=
  Bi P .len #[164] 3 #[false] #[a0] (fun v1 s => Sl P 164 a0 (some a1) (some a2) (some v1) (fun _ s => Bo P .eql 3 false false a1 a2 (fun v3 s => CondP v3 (Ret P (fun w => K a0 w) s) (Bi P .len #[164] 3 #[false] #[a0] (fun v4 s => Dw (fun s => Qt (Sl P 164 a0 none (some a1) none) s fun v5 => Qt (Sl P 164 a0 (some a2) none none) s fun v6 => Bi P .append #[164, 164] 164 #[false, false] #[v5, v6] (fun v7 s => Bi P .len #[164] 3 #[false] #[v7] (fun v8 s => Sl P 164 v7 (some v8) (some v4) none (fun v9 s => Bi P .clear #[164] 0 #[false] #[v9] (fun _ s => Ret P (fun w => K v7 w) s) s) s) s) s) s) s)) s) s) s
theorem s122 {a0 a1 a2 : Value} (h : D122 a0 a1 a2 (fun v w' => K v ⟨w', ds⟩) ⟨w, []⟩) : Cl P 122 #[a0, a1, a2] K ⟨w, ds⟩ := cl_st bodies_ok Tryz.func122 33 [.tmp 6] h

/-- slices.Insert[[]rollcall/book.entry[int],rollcall/book.entry[int]] -/
def D123 (a0 a1 a2 : Value) (K : Value → World → Prop) (s : St) : Prop :=
  Sl P 164 a0 (some a1) none none (fun _ s => Bi P .len #[164] 3 #[false] #[a2] (fun v2 s => Bo P .eql 3 false true v2 (.int .i64 0) (fun v3 s => CondP v3 (Ret P (fun w => K a0 w) s) (Bi P .len #[164] 3 #[false] #[a0] (fun v4 s => Bo P .eql 3 false false a1 v4 (fun v5 s => CondP v5 (Bi P .append #[164, 164] 164 #[false, false] #[a0, a2] (fun v6 s => Ret P (fun w => K v6 w) s) s) (Bo P .add 3 false false v4 v2 (fun v7 s => Bi P .cap #[164] 3 #[false] #[a0] (fun v8 s => Bo P .gtr 3 false false v7 v8 (fun v9 s => CondP v9 (Sl P 164 a0 none (some a1) none (fun v10 s => Bo P .add 3 false false v4 v2 (fun v11 s => Bo P .sub 3 false false v11 a1 (fun v12 s => Bi P .append #[164, 3] 164 #[false, false] #[v10, v12] (fun v13 s => Sl P 164 v13 (some a1) none none (fun v14 s => Bi P .copy #[164, 164] 3 #[false, false] #[v14, a2] (fun _ s => Dw (fun s => Qt (Bo P .add 3 false false a1 v2) s fun v16 => Qt (Sl P 164 v13 (some v16) none none) s fun v17 => Qt (Sl P 164 a0 (some a1) none none) s fun v18 => Bi P .copy #[164, 164] 3 #[false, false] #[v17, v18] (fun _ s => Ret P (fun w => K v13 w) s) s) s) s) s) s) s) s) s) (Bo P .add 3 false false v4 v2 (fun v20 s => Sl P 164 a0 none (some v20) none (fun v21 s => Bo P .add 3 false false a1 v2 (fun v22 s => Sl P 164 v21 (some v22) none none (fun v23 s => Dy P (.func (.func 197) #[] #[]) #[a2, v23] (fun v24 s => Uo P .not v24 (fun v25 s => CondP v25 (Dw (fun s => Qt (Bo P .add 3 false false a1 v2) s fun v26 => Qt (Sl P 164 v21 (some v26) none none) s fun v27 => Qt (Sl P 164 v21 (some a1) none none) s fun v28 => Bi P .copy #[164, 164] 3 #[false, false] #[v27, v28] (fun _ s => Sl P 164 v21 (some a1) none none (fun v30 s => Bi P .copy #[164, 164] 3 #[false, false] #[v30, a2] (fun _ s => Ret P (fun w => K v21 w) s) s) s) s) s) (Sl P 164 v21 (some v4) none none (fun v32 s => Bi P .copy #[164, 164] 3 #[false, false] #[v32, a2] (fun _ s => Sl P 164 v21 (some a1) none none (fun v34 s => Cl P 198 #[v34, v2] (fun _ s => Ret P (fun w => K v21 w) s) s) s) s) s)) s) s) s) s) s) s)) s) s) s)) s) s)) s) s) s
theorem s123 {a0 a1 a2 : Value} (h : D123 a0 a1 a2 (fun v w' => K v ⟨w', ds⟩) ⟨w, []⟩) : Cl P 123 #[a0, a1, a2] K ⟨w, ds⟩ := cl_st bodies_ok Tryz.func123 95 [.tmp 6] h

/-- rollcall/fold.Compare -/
def D124 (a0 a1 : Value) (K : Value → World → Prop) (s : St) : Prop :=
  Bi P .len #[9] 3 #[false] #[a0] (fun v1 s => Bi P .len #[9] 3 #[false] #[a1] (fun v2 s => Bi P .min #[3, 3] 3 #[false, false] #[v1, v2] (fun v3 s => L1 (.int .i64 0) s (fun N4 x5 s => Bo P .lss 3 false false x5 v3 (fun v6 s => CondP v6 (Dw (fun s => Qt (Ix P 9 a0 x5) s fun v7 => Qt (Ix P 9 a1 x5) s fun v8 => Cl P 128 #[v7] (fun v9 s => Ck (Ix P 9 a1 x5) v8 s ∧ (Cl P 128 #[v8] (fun v10 s => Bo P .lss 5 false false v9 v10 (fun v11 s => CondP v11 (Ret P (fun w => K (.int .i64 (-1)) w) s) (Bo P .gtr 5 false false v9 v10 (fun v12 s => CondP v12 (Ret P (fun w => K (.int .i64 1) w) s) (Bo P .add 3 false true x5 (.int .i64 1) (fun v13 s => N4 v13 s) s)) s)) s) s)) s) s) (Bi P .len #[9] 3 #[false] #[a0] (fun v14 s => Bi P .len #[9] 3 #[false] #[a1] (fun v15 s => Bo P .lss 3 false false v14 v15 (fun v16 s => CondP v16 (Ret P (fun w => K (.int .i64 (-1)) w) s) (Bi P .len #[9] 3 #[false] #[a0] (fun v17 s => Bi P .len #[9] 3 #[false] #[a1] (fun v18 s => Bo P .gtr 3 false false v17 v18 (fun v19 s => CondP v19 (Ret P (fun w => K (.int .i64 1) w) s) (Ret P (fun w => K (.int .i64 0) w) s)) s) s) s)) s) s) s)) s)) s) s) s
theorem s124 {a0 a1 : Value} (h : D124 a0 a1 (fun v w' => K v ⟨w', ds⟩) ⟨w, []⟩) : Cl P 124 #[a0, a1] K ⟨w, ds⟩ := cl_st bodies_ok Tryz.func124 43 [.tmp 4] h

/-- (*rollcall/core.Core).watchers -/
def D125 (a0 a1 a2 a3 a4 : Value) (K : Value → World → Prop) (s : St) : Prop :=
  Bx P 24 a0 (fun v1 s => Bx P 3 a3 (fun v2 s => Bx P 134 a4 (fun v3 s => Cl P 199 #[a1, a2] (fun v4 s => Rf P none 1 v4 (fun l5 as6 R7 s => Bg P l5 (fun s => Dw (fun s => Qt (Ld P 24 v1) s fun v9 => Qt (Ld P 24 v1) s fun v10 => Qt (Nc P v10) s fun v11 => Qt (Fa P 90 v11 0) s fun v12 => Qt (Fa P 29 v12 0) s fun v13 => Qt (Ld P 9 v13) s fun v14 => Qt (Ld P 3 v2) s fun v15 => Qt (Ld P 24 v1) s fun v16 => Qt (Ld P 134 v3) s fun v17 => Cl P 72 #[v16, as6.headD undef] (fun v18 s => Ck (Ld P 24 v1) v9 s ∧ Ck (Ld P 24 v1) v10 s ∧ Ck (Nc P v10) v11 s ∧ Ck (Fa P 90 v11 0) v12 s ∧ Ck (Fa P 29 v12 0) v13 s ∧ Ck (Ld P 9 v13) v14 s ∧ Ck (Ld P 3 v2) v15 s ∧ Ck (Ld P 134 v3) v17 s ∧ (Qt (Vx.Fd P 34 v18 3) s fun v19 => Cl P 200 #[v14, v15, v19, v17] (fun v20 s => Ck (Ld P 24 v1) v9 s ∧ (Bs P 134 1 #[(0, v20)] (fun v21 s => Ck (Ld P 24 v1) v9 s ∧ (Cl P 40 #[v9, as6.headD undef, v21] (fun _ s => Er P l5 none R7 s) s)) s)) s)) s) s) s) (fun s => Ret P (fun w => K (.tuple #[]) w) s) (fun s => Ret P (fun w => K (.tuple #[]) w) s) (fun i8 s => False) s) s) s) s) s
theorem s125 {a0 a1 a2 a3 a4 : Value} (h : D125 a0 a1 a2 a3 a4 (fun v w' => K v ⟨w', ds⟩) ⟨w, []⟩) : Cl P 125 #[a0, a1, a2, a3, a4] K ⟨w, ds⟩ := cl_st bodies_ok Tryz.func125 31 [] h

/-- strconv.Itoa -/
def D126 (a0 : Value) (K : Value → World → Prop) (s : St) : Prop :=
  Cl P 201 #[a0] (fun v1 s => Ret P (fun w => K v1 w) s) s
theorem s126 {a0 : Value} (h : D126 a0 (fun v w' => K v ⟨w', ds⟩) ⟨w, []⟩) : Cl P 126 #[a0] K ⟨w, ds⟩ := cl_st bodies_ok Tryz.func126 5 [.tmp 2] h

/-- (*rollcall/timer.Table[int]).Stop -/
def D127 (a0 a1 : Value) (K : Value → World → Prop) (s : St) : Prop :=
  Cl P 202 #[a0, a1] (fun v1 s => Ex P v1 0 (fun v2 s => Ex P v1 1 (fun v3 s => Uo P .not v3 (fun v4 s => CondP v4 (Ret P (fun w => K (.bool false) w) s) (J0 (fun A5 => Nc P a0 (fun v6 s => Fa P 261 v6 0 (fun v7 s => Ld P 259 v7 (fun v8 s => Bd P 266 #[(0, a1), (1, v2)] (fun v9 s => Cl P 192 #[v8, v9, .func (.func 193) #[] #[]] (fun v10 s => Ex P v10 0 (fun v11 s => Ex P v10 1 (fun v12 s => CondP v12 (Nc P a0 (fun v13 s => Fa P 261 v13 0 (fun v14 s => Ld P 259 v14 (fun v15 s => Bo P .add 3 false true v11 (.int .i64 1) (fun v16 s => Cl P 203 #[v15, v11, v16] (fun v17 s => Nc P a0 (fun v18 s => Fa P 261 v18 0 (fun v19 s => Sv P 259 v19 v17 (fun _ s => A5 s) s) s) s) s) s) s) s) s) (A5 s)) s) s) s) s) s) s) s) (fun s => Nc P a0 (fun v20 s => Fa P 261 v20 1 (fun v21 s => Ld P 171 v21 (fun v22 s => Bi P .delete #[171, 3] 0 #[false, false] #[v22, a1] (fun _ s => Ret P (fun w => K (.bool true) w) s) s) s) s) s))) s) s) s) s
theorem s127 {a0 a1 : Value} (h : D127 a0 a1 (fun v w' => K v ⟨w', ds⟩) ⟨w, []⟩) : Cl P 127 #[a0, a1] K ⟨w, ds⟩ := cl_st bodies_ok Tryz.func127 45 [.tmp 4] h

/-- rollcall/fold.Byte -/
def D128 (a0 : Value) (K : Value → World → Prop) (s : St) : Prop :=
  Bo P .geq 5 false true a0 (byteV 65) (fun v1 s => J1 (fun A2 => Grd v1 true (Bo P .leq 5 false true a0 (byteV 90) (fun v4 s => A2 v4 s) s) (A2 undef s)) (fun x3 s => Pk P v1 x3 (.bool false) (fun v5 s => CondP v5 (Bo P .add 5 false true a0 (byteV 32) (fun v6 s => Ret P (fun w => K v6 w) s) s) (Bo P .eql 5 false true a0 (byteV 91) (fun v7 s => J1 (fun A8 => Grd v7 false (Bo P .eql 5 false true a0 (byteV 93) (fun v10 s => A8 v10 s) s) (A8 undef s)) (fun x9 s => Pk P v7 (.bool true) x9 (fun v11 s => J1 (fun A12 => Grd v11 false (Bo P .eql 5 false true a0 (byteV 92) (fun v14 s => A12 v14 s) s) (A12 undef s)) (fun x13 s => Pk P v11 (.bool true) x13 (fun v15 s => CondP v15 (Bo P .add 5 false true a0 (byteV 32) (fun v16 s => Ret P (fun w => K v16 w) s) s) (Bo P .eql 5 false true a0 (byteV 126) (fun v17 s => CondP v17 (Ret P (fun w => K (byteV 94) w) s) (Ret P (fun w => K a0 w) s)) s)) s)) s)) s)) s)) s
theorem s128 {a0 : Value} (h : D128 a0 (fun v w' => K v ⟨w', ds⟩) ⟨w, []⟩) : Cl P 128 #[a0] K ⟨w, ds⟩ := cl_st bodies_ok Tryz.func128 29 [.tmp 2] h

/-- (*rollcall/pair.Rel[int, string]).Has -/
def D129 (a0 a1 a2 : Value) (K : Value → World → Prop) (s : St) : Prop :=
  Bo P .neq 107 false true a0 (.pointer none) (fun v1 s => J1 (fun A2 => Grd v1 true (Nc P a0 (fun v4 s => Fa P 193 v4 2 (fun v5 s => Ld P 190 v5 (fun v6 s => Lk P 190 v6 a1 false (fun v7 s => Cl P 204 #[v7, a2] (fun v8 s => A2 v8 s) s) s) s) s) s) (A2 undef s)) (fun x3 s => Pk P v1 x3 (.bool false) (fun v9 s => Ret P (fun w => K v9 w) s) s)) s
theorem s129 {a0 a1 a2 : Value} (h : D129 a0 a1 a2 (fun v w' => K v ⟨w', ds⟩) ⟨w, []⟩) : Cl P 129 #[a0, a1, a2] K ⟨w, ds⟩ := cl_st bodies_ok Tryz.func129 19 [.tmp 6] h

/-- rollcall/pair.put[int,string] -/
def D130 (a0 a1 a2 : Value) (K : Value → World → Prop) (s : St) : Prop :=
  J0 (fun A1 => Lk P 190 a0 a1 false (fun v2 s => Bo P .eql 257 false true v2 (.pointer none) (fun v3 s => CondP v3 (Cl P 205 #[.slice none 0 0] (fun v4 s => Mu P 190 a0 a1 v4 (fun _ s => A1 s) s) s) (A1 s)) s) s) (fun s => Lk P 190 a0 a1 false (fun v5 s => Bs P 134 1 #[(0, a2)] (fun v6 s => Cl P 206 #[v5, v6] (fun _ s => Ret P (fun w => K (.tuple #[]) w) s) s) s) s)
theorem s130 {a0 a1 a2 : Value} (h : D130 a0 a1 a2 (fun v w' => K v ⟨w', ds⟩) ⟨w, []⟩) : Cl P 130 #[a0, a1, a2] K ⟨w, ds⟩ := cl_st bodies_ok Tryz.func130 19 [] h

/-- rollcall/pair.put[string,int] -/
def D131 (a0 a1 a2 : Value) (K : Value → World → Prop) (s : St) : Prop :=
  J0 (fun A1 => Lk P 191 a0 a1 false (fun v2 s => Bo P .eql 236 false true v2 (.pointer none) (fun v3 s => CondP v3 (Cl P 171 #[.slice none 0 0] (fun v4 s => Mu P 191 a0 a1 v4 (fun _ s => A1 s) s) s) (A1 s)) s) s) (fun s => Lk P 191 a0 a1 false (fun v5 s => Bs P 64 1 #[(0, a2)] (fun v6 s => Cl P 173 #[v5, v6] (fun _ s => Ret P (fun w => K (.tuple #[]) w) s) s) s) s)
theorem s131 {a0 a1 a2 : Value} (h : D131 a0 a1 a2 (fun v w' => K v ⟨w', ds⟩) ⟨w, []⟩) : Cl P 131 #[a0, a1, a2] K ⟨w, ds⟩ := cl_st bodies_ok Tryz.func131 19 [] h

/-- (*rollcall/sendq.Queue).Len -/
def D132 (a0 : Value) (K : Value → World → Prop) (s : St) : Prop :=
  Bo P .eql 92 false true a0 (.pointer none) (fun v1 s => CondP v1 (Ret P (fun w => K (.int .i64 0) w) s) (Nc P a0 (fun v2 s => Fa P 180 v2 1 (fun v3 s => Ld P 22 v3 (fun v4 s => Bi P .len #[22] 3 #[false] #[v4] (fun v5 s => Ret P (fun w => K v5 w) s) s) s) s) s)) s
theorem s132 {a0 : Value} (h : D132 a0 (fun v w' => K v ⟨w', ds⟩) ⟨w, []⟩) : Cl P 132 #[a0] K ⟨w, ds⟩ := cl_st bodies_ok Tryz.func132 10 [.tmp 2] h

/-- rollcall/sendq.torn -/
def D133 (a0 a1 a2 : Value) (K : Value → World → Prop) (s : St) : Prop :=
  Bo P .leq 3 false false a2 a1 (fun v1 s => CondP v1 (Bo P .sub 3 false false a1 a2 (fun v2 s => Ret P (fun w => K v2 w) s) s) (Bo P .sub 3 false false a2 a1 (fun v3 s => L2 v3 a1 s (fun N4 x5 x6 s => Bi P .len #[22] 3 #[false] #[a0] (fun v7 s => Bo P .lss 3 false false x6 v7 (fun v8 s => CondP v8 (J1 (fun A9 => Bo P .eql 3 false true x5 (.int .i64 0) (fun v11 s => CondP v11 (Ret P (fun w => K (.int .i64 0) w) s) (Bo P .sub 3 false true x5 (.int .i64 1) (fun v12 s => Ia P 22 a0 x6 (fun v13 s => Ld P 5 v13 (fun v14 s => Bo P .eql 5 false true v14 (byteV 10) (fun v15 s => CondP v15 (A9 v12 s) (Bo P .eql 3 false true v12 (.int .i64 0) (fun v16 s => CondP v16 (Bo P .add 3 false true x6 (.int .i64 1) (fun v17 s => Sl P 22 a0 (some v17) none none (fun v18 s => Cv P 22 9 v18 (fun v19 s => Cl P 207 #[v19, byteV 10] (fun v20 s => Bo P .add 3 false true v20 (.int .i64 1) (fun v21 s => Ret P (fun w => K v21 w) s) s) s) s) s) s) (A9 v12 s)) s)) s) s) s) s)) s) (fun x10 s => Bo P .add 3 false true x6 (.int .i64 1) (fun v22 s => N4 x10 v22 s) s)) (Ret P (fun w => K (.int .i64 0) w) s)) s) s)) s)) s
theorem s133 {a0 a1 a2 : Value} (h : D133 a0 a1 a2 (fun v w' => K v ⟨w', ds⟩) ⟨w, []⟩) : Cl P 133 #[a0, a1, a2] K ⟨w, ds⟩ := cl_st bodies_ok Tryz.func133 43 [.tmp 6] h

/-- (*rollcall/frame.Framer).Feed -/
def D150 (a0 a1 : Value) (K : Value → World → Prop) (s : St) : Prop :=
  Bo P .eql 96 false true a0 (.pointer none) (fun v1 s => CondP v1 (Ret P (fun w => K (.slice none 0 0) w) s) (Bi P .len #[22] 3 #[false] #[a1] (fun v2 s => L2 (.slice none 0 0) (.int .i64 0) s (fun N3 x4 x5 s => Bo P .lss 3 false false x5 v2 (fun v6 s => CondP v6 (J1 (fun A7 => Ia P 22 a1 x5 (fun v9 s => Ld P 5 v9 (fun v10 s => Cl P 225 #[a0, v10] (fun v11 s => Ex P v11 0 (fun v12 s => Ex P v11 1 (fun v13 s => Al P 205 (fun v14 s => Sv P 205 v14 v12 (fun _ s => CondP v13 (Ld P 205 v14 (fun v15 s => Bs P 138 1 #[(0, v15)] (fun v16 s => Bi P .append #[138, 138] 138 #[false, false] #[x4, v16] (fun v17 s => A7 v17 s) s) s) s) (A7 x4 s)) s) s) s) s) s) s) s) (fun x8 s => Bo P .add 3 false true x5 (.int .i64 1) (fun v18 s => N3 x8 v18 s) s)) (Ret P (fun w => K x4 w) s)) s)) s)) s
theorem s150 {a0 a1 : Value} (h : D150 a0 a1 (fun v w' => K v ⟨w', ds⟩) ⟨w, []⟩) : Cl P 150 #[a0, a1] K ⟨w, ds⟩ := cl_st bodies_ok Tryz.func150 31 [.tmp 4] h

/-- (*rollcall/pulse.Pulse).Line -/
def D152 (a0 a1 a2 : Value) (K : Value → World → Prop) (s : St) : Prop :=
  Bo P .eql 87 false true a0 (.pointer none) (fun v1 s => CondP v1 (Ret P (fun w => K (.tuple #[]) w) s) (Nc P a0 (fun v2 s => Fa P 175 v2 6 (fun v3 s => Ld P 172 v3 (fun v4 s => Cl P 202 #[v4, a1] (fun v5 s => Ex P v5 0 (fun _ s => Ex P v5 1 (fun v7 s => CondP v7 (Cl P 60 #[a0, a1, a2] (fun _ s => Ret P (fun w => K (.tuple #[]) w) s) s) (Ret P (fun w => K (.tuple #[]) w) s)) s) s) s) s) s) s)) s
theorem s152 {a0 a1 a2 : Value} (h : D152 a0 a1 a2 (fun v w' => K v ⟨w', ds⟩) ⟨w, []⟩) : Cl P 152 #[a0, a1, a2] K ⟨w, ds⟩ := cl_st bodies_ok Tryz.func152 24 [] h

/-- slices.Sorted[int] -/
def D163 (a0 : Value) (K : Value → World → Prop) (s : St) : Prop :=
  Cl P 239 #[a0] (fun v1 s => Cl P 240 #[v1] (fun _ s => Ret P (fun w => K v1 w) s) s) s
theorem s163 {a0 : Value} (h : D163 a0 (fun v w' => K v ⟨w', ds⟩) ⟨w, []⟩) : Cl P 163 #[a0] K ⟨w, ds⟩ := cl_st bodies_ok Tryz.func163 9 [.tmp 2] h

/-- slices.Values[[]int,int] -/
def D165 (a0 : Value) (K : Value → World → Prop) (s : St) : Prop :=
  Bx P 64 a0 (fun v1 s => Mf P (.func 242) #[] #[v1] (fun v2 s => Ret P (fun w => K v2 w) s) s) s
theorem s165 {a0 : Value} (h : D165 a0 (fun v w' => K v ⟨w', ds⟩) ⟨w, []⟩) : Cl P 165 #[a0] K ⟨w, ds⟩ := cl_st bodies_ok Tryz.func165 4 [.tmp 2] h

/-- rollcall/rollcallref10.Add -/
def D166 (a0 a1 : Value) (K : Value → World → Prop) (s : St) : Prop :=
  Cl P 243 #[a0, a1] (fun v1 s => CondP v1 (Ret P (fun w => K a0 w) s) (L3 (.slice none 0 0) (.bool false) (.int .i64 0) s (fun N2 x3 x4 x5 s => Bi P .len #[64] 3 #[false] #[a0] (fun v6 s => Bo P .lss 3 false false x5 v6 (fun v7 s => CondP v7 (J2 (fun A8 => Uo P .not x4 (fun v11 s => J1 (fun A12 => Grd v11 true (Ia P 64 a0 x5 (fun v14 s => Ld P 3 v14 (fun v15 s => Bo P .gtr 3 false false v15 a1 (fun v16 s => A12 v16 s) s) s) s) (A12 undef s)) (fun x13 s => Pk P v11 x13 (.bool false) (fun v17 s => CondP v17 (Bs P 64 1 #[(0, a1)] (fun v18 s => Bi P .append #[64, 64] 64 #[false, false] #[x3, v18] (fun v19 s => A8 v19 (.bool true) s) s) s) (A8 x3 x4 s)) s)) s) (fun x9 x10 s => Ia P 64 a0 x5 (fun v20 s => Ld P 3 v20 (fun v21 s => Bs P 64 1 #[(0, v21)] (fun v22 s => Bi P .append #[64, 64] 64 #[false, false] #[x9, v22] (fun v23 s => Bo P .add 3 false true x5 (.int .i64 1) (fun v24 s => N2 v23 x10 v24 s) s) s) s) s) s)) (J1 (fun A25 => Uo P .not x4 (fun v27 s => CondP v27 (Bs P 64 1 #[(0, a1)] (fun v28 s => Bi P .append #[64, 64] 64 #[false, false] #[x3, v28] (fun v29 s => A25 v29 s) s) s) (A25 x3 s)) s) (fun x26 s => Ret P (fun w => K x26 w) s))) s) s))) s
theorem s166 {a0 a1 : Value} (h : D166 a0 a1 (fun v w' => K v ⟨w', ds⟩) ⟨w, []⟩) : Cl P 166 #[a0, a1] K ⟨w, ds⟩ := cl_st bodies_ok Tryz.func166 46 [.tmp 4] h

/-- rollcall/rollcallref01.Text -/
def D168 (a0 : Value) (K : Value → World → Prop) (s : St) : Prop :=
  L2 (.string ⟨#[]⟩) (.int .i64 0) s (fun N1 x2 x3 s => Bi P .len #[9] 3 #[false] #[a0] (fun v4 s => Bo P .lss 3 false false x3 v4 (fun v5 s => CondP v5 (Ix P 9 a0 x3 (fun v6 s => Cl P 244 #[v6] (fun v7 s => Bs P 22 1 #[(0, v7)] (fun v8 s => Cv P 22 9 v8 (fun v9 s => Bo P .add 9 false false x2 v9 (fun v10 s => Bo P .add 3 false true x3 (.int .i64 1) (fun v11 s => N1 v10 v11 s) s) s) s) s) s) s) (Ret P (fun w => K x2 w) s)) s) s)
theorem s168 {a0 : Value} (h : D168 a0 (fun v w' => K v ⟨w', ds⟩) ⟨w, []⟩) : Cl P 168 #[a0] K ⟨w, ds⟩ := cl_st bodies_ok Tryz.func168 20 [.tmp 2] h

/-- slices.IndexFunc[[]int,int] -/
def D169 (a0 a1 : Value) (K : Value → World → Prop) (s : St) : Prop :=
  Bi P .len #[64] 3 #[false] #[a0] (fun v1 s => L1 (.int .i64 0) s (fun N2 x3 s => Bo P .lss 3 false false x3 v1 (fun v4 s => CondP v4 (Ia P 64 a0 x3 (fun v5 s => Ld P 3 v5 (fun v6 s => Dy P a1 #[v6] (fun v7 s => CondP v7 (Ret P (fun w => K x3 w) s) (Bo P .add 3 false true x3 (.int .i64 1) (fun v8 s => N2 v8 s) s)) s) s) s) (Ret P (fun w => K (.int .i64 (-1)) w) s)) s)) s
theorem s169 {a0 a1 : Value} (h : D169 a0 a1 (fun v w' => K v ⟨w', ds⟩) ⟨w, []⟩) : Cl P 169 #[a0, a1] K ⟨w, ds⟩ := cl_st bodies_ok Tryz.func169 19 [.tmp 4] h

/-- rollcall/set.Of[int] -/
def D171 (a0 : Value) (K : Value → World → Prop) (s : St) : Prop :=
  Bd P 308 #[] (fun v1 s => Bx P 308 v1 (fun v2 s => Cl P 173 #[v2, a0] (fun _ s => Ret P (fun w => K v2 w) s) s) s) s
theorem s171 {a0 : Value} (h : D171 a0 (fun v w' => K v ⟨w', ds⟩) ⟨w, []⟩) : Cl P 171 #[a0] K ⟨w, ds⟩ := cl_st bodies_ok Tryz.func171 10 [.tmp 2] h

/-- (*rollcall/set.Set[int]).Add -/
def D173 (a0 a1 : Value) (K : Value → World → Prop) (s : St) : Prop :=
  Bo P .eql 236 false true a0 (.pointer none) (fun v1 s => CondP v1 (Ret P (fun w => K (.int .i64 0) w) s) (Bi P .len #[64] 3 #[false] #[a1] (fun v2 s => L2 (.int .i64 0) (.int .i64 0) s (fun N3 x4 x5 s => Bo P .lss 3 false false x5 v2 (fun v6 s => CondP v6 (J1 (fun A7 => Ia P 64 a1 x5 (fun v9 s => Ld P 3 v9 (fun v10 s => Nc P a0 (fun v11 s => Fa P 308 v11 0 (fun v12 s => Ld P 64 v12 (fun v13 s => Cl P 250 #[v13, v10] (fun v14 s => Ex P v14 0 (fun v15 s => Ex P v14 1 (fun v16 s => Uo P .not v16 (fun v17 s => CondP v17 (Nc P a0 (fun v18 s => Fa P 308 v18 0 (fun v19 s => Ld P 64 v19 (fun v20 s => Bs P 64 1 #[(0, v10)] (fun v21 s => Cl P 251 #[v20, v15, v21] (fun v22 s => Nc P a0 (fun v23 s => Fa P 308 v23 0 (fun v24 s => Sv P 64 v24 v22 (fun _ s => Bo P .add 3 false true x4 (.int .i64 1) (fun v25 s => A7 v25 s) s) s) s) s) s) s) s) s) s) (A7 x4 s)) s) s) s) s) s) s) s) s) s) (fun x8 s => Bo P .add 3 false true x5 (.int .i64 1) (fun v26 s => N3 x8 v26 s) s)) (Ret P (fun w => K x4 w) s)) s)) s)) s
theorem s173 {a0 a1 : Value} (h : D173 a0 a1 (fun v w' => K v ⟨w', ds⟩) ⟨w, []⟩) : Cl P 173 #[a0, a1] K ⟨w, ds⟩ := cl_st bodies_ok Tryz.func173 44 [.tmp 4] h

/-- strings.ReplaceAll -/
def D176 (a0 a1 a2 : Value) (K : Value → World → Prop) (s : St) : Prop :=
  Cl P 256 #[a0, a1, a2, .int .i64 (-1)] (fun v1 s => Ret P (fun w => K v1 w) s) s
theorem s176 {a0 a1 a2 : Value} (h : D176 a0 a1 a2 (fun v w' => K v ⟨w', ds⟩) ⟨w, []⟩) : Cl P 176 #[a0, a1, a2] K ⟨w, ds⟩ := cl_st bodies_ok Tryz.func176 11 [.tmp 6] h

/-- rollcall/valid.Clean -/
def D177 (a0 a1 : Value) (K : Value → World → Prop) (s : St) : Prop :=
  Cl P 191 #[] (fun v1 s => Al P 262 (fun v2 s => Sv P 262 v2 v1 (fun _ s => Al P 321 (fun v3 s => L1 (.int .i64 0) s (fun N4 x5 s => Bi P .len #[9] 3 #[false] #[a0] (fun v6 s => Bo P .lss 3 false false x5 v6 (fun v7 s => J1 (fun A8 => Grd v7 true (Cl P 257 #[v3] (fun v10 s => Bo P .lss 3 false false v10 a1 (fun v11 s => A8 v11 s) s) s) (A8 undef s)) (fun x9 s => Pk P v7 x9 (.bool false) (fun v12 s => CondP v12 (J0 (fun A13 => Ix P 9 a0 x5 (fun v14 s => Ia P 262 v2 v14 (fun v15 s => Ld P 178 v15 (fun v16 s => Bo P .and 178 false true v16 (.int .u16 64) (fun v17 s => Bo P .neq 178 false true v17 (.int .u16 0) (fun v18 s => CondP v18 (Ix P 9 a0 x5 (fun v19 s => Cl P 258 #[v3, v19] (fun _ s => A13 s) s) s) (A13 s)) s) s) s) s) s) (fun s => Bo P .add 3 false true x5 (.int .i64 1) (fun v21 s => N4 v21 s) s)) (Cl P 259 #[v3] (fun v22 s => Ret P (fun w => K v22 w) s) s)) s)) s) s)) s) s) s) s
theorem s177 {a0 a1 : Value} (h : D177 a0 a1 (fun v w' => K v ⟨w', ds⟩) ⟨w, []⟩) : Cl P 177 #[a0, a1] K ⟨w, ds⟩ := cl_st bodies_ok Tryz.func177 32 [.tmp 4] h

/-- rollcall/message.middle -/
def D178 (a0 : Value) (K : Value → World → Prop) (s : St) : Prop :=
  Bo P .eql 9 false true a0 (.string ⟨#[]⟩) (fun v1 s => CondP v1 (Ret P (fun w => K (.string ⟨#[42]⟩) w) s) (Cl P 176 #[a0, .string ⟨#[32]⟩, .string ⟨#[45]⟩] (fun v2 s => Cv P 9 22 v2 (fun v3 s => J0 (fun A4 => Ia P 22 v3 (.int .i64 0) (fun v5 s => Ld P 5 v5 (fun v6 s => Bo P .eql 5 false true v6 (byteV 58) (fun v7 s => CondP v7 (Ia P 22 v3 (.int .i64 0) (fun v8 s => Sv P 5 v8 (byteV 45) (fun _ s => A4 s) s) s) (A4 s)) s) s) s) (fun s => Cv P 22 9 v3 (fun v9 s => Ret P (fun w => K v9 w) s) s)) s) s)) s
theorem s178 {a0 : Value} (h : D178 a0 (fun v w' => K v ⟨w', ds⟩) ⟨w, []⟩) : Cl P 178 #[a0] K ⟨w, ds⟩ := cl_st bodies_ok Tryz.func178 17 [.tmp 2] h

/-- rollcall/message.command -/
def D179 (a0 : Value) (K : Value → World → Prop) (s : St) : Prop :=
  Cl P 260 #[a0, .string ⟨#[65, 66, 67, 68, 69, 70, 71, 72, 73, 74, 75, 76, 77, 78, 79, 80, 81, 82, 83, 84, 85, 86, 87, 88, 89, 90, 97, 98, 99, 100, 101, 102, 103, 104, 105, 106, 107, 108, 109, 110, 111, 112, 113, 114, 115, 116, 117, 118, 119, 120, 121, 122]⟩] (fun v1 s => Bo P .eql 9 false true v1 (.string ⟨#[]⟩) (fun v2 s => Bo P .neq 9 false true a0 (.string ⟨#[]⟩) (fun v3 s => J1 (fun A4 => Grd v3 true (A4 v2 s) (A4 undef s)) (fun x5 s => Pk P v3 x5 (.bool false) (fun v6 s => J1 (fun A7 => Grd v6 false (Bi P .len #[9] 3 #[false] #[a0] (fun v9 s => Bo P .eql 3 false true v9 (.int .i64 3) (fun v10 s => A7 v10 s) s) s) (A7 undef s)) (fun x8 s => J1 (fun A11 => Grd x8 true (Cl P 260 #[a0, .string ⟨#[48, 49, 50, 51, 52, 53, 54, 55, 56, 57]⟩] (fun v13 s => Bo P .eql 9 false true v13 (.string ⟨#[]⟩) (fun v14 s => A11 v14 s) s) s) (A11 undef s)) (fun x12 s => J1 (fun A15 => Grd v6 false (Pk P x8 x12 (.bool false) (fun v17 s => A15 v17 s) s) (A15 undef s)) (fun x16 s => Pk P v6 (.bool true) x16 (fun v18 s => Ret P (fun w => K v18 w) s) s)))) s)) s) s) s
theorem s179 {a0 : Value} (h : D179 a0 (fun v w' => K v ⟨w', ds⟩) ⟨w, []⟩) : Cl P 179 #[a0] K ⟨w, ds⟩ := cl_st bodies_ok Tryz.func179 22 [.tmp 2] h

/-- rollcall/message.capitals -/
def D180 (a0 : Value) (K : Value → World → Prop) (s : St) : Prop :=
  Cv P 9 22 a0 (fun v1 s => Bi P .len #[22] 3 #[false] #[v1] (fun v2 s => L1 (.int .i64 0) s (fun N3 x4 s => Bo P .lss 3 false false x4 v2 (fun v5 s => CondP v5 (J0 (fun A6 => Ia P 22 v1 x4 (fun v7 s => Ld P 5 v7 (fun v8 s => Bo P .geq 5 false true v8 (byteV 97) (fun v9 s => J1 (fun A10 => Grd v9 true (Bo P .leq 5 false true v8 (byteV 122) (fun v12 s => A10 v12 s) s) (A10 undef s)) (fun x11 s => Pk P v9 x11 (.bool false) (fun v13 s => CondP v13 (Bo P .sub 5 false true v8 (byteV 32) (fun v14 s => Ia P 22 v1 x4 (fun v15 s => Sv P 5 v15 v14 (fun _ s => A6 s) s) s) s) (A6 s)) s)) s) s) s) (fun s => Bo P .add 3 false true x4 (.int .i64 1) (fun v16 s => N3 v16 s) s)) (Cv P 22 9 v1 (fun v17 s => Ret P (fun w => K v17 w) s) s)) s)) s) s
theorem s180 {a0 : Value} (h : D180 a0 (fun v w' => K v ⟨w', ds⟩) ⟨w, []⟩) : Cl P 180 #[a0] K ⟨w, ds⟩ := cl_st bodies_ok Tryz.func180 29 [.tmp 2] h

/-- rollcall/message.text -/
def D181 (a0 : Value) (K : Value → World → Prop) (s : St) : Prop :=
  Bx P 250 a0 (fun v1 s => Al P 321 (fun v2 s => J0 (fun A3 => Fa P 250 v1 0 (fun v4 s => Ld P 248 v4 (fun v5 s => Bi P .len #[248] 3 #[false] #[v5] (fun v6 s => Bo P .gtr 3 false true v6 (.int .i64 0) (fun v7 s => CondP v7 (Fa P 250 v1 0 (fun v8 s => Ld P 248 v8 (fun v9 s => Cl P 262 #[v9] (fun v10 s => Bo P .add 9 true false (.string ⟨#[64]⟩) v10 (fun v11 s => Bo P .add 9 false true v11 (.string ⟨#[32]⟩) (fun v12 s => Cl P 261 #[v2, v12] (fun _ s => A3 s) s) s) s) s) s) s) (A3 s)) s) s) s) s) (fun s => J0 (fun A14 => Fa P 250 v1 1 (fun v15 s => Ld P 9 v15 (fun v16 s => Bo P .neq 9 false true v16 (.string ⟨#[]⟩) (fun v17 s => CondP v17 (Fa P 250 v1 1 (fun v18 s => Ld P 9 v18 (fun v19 s => Bo P .add 9 true false (.string ⟨#[58]⟩) v19 (fun v20 s => Bo P .add 9 false true v20 (.string ⟨#[32]⟩) (fun v21 s => Cl P 261 #[v2, v21] (fun _ s => A14 s) s) s) s) s) s) (A14 s)) s) s) s) (fun s => Fa P 250 v1 2 (fun v23 s => Ld P 9 v23 (fun v24 s => Cl P 261 #[v2, v24] (fun _ s => Fa P 250 v1 3 (fun v26 s => Ld P 134 v26 (fun v27 s => Bi P .len #[134] 3 #[false] #[v27] (fun v28 s => L1 (.int .i64 0) s (fun N29 x30 s => Bo P .lss 3 false false x30 v28 (fun v31 s => CondP v31 (Ia P 134 v27 x30 (fun v32 s => Ld P 9 v32 (fun v33 s => Cl P 258 #[v2, byteV 32] (fun _ s => J0 (fun A35 => Fa P 250 v1 3 (fun v36 s => Ld P 134 v36 (fun v37 s => Bi P .len #[134] 3 #[false] #[v37] (fun v38 s => Bo P .sub 3 false true v38 (.int .i64 1) (fun v39 s => Bo P .eql 3 false false x30 v39 (fun v40 s => J1 (fun A41 => Grd v40 true (Cl P 263 #[v33] (fun v43 s => A41 v43 s) s) (A41 undef s)) (fun x42 s => Pk P v40 x42 (.bool false) (fun v44 s => CondP v44 (Cl P 258 #[v2, byteV 58] (fun _ s => A35 s) s) (A35 s)) s)) s) s) s) s) s) (fun s => Cl P 261 #[v2, v33] (fun _ s => Bo P .add 3 false true x30 (.int .i64 1) (fun v47 s => N29 v47 s) s) s)) s) s) s) (Cl P 259 #[v2] (fun v48 s => Ret P (fun w => K v48 w) s) s)) s)) s) s) s) s) s) s))) s) s
theorem s181 {a0 : Value} (h : D181 a0 (fun v w' => K v ⟨w', ds⟩) ⟨w, []⟩) : Cl P 181 #[a0] K ⟨w, ds⟩ := cl_st bodies_ok Tryz.func181 51 [.tmp 2] h

/-- rollcall/reply.Who -/
def D182 (a0 a1 a2 : Value) (K : Value → World → Prop) (s : St) : Prop :=
  Bo P .add 9 false true a0 (.string ⟨#[33]⟩) (fun v1 s => Bo P .add 9 false false v1 a1 (fun v2 s => Bo P .add 9 false true v2 (.string ⟨#[64]⟩) (fun v3 s => Bo P .add 9 false false v3 a2 (fun v4 s => Ret P (fun w => K v4 w) s) s) s) s) s
theorem s182 {a0 a1 a2 : Value} (h : D182 a0 a1 a2 (fun v w' => K v ⟨w', ds⟩) ⟨w, []⟩) : Cl P 182 #[a0, a1, a2] K ⟨w, ds⟩ := cl_st bodies_ok Tryz.func182 14 [.tmp 6] h

/-- (*rollcall/set.Set[string]).Len -/
def D187 (a0 : Value) (K : Value → World → Prop) (s : St) : Prop :=
  Bo P .eql 257 false true a0 (.pointer none) (fun v1 s => CondP v1 (Ret P (fun w => K (.int .i64 0) w) s) (Nc P a0 (fun v2 s => Fa P 330 v2 0 (fun v3 s => Ld P 134 v3 (fun v4 s => Bi P .len #[134] 3 #[false] #[v4] (fun v5 s => Ret P (fun w => K v5 w) s) s) s) s) s)) s
theorem s187 {a0 : Value} (h : D187 a0 (fun v w' => K v ⟨w', ds⟩) ⟨w, []⟩) : Cl P 187 #[a0] K ⟨w, ds⟩ := cl_st bodies_ok Tryz.func187 10 [.tmp 2] h

/-- rollcall/valid.Text -/
def D188 (a0 : Value) (K : Value → World → Prop) (s : St) : Prop :=
  Bi P .len #[9] 3 #[false] #[a0] (fun v1 s => Cl P 119 #[a0, .int .i64 0, v1, .int .u16 64] (fun v2 s => Ret P (fun w => K v2 w) s) s) s
theorem s188 {a0 : Value} (h : D188 a0 (fun v w' => K v ⟨w', ds⟩) ⟨w, []⟩) : Cl P 188 #[a0] K ⟨w, ds⟩ := cl_st bodies_ok Tryz.func188 7 [.tmp 2] h

/-- rollcall/valid.letter -/
def D189 (a0 : Value) (K : Value → World → Prop) (s : St) : Prop :=
  Bo P .geq 3 false true a0 (.int .i64 97) (fun v1 s => J1 (fun A2 => Grd v1 true (Bo P .leq 3 false true a0 (.int .i64 122) (fun v4 s => A2 v4 s) s) (A2 undef s)) (fun x3 s => Pk P v1 x3 (.bool false) (fun v5 s => J1 (fun A6 => Grd v5 false (Bo P .geq 3 false true a0 (.int .i64 65) (fun v8 s => A6 v8 s) s) (A6 undef s)) (fun x7 s => J1 (fun A9 => Grd x7 true (Bo P .leq 3 false true a0 (.int .i64 90) (fun v11 s => A9 v11 s) s) (A9 undef s)) (fun x10 s => J1 (fun A12 => Grd v5 false (Pk P x7 x10 (.bool false) (fun v14 s => A12 v14 s) s) (A12 undef s)) (fun x13 s => Pk P v5 (.bool true) x13 (fun v15 s => Ret P (fun w => K v15 w) s) s)))) s)) s
theorem s189 {a0 : Value} (h : D189 a0 (fun v w' => K v ⟨w', ds⟩) ⟨w, []⟩) : Cl P 189 #[a0] K ⟨w, ds⟩ := cl_st bodies_ok Tryz.func189 17 [.tmp 2] h

/-- rollcall/valid.has -/
def D190 (a0 a1 : Value) (K : Value → World → Prop) (s : St) : Prop :=
  Cv P 3 5 a1 (fun v1 s => Cl P 207 #[a0, v1] (fun v2 s => Bo P .geq 3 false true v2 (.int .i64 0) (fun v3 s => Ret P (fun w => K v3 w) s) s) s) s
theorem s190 {a0 a1 : Value} (h : D190 a0 a1 (fun v w' => K v ⟨w', ds⟩) ⟨w, []⟩) : Cl P 190 #[a0, a1] K ⟨w, ds⟩ := cl_st bodies_ok Tryz.func190 10 [.tmp 4] h

/-- rollcall/valid.kinds -/
def D191 (K : Value → World → Prop) (s : St) : Prop :=
  Al P 262 (fun v1 s => Al P 262 (fun v2 s => L1 (.int .i64 0) s (fun N3 x4 s => Bo P .lss 3 false true x4 (.int .i64 256) (fun v5 s => CondP v5 (J0 (fun A6 => Bo P .geq 3 false true x4 (.int .i64 48) (fun v7 s => J1 (fun A8 => Grd v7 true (Bo P .leq 3 false true x4 (.int .i64 57) (fun v10 s => A8 v10 s) s) (A8 undef s)) (fun x9 s => Pk P v7 x9 (.bool false) (fun v11 s => Bo P .geq 3 false true x4 (.int .i64 33) (fun v12 s => J1 (fun A13 => Grd v12 true (Bo P .leq 3 false true x4 (.int .i64 126) (fun v15 s => A13 v15 s) s) (A13 undef s)) (fun x14 s => Pk P v12 x14 (.bool false) (fun v16 s => J0 (fun A17 => Cl P 189 #[x4] (fun v18 s => J1 (fun A19 => Grd v18 false (Cl P 190 #[.string ⟨#[91, 93, 92, 95, 94, 123, 124, 125, 96]⟩, x4] (fun v21 s => A19 v21 s) s) (A19 undef s)) (fun x20 s => Pk P v18 (.bool true) x20 (fun v22 s => CondP v22 (Ia P 262 v2 x4 (fun v23 s => Ld P 178 v23 (fun v24 s => Bo P .or 178 false true v24 (.int .u16 3) (fun v25 s => Ia P 262 v2 x4 (fun v26 s => Sv P 178 v26 v25 (fun _ s => A17 s) s) s) s) s) s) (A17 s)) s)) s) (fun s => J0 (fun A27 => J1 (fun A28 => Grd v11 false (Bo P .eql 3 false true x4 (.int .i64 45) (fun v30 s => A28 v30 s) s) (A28 undef s)) (fun x29 s => Pk P v11 (.bool true) x29 (fun v31 s => CondP v31 (Ia P 262 v2 x4 (fun v32 s => Ld P 178 v32 (fun v33 s => Bo P .or 178 false true v33 (.int .u16 2) (fun v34 s => Ia P 262 v2 x4 (fun v35 s => Sv P 178 v35 v34 (fun _ s => A27 s) s) s) s) s) s) (A27 s)) s)) (fun s => J0 (fun A36 => Cl P 190 #[.string ⟨#[0, 7, 10, 13, 32, 44, 58]⟩, x4] (fun v37 s => Uo P .not v37 (fun v38 s => CondP v38 (Ia P 262 v2 x4 (fun v39 s => Ld P 178 v39 (fun v40 s => Bo P .or 178 false true v40 (.int .u16 4) (fun v41 s => Ia P 262 v2 x4 (fun v42 s => Sv P 178 v42 v41 (fun _ s => A36 s) s) s) s) s) s) (A36 s)) s) s) (fun s => J0 (fun A43 => J1 (fun A44 => Grd v16 true (Cl P 190 #[.string ⟨#[33, 64, 42, 63, 58]⟩, x4] (fun v46 s => Uo P .not v46 (fun v47 s => A44 v47 s) s) s) (A44 undef s)) (fun x45 s => Pk P v16 x45 (.bool false) (fun v48 s => CondP v48 (Ia P 262 v2 x4 (fun v49 s => Ld P 178 v49 (fun v50 s => Bo P .or 178 false true v50 (.int .u16 8) (fun v51 s => Ia P 262 v2 x4 (fun v52 s => Sv P 178 v52 v51 (fun _ s => A43 s) s) s) s) s) s) (A43 s)) s)) (fun s => J0 (fun A53 => Cl P 189 #[x4] (fun v54 s => J1 (fun A55 => Grd v54 false (A55 v11 s) (A55 undef s)) (fun x56 s => Pk P v54 (.bool true) x56 (fun v57 s => J1 (fun A58 => Grd v57 false (Cl P 190 #[.string ⟨#[46, 45, 58]⟩, x4] (fun v60 s => A58 v60 s) s) (A58 undef s)) (fun x59 s => Pk P v57 (.bool true) x59 (fun v61 s => CondP v61 (Ia P 262 v2 x4 (fun v62 s => Ld P 178 v62 (fun v63 s => Bo P .or 178 false true v63 (.int .u16 16) (fun v64 s => Ia P 262 v2 x4 (fun v65 s => Sv P 178 v65 v64 (fun _ s => A53 s) s) s) s) s) s) (A53 s)) s)) s)) s) (fun s => J0 (fun A66 => J1 (fun A67 => Grd v16 true (Bo P .neq 3 false true x4 (.int .i64 44) (fun v69 s => A67 v69 s) s) (A67 undef s)) (fun x68 s => Pk P v16 x68 (.bool false) (fun v70 s => CondP v70 (Ia P 262 v2 x4 (fun v71 s => Ld P 178 v71 (fun v72 s => Bo P .or 178 false true v72 (.int .u16 32) (fun v73 s => Ia P 262 v2 x4 (fun v74 s => Sv P 178 v74 v73 (fun _ s => A66 s) s) s) s) s) s) (A66 s)) s)) (fun s => Cl P 190 #[.string ⟨#[0, 10, 13]⟩, x4] (fun v75 s => Uo P .not v75 (fun v76 s => CondP v76 (Ia P 262 v2 x4 (fun v77 s => Ld P 178 v77 (fun v78 s => Bo P .or 178 false true v78 (.int .u16 64) (fun v79 s => Ia P 262 v2 x4 (fun v80 s => Sv P 178 v80 v79 (fun _ s => A6 s) s) s) s) s) s) (A6 s)) s) s))))))) s)) s) s)) s) (fun s => Bo P .add 3 false true x4 (.int .i64 1) (fun v81 s => N3 v81 s) s)) (Ld P 262 v2 (fun v82 s => Sv P 262 v1 v82 (fun _ s => Ret P (fun w => LdR P 262 v1 w fun v83 => K v83 w) s) s) s)) s)) s) s
theorem s191 (h : D191 (fun v w' => K v ⟨w', ds⟩) ⟨w, []⟩) : Cl P 191 #[] K ⟨w, ds⟩ := cl_st bodies_ok Tryz.func191 94 [.cell 0 262] h

/-- slices.BinarySearchFunc[[]rollcall/timer.item[int],rollcall/timer.item[int],rollcall/timer.item[int]] -/
def D192 (a0 a1 a2 : Value) (K : Value → World → Prop) (s : St) : Prop :=
  Bx P 266 a1 (fun v1 s => Bi P .len #[259] 3 #[false] #[a0] (fun v2 s => L2 (.int .i64 0) v2 s (fun N3 x4 x5 s => Bo P .lss 3 false false x4 x5 (fun v6 s => CondP v6 (Bo P .add 3 false false x4 x5 (fun v7 s => Cv P 3 331 v7 (fun v8 s => Bo P .shr 331 false true v8 (.int .u64 1) (fun v9 s => Cv P 331 3 v9 (fun v10 s => Dw (fun s => Qt (Ia P 259 a0 v10) s fun v11 => Qt (Ld P 266 v11) s fun v12 => Qt (Ld P 266 v1) s fun v13 => Dy P a2 #[v12, v13] (fun v14 s => Qt (Bo P .lss 3 false true v14 (.int .i64 0)) s fun v15 => CondP v15 (Bo P .add 3 false true v10 (.int .i64 1) (fun v16 s => N3 v16 x5 s) s) (N3 x4 v10 s)) s) s) s) s) s) s) (J2 (fun A17 => Dw (fun s => Qt (Bo P .lss 3 false false x4 v2) s fun v20 => Grd v20 true (Qt (Ia P 259 a0 x4) s fun v21 => Qt (Ld P 266 v21) s fun v22 => Qt (Ld P 266 v1) s fun v23 => Dy P a2 #[v22, v23] (fun v24 s => Qt (Bo P .eql 3 false true v24 (.int .i64 0)) s fun v25 => Qt (Pk P v20 v25 (.bool false)) s fun v26 => A17 x4 v26 s) s) (Qt (Pk P v20 undef (.bool false)) s fun v27 => A17 x4 v27 s)) s) (fun x18 x19 s => Ret P (fun w => K (.tuple #[x18, x19]) w) s))) s)) s) s
theorem s192 {a0 a1 a2 : Value} (h : D192 a0 a1 a2 (fun v w' => K v ⟨w', ds⟩) ⟨w, []⟩) : Cl P 192 #[a0, a1, a2] K ⟨w, ds⟩ := cl_st bodies_ok Tryz.func192 49 [.tmp 6, .tmp 7] h

/-- rollcall/timer.compare[int] -/
def D193 (a0 a1 : Value) (K : Value → World → Prop) (s : St) : Prop :=
  Bx P 266 a0 (fun v1 s => Bx P 266 a1 (fun v2 s => Dw (fun s => Qt (Fa P 266 v1 1) s fun v3 => Qt (Ld P 3 v3) s fun v4 => Qt (Fa P 266 v2 1) s fun v5 => Qt (Ld P 3 v5) s fun v6 => Qt (Fa P 266 v1 0) s fun v7 => Qt (Ld P 3 v7) s fun v8 => Qt (Fa P 266 v2 0) s fun v9 => Qt (Ld P 3 v9) s fun v10 => Cl P 271 #[v4, v6] (fun v11 s => Ck (Fa P 266 v1 0) v7 s ∧ Ck (Ld P 3 v7) v8 s ∧ Ck (Fa P 266 v2 0) v9 s ∧ Ck (Ld P 3 v9) v10 s ∧ (Cl P 271 #[v8, v10] (fun v12 s => Bs P 64 2 #[(0, v11), (1, v12)] (fun v13 s => Cl P 270 #[v13] (fun v14 s => Ret P (fun w => K v14 w) s) s) s) s)) s) s) s) s
theorem s193 {a0 a1 : Value} (h : D193 a0 a1 (fun v w' => K v ⟨w', ds⟩) ⟨w, []⟩) : Cl P 193 #[a0, a1] K ⟨w, ds⟩ := cl_st bodies_ok Tryz.func193 17 [.tmp 4] h

/-- slices.Insert[[]rollcall/timer.item[int],rollcall/timer.item[int]] -/
def D194 (a0 a1 a2 : Value) (K : Value → World → Prop) (s : St) : Prop :=
  Sl P 259 a0 (some a1) none none (fun _ s => Bi P .len #[259] 3 #[false] #[a2] (fun v2 s => Bo P .eql 3 false true v2 (.int .i64 0) (fun v3 s => CondP v3 (Ret P (fun w => K a0 w) s) (Bi P .len #[259] 3 #[false] #[a0] (fun v4 s => Bo P .eql 3 false false a1 v4 (fun v5 s => CondP v5 (Bi P .append #[259, 259] 259 #[false, false] #[a0, a2] (fun v6 s => Ret P (fun w => K v6 w) s) s) (Bo P .add 3 false false v4 v2 (fun v7 s => Bi P .cap #[259] 3 #[false] #[a0] (fun v8 s => Bo P .gtr 3 false false v7 v8 (fun v9 s => CondP v9 (Sl P 259 a0 none (some a1) none (fun v10 s => Bo P .add 3 false false v4 v2 (fun v11 s => Bo P .sub 3 false false v11 a1 (fun v12 s => Bi P .append #[259, 3] 259 #[false, false] #[v10, v12] (fun v13 s => Sl P 259 v13 (some a1) none none (fun v14 s => Bi P .copy #[259, 259] 3 #[false, false] #[v14, a2] (fun _ s => Dw (fun s => Qt (Bo P .add 3 false false a1 v2) s fun v16 => Qt (Sl P 259 v13 (some v16) none none) s fun v17 => Qt (Sl P 259 a0 (some a1) none none) s fun v18 => Bi P .copy #[259, 259] 3 #[false, false] #[v17, v18] (fun _ s => Ret P (fun w => K v13 w) s) s) s) s) s) s) s) s) s) (Bo P .add 3 false false v4 v2 (fun v20 s => Sl P 259 a0 none (some v20) none (fun v21 s => Bo P .add 3 false false a1 v2 (fun v22 s => Sl P 259 v21 (some v22) none none (fun v23 s => Dy P (.func (.func 272) #[] #[]) #[a2, v23] (fun v24 s => Uo P .not v24 (fun v25 s => CondP v25 (Dw (fun s => Qt (Bo P .add 3 false false a1 v2) s fun v26 => Qt (Sl P 259 v21 (some v26) none none) s fun v27 => Qt (Sl P 259 v21 (some a1) none none) s fun v28 => Bi P .copy #[259, 259] 3 #[false, false] #[v27, v28] (fun _ s => Sl P 259 v21 (some a1) none none (fun v30 s => Bi P .copy #[259, 259] 3 #[false, false] #[v30, a2] (fun _ s => Ret P (fun w => K v21 w) s) s) s) s) s) (Sl P 259 v21 (some v4) none none (fun v32 s => Bi P .copy #[259, 259] 3 #[false, false] #[v32, a2] (fun _ s => Sl P 259 v21 (some a1) none none (fun v34 s => Cl P 273 #[v34, v2] (fun _ s => Ret P (fun w => K v21 w) s) s) s) s) s)) s) s) s) s) s) s)) s) s) s)) s) s)) s) s) s
theorem s194 {a0 a1 a2 : Value} (h : D194 a0 a1 a2 (fun v w' => K v ⟨w', ds⟩) ⟨w, []⟩) : Cl P 194 #[a0, a1, a2] K ⟨w, ds⟩ := cl_st bodies_ok Tryz.func194 95 [.tmp 6] h

/-- slices.BinarySearchFunc[[]rollcall/book.entry[int],rollcall/book.entry[int],string] -/
def D195 (a0 a1 a2 : Value) (K : Value → World → Prop) (s : St) : Prop :=
  Bi P .len #[164] 3 #[false] #[a0] (fun v1 s => L2 (.int .i64 0) v1 s (fun N2 x3 x4 s => Bo P .lss 3 false false x3 x4 (fun v5 s => CondP v5 (Bo P .add 3 false false x3 x4 (fun v6 s => Cv P 3 331 v6 (fun v7 s => Bo P .shr 331 false true v7 (.int .u64 1) (fun v8 s => Cv P 331 3 v8 (fun v9 s => Ia P 164 a0 v9 (fun v10 s => Ld P 185 v10 (fun v11 s => Dy P a2 #[v11, a1] (fun v12 s => Bo P .lss 3 false true v12 (.int .i64 0) (fun v13 s => CondP v13 (Bo P .add 3 false true v9 (.int .i64 1) (fun v14 s => N2 v14 x4 s) s) (N2 x3 v9 s)) s) s) s) s) s) s) s) s) (Bo P .lss 3 false false x3 v1 (fun v15 s => J1 (fun A16 => Grd v15 true (Ia P 164 a0 x3 (fun v18 s => Ld P 185 v18 (fun v19 s => Dy P a2 #[v19, a1] (fun v20 s => Bo P .eql 3 false true v20 (.int .i64 0) (fun v21 s => A16 v21 s) s) s) s) s) (A16 undef s)) (fun x17 s => Pk P v15 x17 (.bool false) (fun v22 s => Ret P (fun w => K (.tuple #[x3, v22]) w) s) s)) s)) s)) s
theorem s195 {a0 a1 a2 : Value} (h : D195 a0 a1 a2 (fun v w' => K v ⟨w', ds⟩) ⟨w, []⟩) : Cl P 195 #[a0, a1, a2] K ⟨w, ds⟩ := cl_st bodies_ok Tryz.func195 49 [.tmp 6, .tmp 7] h

/-- (*rollcall/book.Book[int]).at$1 -/
def D196 (a0 a1 : Value) (K : Value → World → Prop) (s : St) : Prop :=
  Bx P 185 a0 (fun v1 s => Fa P 185 v1 0 (fun v2 s => Ld P 9 v2 (fun v3 s => Cl P 124 #[v3, a1] (fun v4 s => Ret P (fun w => K v4 w) s) s) s) s) s
theorem s196 {a0 a1 : Value} (h : D196 a0 a1 (fun v w' => K v ⟨w', ds⟩) ⟨w, []⟩) : Cl P 196 #[a0, a1] K ⟨w, ds⟩ := cl_st bodies_ok Tryz.func196 9 [.tmp 4] h

/-- (*rollcall/wish.Lists).By -/
def D199 (a0 a1 : Value) (K : Value → World → Prop) (s : St) : Prop :=
  Bo P .eql 36 false true a0 (.pointer none) (fun v1 s => CondP v1 (Ret P (fun w => K (.func (.func 275) #[] #[]) w) s) (Dw (fun s => Qt (Nc P a0) s fun v2 => Qt (Fa P 110 v2 0) s fun v3 => Qt (Ld P 107 v3) s fun v4 => Cl P 61 #[a1] (fun v5 s => Ck (Nc P a0) v2 s ∧ Ck (Fa P 110 v2 0) v3 s ∧ Ck (Ld P 107 v3) v4 s ∧ (Cl P 276 #[v4, v5] (fun v6 s => Ret P (fun w => K v6 w) s) s)) s) s)) s
theorem s199 {a0 a1 : Value} (h : D199 a0 a1 (fun v w' => K v ⟨w', ds⟩) ⟨w, []⟩) : Cl P 199 #[a0, a1] K ⟨w, ds⟩ := cl_st bodies_ok Tryz.func199 14 [.tmp 4] h

/-- rollcall/reply.Numeric -/
def D200 (a0 a1 a2 a3 : Value) (K : Value → World → Prop) (s : St) : Prop :=
  Bo P .lss 3 false true a1 (.int .i64 1) (fun v1 s => J1 (fun A2 => Grd v1 false (Bo P .gtr 3 false true a1 (.int .i64 999) (fun v4 s => A2 v4 s) s) (A2 undef s)) (fun x3 s => Pk P v1 (.bool true) x3 (fun v5 s => J1 (fun A6 => Grd v5 false (Bi P .len #[134] 3 #[false] #[a3] (fun v8 s => Bo P .gtr 3 false true v8 (.int .i64 14) (fun v9 s => A6 v9 s) s) s) (A6 undef s)) (fun x7 s => Pk P v5 (.bool true) x7 (fun v10 s => CondP v10 (Ret P (fun w => K (.string ⟨#[]⟩) w) s) (J1 (fun A11 => Bo P .eql 9 false true a2 (.string ⟨#[]⟩) (fun v13 s => CondP v13 (A11 (.string ⟨#[42]⟩) s) (A11 a2 s)) s) (fun x12 s => Cl P 277 #[a1] (fun v14 s => Bs P 134 1 #[(0, x12)] (fun v15 s => Bi P .append #[134, 134] 134 #[false, false] #[v15, a3] (fun v16 s => Cl P 107 #[a0, v14, v16] (fun v17 s => Ret P (fun w => K v17 w) s) s) s) s) s))) s)) s)) s
theorem s200 {a0 a1 a2 a3 : Value} (h : D200 a0 a1 a2 a3 (fun v w' => K v ⟨w', ds⟩) ⟨w, []⟩) : Cl P 200 #[a0, a1, a2, a3] K ⟨w, ds⟩ := cl_st bodies_ok Tryz.func200 30 [.tmp 8] h

/-- (*rollcall/timer.Table[int]).At -/
def D202 (a0 a1 : Value) (K : Value → World → Prop) (s : St) : Prop :=
  Bo P .eql 172 false true a0 (.pointer none) (fun v1 s => CondP v1 (Ret P (fun w => K (.tuple #[.int .i64 0, .bool false]) w) s) (Nc P a0 (fun v2 s => Fa P 261 v2 1 (fun v3 s => Ld P 171 v3 (fun v4 s => Lk P 171 v4 a1 true (fun v5 s => Ex P v5 0 (fun v6 s => Ex P v5 1 (fun v7 s => Ret P (fun w => K (.tuple #[v6, v7]) w) s) s) s) s) s) s) s)) s
theorem s202 {a0 a1 : Value} (h : D202 a0 a1 (fun v w' => K v ⟨w', ds⟩) ⟨w, []⟩) : Cl P 202 #[a0, a1] K ⟨w, ds⟩ := cl_st bodies_ok Tryz.func202 21 [.tmp 4, .tmp 5] h

/-- slices.Delete[[]rollcall/timer.item[int],rollcall/timer.item[int]] -/
def D203 (a0 a1 a2 : Value) (K : Value → World → Prop) (s : St) : Prop :=
  Bi P .len #[259] 3 #[false] #[a0] (fun v1 s => Sl P 259 a0 (some a1) (some a2) (some v1) (fun _ s => Bo P .eql 3 false false a1 a2 (fun v3 s => CondP v3 (Ret P (fun w => K a0 w) s) (Bi P .len #[259] 3 #[false] #[a0] (fun v4 s => Dw (fun s => Qt (Sl P 259 a0 none (some a1) none) s fun v5 => Qt (Sl P 259 a0 (some a2) none none) s fun v6 => Bi P .append #[259, 259] 259 #[false, false] #[v5, v6] (fun v7 s => Bi P .len #[259] 3 #[false] #[v7] (fun v8 s => Sl P 259 v7 (some v8) (some v4) none (fun v9 s => Bi P .clear #[259] 0 #[false] #[v9] (fun _ s => Ret P (fun w => K v7 w) s) s) s) s) s) s) s)) s) s) s
theorem s203 {a0 a1 a2 : Value} (h : D203 a0 a1 a2 (fun v w' => K v ⟨w', ds⟩) ⟨w, []⟩) : Cl P 203 #[a0, a1, a2] K ⟨w, ds⟩ := cl_st bodies_ok Tryz.func203 33 [.tmp 6] h

/-- (*rollcall/set.Set[string]).Has -/
def D204 (a0 a1 : Value) (K : Value → World → Prop) (s : St) : Prop :=
  Bo P .eql 257 false true a0 (.pointer none) (fun v1 s => CondP v1 (Ret P (fun w => K (.bool false) w) s) (Nc P a0 (fun v2 s => Fa P 330 v2 0 (fun v3 s => Ld P 134 v3 (fun v4 s => Cl P 279 #[v4, a1] (fun v5 s => Ex P v5 0 (fun _ s => Ex P v5 1 (fun v7 s => Ret P (fun w => K v7 w) s) s) s) s) s) s) s)) s
theorem s204 {a0 a1 : Value} (h : D204 a0 a1 (fun v w' => K v ⟨w', ds⟩) ⟨w, []⟩) : Cl P 204 #[a0, a1] K ⟨w, ds⟩ := cl_st bodies_ok Tryz.func204 19 [.tmp 4] h

/-- rollcall/set.Of[string] -/
def D205 (a0 : Value) (K : Value → World → Prop) (s : St) : Prop :=
  Bd P 330 #[] (fun v1 s => Bx P 330 v1 (fun v2 s => Cl P 206 #[v2, a0] (fun _ s => Ret P (fun w => K v2 w) s) s) s) s
theorem s205 {a0 : Value} (h : D205 a0 (fun v w' => K v ⟨w', ds⟩) ⟨w, []⟩) : Cl P 205 #[a0] K ⟨w, ds⟩ := cl_st bodies_ok Tryz.func205 10 [.tmp 2] h

/-- (*rollcall/set.Set[string]).Add -/
def D206 (a0 a1 : Value) (K : Value → World → Prop) (s : St) : Prop :=
  Bo P .eql 257 false true a0 (.pointer none) (fun v1 s => CondP v1 (Ret P (fun w => K (.int .i64 0) w) s) (Bi P .len #[134] 3 #[false] #[a1] (fun v2 s => L2 (.int .i64 0) (.int .i64 0) s (fun N3 x4 x5 s => Bo P .lss 3 false false x5 v2 (fun v6 s => CondP v6 (J1 (fun A7 => Ia P 134 a1 x5 (fun v9 s => Ld P 9 v9 (fun v10 s => Nc P a0 (fun v11 s => Fa P 330 v11 0 (fun v12 s => Ld P 134 v12 (fun v13 s => Cl P 279 #[v13, v10] (fun v14 s => Ex P v14 0 (fun v15 s => Ex P v14 1 (fun v16 s => Uo P .not v16 (fun v17 s => CondP v17 (Nc P a0 (fun v18 s => Fa P 330 v18 0 (fun v19 s => Ld P 134 v19 (fun v20 s => Bs P 134 1 #[(0, v10)] (fun v21 s => Cl P 280 #[v20, v15, v21] (fun v22 s => Nc P a0 (fun v23 s => Fa P 330 v23 0 (fun v24 s => Sv P 134 v24 v22 (fun _ s => Bo P .add 3 false true x4 (.int .i64 1) (fun v25 s => A7 v25 s) s) s) s) s) s) s) s) s) s) (A7 x4 s)) s) s) s) s) s) s) s) s) s) (fun x8 s => Bo P .add 3 false true x5 (.int .i64 1) (fun v26 s => N3 x8 v26 s) s)) (Ret P (fun w => K x4 w) s)) s)) s)) s
theorem s206 {a0 a1 : Value} (h : D206 a0 a1 (fun v w' => K v ⟨w', ds⟩) ⟨w, []⟩) : Cl P 206 #[a0, a1] K ⟨w, ds⟩ := cl_st bodies_ok Tryz.func206 44 [.tmp 4] h

/-- strings.IndexByte -/
def D207 (a0 a1 : Value) (K : Value → World → Prop) (s : St) : Prop :=
  Cl P 281 #[a0, a1] (fun v1 s => Ret P (fun w => K v1 w) s) s
theorem s207 {a0 a1 : Value} (h : D207 a0 a1 (fun v w' => K v ⟨w', ds⟩) ⟨w, []⟩) : Cl P 207 #[a0, a1] K ⟨w, ds⟩ := cl_st bodies_ok Tryz.func207 8 [.tmp 4] h

/-- rollcall/rollcallref03.Digit -/
def D208 (a0 : Value) (K : Value → World → Prop) (s : St) : Prop :=
  Bo P .geq 5 false true a0 (byteV 48) (fun v1 s => J1 (fun A2 => Grd v1 true (Bo P .leq 5 false true a0 (byteV 57) (fun v4 s => A2 v4 s) s) (A2 undef s)) (fun x3 s => Pk P v1 x3 (.bool false) (fun v5 s => Ret P (fun w => K v5 w) s) s)) s
theorem s208 {a0 : Value} (h : D208 a0 (fun v w' => K v ⟨w', ds⟩) ⟨w, []⟩) : Cl P 208 #[a0] K ⟨w, ds⟩ := cl_st bodies_ok Tryz.func208 9 [.tmp 2] h

/-- rollcall/rollcallref01.Num -/
def D213 (a0 : Value) (K : Value → World → Prop) (s : St) : Prop :=
  Bo P .geq 3 false true a0 (.int .i64 0) (fun v1 s => CondP v1 (Cl P 10 #[a0] (fun v2 s => Ret P (fun w => K v2 w) s) s) (Bo P .gtr 3 false true a0 (.int .i64 (-10)) (fun v3 s => CondP v3 (Uo P .neg a0 (fun v4 s => Cl P 10 #[v4] (fun v5 s => Bo P .add 9 true false (.string ⟨#[45]⟩) v5 (fun v6 s => Ret P (fun w => K v6 w) s) s) s) s) (Bo P .quo 3 false true a0 (.int .i64 10) (fun v7 s => Cl P 213 #[v7] (fun v8 s => Bo P .rem 3 false true a0 (.int .i64 10) (fun v9 s => Uo P .neg v9 (fun v10 s => Cl P 10 #[v10] (fun v11 s => Bo P .add 9 false false v8 v11 (fun v12 s => Ret P (fun w => K v12 w) s) s) s) s) s) s) s)) s)) s
theorem s213 {a0 : Value} (h : D213 a0 (fun v w' => K v ⟨w', ds⟩) ⟨w, []⟩) : Cl P 213 #[a0] K ⟨w, ds⟩ := cl_st bodies_ok Tryz.func213 21 [.tmp 2] h

/-- rollcall/rollcallref03.Clean -/
def D219 (a0 a1 : Value) (K : Value → World → Prop) (s : St) : Prop :=
  L2 (.string ⟨#[]⟩) (.int .i64 0) s (fun N1 x2 x3 s => Bi P .len #[9] 3 #[false] #[a0] (fun v4 s => Bo P .lss 3 false false x3 v4 (fun v5 s => CondP v5 (J1 (fun A6 => Ix P 9 a0 x3 (fun v8 s => Bo P .neq 5 false true v8 (byteV 0) (fun v9 s => J1 (fun A10 => Grd v9 true (Ix P 9 a0 x3 (fun v12 s => Bo P .neq 5 false true v12 (byteV 10) (fun v13 s => A10 v13 s) s) s) (A10 undef s)) (fun x11 s => Pk P v9 x11 (.bool false) (fun v14 s => J1 (fun A15 => Grd v14 true (Ix P 9 a0 x3 (fun v17 s => Bo P .neq 5 false true v17 (byteV 13) (fun v18 s => A15 v18 s) s) s) (A15 undef s)) (fun x16 s => Pk P v14 x16 (.bool false) (fun v19 s => J1 (fun A20 => Grd v19 true (Bi P .len #[9] 3 #[false] #[x2] (fun v22 s => Bo P .lss 3 false false v22 a1 (fun v23 s => A20 v23 s) s) s) (A20 undef s)) (fun x21 s => Pk P v19 x21 (.bool false) (fun v24 s => CondP v24 (Bo P .add 3 false true x3 (.int .i64 1) (fun v25 s => Sl P 9 a0 (some x3) (some v25) none (fun v26 s => Bo P .add 9 false false x2 v26 (fun v27 s => A6 v27 s) s) s) s) (A6 x2 s)) s)) s)) s)) s) s) (fun x7 s => Bo P .add 3 false true x3 (.int .i64 1) (fun v28 s => N1 x7 v28 s) s)) (Ret P (fun w => K x2 w) s)) s) s)
theorem s219 {a0 a1 : Value} (h : D219 a0 a1 (fun v w' => K v ⟨w', ds⟩) ⟨w, []⟩) : Cl P 219 #[a0, a1] K ⟨w, ds⟩ := cl_st bodies_ok Tryz.func219 43 [.tmp 4] h

/-- (*rollcall/frame.Framer).push -/
def D225 (a0 a1 : Value) (K : Value → World → Prop) (s : St) : Prop :=
  Al P 205 (fun v1 s => Bo P .neq 5 false true a1 (byteV 13) (fun v2 s => J1 (fun A3 => Grd v2 true (Bo P .neq 5 false true a1 (byteV 10) (fun v5 s => A3 v5 s) s) (A3 undef s)) (fun x4 s => Pk P v2 x4 (.bool false) (fun v6 s => CondP v6 (J0 (fun A7 => Nc P a0 (fun v8 s => Fa P 182 v8 0 (fun v9 s => Ld P 22 v9 (fun v10 s => Bi P .len #[22] 3 #[false] #[v10] (fun v11 s => Bo P .eql 3 false true v11 (.int .i64 510) (fun v12 s => CondP v12 (Nc P a0 (fun v13 s => Fa P 182 v13 1 (fun v14 s => Sv P 4 v14 (.bool true) (fun _ s => A7 s) s) s) s) (A7 s)) s) s) s) s) s) (fun s => J0 (fun A15 => Nc P a0 (fun v16 s => Fa P 182 v16 1 (fun v17 s => Ld P 4 v17 (fun v18 s => Uo P .not v18 (fun v19 s => CondP v19 (Nc P a0 (fun v20 s => Fa P 182 v20 0 (fun v21 s => Ld P 22 v21 (fun v22 s => Bs P 22 1 #[(0, a1)] (fun v23 s => Bi P .append #[22, 22] 22 #[false, false] #[v22, v23] (fun v24 s => Nc P a0 (fun v25 s => Fa P 182 v25 0 (fun v26 s => Sv P 22 v26 v24 (fun _ s => A15 s) s) s) s) s) s) s) s) s) (A15 s)) s) s) s) s) (fun s => Bd P 205 #[] (fun v27 s => Sv P 205 v1 v27 (fun _ s => Ret P (fun w => LdR P 205 v1 w fun v28 => K (.tuple #[v28, .bool false]) w) s) s) s))) (Nc P a0 (fun v29 s => Fa P 182 v29 1 (fun v30 s => Ld P 4 v30 (fun v31 s => Bd P 205 #[(1, v31)] (fun v32 s => Al P 205 (fun v33 s => Sv P 205 v33 v32 (fun _ s => J0 (fun A34 => Nc P a0 (fun v35 s => Fa P 182 v35 1 (fun v36 s => Ld P 4 v36 (fun v37 s => Uo P .not v37 (fun v38 s => CondP v38 (Nc P a0 (fun v39 s => Fa P 182 v39 0 (fun v40 s => Ld P 22 v40 (fun v41 s => Cv P 22 9 v41 (fun v42 s => Fa P 205 v33 0 (fun v43 s => Sv P 9 v43 v42 (fun _ s => A34 s) s) s) s) s) s) s) (A34 s)) s) s) s) s) (fun s => Nc P a0 (fun v44 s => Fa P 182 v44 0 (fun v45 s => Ld P 22 v45 (fun v46 s => Sl P 22 v46 none (some (.int .i64 0)) none (fun v47 s => Nc P a0 (fun v48 s => Fa P 182 v48 0 (fun v49 s => Sv P 22 v49 v47 (fun _ s => Nc P a0 (fun v50 s => Fa P 182 v50 1 (fun v51 s => Sv P 4 v51 (.bool false) (fun _ s => J1 (fun A52 => Dw (fun s => Qt (Ld P 205 v33) s fun v54 => Qt (Fa P 205 v33 1) s fun v55 => Qt (Ld P 4 v55) s fun v56 => Grd v56 false (Qt (Fa P 205 v33 0) s fun v57 => Qt (Ld P 9 v57) s fun v58 => Qt (Bo P .neq 9 false true v58 (.string ⟨#[]⟩)) s fun v59 => Qt (Pk P v56 (.bool true) v59) s fun v60 => Sv P 205 v1 v54 (fun _ s => Ck (Fa P 205 v33 0) v57 s ∧ Ck (Ld P 9 v57) v58 s ∧ Ck (Bo P .neq 9 false true v58 (.string ⟨#[]⟩)) v59 s ∧ Ck (Pk P v56 (.bool true) v59) v60 s ∧ (A52 v60 s)) s) (Qt (Pk P v56 (.bool true) undef) s fun v61 => Sv P 205 v1 v54 (fun _ s => Ck (Pk P v56 (.bool true) undef) v61 s ∧ (A52 v61 s)) s)) s) (fun x53 s => Ret P (fun w => LdR P 205 v1 w fun v62 => K (.tuple #[v62, x53]) w) s)) s) s) s) s) s) s) s) s) s) s)) s) s) s) s) s) s)) s)) s) s
theorem s225 {a0 a1 : Value} (h : D225 a0 a1 (fun v w' => K v ⟨w', ds⟩) ⟨w, []⟩) : Cl P 225 #[a0, a1] K ⟨w, ds⟩ := cl_st bodies_ok Tryz.func225 73 [.cell 4 205, .tmp 5] h

/-- (*rollcall/timer.Table[int]).Due -/
def D227 (a0 a1 : Value) (K : Value → World → Prop) (s : St) : Prop :=
  Al P 259 (fun v1 s => J0 (fun A2 => Bo P .neq 172 false true a0 (.pointer none) (fun v3 s => CondP v3 (L1 (.int .i64 0) s (fun N4 x5 s => Nc P a0 (fun v6 s => Fa P 261 v6 0 (fun v7 s => Ld P 259 v7 (fun v8 s => Bi P .len #[259] 3 #[false] #[v8] (fun v9 s => Bo P .lss 3 false false x5 v9 (fun v10 s => J1 (fun A11 => Grd v10 true (Nc P a0 (fun v13 s => Fa P 261 v13 0 (fun v14 s => Ld P 259 v14 (fun v15 s => Ia P 259 v15 x5 (fun v16 s => Fa P 266 v16 1 (fun v17 s => Ld P 3 v17 (fun v18 s => Bo P .leq 3 false false v18 a1 (fun v19 s => A11 v19 s) s) s) s) s) s) s) s) (A11 undef s)) (fun x12 s => Pk P v10 x12 (.bool false) (fun v20 s => CondP v20 (Bo P .add 3 false true x5 (.int .i64 1) (fun v21 s => N4 v21 s) s) (Nc P a0 (fun v22 s => Fa P 261 v22 0 (fun v23 s => Ld P 259 v23 (fun v24 s => Sl P 259 v24 none (some x5) none (fun v25 s => Cl P 288 #[v25] (fun v26 s => Sv P 259 v1 v26 (fun _ s => A2 s) s) s) s) s) s) s)) s)) s) s) s) s) s)) (A2 s)) s) (fun s => Mf P (.func 289) #[] #[v1] (fun v27 s => Ret P (fun w => K v27 w) s) s)) s
theorem s227 {a0 a1 : Value} (h : D227 a0 a1 (fun v w' => K v ⟨w', ds⟩) ⟨w, []⟩) : Cl P 227 #[a0, a1] K ⟨w, ds⟩ := cl_st bodies_ok Tryz.func227 38 [.tmp 4] h

/-- (*rollcall/timer.Table[int]).Take -/
def D228 (a0 a1 : Value) (K : Value → World → Prop) (s : St) : Prop :=
  Bx P 172 a0 (fun v1 s => Al P 64 (fun v2 s => Ld P 172 v1 (fun v3 s => Cl P 227 #[v3, a1] (fun v4 s => Rf P none 2 v4 (fun l5 as6 R7 s => Bg P l5 (fun s => Ld P 64 v2 (fun v9 s => Bs P 64 1 #[(0, as6.headD undef)] (fun v10 s => Bi P .append #[64, 64] 64 #[false, false] #[v9, v10] (fun v11 s => Sv P 64 v2 v11 (fun _ s => Ld P 172 v1 (fun v12 s => Cl P 127 #[v12, as6.headD undef] (fun _ s => Er P l5 none R7 s) s) s) s) s) s) s) s) (fun s => Ld P 64 v2 (fun v14 s => Ret P (fun w => K v14 w) s) s) (fun s => Ret P (fun w => K (.slice none 0 0) w) s) (fun i8 s => False) s) s) s) s) s
theorem s228 {a0 a1 : Value} (h : D228 a0 a1 (fun v w' => K v ⟨w', ds⟩) ⟨w, []⟩) : Cl P 228 #[a0, a1] K ⟨w, ds⟩ := cl_st bodies_ok Tryz.func228 20 [.tmp 4] h

/-- maps.Keys[map[int]int,int,int] -/
def D229 (a0 : Value) (K : Value → World → Prop) (s : St) : Prop :=
  Bx P 171 a0 (fun v1 s => Mf P (.func 290) #[] #[v1] (fun v2 s => Ret P (fun w => K v2 w) s) s) s
theorem s229 {a0 : Value} (h : D229 a0 (fun v w' => K v ⟨w', ds⟩) ⟨w, []⟩) : Cl P 229 #[a0] K ⟨w, ds⟩ := cl_st bodies_ok Tryz.func229 4 [.tmp 2] h

/-- rollcall/room.New -/
def D232 (a0 a1 : Value) (K : Value → World → Prop) (s : St) : Prop :=
  Cl P 171 #[.slice none 0 0] (fun v1 s => Bd P 313 #[(0, a0), (1, a1), (4, .int .i64 20), (8, v1)] (fun v2 s => Bx P 313 v2 (fun v3 s => Ret P (fun w => K v3 w) s) s) s) s
theorem s232 {a0 a1 : Value} (h : D232 a0 a1 (fun v w' => K v ⟨w', ds⟩) ⟨w, []⟩) : Cl P 232 #[a0, a1] K ⟨w, ds⟩ := cl_st bodies_ok Tryz.func232 10 [.tmp 4] h

/-- slices.Collect[int] -/
def D239 (a0 : Value) (K : Value → World → Prop) (s : St) : Prop :=
  Cl P 297 #[.slice none 0 0, a0] (fun v1 s => Ret P (fun w => K v1 w) s) s
theorem s239 {a0 : Value} (h : D239 a0 (fun v w' => K v ⟨w', ds⟩) ⟨w, []⟩) : Cl P 239 #[a0] K ⟨w, ds⟩ := cl_st bodies_ok Tryz.func239 5 [.tmp 2] h

/-- slices.Sort[[]int,int] -/
def D240 (a0 : Value) (K : Value → World → Prop) (s : St) : Prop :=
  Bi P .len #[64] 3 #[false] #[a0] (fun v1 s => Cv P 3 331 v1 (fun v2 s => Cl P 299 #[v2] (fun v3 s => Cl P 298 #[a0, .int .i64 0, v1, v3] (fun _ s => Ret P (fun w => K (.tuple #[]) w) s) s) s) s) s
theorem s240 {a0 : Value} (h : D240 a0 (fun v w' => K v ⟨w', ds⟩) ⟨w, []⟩) : Cl P 240 #[a0] K ⟨w, ds⟩ := cl_st bodies_ok Tryz.func240 11 [] h

/-- slices.Values[[]int,int]$1 -/
def D242 (a0 a1 : Value) (K : Value → World → Prop) (s : St) : Prop :=
  Ld P 64 a1 (fun v1 s => Bi P .len #[64] 3 #[false] #[v1] (fun v2 s => L1 (.int .i64 0) s (fun N3 x4 s => Bo P .lss 3 false false x4 v2 (fun v5 s => CondP v5 (Ia P 64 v1 x4 (fun v6 s => Ld P 3 v6 (fun v7 s => Dy P a0 #[v7] (fun v8 s => Uo P .not v8 (fun v9 s => CondP v9 (Ret P (fun w => K (.tuple #[]) w) s) (Bo P .add 3 false true x4 (.int .i64 1) (fun v10 s => N3 v10 s) s)) s) s) s) s) (Ret P (fun w => K (.tuple #[]) w) s)) s)) s) s
theorem s242 {a0 a1 : Value} (h : D242 a0 a1 (fun v w' => K v ⟨w', ds⟩) ⟨w, []⟩) : Cl P 242 #[a0, a1] K ⟨w, ds⟩ := cl_st bodies_ok Tryz.func242 16 [] h

/-- rollcall/rollcallref10.Has -/
def D243 (a0 a1 : Value) (K : Value → World → Prop) (s : St) : Prop :=
  L1 (.int .i64 0) s (fun N1 x2 s => Bi P .len #[64] 3 #[false] #[a0] (fun v3 s => Bo P .lss 3 false false x2 v3 (fun v4 s => CondP v4 (Ia P 64 a0 x2 (fun v5 s => Ld P 3 v5 (fun v6 s => Bo P .eql 3 false false v6 a1 (fun v7 s => CondP v7 (Ret P (fun w => K (.bool true) w) s) (Bo P .add 3 false true x2 (.int .i64 1) (fun v8 s => N1 v8 s) s)) s) s) s) (Ret P (fun w => K (.bool false) w) s)) s) s)
theorem s243 {a0 a1 : Value} (h : D243 a0 a1 (fun v w' => K v ⟨w', ds⟩) ⟨w, []⟩) : Cl P 243 #[a0, a1] K ⟨w, ds⟩ := cl_st bodies_ok Tryz.func243 18 [.tmp 4] h

/-- rollcall/rollcallref01.Byte -/
def D244 (a0 : Value) (K : Value → World → Prop) (s : St) : Prop :=
  L1 (.int .i64 0) s (fun N1 x2 s => Bi P .len #[9] 3 #[false] #[.string ⟨#[65, 66, 67, 68, 69, 70, 71, 72, 73, 74, 75, 76, 77, 78, 79, 80, 81, 82, 83, 84, 85, 86, 87, 88, 89, 90, 91, 93, 92, 126]⟩] (fun v3 s => Bo P .lss 3 false false x2 v3 (fun v4 s => CondP v4 (Ix P 9 (.string ⟨#[65, 66, 67, 68, 69, 70, 71, 72, 73, 74, 75, 76, 77, 78, 79, 80, 81, 82, 83, 84, 85, 86, 87, 88, 89, 90, 91, 93, 92, 126]⟩) x2 (fun v5 s => Bo P .eql 5 false false v5 a0 (fun v6 s => CondP v6 (Ix P 9 (.string ⟨#[97, 98, 99, 100, 101, 102, 103, 104, 105, 106, 107, 108, 109, 110, 111, 112, 113, 114, 115, 116, 117, 118, 119, 120, 121, 122, 123, 125, 124, 94]⟩) x2 (fun v7 s => Ret P (fun w => K v7 w) s) s) (Bo P .add 3 false true x2 (.int .i64 1) (fun v8 s => N1 v8 s) s)) s) s) (Ret P (fun w => K a0 w) s)) s) s)
theorem s244 {a0 : Value} (h : D244 a0 (fun v w' => K v ⟨w', ds⟩) ⟨w, []⟩) : Cl P 244 #[a0] K ⟨w, ds⟩ := cl_st bodies_ok Tryz.func244 21 [.tmp 2] h

/-- slices.BinarySearch[[]int,int] -/
def D250 (a0 a1 : Value) (K : Value → World → Prop) (s : St) : Prop :=
  Bi P .len #[64] 3 #[false] #[a0] (fun v1 s => L2 (.int .i64 0) v1 s (fun N2 x3 x4 s => Bo P .lss 3 false false x3 x4 (fun v5 s => CondP v5 (Bo P .add 3 false false x3 x4 (fun v6 s => Cv P 3 331 v6 (fun v7 s => Bo P .shr 331 false true v7 (.int .u64 1) (fun v8 s => Cv P 331 3 v8 (fun v9 s => Ia P 64 a0 v9 (fun v10 s => Ld P 3 v10 (fun v11 s => Cl P 303 #[v11, a1] (fun v12 s => CondP v12 (Bo P .add 3 false true v9 (.int .i64 1) (fun v13 s => N2 v13 x4 s) s) (N2 x3 v9 s)) s) s) s) s) s) s) s) (Bo P .lss 3 false false x3 v1 (fun v14 s => J1 (fun A15 => Grd v14 true (Ia P 64 a0 x3 (fun v17 s => Ld P 3 v17 (fun v18 s => Bo P .eql 3 false false v18 a1 (fun v19 s => A15 v19 s) s) s) s) (A15 undef s)) (fun x16 s => J1 (fun A20 => Grd x16 false (Ia P 64 a0 x3 (fun v22 s => Ld P 3 v22 (fun v23 s => Cl P 304 #[v23] (fun v24 s => A20 v24 s) s) s) s) (A20 undef s)) (fun x21 s => J1 (fun A25 => Grd x21 true (Cl P 304 #[a1] (fun v27 s => A25 v27 s) s) (A25 undef s)) (fun x26 s => J1 (fun A28 => Grd x16 false (Pk P x21 x26 (.bool false) (fun v30 s => A28 v30 s) s) (A28 undef s)) (fun x29 s => J1 (fun A31 => Grd v14 true (Pk P x16 (.bool true) x29 (fun v33 s => A31 v33 s) s) (A31 undef s)) (fun x32 s => Pk P v14 x32 (.bool false) (fun v34 s => Ret P (fun w => K (.tuple #[x3, v34]) w) s) s)))))) s)) s)) s
theorem s250 {a0 a1 : Value} (h : D250 a0 a1 (fun v w' => K v ⟨w', ds⟩) ⟨w, []⟩) : Cl P 250 #[a0, a1] K ⟨w, ds⟩ := cl_st bodies_ok Tryz.func250 54 [.tmp 4, .tmp 5] h

/-- slices.Insert[[]int,int] -/
def D251 (a0 a1 a2 : Value) (K : Value → World → Prop) (s : St) : Prop :=
  Sl P 64 a0 (some a1) none none (fun _ s => Bi P .len #[64] 3 #[false] #[a2] (fun v2 s => Bo P .eql 3 false true v2 (.int .i64 0) (fun v3 s => CondP v3 (Ret P (fun w => K a0 w) s) (Bi P .len #[64] 3 #[false] #[a0] (fun v4 s => Bo P .eql 3 false false a1 v4 (fun v5 s => CondP v5 (Bi P .append #[64, 64] 64 #[false, false] #[a0, a2] (fun v6 s => Ret P (fun w => K v6 w) s) s) (Bo P .add 3 false false v4 v2 (fun v7 s => Bi P .cap #[64] 3 #[false] #[a0] (fun v8 s => Bo P .gtr 3 false false v7 v8 (fun v9 s => CondP v9 (Sl P 64 a0 none (some a1) none (fun v10 s => Bo P .add 3 false false v4 v2 (fun v11 s => Bo P .sub 3 false false v11 a1 (fun v12 s => Bi P .append #[64, 3] 64 #[false, false] #[v10, v12] (fun v13 s => Sl P 64 v13 (some a1) none none (fun v14 s => Bi P .copy #[64, 64] 3 #[false, false] #[v14, a2] (fun _ s => Dw (fun s => Qt (Bo P .add 3 false false a1 v2) s fun v16 => Qt (Sl P 64 v13 (some v16) none none) s fun v17 => Qt (Sl P 64 a0 (some a1) none none) s fun v18 => Bi P .copy #[64, 64] 3 #[false, false] #[v17, v18] (fun _ s => Ret P (fun w => K v13 w) s) s) s) s) s) s) s) s) s) (Bo P .add 3 false false v4 v2 (fun v20 s => Sl P 64 a0 none (some v20) none (fun v21 s => Bo P .add 3 false false a1 v2 (fun v22 s => Sl P 64 v21 (some v22) none none (fun v23 s => Dy P (.func (.func 305) #[] #[]) #[a2, v23] (fun v24 s => Uo P .not v24 (fun v25 s => CondP v25 (Dw (fun s => Qt (Bo P .add 3 false false a1 v2) s fun v26 => Qt (Sl P 64 v21 (some v26) none none) s fun v27 => Qt (Sl P 64 v21 (some a1) none none) s fun v28 => Bi P .copy #[64, 64] 3 #[false, false] #[v27, v28] (fun _ s => Sl P 64 v21 (some a1) none none (fun v30 s => Bi P .copy #[64, 64] 3 #[false, false] #[v30, a2] (fun _ s => Ret P (fun w => K v21 w) s) s) s) s) s) (Sl P 64 v21 (some v4) none none (fun v32 s => Bi P .copy #[64, 64] 3 #[false, false] #[v32, a2] (fun _ s => Sl P 64 v21 (some a1) none none (fun v34 s => Cl P 306 #[v34, v2] (fun _ s => Ret P (fun w => K v21 w) s) s) s) s) s)) s) s) s) s) s) s)) s) s) s)) s) s)) s) s) s
theorem s251 {a0 a1 a2 : Value} (h : D251 a0 a1 a2 (fun v w' => K v ⟨w', ds⟩) ⟨w, []⟩) : Cl P 251 #[a0, a1, a2] K ⟨w, ds⟩ := cl_st bodies_ok Tryz.func251 95 [.tmp 6] h

/-- (*rollcall/set.Set[int]).List -/
def D253 (a0 : Value) (K : Value → World → Prop) (s : St) : Prop :=
  Bo P .eql 236 false true a0 (.pointer none) (fun v1 s => CondP v1 (Ret P (fun w => K (.slice none 0 0) w) s) (Nc P a0 (fun v2 s => Fa P 308 v2 0 (fun v3 s => Ld P 64 v3 (fun v4 s => Cl P 307 #[v4] (fun v5 s => Ret P (fun w => K v5 w) s) s) s) s) s)) s
theorem s253 {a0 : Value} (h : D253 a0 (fun v w' => K v ⟨w', ds⟩) ⟨w, []⟩) : Cl P 253 #[a0] K ⟨w, ds⟩ := cl_st bodies_ok Tryz.func253 10 [.tmp 2] h

/-- slices.Clone[[][]int,[]int] -/
def D255 (a0 : Value) (K : Value → World → Prop) (s : St) : Prop :=
  Bo P .eql 316 false true a0 (.slice none 0 0) (fun v1 s => CondP v1 (Ret P (fun w => K (.slice none 0 0) w) s) (Bs P 316 0 #[] (fun v2 s => Bi P .append #[316, 316] 316 #[false, false] #[v2, a0] (fun v3 s => Ret P (fun w => K v3 w) s) s) s)) s
theorem s255 {a0 : Value} (h : D255 a0 (fun v w' => K v ⟨w', ds⟩) ⟨w, []⟩) : Cl P 255 #[a0] K ⟨w, ds⟩ := cl_st bodies_ok Tryz.func255 8 [.tmp 2] h

/-- strings.Replace -/
def D256 (a0 a1 a2 a3 : Value) (K : Value → World → Prop) (s : St) : Prop :=
  Bo P .eql 9 false false a1 a2 (fun v1 s => J1 (fun A2 => Grd v1 false (Bo P .eql 3 false true a3 (.int .i64 0) (fun v4 s => A2 v4 s) s) (A2 undef s)) (fun x3 s => Pk P v1 (.bool true) x3 (fun v5 s => CondP v5 (Ret P (fun w => K a0 w) s) (J1 (fun A6 => Cl P 308 #[a0, a1] (fun v8 s => Bo P .eql 3 false true v8 (.int .i64 0) (fun v9 s => CondP v9 (Ret P (fun w => K a0 w) s) (Bo P .lss 3 false true a3 (.int .i64 0) (fun v10 s => J1 (fun A11 => Grd v10 false (Bo P .lss 3 false false v8 a3 (fun v13 s => A11 v13 s) s) (A11 undef s)) (fun x12 s => Pk P v10 (.bool true) x12 (fun v14 s => CondP v14 (A6 v8 s) (A6 a3 s)) s)) s)) s) s) (fun x7 s => Al P 321 (fun v15 s => Bi P .len #[9] 3 #[false] #[a0] (fun v16 s => Bi P .len #[9] 3 #[false] #[a2] (fun v17 s => Bi P .len #[9] 3 #[false] #[a1] (fun v18 s => Bo P .sub 3 false false v17 v18 (fun v19 s => Bo P .mul 3 false false x7 v19 (fun v20 s => Bo P .add 3 false false v16 v20 (fun v21 s => Cl P 309 #[v15, v21] (fun _ s => J1 (fun A23 => Bi P .len #[9] 3 #[false] #[a1] (fun v25 s => Bo P .gtr 3 false true v25 (.int .i64 0) (fun v26 s => CondP v26 (L2 (.int .i64 0) (.int .i64 0) s (fun N27 x28 x29 s => Bo P .lss 3 false false x29 x7 (fun v30 s => CondP v30 (Sl P 9 a0 (some x28) none none (fun v31 s => Cl P 310 #[v31, a1] (fun v32 s => Bo P .add 3 false false x28 v32 (fun v33 s => Sl P 9 a0 (some x28) (some v33) none (fun v34 s => Cl P 261 #[v15, v34] (fun _ s => Cl P 261 #[v15, a2] (fun _ s => Bi P .len #[9] 3 #[false] #[a1] (fun v37 s => Bo P .add 3 false false v33 v37 (fun v38 s => Bo P .add 3 false true x29 (.int .i64 1) (fun v39 s => N27 v38 v39 s) s) s) s) s) s) s) s) s) s) (A23 x28 s)) s)) (Cl P 261 #[v15, a2] (fun _ s => Bo P .sub 3 false true x7 (.int .i64 1) (fun v41 s => L2 (.int .i64 0) (.int .i64 0) s (fun N42 x43 x44 s => Bo P .lss 3 false false x44 v41 (fun v45 s => CondP v45 (Sl P 9 a0 (some x43) none none (fun v46 s => Cl P 311 #[v46] (fun v47 s => Ex P v47 0 (fun _ s => Ex P v47 1 (fun v49 s => Bo P .add 3 false false x43 v49 (fun v50 s => Sl P 9 a0 (some x43) (some v50) none (fun v51 s => Cl P 261 #[v15, v51] (fun _ s => Cl P 261 #[v15, a2] (fun _ s => Bo P .add 3 false true x44 (.int .i64 1) (fun v54 s => N42 v50 v54 s) s) s) s) s) s) s) s) s) s) (A23 x43 s)) s)) s) s)) s) s) (fun x24 s => Sl P 9 a0 (some x24) none none (fun v55 s => Cl P 261 #[v15, v55] (fun _ s => Cl P 259 #[v15] (fun v57 s => Ret P (fun w => K v57 w) s) s) s) s)) s) s) s) s) s) s) s) s))) s)) s
theorem s256 {a0 a1 a2 a3 : Value} (h : D256 a0 a1 a2 a3 (fun v w' => K v ⟨w', ds⟩) ⟨w, []⟩) : Cl P 256 #[a0, a1, a2, a3] K ⟨w, ds⟩ := cl_st bodies_ok Tryz.func256 104 [.tmp 8] h

/-- (*strings.Builder).Len -/
def D257 (a0 : Value) (K : Value → World → Prop) (s : St) : Prop :=
  Nc P a0 (fun v1 s => Fa P 321 v1 1 (fun v2 s => Ld P 22 v2 (fun v3 s => Bi P .len #[22] 3 #[false] #[v3] (fun v4 s => Ret P (fun w => K v4 w) s) s) s) s) s
theorem s257 {a0 : Value} (h : D257 a0 (fun v w' => K v ⟨w', ds⟩) ⟨w, []⟩) : Cl P 257 #[a0] K ⟨w, ds⟩ := cl_st bodies_ok Tryz.func257 8 [.tmp 2] h

/-- (*strings.Builder).WriteByte -/
def D258 (a0 a1 : Value) (K : Value → World → Prop) (s : St) : Prop :=
  Cl P 312 #[a0] (fun _ s => Nc P a0 (fun v2 s => Fa P 321 v2 1 (fun v3 s => Ld P 22 v3 (fun v4 s => Bs P 22 1 #[(0, a1)] (fun v5 s => Bi P .append #[22, 22] 22 #[false, false] #[v4, v5] (fun v6 s => Nc P a0 (fun v7 s => Fa P 321 v7 1 (fun v8 s => Sv P 22 v8 v6 (fun _ s => Ret P (fun w => K (.nilIface) w) s) s) s) s) s) s) s) s) s) s
theorem s258 {a0 a1 : Value} (h : D258 a0 a1 (fun v w' => K v ⟨w', ds⟩) ⟨w, []⟩) : Cl P 258 #[a0, a1] K ⟨w, ds⟩ := cl_st bodies_ok Tryz.func258 17 [.tmp 4] h

/-- (*strings.Builder).String -/
def D259 (a0 : Value) (K : Value → World → Prop) (s : St) : Prop :=
  Dw (fun s => Qt (Nc P a0) s fun v1 => Qt (Fa P 321 v1 1) s fun v2 => Qt (Ld P 22 v2) s fun v3 => Qt (Nc P a0) s fun v4 => Qt (Fa P 321 v4 1) s fun v5 => Qt (Ld P 22 v5) s fun v6 => Qt (Bi P .len #[22] 3 #[false] #[v6]) s fun v7 => Bi P .unsafeSliceData #[22] 352 #[false] #[v3] (fun v8 s => Ck (Nc P a0) v4 s ∧ Ck (Fa P 321 v4 1) v5 s ∧ Ck (Ld P 22 v5) v6 s ∧ Ck (Bi P .len #[22] 3 #[false] #[v6]) v7 s ∧ (Bi P .unsafeString #[352, 3] 9 #[false, false] #[v8, v7] (fun v9 s => Ret P (fun w => K v9 w) s) s)) s) s
theorem s259 {a0 : Value} (h : D259 a0 (fun v w' => K v ⟨w', ds⟩) ⟨w, []⟩) : Cl P 259 #[a0] K ⟨w, ds⟩ := cl_st bodies_ok Tryz.func259 14 [.tmp 2] h

/-- strings.Trim -/
def D260 (a0 a1 : Value) (K : Value → World → Prop) (s : St) : Prop :=
  Bo P .eql 9 false true a0 (.string ⟨#[]⟩) (fun v1 s => J1 (fun A2 => Grd v1 false (Bo P .eql 9 false true a1 (.string ⟨#[]⟩) (fun v4 s => A2 v4 s) s) (A2 undef s)) (fun x3 s => Pk P v1 (.bool true) x3 (fun v5 s => CondP v5 (Ret P (fun w => K a0 w) s) (Bi P .len #[9] 3 #[false] #[a1] (fun v6 s => Bo P .eql 3 false true v6 (.int .i64 1) (fun v7 s => J1 (fun A8 => Grd v7 true (Ix P 9 a1 (.int .i64 0) (fun v10 s => Bo P .lss 5 false true v10 (byteV 128) (fun v11 s => A8 v11 s) s) s) (A8 undef s)) (fun x9 s => Pk P v7 x9 (.bool false) (fun v12 s => CondP v12 (Dw (fun s => Qt (Ix P 9 a1 (.int .i64 0)) s fun v13 => Qt (Ix P 9 a1 (.int .i64 0)) s fun v14 => Cl P 314 #[a0, v13] (fun v15 s => Ck (Ix P 9 a1 (.int .i64 0)) v14 s ∧ (Cl P 313 #[v15, v14] (fun v16 s => Ret P (fun w => K v16 w) s) s)) s) s) (Cl P 315 #[a1] (fun v17 s => Ex P v17 0 (fun v18 s => Ex P v17 1 (fun v19 s => Al P 355 (fun v20 s => Sv P 355 v20 v18 (fun _ s => CondP v19 (Cl P 317 #[a0, v20] (fun v21 s => Cl P 316 #[v21, v20] (fun v22 s => Ret P (fun w => K v22 w) s) s) s) (Cl P 319 #[a0, a1] (fun v23 s => Cl P 318 #[v23, a1] (fun v24 s => Ret P (fun w => K v24 w) s) s) s)) s) s) s) s) s)) s)) s) s)) s)) s
theorem s260 {a0 a1 : Value} (h : D260 a0 a1 (fun v w' => K v ⟨w', ds⟩) ⟨w, []⟩) : Cl P 260 #[a0, a1] K ⟨w, ds⟩ := cl_st bodies_ok Tryz.func260 43 [.tmp 4] h

/-- (*strings.Builder).WriteString -/
def D261 (a0 a1 : Value) (K : Value → World → Prop) (s : St) : Prop :=
  Cl P 312 #[a0] (fun _ s => Nc P a0 (fun v2 s => Fa P 321 v2 1 (fun v3 s => Ld P 22 v3 (fun v4 s => Bi P .append #[22, 9] 22 #[false, false] #[v4, a1] (fun v5 s => Nc P a0 (fun v6 s => Fa P 321 v6 1 (fun v7 s => Sv P 22 v7 v5 (fun _ s => Bi P .len #[9] 3 #[false] #[a1] (fun v8 s => Ret P (fun w => K (.tuple #[v8, .nilIface]) w) s) s) s) s) s) s) s) s) s) s
theorem s261 {a0 a1 : Value} (h : D261 a0 a1 (fun v w' => K v ⟨w', ds⟩) ⟨w, []⟩) : Cl P 261 #[a0, a1] K ⟨w, ds⟩ := cl_st bodies_ok Tryz.func261 19 [.tmp 4, .tmp 5] h

/-- rollcall/message.spare -/
def D263 (a0 : Value) (K : Value → World → Prop) (s : St) : Prop :=
  Bo P .eql 9 false true a0 (.string ⟨#[]⟩) (fun v1 s => J1 (fun A2 => Grd v1 false (Ix P 9 a0 (.int .i64 0) (fun v4 s => Bo P .eql 5 false true v4 (byteV 58) (fun v5 s => A2 v5 s) s) s) (A2 undef s)) (fun x3 s => Pk P v1 (.bool true) x3 (fun v6 s => J1 (fun A7 => Grd v6 false (Cl P 323 #[a0, .string ⟨#[32]⟩] (fun v9 s => A7 v9 s) s) (A7 undef s)) (fun x8 s => Pk P v6 (.bool true) x8 (fun v10 s => Ret P (fun w => K v10 w) s) s)) s)) s
theorem s263 {a0 : Value} (h : D263 a0 (fun v w' => K v ⟨w', ds⟩) ⟨w, []⟩) : Cl P 263 #[a0] K ⟨w, ds⟩ := cl_st bodies_ok Tryz.func263 14 [.tmp 2] h

/-- cmp.Or[int] -/
def D270 (a0 : Value) (K : Value → World → Prop) (s : St) : Prop :=
  Bi P .len #[64] 3 #[false] #[a0] (fun v1 s => L1 (.int .i64 0) s (fun N2 x3 s => Bo P .lss 3 false false x3 v1 (fun v4 s => CondP v4 (Ia P 64 a0 x3 (fun v5 s => Ld P 3 v5 (fun v6 s => Bo P .neq 3 false false v6 (.int .i64 0) (fun v7 s => CondP v7 (Ret P (fun w => K v6 w) s) (Bo P .add 3 false true x3 (.int .i64 1) (fun v8 s => N2 v8 s) s)) s) s) s) (Ret P (fun w => K (.int .i64 0) w) s)) s)) s
theorem s270 {a0 : Value} (h : D270 a0 (fun v w' => K v ⟨w', ds⟩) ⟨w, []⟩) : Cl P 270 #[a0] K ⟨w, ds⟩ := cl_st bodies_ok Tryz.func270 18 [.tmp 2] h

/-- cmp.Compare[int] -/
def D271 (a0 a1 : Value) (K : Value → World → Prop) (s : St) : Prop :=
  Cl P 328 #[a0] (fun v1 s => Cl P 328 #[a1] (fun v2 s => CondP v1 (CondP v2 (Ret P (fun w => K (.int .i64 0) w) s) (Ret P (fun w => K (.int .i64 (-1)) w) s)) (CondP v2 (Ret P (fun w => K (.int .i64 1) w) s) (Bo P .lss 3 false false a0 a1 (fun v3 s => CondP v3 (Ret P (fun w => K (.int .i64 (-1)) w) s) (Bo P .gtr 3 false false a0 a1 (fun v4 s => CondP v4 (Ret P (fun w => K (.int .i64 1) w) s) (Ret P (fun w => K (.int .i64 0) w) s)) s)) s))) s) s
theorem s271 {a0 a1 : Value} (h : D271 a0 a1 (fun v w' => K v ⟨w', ds⟩) ⟨w, []⟩) : Cl P 271 #[a0, a1] K ⟨w, ds⟩ := cl_st bodies_ok Tryz.func271 20 [.tmp 4] h

/-- (*rollcall/pair.Rel[int, string]).By -/
def D276 (a0 a1 : Value) (K : Value → World → Prop) (s : St) : Prop :=
  Bo P .eql 107 false true a0 (.pointer none) (fun v1 s => CondP v1 (Ret P (fun w => K (.func (.func 331) #[] #[]) w) s) (Nc P a0 (fun v2 s => Fa P 193 v2 3 (fun v3 s => Ld P 191 v3 (fun v4 s => Lk P 191 v4 a1 false (fun v5 s => Cl P 332 #[v5] (fun v6 s => Ret P (fun w => K v6 w) s) s) s) s) s) s)) s
theorem s276 {a0 a1 : Value} (h : D276 a0 a1 (fun v w' => K v ⟨w', ds⟩) ⟨w, []⟩) : Cl P 276 #[a0, a1] K ⟨w, ds⟩ := cl_st bodies_ok Tryz.func276 14 [.tmp 4] h

/-- rollcall/reply.digits -/
def D277 (a0 : Value) (K : Value → World → Prop) (s : St) : Prop :=
  Bo P .quo 3 false true a0 (.int .i64 100) (fun v1 s => Bo P .add 3 true false (.int .i64 48) v1 (fun v2 s => Cv P 3 5 v2 (fun v3 s => Bo P .quo 3 false true a0 (.int .i64 10) (fun v4 s => Bo P .rem 3 false true v4 (.int .i64 10) (fun v5 s => Bo P .add 3 true false (.int .i64 48) v5 (fun v6 s => Cv P 3 5 v6 (fun v7 s => Bo P .rem 3 false true a0 (.int .i64 10) (fun v8 s => Bo P .add 3 true false (.int .i64 48) v8 (fun v9 s => Cv P 3 5 v9 (fun v10 s => Bs P 22 3 #[(0, v3), (1, v7), (2, v10)] (fun v11 s => Cv P 22 9 v11 (fun v12 s => Ret P (fun w => K v12 w) s) s) s) s) s) s) s) s) s) s) s) s) s
theorem s277 {a0 : Value} (h : D277 a0 (fun v w' => K v ⟨w', ds⟩) ⟨w, []⟩) : Cl P 277 #[a0] K ⟨w, ds⟩ := cl_st bodies_ok Tryz.func277 18 [.tmp 2] h

/-- slices.BinarySearch[[]string,string] -/
def D279 (a0 a1 : Value) (K : Value → World → Prop) (s : St) : Prop :=
  Bi P .len #[134] 3 #[false] #[a0] (fun v1 s => L2 (.int .i64 0) v1 s (fun N2 x3 x4 s => Bo P .lss 3 false false x3 x4 (fun v5 s => CondP v5 (Bo P .add 3 false false x3 x4 (fun v6 s => Cv P 3 331 v6 (fun v7 s => Bo P .shr 331 false true v7 (.int .u64 1) (fun v8 s => Cv P 331 3 v8 (fun v9 s => Ia P 134 a0 v9 (fun v10 s => Ld P 9 v10 (fun v11 s => Cl P 337 #[v11, a1] (fun v12 s => CondP v12 (Bo P .add 3 false true v9 (.int .i64 1) (fun v13 s => N2 v13 x4 s) s) (N2 x3 v9 s)) s) s) s) s) s) s) s) (Bo P .lss 3 false false x3 v1 (fun v14 s => J1 (fun A15 => Grd v14 true (Ia P 134 a0 x3 (fun v17 s => Ld P 9 v17 (fun v18 s => Bo P .eql 9 false false v18 a1 (fun v19 s => A15 v19 s) s) s) s) (A15 undef s)) (fun x16 s => J1 (fun A20 => Grd x16 false (Ia P 134 a0 x3 (fun v22 s => Ld P 9 v22 (fun v23 s => Cl P 338 #[v23] (fun v24 s => A20 v24 s) s) s) s) (A20 undef s)) (fun x21 s => J1 (fun A25 => Grd x21 true (Cl P 338 #[a1] (fun v27 s => A25 v27 s) s) (A25 undef s)) (fun x26 s => J1 (fun A28 => Grd x16 false (Pk P x21 x26 (.bool false) (fun v30 s => A28 v30 s) s) (A28 undef s)) (fun x29 s => J1 (fun A31 => Grd v14 true (Pk P x16 (.bool true) x29 (fun v33 s => A31 v33 s) s) (A31 undef s)) (fun x32 s => Pk P v14 x32 (.bool false) (fun v34 s => Ret P (fun w => K (.tuple #[x3, v34]) w) s) s)))))) s)) s)) s
theorem s279 {a0 a1 : Value} (h : D279 a0 a1 (fun v w' => K v ⟨w', ds⟩) ⟨w, []⟩) : Cl P 279 #[a0, a1] K ⟨w, ds⟩ := cl_st bodies_ok Tryz.func279 54 [.tmp 4, .tmp 5] h

/-- slices.Insert[[]string,string] -/
def D280 (a0 a1 a2 : Value) (K : Value → World → Prop) (s : St) : Prop :=
  Sl P 134 a0 (some a1) none none (fun _ s => Bi P .len #[134] 3 #[false] #[a2] (fun v2 s => Bo P .eql 3 false true v2 (.int .i64 0) (fun v3 s => CondP v3 (Ret P (fun w => K a0 w) s) (Bi P .len #[134] 3 #[false] #[a0] (fun v4 s => Bo P .eql 3 false false a1 v4 (fun v5 s => CondP v5 (Bi P .append #[134, 134] 134 #[false, false] #[a0, a2] (fun v6 s => Ret P (fun w => K v6 w) s) s) (Bo P .add 3 false false v4 v2 (fun v7 s => Bi P .cap #[134] 3 #[false] #[a0] (fun v8 s => Bo P .gtr 3 false false v7 v8 (fun v9 s => CondP v9 (Sl P 134 a0 none (some a1) none (fun v10 s => Bo P .add 3 false false v4 v2 (fun v11 s => Bo P .sub 3 false false v11 a1 (fun v12 s => Bi P .append #[134, 3] 134 #[false, false] #[v10, v12] (fun v13 s => Sl P 134 v13 (some a1) none none (fun v14 s => Bi P .copy #[134, 134] 3 #[false, false] #[v14, a2] (fun _ s => Dw (fun s => Qt (Bo P .add 3 false false a1 v2) s fun v16 => Qt (Sl P 134 v13 (some v16) none none) s fun v17 => Qt (Sl P 134 a0 (some a1) none none) s fun v18 => Bi P .copy #[134, 134] 3 #[false, false] #[v17, v18] (fun _ s => Ret P (fun w => K v13 w) s) s) s) s) s) s) s) s) s) (Bo P .add 3 false false v4 v2 (fun v20 s => Sl P 134 a0 none (some v20) none (fun v21 s => Bo P .add 3 false false a1 v2 (fun v22 s => Sl P 134 v21 (some v22) none none (fun v23 s => Dy P (.func (.func 339) #[] #[]) #[a2, v23] (fun v24 s => Uo P .not v24 (fun v25 s => CondP v25 (Dw (fun s => Qt (Bo P .add 3 false false a1 v2) s fun v26 => Qt (Sl P 134 v21 (some v26) none none) s fun v27 => Qt (Sl P 134 v21 (some a1) none none) s fun v28 => Bi P .copy #[134, 134] 3 #[false, false] #[v27, v28] (fun _ s => Sl P 134 v21 (some a1) none none (fun v30 s => Bi P .copy #[134, 134] 3 #[false, false] #[v30, a2] (fun _ s => Ret P (fun w => K v21 w) s) s) s) s) s) (Sl P 134 v21 (some v4) none none (fun v32 s => Bi P .copy #[134, 134] 3 #[false, false] #[v32, a2] (fun _ s => Sl P 134 v21 (some a1) none none (fun v34 s => Cl P 340 #[v34, v2] (fun _ s => Ret P (fun w => K v21 w) s) s) s) s) s)) s) s) s) s) s) s)) s) s) s)) s) s)) s) s) s
theorem s280 {a0 a1 a2 : Value} (h : D280 a0 a1 a2 (fun v w' => K v ⟨w', ds⟩) ⟨w, []⟩) : Cl P 280 #[a0, a1, a2] K ⟨w, ds⟩ := cl_st bodies_ok Tryz.func280 95 [.tmp 6] h

/-- internal/stringslite.IndexByte -/
def D281 (a0 a1 : Value) (K : Value → World → Prop) (s : St) : Prop :=
  Dy P (.func (.func 341) #[] #[]) #[a0, a1] (fun v1 s => Ret P (fun w => K v1 w) s) s
theorem s281 {a0 a1 : Value} (h : D281 a0 a1 (fun v w' => K v ⟨w', ds⟩) ⟨w, []⟩) : Cl P 281 #[a0, a1] K ⟨w, ds⟩ := cl_st bodies_ok Tryz.func281 8 [.tmp 4] h

/-- slices.Clone[[]rollcall/timer.item[int],rollcall/timer.item[int]] -/
def D288 (a0 : Value) (K : Value → World → Prop) (s : St) : Prop :=
  Bo P .eql 259 false true a0 (.slice none 0 0) (fun v1 s => CondP v1 (Ret P (fun w => K (.slice none 0 0) w) s) (Bs P 259 0 #[] (fun v2 s => Bi P .append #[259, 259] 259 #[false, false] #[v2, a0] (fun v3 s => Ret P (fun w => K v3 w) s) s) s)) s
theorem s288 {a0 : Value} (h : D288 a0 (fun v w' => K v ⟨w', ds⟩) ⟨w, []⟩) : Cl P 288 #[a0] K ⟨w, ds⟩ := cl_st bodies_ok Tryz.func288 8 [.tmp 2] h

/-- (*rollcall/timer.Table[int]).Due$1 -/
def D289 (a0 a1 : Value) (K : Value → World → Prop) (s : St) : Prop :=
  Ld P 259 a1 (fun v1 s => Bi P .len #[259] 3 #[false] #[v1] (fun v2 s => L1 (.int .i64 0) s (fun N3 x4 s => Bo P .lss 3 false false x4 v2 (fun v5 s => CondP v5 (Ia P 259 v1 x4 (fun v6 s => Ld P 266 v6 (fun v7 s => Al P 266 (fun v8 s => Sv P 266 v8 v7 (fun _ s => Fa P 266 v8 0 (fun v9 s => Ld P 3 v9 (fun v10 s => Fa P 266 v8 1 (fun v11 s => Ld P 3 v11 (fun v12 s => Dy P a0 #[v10, v12] (fun v13 s => Uo P .not v13 (fun v14 s => CondP v14 (Ret P (fun w => K (.tuple #[]) w) s) (Bo P .add 3 false true x4 (.int .i64 1) (fun v15 s => N3 v15 s) s)) s) s) s) s) s) s) s) s) s) s) (Ret P (fun w => K (.tuple #[]) w) s)) s)) s) s
theorem s289 {a0 a1 : Value} (h : D289 a0 a1 (fun v w' => K v ⟨w', ds⟩) ⟨w, []⟩) : Cl P 289 #[a0, a1] K ⟨w, ds⟩ := cl_st bodies_ok Tryz.func289 19 [] h

/-- maps.Keys[map[int]int,int,int]$1 -/
def D290 (a0 a1 : Value) (K : Value → World → Prop) (s : St) : Prop :=
  Ld P 171 a1 (fun v1 s => Rg P 171 v1 (fun v2 s => L0 s (fun N3 s => Nx P v2 false 0 (fun v4 s => Ex P v4 0 (fun v5 s => CondP v5 (En P v2 (fun v6 s => Ex P v6 0 (fun v7 s => Dy P a0 #[v7] (fun v8 s => Uo P .not v8 (fun v9 s => CondP v9 (Ret P (fun w => K (.tuple #[]) w) s) (N3 s)) s) s) s) s) (Ret P (fun w => K (.tuple #[]) w) s)) s) s)) s) s
theorem s290 {a0 a1 : Value} (h : D290 a0 a1 (fun v w' => K v ⟨w', ds⟩) ⟨w, []⟩) : Cl P 290 #[a0, a1] K ⟨w, ds⟩ := cl_st bodies_ok Tryz.func290 14 [] h

/-- (*rollcall/room.Room).at -/
def D293 (a0 a1 : Value) (K : Value → World → Prop) (s : St) : Prop :=
  Bo P .eql 155 false true a0 (.pointer none) (fun v1 s => CondP v1 (Ret P (fun w => K (.tuple #[.int .i64 0, .bool false]) w) s) (Nc P a0 (fun v2 s => Fa P 313 v2 2 (fun v3 s => Ld P 284 v3 (fun v4 s => Cl P 349 #[v4, a1, .func (.func 350) #[] #[]] (fun v5 s => Ex P v5 0 (fun v6 s => Ex P v5 1 (fun v7 s => Ret P (fun w => K (.tuple #[v6, v7]) w) s) s) s) s) s) s) s)) s
theorem s293 {a0 a1 : Value} (h : D293 a0 a1 (fun v w' => K v ⟨w', ds⟩) ⟨w, []⟩) : Cl P 293 #[a0, a1] K ⟨w, ds⟩ := cl_st bodies_ok Tryz.func293 16 [.tmp 4, .tmp 5] h

/-- (*rollcall/set.Set[int]).Remove -/
def D295 (a0 a1 : Value) (K : Value → World → Prop) (s : St) : Prop :=
  Bo P .eql 236 false true a0 (.pointer none) (fun v1 s => CondP v1 (Ret P (fun w => K (.int .i64 0) w) s) (Bi P .len #[64] 3 #[false] #[a1] (fun v2 s => L2 (.int .i64 0) (.int .i64 0) s (fun N3 x4 x5 s => Bo P .lss 3 false false x5 v2 (fun v6 s => CondP v6 (J1 (fun A7 => Ia P 64 a1 x5 (fun v9 s => Ld P 3 v9 (fun v10 s => Nc P a0 (fun v11 s => Fa P 308 v11 0 (fun v12 s => Ld P 64 v12 (fun v13 s => Cl P 250 #[v13, v10] (fun v14 s => Ex P v14 0 (fun v15 s => Ex P v14 1 (fun v16 s => CondP v16 (Nc P a0 (fun v17 s => Fa P 308 v17 0 (fun v18 s => Ld P 64 v18 (fun v19 s => Bo P .add 3 false true v15 (.int .i64 1) (fun v20 s => Cl P 353 #[v19, v15, v20] (fun v21 s => Nc P a0 (fun v22 s => Fa P 308 v22 0 (fun v23 s => Sv P 64 v23 v21 (fun _ s => Bo P .add 3 false true x4 (.int .i64 1) (fun v24 s => A7 v24 s) s) s) s) s) s) s) s) s) s) (A7 x4 s)) s) s) s) s) s) s) s) s) (fun x8 s => Bo P .add 3 false true x5 (.int .i64 1) (fun v25 s => N3 x8 v25 s) s)) (Ret P (fun w => K x4 w) s)) s)) s)) s
theorem s295 {a0 a1 : Value} (h : D295 a0 a1 (fun v w' => K v ⟨w', ds⟩) ⟨w, []⟩) : Cl P 295 #[a0, a1] K ⟨w, ds⟩ := cl_st bodies_ok Tryz.func295 43 [.tmp 4] h

/-- rollcall/rollcallref10.Remove -/
def D296 (a0 a1 : Value) (K : Value → World → Prop) (s : St) : Prop :=
  L2 (.slice none 0 0) (.int .i64 0) s (fun N1 x2 x3 s => Bi P .len #[64] 3 #[false] #[a0] (fun v4 s => Bo P .lss 3 false false x3 v4 (fun v5 s => CondP v5 (J1 (fun A6 => Ia P 64 a0 x3 (fun v8 s => Ld P 3 v8 (fun v9 s => Bo P .neq 3 false false v9 a1 (fun v10 s => CondP v10 (Ia P 64 a0 x3 (fun v11 s => Ld P 3 v11 (fun v12 s => Bs P 64 1 #[(0, v12)] (fun v13 s => Bi P .append #[64, 64] 64 #[false, false] #[x2, v13] (fun v14 s => A6 v14 s) s) s) s) s) (A6 x2 s)) s) s) s) (fun x7 s => Bo P .add 3 false true x3 (.int .i64 1) (fun v15 s => N1 x7 v15 s) s)) (Ret P (fun w => K x2 w) s)) s) s)
theorem s296 {a0 a1 : Value} (h : D296 a0 a1 (fun v w' => K v ⟨w', ds⟩) ⟨w, []⟩) : Cl P 296 #[a0, a1] K ⟨w, ds⟩ := cl_st bodies_ok Tryz.func296 27 [.tmp 4] h

/-- slices.AppendSeq[[]int,int] -/
def D297 (a0 a1 : Value) (K : Value → World → Prop) (s : St) : Prop :=
  Bx P 64 a0 (fun v1 s => Rf P none 1 a1 (fun l2 as3 R4 s => Bg P l2 (fun s => Ld P 64 v1 (fun v6 s => Bs P 64 1 #[(0, as3.headD undef)] (fun v7 s => Bi P .append #[64, 64] 64 #[false, false] #[v6, v7] (fun v8 s => Sv P 64 v1 v8 (fun _ s => Er P l2 none R4 s) s) s) s) s) s) (fun s => Ld P 64 v1 (fun v9 s => Ret P (fun w => K v9 w) s) s) (fun s => Ret P (fun w => K (.slice none 0 0) w) s) (fun i5 s => False) s) s
theorem s297 {a0 a1 : Value} (h : D297 a0 a1 (fun v w' => K v ⟨w', ds⟩) ⟨w, []⟩) : Cl P 297 #[a0, a1] K ⟨w, ds⟩ := cl_st bodies_ok Tryz.func297 13 [.tmp 4] h

/-- cmp.Less[int] -/
def D303 (a0 a1 : Value) (K : Value → World → Prop) (s : St) : Prop :=
  Cl P 328 #[a0] (fun v1 s => J1 (fun A2 => Grd v1 true (Cl P 328 #[a1] (fun v4 s => Uo P .not v4 (fun v5 s => A2 v5 s) s) s) (A2 undef s)) (fun x3 s => Pk P v1 x3 (.bool false) (fun v6 s => J1 (fun A7 => Grd v6 false (Bo P .lss 3 false false a0 a1 (fun v9 s => A7 v9 s) s) (A7 undef s)) (fun x8 s => Pk P v6 (.bool true) x8 (fun v10 s => Ret P (fun w => K v10 w) s) s)) s)) s
theorem s303 {a0 a1 : Value} (h : D303 a0 a1 (fun v w' => K v ⟨w', ds⟩) ⟨w, []⟩) : Cl P 303 #[a0, a1] K ⟨w, ds⟩ := cl_st bodies_ok Tryz.func303 17 [.tmp 4] h

/-- slices.isNaN[int] -/
def D304 (a0 : Value) (K : Value → World → Prop) (s : St) : Prop :=
  Bo P .neq 3 false false a0 a0 (fun v1 s => Ret P (fun w => K v1 w) s) s
theorem s304 {a0 : Value} (h : D304 a0 (fun v w' => K v ⟨w', ds⟩) ⟨w, []⟩) : Cl P 304 #[a0] K ⟨w, ds⟩ := cl_st bodies_ok Tryz.func304 6 [.tmp 2] h

/-- slices.Clone[[]int,int] -/
def D307 (a0 : Value) (K : Value → World → Prop) (s : St) : Prop :=
  Bo P .eql 64 false true a0 (.slice none 0 0) (fun v1 s => CondP v1 (Ret P (fun w => K (.slice none 0 0) w) s) (Bs P 64 0 #[] (fun v2 s => Bi P .append #[64, 64] 64 #[false, false] #[v2, a0] (fun v3 s => Ret P (fun w => K v3 w) s) s) s)) s
theorem s307 {a0 : Value} (h : D307 a0 (fun v w' => K v ⟨w', ds⟩) ⟨w, []⟩) : Cl P 307 #[a0] K ⟨w, ds⟩ := cl_st bodies_ok Tryz.func307 8 [.tmp 2] h

/-- (*strings.Builder).Grow -/
def D309 (a0 a1 : Value) (K : Value → World → Prop) (s : St) : Prop :=
  Cl P 312 #[a0] (fun _ s => J0 (fun A2 => Bo P .lss 3 false true a1 (.int .i64 0) (fun v3 s => CondP v3 (Mi P 9 (.string ⟨#[115, 116, 114, 105, 110, 103, 115, 46, 66, 117, 105, 108, 100, 101, 114, 46, 71, 114, 111, 119, 58, 32, 110, 101, 103, 97, 116, 105, 118, 101, 32, 99, 111, 117, 110, 116]⟩) (fun v4 s => Pn P v4 (fun _ s => A2 s) s) s) (A2 s)) s) (fun s => Dw (fun s => Qt (Nc P a0) s fun v5 => Qt (Fa P 321 v5 1) s fun v6 => Qt (Ld P 22 v6) s fun v7 => Qt (Bi P .cap #[22] 3 #[false] #[v7]) s fun v8 => Qt (Nc P a0) s fun v9 => Qt (Fa P 321 v9 1) s fun v10 => Qt (Ld P 22 v10) s fun v11 => Qt (Bi P .len #[22] 3 #[false] #[v11]) s fun v12 => Qt (Bo P .sub 3 false false v8 v12) s fun v13 => Qt (Bo P .lss 3 false false v13 a1) s fun v14 => CondP v14 (Cl P 369 #[a0, a1] (fun _ s => Ret P (fun w => K (.tuple #[]) w) s) s) (Ret P (fun w => K (.tuple #[]) w) s)) s)) s
theorem s309 {a0 a1 : Value} (h : D309 a0 a1 (fun v w' => K v ⟨w', ds⟩) ⟨w, []⟩) : Cl P 309 #[a0, a1] K ⟨w, ds⟩ := cl_st bodies_ok Tryz.func309 25 [] h

/-- (*strings.Builder).copyCheck -/
def D312 (a0 : Value) (K : Value → World → Prop) (s : St) : Prop :=
  Nc P a0 (fun v1 s => Fa P 321 v1 0 (fun v2 s => Ld P 319 v2 (fun v3 s => Bo P .eql 319 false true v3 (.pointer none) (fun v4 s => CondP v4 (Cv P 319 397 a0 (fun v5 s => Dy P (.func (.func 372) #[] #[]) #[v5] (fun v6 s => Cv P 397 319 v6 (fun v7 s => Nc P a0 (fun v8 s => Fa P 321 v8 0 (fun v9 s => Sv P 319 v9 v7 (fun _ s => Ret P (fun w => K (.tuple #[]) w) s) s) s) s) s) s) s) (Nc P a0 (fun v10 s => Fa P 321 v10 0 (fun v11 s => Ld P 319 v11 (fun v12 s => Bo P .neq 319 false false v12 a0 (fun v13 s => CondP v13 (False) (Ret P (fun w => K (.tuple #[]) w) s)) s) s) s) s)) s) s) s) s
theorem s312 {a0 : Value} (h : D312 a0 (fun v w' => K v ⟨w', ds⟩) ⟨w, []⟩) : Cl P 312 #[a0] K ⟨w, ds⟩ := cl_st bodies_ok Tryz.func312 20 [] h

/-- strings.trimLeftByte -/
def D313 (a0 a1 : Value) (K : Value → World → Prop) (s : St) : Prop :=
  L1 a0 s (fun N1 x2 s => Bi P .len #[9] 3 #[false] #[x2] (fun v3 s => Bo P .gtr 3 false true v3 (.int .i64 0) (fun v4 s => J1 (fun A5 => Grd v4 true (Ix P 9 x2 (.int .i64 0) (fun v7 s => Bo P .eql 5 false false v7 a1 (fun v8 s => A5 v8 s) s) s) (A5 undef s)) (fun x6 s => Pk P v4 x6 (.bool false) (fun v9 s => CondP v9 (Sl P 9 x2 (some (.int .i64 1)) none none (fun v10 s => N1 v10 s) s) (Ret P (fun w => K x2 w) s)) s)) s) s)
theorem s313 {a0 a1 : Value} (h : D313 a0 a1 (fun v w' => K v ⟨w', ds⟩) ⟨w, []⟩) : Cl P 313 #[a0, a1] K ⟨w, ds⟩ := cl_st bodies_ok Tryz.func313 17 [.tmp 4] h

/-- strings.trimRightByte -/
def D314 (a0 a1 : Value) (K : Value → World → Prop) (s : St) : Prop :=
  L1 a0 s (fun N1 x2 s => Bi P .len #[9] 3 #[false] #[x2] (fun v3 s => Bo P .gtr 3 false true v3 (.int .i64 0) (fun v4 s => J1 (fun A5 => Grd v4 true (Bi P .len #[9] 3 #[false] #[x2] (fun v7 s => Bo P .sub 3 false true v7 (.int .i64 1) (fun v8 s => Ix P 9 x2 v8 (fun v9 s => Bo P .eql 5 false false v9 a1 (fun v10 s => A5 v10 s) s) s) s) s) (A5 undef s)) (fun x6 s => Pk P v4 x6 (.bool false) (fun v11 s => CondP v11 (Bi P .len #[9] 3 #[false] #[x2] (fun v12 s => Bo P .sub 3 false true v12 (.int .i64 1) (fun v13 s => Sl P 9 x2 none (some v13) none (fun v14 s => N1 v14 s) s) s) s) (Ret P (fun w => K x2 w) s)) s)) s) s)
theorem s314 {a0 a1 : Value} (h : D314 a0 a1 (fun v w' => K v ⟨w', ds⟩) ⟨w, []⟩) : Cl P 314 #[a0, a1] K ⟨w, ds⟩ := cl_st bodies_ok Tryz.func314 23 [.tmp 4] h

/-- strings.trimLeftASCII -/
def D316 (a0 a1 : Value) (K : Value → World → Prop) (s : St) : Prop :=
  J1 (fun A1 => L1 a0 s (fun N3 x4 s => Bi P .len #[9] 3 #[false] #[x4] (fun v5 s => Bo P .gtr 3 false true v5 (.int .i64 0) (fun v6 s => CondP v6 (Ix P 9 x4 (.int .i64 0) (fun v7 s => Cl P 373 #[a1, v7] (fun v8 s => Uo P .not v8 (fun v9 s => CondP v9 (A1 x4 s) (Sl P 9 x4 (some (.int .i64 1)) none none (fun v10 s => N3 v10 s) s)) s) s) s) (A1 x4 s)) s) s)) (fun x2 s => Ret P (fun w => K x2 w) s)
theorem s316 {a0 a1 : Value} (h : D316 a0 a1 (fun v w' => K v ⟨w', ds⟩) ⟨w, []⟩) : Cl P 316 #[a0, a1] K ⟨w, ds⟩ := cl_st bodies_ok Tryz.func316 16 [.tmp 4] h

/-- strings.trimRightASCII -/
def D317 (a0 a1 : Value) (K : Value → World → Prop) (s : St) : Prop :=
  J1 (fun A1 => L1 a0 s (fun N3 x4 s => Bi P .len #[9] 3 #[false] #[x4] (fun v5 s => Bo P .gtr 3 false true v5 (.int .i64 0) (fun v6 s => CondP v6 (Bi P .len #[9] 3 #[false] #[x4] (fun v7 s => Bo P .sub 3 false true v7 (.int .i64 1) (fun v8 s => Ix P 9 x4 v8 (fun v9 s => Cl P 373 #[a1, v9] (fun v10 s => Uo P .not v10 (fun v11 s => CondP v11 (A1 x4 s) (Bi P .len #[9] 3 #[false] #[x4] (fun v12 s => Bo P .sub 3 false true v12 (.int .i64 1) (fun v13 s => Sl P 9 x4 none (some v13) none (fun v14 s => N3 v14 s) s) s) s)) s) s) s) s) s) (A1 x4 s)) s) s)) (fun x2 s => Ret P (fun w => K x2 w) s)
theorem s317 {a0 a1 : Value} (h : D317 a0 a1 (fun v w' => K v ⟨w', ds⟩) ⟨w, []⟩) : Cl P 317 #[a0, a1] K ⟨w, ds⟩ := cl_st bodies_ok Tryz.func317 22 [.tmp 4] h

/-- strings.Contains -/
def D323 (a0 a1 : Value) (K : Value → World → Prop) (s : St) : Prop :=
  Cl P 310 #[a0, a1] (fun v1 s => Bo P .geq 3 false true v1 (.int .i64 0) (fun v2 s => Ret P (fun w => K v2 w) s) s) s
theorem s323 {a0 a1 : Value} (h : D323 a0 a1 (fun v w' => K v ⟨w', ds⟩) ⟨w, []⟩) : Cl P 323 #[a0, a1] K ⟨w, ds⟩ := cl_st bodies_ok Tryz.func323 9 [.tmp 4] h

/-- cmp.isNaN[int] -/
def D328 (a0 : Value) (K : Value → World → Prop) (s : St) : Prop :=
  Bo P .neq 3 false false a0 a0 (fun v1 s => Ret P (fun w => K v1 w) s) s
theorem s328 {a0 : Value} (h : D328 a0 (fun v w' => K v ⟨w', ds⟩) ⟨w, []⟩) : Cl P 328 #[a0] K ⟨w, ds⟩ := cl_st bodies_ok Tryz.func328 6 [.tmp 2] h

/-- (*rollcall/set.Set[int]).All -/
def D332 (a0 : Value) (K : Value → World → Prop) (s : St) : Prop :=
  Cl P 253 #[a0] (fun v1 s => Cl P 165 #[v1] (fun v2 s => Ret P (fun w => K v2 w) s) s) s
theorem s332 {a0 : Value} (h : D332 a0 (fun v w' => K v ⟨w', ds⟩) ⟨w, []⟩) : Cl P 332 #[a0] K ⟨w, ds⟩ := cl_st bodies_ok Tryz.func332 6 [.tmp 2] h

/-- cmp.Less[string] -/
def D337 (a0 a1 : Value) (K : Value → World → Prop) (s : St) : Prop :=
  Cl P 385 #[a0] (fun v1 s => J1 (fun A2 => Grd v1 true (Cl P 385 #[a1] (fun v4 s => Uo P .not v4 (fun v5 s => A2 v5 s) s) s) (A2 undef s)) (fun x3 s => Pk P v1 x3 (.bool false) (fun v6 s => J1 (fun A7 => Grd v6 false (Bo P .lss 9 false false a0 a1 (fun v9 s => A7 v9 s) s) (A7 undef s)) (fun x8 s => Pk P v6 (.bool true) x8 (fun v10 s => Ret P (fun w => K v10 w) s) s)) s)) s
theorem s337 {a0 a1 : Value} (h : D337 a0 a1 (fun v w' => K v ⟨w', ds⟩) ⟨w, []⟩) : Cl P 337 #[a0, a1] K ⟨w, ds⟩ := cl_st bodies_ok Tryz.func337 17 [.tmp 4] h

/-- slices.isNaN[string] -/
def D338 (a0 : Value) (K : Value → World → Prop) (s : St) : Prop :=
  Bo P .neq 9 false false a0 a0 (fun v1 s => Ret P (fun w => K v1 w) s) s
theorem s338 {a0 : Value} (h : D338 a0 (fun v w' => K v ⟨w', ds⟩) ⟨w, []⟩) : Cl P 338 #[a0] K ⟨w, ds⟩ := cl_st bodies_ok Tryz.func338 6 [.tmp 2] h

/-- slices.BinarySearchFunc[[]rollcall/book.entry[*rollcall/room.Room],rollcall/book.entry[*rollcall/room.Room],string] -/
def D345 (a0 a1 a2 : Value) (K : Value → World → Prop) (s : St) : Prop :=
  Bi P .len #[228] 3 #[false] #[a0] (fun v1 s => L2 (.int .i64 0) v1 s (fun N2 x3 x4 s => Bo P .lss 3 false false x3 x4 (fun v5 s => CondP v5 (Bo P .add 3 false false x3 x4 (fun v6 s => Cv P 3 331 v6 (fun v7 s => Bo P .shr 331 false true v7 (.int .u64 1) (fun v8 s => Cv P 331 3 v8 (fun v9 s => Ia P 228 a0 v9 (fun v10 s => Ld P 341 v10 (fun v11 s => Dy P a2 #[v11, a1] (fun v12 s => Bo P .lss 3 false true v12 (.int .i64 0) (fun v13 s => CondP v13 (Bo P .add 3 false true v9 (.int .i64 1) (fun v14 s => N2 v14 x4 s) s) (N2 x3 v9 s)) s) s) s) s) s) s) s) s) (Bo P .lss 3 false false x3 v1 (fun v15 s => J1 (fun A16 => Grd v15 true (Ia P 228 a0 x3 (fun v18 s => Ld P 341 v18 (fun v19 s => Dy P a2 #[v19, a1] (fun v20 s => Bo P .eql 3 false true v20 (.int .i64 0) (fun v21 s => A16 v21 s) s) s) s) s) (A16 undef s)) (fun x17 s => Pk P v15 x17 (.bool false) (fun v22 s => Ret P (fun w => K (.tuple #[x3, v22]) w) s) s)) s)) s)) s
theorem s345 {a0 a1 a2 : Value} (h : D345 a0 a1 a2 (fun v w' => K v ⟨w', ds⟩) ⟨w, []⟩) : Cl P 345 #[a0, a1, a2] K ⟨w, ds⟩ := cl_st bodies_ok Tryz.func345 49 [.tmp 6, .tmp 7] h

/-- slices.BinarySearchFunc[[]rollcall/api.Member,rollcall/api.Member,int] -/
def D349 (a0 a1 a2 : Value) (K : Value → World → Prop) (s : St) : Prop :=
  Bi P .len #[284] 3 #[false] #[a0] (fun v1 s => L2 (.int .i64 0) v1 s (fun N2 x3 x4 s => Bo P .lss 3 false false x3 x4 (fun v5 s => CondP v5 (Bo P .add 3 false false x3 x4 (fun v6 s => Cv P 3 331 v6 (fun v7 s => Bo P .shr 331 false true v7 (.int .u64 1) (fun v8 s => Cv P 331 3 v8 (fun v9 s => Ia P 284 a0 v9 (fun v10 s => Ld P 242 v10 (fun v11 s => Dy P a2 #[v11, a1] (fun v12 s => Bo P .lss 3 false true v12 (.int .i64 0) (fun v13 s => CondP v13 (Bo P .add 3 false true v9 (.int .i64 1) (fun v14 s => N2 v14 x4 s) s) (N2 x3 v9 s)) s) s) s) s) s) s) s) s) (Bo P .lss 3 false false x3 v1 (fun v15 s => J1 (fun A16 => Grd v15 true (Ia P 284 a0 x3 (fun v18 s => Ld P 242 v18 (fun v19 s => Dy P a2 #[v19, a1] (fun v20 s => Bo P .eql 3 false true v20 (.int .i64 0) (fun v21 s => A16 v21 s) s) s) s) s) (A16 undef s)) (fun x17 s => Pk P v15 x17 (.bool false) (fun v22 s => Ret P (fun w => K (.tuple #[x3, v22]) w) s) s)) s)) s)) s
theorem s349 {a0 a1 a2 : Value} (h : D349 a0 a1 a2 (fun v w' => K v ⟨w', ds⟩) ⟨w, []⟩) : Cl P 349 #[a0, a1, a2] K ⟨w, ds⟩ := cl_st bodies_ok Tryz.func349 49 [.tmp 6, .tmp 7] h

/-- (*rollcall/room.Room).at$1 -/
def D350 (a0 a1 : Value) (K : Value → World → Prop) (s : St) : Prop :=
  Bx P 242 a0 (fun v1 s => Fa P 242 v1 0 (fun v2 s => Ld P 3 v2 (fun v3 s => Cl P 271 #[v3, a1] (fun v4 s => Ret P (fun w => K v4 w) s) s) s) s) s
theorem s350 {a0 a1 : Value} (h : D350 a0 a1 (fun v w' => K v ⟨w', ds⟩) ⟨w, []⟩) : Cl P 350 #[a0, a1] K ⟨w, ds⟩ := cl_st bodies_ok Tryz.func350 9 [.tmp 4] h

/-- slices.Delete[[]int,int] -/
def D353 (a0 a1 a2 : Value) (K : Value → World → Prop) (s : St) : Prop :=
  Bi P .len #[64] 3 #[false] #[a0] (fun v1 s => Sl P 64 a0 (some a1) (some a2) (some v1) (fun _ s => Bo P .eql 3 false false a1 a2 (fun v3 s => CondP v3 (Ret P (fun w => K a0 w) s) (Bi P .len #[64] 3 #[false] #[a0] (fun v4 s => Dw (fun s => Qt (Sl P 64 a0 none (some a1) none) s fun v5 => Qt (Sl P 64 a0 (some a2) none none) s fun v6 => Bi P .append #[64, 64] 64 #[false, false] #[v5, v6] (fun v7 s => Bi P .len #[64] 3 #[false] #[v7] (fun v8 s => Sl P 64 v7 (some v8) (some v4) none (fun v9 s => Bi P .clear #[64] 0 #[false] #[v9] (fun _ s => Ret P (fun w => K v7 w) s) s) s) s) s) s) s)) s) s) s
theorem s353 {a0 a1 a2 : Value} (h : D353 a0 a1 a2 (fun v w' => K v ⟨w', ds⟩) ⟨w, []⟩) : Cl P 353 #[a0, a1, a2] K ⟨w, ds⟩ := cl_st bodies_ok Tryz.func353 33 [.tmp 6] h

/-- slices.Values[[]string,string] -/
def D364 (a0 : Value) (K : Value → World → Prop) (s : St) : Prop :=
  Bx P 134 a0 (fun v1 s => Mf P (.func 397) #[] #[v1] (fun v2 s => Ret P (fun w => K v2 w) s) s) s
theorem s364 {a0 : Value} (h : D364 a0 (fun v w' => K v ⟨w', ds⟩) ⟨w, []⟩) : Cl P 364 #[a0] K ⟨w, ds⟩ := cl_st bodies_ok Tryz.func364 4 [.tmp 2] h

/-- (*strings.Builder).grow -/
def D369 (a0 a1 : Value) (K : Value → World → Prop) (s : St) : Prop :=
  Dw (fun s => Qt (Nc P a0) s fun v1 => Qt (Fa P 321 v1 1) s fun v2 => Qt (Ld P 22 v2) s fun v3 => Qt (Bi P .cap #[22] 3 #[false] #[v3]) s fun v4 => Qt (Bo P .mul 3 true false (.int .i64 2) v4) s fun v5 => Qt (Bo P .add 3 false false v5 a1) s fun v6 => Qt (Nc P a0) s fun v7 => Qt (Fa P 321 v7 1) s fun v8 => Qt (Ld P 22 v8) s fun v9 => Qt (Bi P .len #[22] 3 #[false] #[v9]) s fun v10 => Dy P (.func (.func 400) #[] #[]) #[v6] (fun v11 s => Ck (Nc P a0) v7 s ∧ Ck (Fa P 321 v7 1) v8 s ∧ Ck (Ld P 22 v8) v9 s ∧ Ck (Bi P .len #[22] 3 #[false] #[v9]) v10 s ∧ (Qt (Sl P 22 v11 none (some v10) none) s fun v12 => Nc P a0 (fun v13 s => Fa P 321 v13 1 (fun v14 s => Ld P 22 v14 (fun v15 s => Bi P .copy #[22, 22] 3 #[false, false] #[v12, v15] (fun _ s => Nc P a0 (fun v17 s => Fa P 321 v17 1 (fun v18 s => Sv P 22 v18 v12 (fun _ s => Ret P (fun w => K (.tuple #[]) w) s) s) s) s) s) s) s) s)) s) s
theorem s369 {a0 a1 : Value} (h : D369 a0 a1 (fun v w' => K v ⟨w', ds⟩) ⟨w, []⟩) : Cl P 369 #[a0, a1] K ⟨w, ds⟩ := cl_st bodies_ok Tryz.func369 30 [] h

/-- (*strings.asciiSet).contains -/
def D373 (a0 a1 : Value) (K : Value → World → Prop) (s : St) : Prop :=
  Nc P a0 (fun v1 s => Ia P 355 v1 a1 (fun v2 s => Ld P 4 v2 (fun v3 s => Ret P (fun w => K v3 w) s) s) s) s
theorem s373 {a0 a1 : Value} (h : D373 a0 a1 (fun v w' => K v ⟨w', ds⟩) ⟨w, []⟩) : Cl P 373 #[a0, a1] K ⟨w, ds⟩ := cl_st bodies_ok Tryz.func373 10 [.tmp 4] h

/-- (*rollcall/set.Set[int]).Len -/
def D379 (a0 : Value) (K : Value → World → Prop) (s : St) : Prop :=
  Bo P .eql 236 false true a0 (.pointer none) (fun v1 s => CondP v1 (Ret P (fun w => K (.int .i64 0) w) s) (Nc P a0 (fun v2 s => Fa P 308 v2 0 (fun v3 s => Ld P 64 v3 (fun v4 s => Bi P .len #[64] 3 #[false] #[v4] (fun v5 s => Ret P (fun w => K v5 w) s) s) s) s) s)) s
theorem s379 {a0 : Value} (h : D379 a0 (fun v w' => K v ⟨w', ds⟩) ⟨w, []⟩) : Cl P 379 #[a0] K ⟨w, ds⟩ := cl_st bodies_ok Tryz.func379 10 [.tmp 2] h

/-- cmp.isNaN[string] -/
def D385 (a0 : Value) (K : Value → World → Prop) (s : St) : Prop :=
  Bo P .neq 9 false false a0 a0 (fun v1 s => Ret P (fun w => K v1 w) s) s
theorem s385 {a0 : Value} (h : D385 a0 (fun v w' => K v ⟨w', ds⟩) ⟨w, []⟩) : Cl P 385 #[a0] K ⟨w, ds⟩ := cl_st bodies_ok Tryz.func385 6 [.tmp 2] h

/-- slices.siftDownOrdered[int] -/
def D392 (a0 a1 a2 a3 : Value) (K : Value → World → Prop) (s : St) : Prop :=
  L1 a1 s (fun N1 x2 s => Bo P .mul 3 true false (.int .i64 2) x2 (fun v3 s => Bo P .add 3 false true v3 (.int .i64 1) (fun v4 s => Bo P .geq 3 false false v4 a2 (fun v5 s => CondP v5 (Ret P (fun w => K (.tuple #[]) w) s) (J1 (fun A6 => J1 (fun A8 => Dw (fun s => Qt (Bo P .add 3 false true v4 (.int .i64 1)) s fun v10 => Qt (Bo P .lss 3 false false v10 a2) s fun v11 => Grd v11 true (Qt (Bo P .add 3 false false a3 v4) s fun v12 => Qt (Ia P 64 a0 v12) s fun v13 => Qt (Ld P 3 v13) s fun v14 => Qt (Bo P .add 3 false false a3 v4) s fun v15 => Qt (Bo P .add 3 false true v15 (.int .i64 1)) s fun v16 => Qt (Ia P 64 a0 v16) s fun v17 => Qt (Ld P 3 v17) s fun v18 => Cl P 303 #[v14, v18] (fun v19 s => Qt (Pk P v11 v19 (.bool false)) s fun v20 => A8 v20 s) s) (Qt (Pk P v11 undef (.bool false)) s fun v21 => A8 v21 s)) s) (fun x9 s => CondP x9 (Bo P .add 3 false true v4 (.int .i64 1) (fun v22 s => A6 v22 s) s) (A6 v4 s))) (fun x7 s => Dw (fun s => Qt (Bo P .add 3 false false a3 x2) s fun v23 => Qt (Ia P 64 a0 v23) s fun v24 => Qt (Ld P 3 v24) s fun v25 => Qt (Bo P .add 3 false false a3 x7) s fun v26 => Qt (Ia P 64 a0 v26) s fun v27 => Qt (Ld P 3 v27) s fun v28 => Cl P 303 #[v25, v28] (fun v29 s => Qt (Uo P .not v29) s fun v30 => CondP v30 (Ret P (fun w => K (.tuple #[]) w) s) (Dw (fun s => Qt (Bo P .add 3 false false a3 x2) s fun v31 => Qt (Bo P .add 3 false false a3 x7) s fun v32 => Qt (Bo P .add 3 false false a3 x7) s fun v33 => Qt (Ia P 64 a0 v33) s fun v34 => Qt (Ld P 3 v34) s fun v35 => Qt (Bo P .add 3 false false a3 x2) s fun v36 => Qt (Ia P 64 a0 v36) s fun v37 => Qt (Ld P 3 v37) s fun v38 => Qt (Ia P 64 a0 v31) s fun v39 => Sv P 3 v39 v35 (fun _ s => Ck (Bo P .add 3 false false a3 x7) v32 s ∧ (Qt (Ia P 64 a0 v32) s fun v40 => Sv P 3 v40 v38 (fun _ s => N1 x7 s) s)) s) s)) s) s))) s) s) s)
theorem s392 {a0 a1 a2 a3 : Value} (h : D392 a0 a1 a2 a3 (fun v w' => K v ⟨w', ds⟩) ⟨w, []⟩) : Cl P 392 #[a0, a1, a2, a3] K ⟨w, ds⟩ := cl_st bodies_ok Tryz.func392 76 [] h

/-- slices.nextPowerOfTwo -/
def D393 (a0 : Value) (K : Value → World → Prop) (s : St) : Prop :=
  Cv P 3 331 a0 (fun v1 s => Cl P 299 #[v1] (fun v2 s => Bo P .shl 331 true false (.int .u64 1) v2 (fun v3 s => Ret P (fun w => K v3 w) s) s) s) s
theorem s393 {a0 : Value} (h : D393 a0 (fun v w' => K v ⟨w', ds⟩) ⟨w, []⟩) : Cl P 393 #[a0] K ⟨w, ds⟩ := cl_st bodies_ok Tryz.func393 7 [.tmp 2] h

/-- slices.medianAdjacentOrdered[int] -/
def D395 (a0 a1 a2 : Value) (K : Value → World → Prop) (s : St) : Prop :=
  Bo P .sub 3 false true a1 (.int .i64 1) (fun v1 s => Bo P .add 3 false true a1 (.int .i64 1) (fun v2 s => Cl P 396 #[a0, v1, a1, v2, a2] (fun v3 s => Ret P (fun w => K v3 w) s) s) s) s
theorem s395 {a0 a1 a2 : Value} (h : D395 a0 a1 a2 (fun v w' => K v ⟨w', ds⟩) ⟨w, []⟩) : Cl P 395 #[a0, a1, a2] K ⟨w, ds⟩ := cl_st bodies_ok Tryz.func395 15 [.tmp 6] h

/-- slices.medianOrdered[int] -/
def D396 (a0 a1 a2 a3 a4 : Value) (K : Value → World → Prop) (s : St) : Prop :=
  Cl P 412 #[a0, a1, a2, a4] (fun v1 s => Ex P v1 0 (fun v2 s => Ex P v1 1 (fun v3 s => Cl P 412 #[a0, v3, a3, a4] (fun v4 s => Ex P v4 0 (fun v5 s => Ex P v4 1 (fun _ s => Cl P 412 #[a0, v2, v5, a4] (fun v7 s => Ex P v7 0 (fun _ s => Ex P v7 1 (fun v9 s => Ret P (fun w => K v9 w) s) s) s) s) s) s) s) s) s) s
theorem s396 {a0 a1 a2 a3 a4 : Value} (h : D396 a0 a1 a2 a3 a4 (fun v w' => K v ⟨w', ds⟩) ⟨w, []⟩) : Cl P 396 #[a0, a1, a2, a3, a4] K ⟨w, ds⟩ := cl_st bodies_ok Tryz.func396 36 [.tmp 10] h

/-- slices.Values[[]string,string]$1 -/
def D397 (a0 a1 : Value) (K : Value → World → Prop) (s : St) : Prop :=
  Ld P 134 a1 (fun v1 s => Bi P .len #[134] 3 #[false] #[v1] (fun v2 s => L1 (.int .i64 0) s (fun N3 x4 s => Bo P .lss 3 false false x4 v2 (fun v5 s => CondP v5 (Ia P 134 v1 x4 (fun v6 s => Ld P 9 v6 (fun v7 s => Dy P a0 #[v7] (fun v8 s => Uo P .not v8 (fun v9 s => CondP v9 (Ret P (fun w => K (.tuple #[]) w) s) (Bo P .add 3 false true x4 (.int .i64 1) (fun v10 s => N3 v10 s) s)) s) s) s) s) (Ret P (fun w => K (.tuple #[]) w) s)) s)) s) s
theorem s397 {a0 a1 : Value} (h : D397 a0 a1 (fun v w' => K v ⟨w', ds⟩) ⟨w, []⟩) : Cl P 397 #[a0, a1] K ⟨w, ds⟩ := cl_st bodies_ok Tryz.func397 16 [] h

/-- slices.Clone[[]string,string] -/
def D398 (a0 : Value) (K : Value → World → Prop) (s : St) : Prop :=
  Bo P .eql 134 false true a0 (.slice none 0 0) (fun v1 s => CondP v1 (Ret P (fun w => K (.slice none 0 0) w) s) (Bs P 134 0 #[] (fun v2 s => Bi P .append #[134, 134] 134 #[false, false] #[v2, a0] (fun v3 s => Ret P (fun w => K v3 w) s) s) s)) s
theorem s398 {a0 : Value} (h : D398 a0 (fun v w' => K v ⟨w', ds⟩) ⟨w, []⟩) : Cl P 398 #[a0] K ⟨w, ds⟩ := cl_st bodies_ok Tryz.func398 8 [.tmp 2] h

/-- internal/bytealg.Cutover -/
def D402 (a0 : Value) (K : Value → World → Prop) (s : St) : Prop :=
  Bo P .add 3 false true a0 (.int .i64 16) (fun v1 s => Bo P .quo 3 false true v1 (.int .i64 8) (fun v2 s => Ret P (fun w => K v2 w) s) s) s
theorem s402 {a0 : Value} (h : D402 a0 (fun v w' => K v ⟨w', ds⟩) ⟨w, []⟩) : Cl P 402 #[a0] K ⟨w, ds⟩ := cl_st bodies_ok Tryz.func402 6 [.tmp 2] h

/-- internal/bytealg.IndexRabinKarp[string] -/
def D403 (a0 a1 : Value) (K : Value → World → Prop) (s : St) : Prop :=
  Cl P 413 #[a1] (fun v1 s => Ex P v1 0 (fun v2 s => Ex P v1 1 (fun v3 s => Bi P .len #[9] 3 #[false] #[a1] (fun v4 s => L2 (.int .u32 0) (.int .i64 0) s (fun N5 x6 x7 s => Bo P .lss 3 false false x7 v4 (fun v8 s => CondP v8 (Bo P .mul 393 false true x6 (.int .u32 16777619) (fun v9 s => Ix P 9 a0 x7 (fun v10 s => Cv P 5 393 v10 (fun v11 s => Bo P .add 393 false false v9 v11 (fun v12 s => Bo P .add 3 false true x7 (.int .i64 1) (fun v13 s => N5 v12 v13 s) s) s) s) s) s) (Bo P .eql 393 false false x6 v2 (fun v14 s => J1 (fun A15 => Grd v14 true (Sl P 9 a0 none (some v4) none (fun v17 s => Bo P .eql 9 false false v17 a1 (fun v18 s => A15 v18 s) s) s) (A15 undef s)) (fun x16 s => Pk P v14 x16 (.bool false) (fun v19 s => CondP v19 (Ret P (fun w => K (.int .i64 0) w) s) (L2 x6 v4 s (fun N20 x21 x22 s => Bi P .len #[9] 3 #[false] #[a0] (fun v23 s => Bo P .lss 3 false false x22 v23 (fun v24 s => CondP v24 (Bo P .mul 393 false true x21 (.int .u32 16777619) (fun v25 s => Ix P 9 a0 x22 (fun v26 s => Cv P 5 393 v26 (fun v27 s => Bo P .add 393 false false v25 v27 (fun v28 s => Bo P .sub 3 false false x22 v4 (fun v29 s => Ix P 9 a0 v29 (fun v30 s => Cv P 5 393 v30 (fun v31 s => Bo P .mul 393 false false v3 v31 (fun v32 s => Bo P .sub 393 false false v28 v32 (fun v33 s => Bo P .add 3 false true x22 (.int .i64 1) (fun v34 s => Bo P .eql 393 false false v33 v2 (fun v35 s => J1 (fun A36 => Grd v35 true (Bo P .sub 3 false false v34 v4 (fun v38 s => Sl P 9 a0 (some v38) (some v34) none (fun v39 s => Bo P .eql 9 false false v39 a1 (fun v40 s => A36 v40 s) s) s) s) (A36 undef s)) (fun x37 s => Pk P v35 x37 (.bool false) (fun v41 s => CondP v41 (Bo P .sub 3 false false v34 v4 (fun v42 s => Ret P (fun w => K v42 w) s) s) (N20 v33 v34 s)) s)) s) s) s) s) s) s) s) s) s) s) s) (Ret P (fun w => K (.int .i64 (-1)) w) s)) s) s))) s)) s)) s)) s) s) s) s
theorem s403 {a0 a1 : Value} (h : D403 a0 a1 (fun v w' => K v ⟨w', ds⟩) ⟨w, []⟩) : Cl P 403 #[a0, a1] K ⟨w, ds⟩ := cl_st bodies_ok Tryz.func403 81 [.tmp 4] h

/-- slices.Delete[[]string,string] -/
def D406 (a0 a1 a2 : Value) (K : Value → World → Prop) (s : St) : Prop :=
  Bi P .len #[134] 3 #[false] #[a0] (fun v1 s => Sl P 134 a0 (some a1) (some a2) (some v1) (fun _ s => Bo P .eql 3 false false a1 a2 (fun v3 s => CondP v3 (Ret P (fun w => K a0 w) s) (Bi P .len #[134] 3 #[false] #[a0] (fun v4 s => Dw (fun s => Qt (Sl P 134 a0 none (some a1) none) s fun v5 => Qt (Sl P 134 a0 (some a2) none none) s fun v6 => Bi P .append #[134, 134] 134 #[false, false] #[v5, v6] (fun v7 s => Bi P .len #[134] 3 #[false] #[v7] (fun v8 s => Sl P 134 v7 (some v8) (some v4) none (fun v9 s => Bi P .clear #[134] 0 #[false] #[v9] (fun _ s => Ret P (fun w => K v7 w) s) s) s) s) s) s) s)) s) s) s
theorem s406 {a0 a1 a2 : Value} (h : D406 a0 a1 a2 (fun v w' => K v ⟨w', ds⟩) ⟨w, []⟩) : Cl P 406 #[a0, a1, a2] K ⟨w, ds⟩ := cl_st bodies_ok Tryz.func406 33 [.tmp 6] h

/-- slices.order2Ordered[int] -/
def D412 (a0 a1 a2 a3 : Value) (K : Value → World → Prop) (s : St) : Prop :=
  Dw (fun s => Qt (Ia P 64 a0 a2) s fun v1 => Qt (Ld P 3 v1) s fun v2 => Qt (Ia P 64 a0 a1) s fun v3 => Qt (Ld P 3 v3) s fun v4 => Cl P 303 #[v2, v4] (fun v5 s => CondP v5 (Nc P a3 (fun v6 s => Ld P 3 v6 (fun v7 s => Bo P .add 3 false true v7 (.int .i64 1) (fun v8 s => Nc P a3 (fun v9 s => Sv P 3 v9 v8 (fun _ s => Ret P (fun w => K (.tuple #[a2, a1]) w) s) s) s) s) s) s) (Ret P (fun w => K (.tuple #[a1, a2]) w) s)) s) s
theorem s412 {a0 a1 a2 a3 : Value} (h : D412 a0 a1 a2 a3 (fun v w' => K v ⟨w', ds⟩) ⟨w, []⟩) : Cl P 412 #[a0, a1, a2, a3] K ⟨w, ds⟩ := cl_st bodies_ok Tryz.func412 28 [.tmp 8, .tmp 9] h

/-- internal/bytealg.hashStr[string] -/
def D413 (a0 : Value) (K : Value → World → Prop) (s : St) : Prop :=
  L2 (.int .u32 0) (.int .i64 0) s (fun N1 x2 x3 s => Bi P .len #[9] 3 #[false] #[a0] (fun v4 s => Bo P .lss 3 false false x3 v4 (fun v5 s => CondP v5 (Bo P .mul 393 false true x2 (.int .u32 16777619) (fun v6 s => Ix P 9 a0 x3 (fun v7 s => Cv P 5 393 v7 (fun v8 s => Bo P .add 393 false false v6 v8 (fun v9 s => Bo P .add 3 false true x3 (.int .i64 1) (fun v10 s => N1 v9 v10 s) s) s) s) s) s) (Bi P .len #[9] 3 #[false] #[a0] (fun v11 s => L3 (.int .u32 1) (.int .u32 16777619) v11 s (fun N12 x13 x14 x15 s => Bo P .gtr 3 false true x15 (.int .i64 0) (fun v16 s => CondP v16 (J1 (fun A17 => Bo P .and 3 false true x15 (.int .i64 1) (fun v19 s => Bo P .neq 3 false true v19 (.int .i64 0) (fun v20 s => CondP v20 (Bo P .mul 393 false false x13 x14 (fun v21 s => A17 v21 s) s) (A17 x13 s)) s) s) (fun x18 s => Bo P .mul 393 false false x14 x14 (fun v22 s => Bo P .shr 3 false true x15 (.int .u64 1) (fun v23 s => N12 x18 v22 v23 s) s) s)) (Ret P (fun w => K (.tuple #[x2, x13]) w) s)) s)) s)) s) s)
theorem s413 {a0 : Value} (h : D413 a0 (fun v w' => K v ⟨w', ds⟩) ⟨w, []⟩) : Cl P 413 #[a0] K ⟨w, ds⟩ := cl_st bodies_ok Tryz.func413 39 [.tmp 2, .tmp 3] h

/-- (*rollcall/core.Core).done, as a frame leaves -/
def DD65 (a0 a1 : Value) (K : Value → World → Prop) (s : St) : Prop :=
  Cl P 64 #[a0, a1] (fun v1 s => Bo P .neq 95 false true v1 (.pointer none) (fun v2 s => J1 (fun A3 => Grd v2 true (Nc P v1 (fun v5 s => Fa P 99 v5 4 (fun v6 s => Ld P 4 v6 (fun v7 s => A3 v7 s) s) s) s) (A3 undef s)) (fun x4 s => Pk P v2 x4 (.bool false) (fun v8 s => J1 (fun A9 => Grd v8 true (Nc P v1 (fun v11 s => Fa P 99 v11 2 (fun v12 s => Ld P 92 v12 (fun v13 s => Cl P 132 #[v13] (fun v14 s => Bo P .eql 3 false true v14 (.int .i64 0) (fun v15 s => A9 v15 s) s) s) s) s) s) (A9 undef s)) (fun x10 s => Pk P v8 x10 (.bool false) (fun v16 s => CondP v16 (Nc P a0 (fun v17 s => Fa P 90 v17 2 (fun v18 s => Ld P 84 v18 (fun v19 s => Bi P .delete #[84, 3] 0 #[false, false] #[v19, a1] (fun _ s => RetD (fun w => K (.tuple #[]) w) s) s) s) s) s) (RetD (fun w => K (.tuple #[]) w) s)) s)) s)) s) s
theorem sd65 {a0 a1 : Value} {K : World → Prop} (h : DD65 a0 a1 (fun _ w' => K w') ⟨w, []⟩) : Cd P 65 #[a0, a1] K w := cd_st bodies_ok Tryz.func65 29 [] h

end
instance : BodyOf P 65 := ⟨bodies_ok.2 65 (by kernel_rfl)⟩
instance : BodyOf P 193 := ⟨bodies_ok.2 193 (by kernel_rfl)⟩
instance : BodyOf P 196 := ⟨bodies_ok.2 196 (by kernel_rfl)⟩
instance : BodyOf P 242 := ⟨bodies_ok.2 242 (by kernel_rfl)⟩
instance : BodyOf P 275 := ⟨bodies_ok.2 275 (by kernel_rfl)⟩
instance : BodyOf P 289 := ⟨bodies_ok.2 289 (by kernel_rfl)⟩
instance : BodyOf P 290 := ⟨bodies_ok.2 290 (by kernel_rfl)⟩
instance : BodyOf P 331 := ⟨bodies_ok.2 331 (by kernel_rfl)⟩
instance : BodyOf P 350 := ⟨bodies_ok.2 350 (by kernel_rfl)⟩
instance : BodyOf P 397 := ⟨bodies_ok.2 397 (by kernel_rfl)⟩
instance : ExIdx P 341 := ⟨run_callFunc_indexByte Tryz.func341 (by kernel_rfl) (by kernel_rfl) (by kernel_rfl) (by kernel_rfl)⟩
instance : ExNoE P 372 := ⟨run_callFunc_extern Tryz.func372 (by kernel_rfl) (by kernel_rfl) (by kernel_rfl) (by kernel_rfl)⟩
instance : ExMnz P 400 22 5 := ⟨⟨#[3], run_callFunc_extern Tryz.func400 (by kernel_rfl) (by kernel_rfl) (by kernel_rfl) (by kernel_rfl)⟩, Tryz.underlying22⟩
instance : TyU P 3 (.int .i64) := ⟨Tryz.underlying3⟩
instance : TyInf P 3 1 := ⟨⟨_, inf_of Tryz.type3, by kernel_rfl⟩⟩
instance : TyAgg P 3 false := ⟨Tryz.isAgg3⟩
instance : TySize P 3 1 := ⟨Tryz.sizeOf3⟩
instance : TyZ P 3 [.int .i64 0] := ⟨fun w => ⟨_, Tryz.zeroValue3 w, rfl⟩⟩
instance : TyU P 4 (.bool) := ⟨Tryz.underlying4⟩
instance : TyInf P 4 1 := ⟨⟨_, inf_of Tryz.type4, by kernel_rfl⟩⟩
instance : TyAgg P 4 false := ⟨Tryz.isAgg4⟩
instance : TySize P 4 1 := ⟨Tryz.sizeOf4⟩
instance : TyZ P 4 [.bool false] := ⟨fun w => ⟨_, Tryz.zeroValue4 w, rfl⟩⟩
instance : TyU P 5 (.int .u8) := ⟨Tryz.underlying5⟩
instance : TyInf P 5 1 := ⟨⟨_, inf_of Tryz.type5, by kernel_rfl⟩⟩
instance : TyAgg P 5 false := ⟨Tryz.isAgg5⟩
instance : TySize P 5 1 := ⟨Tryz.sizeOf5⟩
instance : TyZ P 5 [byteV 0] := ⟨fun w => ⟨_, Tryz.zeroValue5 w, rfl⟩⟩
instance : TyU P 9 (.string) := ⟨Tryz.underlying9⟩
instance : TyInf P 9 1 := ⟨⟨_, inf_of Tryz.type9, by kernel_rfl⟩⟩
instance : TyAgg P 9 false := ⟨Tryz.isAgg9⟩
instance : TySize P 9 1 := ⟨Tryz.sizeOf9⟩
instance : TyZ P 9 [.string ⟨#[]⟩] := ⟨fun w => ⟨_, Tryz.zeroValue9 w, rfl⟩⟩
instance : TyU P 22 (.slice 5) := ⟨Tryz.underlying22⟩
instance : TyInf P 22 1 := ⟨⟨_, inf_of Tryz.type22, by kernel_rfl⟩⟩
instance : TyAgg P 22 false := ⟨Tryz.isAgg22⟩
instance : TySize P 22 1 := ⟨Tryz.sizeOf22⟩
instance : TyZ P 22 [.slice none 0 0] := ⟨fun w => ⟨_, Tryz.zeroValue22 w, rfl⟩⟩
instance : TySl P 22 5 1 := ⟨Tryz.t5, byteV 0, Tryz.underlying22, inf_of Tryz.type5, by kernel_rfl, by kernel_rfl, by kernel_rfl, by decide, by decide⟩
instance : TyU P 24 (.pointer 90) := ⟨Tryz.underlying24⟩
instance : TyInf P 24 1 := ⟨⟨_, inf_of Tryz.type24, by kernel_rfl⟩⟩
instance : TyAgg P 24 false := ⟨Tryz.isAgg24⟩
instance : TySize P 24 1 := ⟨Tryz.sizeOf24⟩
instance : TyZ P 24 [.pointer none] := ⟨fun w => ⟨_, Tryz.zeroValue24 w, rfl⟩⟩
instance : TyU P 25 (.int .i64) := ⟨Tryz.underlying25⟩
instance : TyInf P 25 1 := ⟨⟨_, inf_of Tryz.type25, by kernel_rfl⟩⟩
instance : TyAgg P 25 false := ⟨Tryz.isAgg25⟩
instance : TySize P 25 1 := ⟨Tryz.sizeOf25⟩
instance : TyZ P 25 [.int .i64 0] := ⟨fun w => ⟨_, Tryz.zeroValue25 w, rfl⟩⟩
instance : TyInf P 29 15 := ⟨⟨_, inf_of Tryz.type29, by kernel_rfl⟩⟩
instance : TyAgg P 29 true := ⟨Tryz.isAgg29⟩
instance : TySize P 29 15 := ⟨Tryz.sizeOf29⟩
instance : TyZ P 29 [.string ⟨#[]⟩, .string ⟨#[]⟩, .string ⟨#[]⟩, .string ⟨#[]⟩, .int .i64 0, .int .i64 0, .int .i64 0, .int .i64 0, .int .i64 0, .int .i64 0, .int .i64 0, .int .i64 0, .int .i64 0, .int .i64 0, .int .i64 0] := ⟨fun w => ⟨_, Tryz.zeroValue29 w, rfl⟩⟩
instance : TyEq P 29 [(9, 0), (9, 1), (9, 2), (9, 3), (3, 4), (3, 5), (3, 6), (3, 7), (3, 8), (3, 9), (3, 10), (3, 11), (3, 12), (3, 13), (3, 14)] := ⟨⟨_, Tryz.underlying29, rfl, by decide⟩, Tryz.stoodInHeld29, Tryz.eqGuardType29⟩
instance : TyB P 29 [.string ⟨#[]⟩, .string ⟨#[]⟩, .string ⟨#[]⟩, .string ⟨#[]⟩, .int .i64 0, .int .i64 0, .int .i64 0, .int .i64 0, .int .i64 0, .int .i64 0, .int .i64 0, .int .i64 0, .int .i64 0, .int .i64 0, .int .i64 0] [(0, 1), (1, 1), (2, 1), (3, 1), (4, 1), (5, 1), (6, 1), (7, 1), (8, 1), (9, 1), (10, 1), (11, 1), (12, 1), (13, 1), (14, 1)] := ⟨fun ps => by kernel_rfl⟩
instance : TyFld P 29 0 0 := ⟨fun a w => by simp [Instr.fieldAt, Instr.sureAddr, fieldPlace, Sem.run_bind, Tryz.runUnderlying29, Tryz.sizeOf9]⟩
instance : TyFld P 29 1 1 := ⟨fun a w => by simp [Instr.fieldAt, Instr.sureAddr, fieldPlace, Sem.run_bind, Tryz.runUnderlying29, Tryz.sizeOf9]⟩
instance : TyFld P 29 2 2 := ⟨fun a w => by simp [Instr.fieldAt, Instr.sureAddr, fieldPlace, Sem.run_bind, Tryz.runUnderlying29, Tryz.sizeOf9]⟩
instance : TyFld P 29 3 3 := ⟨fun a w => by simp [Instr.fieldAt, Instr.sureAddr, fieldPlace, Sem.run_bind, Tryz.runUnderlying29, Tryz.sizeOf9]⟩
instance : TyFld P 29 4 4 := ⟨fun a w => by simp [Instr.fieldAt, Instr.sureAddr, fieldPlace, Sem.run_bind, Tryz.runUnderlying29, Tryz.sizeOf3]⟩
instance : TyFld P 29 5 5 := ⟨fun a w => by simp [Instr.fieldAt, Instr.sureAddr, fieldPlace, Sem.run_bind, Tryz.runUnderlying29, Tryz.sizeOf3]⟩
instance : TyFld P 29 6 6 := ⟨fun a w => by simp [Instr.fieldAt, Instr.sureAddr, fieldPlace, Sem.run_bind, Tryz.runUnderlying29, Tryz.sizeOf3]⟩
instance : TyFld P 29 7 7 := ⟨fun a w => by simp [Instr.fieldAt, Instr.sureAddr, fieldPlace, Sem.run_bind, Tryz.runUnderlying29, Tryz.sizeOf3]⟩
instance : TyFld P 29 8 8 := ⟨fun a w => by simp [Instr.fieldAt, Instr.sureAddr, fieldPlace, Sem.run_bind, Tryz.runUnderlying29, Tryz.sizeOf3]⟩
instance : TyFld P 29 9 9 := ⟨fun a w => by simp [Instr.fieldAt, Instr.sureAddr, fieldPlace, Sem.run_bind, Tryz.runUnderlying29, Tryz.sizeOf3]⟩
instance : TyFld P 29 10 10 := ⟨fun a w => by simp [Instr.fieldAt, Instr.sureAddr, fieldPlace, Sem.run_bind, Tryz.runUnderlying29, Tryz.sizeOf3]⟩
instance : TyFld P 29 11 11 := ⟨fun a w => by simp [Instr.fieldAt, Instr.sureAddr, fieldPlace, Sem.run_bind, Tryz.runUnderlying29, Tryz.sizeOf3]⟩
instance : TyFld P 29 12 12 := ⟨fun a w => by simp [Instr.fieldAt, Instr.sureAddr, fieldPlace, Sem.run_bind, Tryz.runUnderlying29, Tryz.sizeOf3]⟩
instance : TyFld P 29 13 13 := ⟨fun a w => by simp [Instr.fieldAt, Instr.sureAddr, fieldPlace, Sem.run_bind, Tryz.runUnderlying29, Tryz.sizeOf3]⟩
instance : TyFld P 29 14 14 := ⟨fun a w => by simp [Instr.fieldAt, Instr.sureAddr, fieldPlace, Sem.run_bind, Tryz.runUnderlying29, Tryz.sizeOf3]⟩
instance : TyInf P 34 7 := ⟨⟨_, inf_of Tryz.type34, by kernel_rfl⟩⟩
instance : TyAgg P 34 true := ⟨Tryz.isAgg34⟩
instance : TySize P 34 7 := ⟨Tryz.sizeOf34⟩
instance : TyZ P 34 [.int .i64 0, .bool false, .string ⟨#[]⟩, .string ⟨#[]⟩, .string ⟨#[]⟩, .string ⟨#[]⟩, .bool false] := ⟨fun w => ⟨_, Tryz.zeroValue34 w, rfl⟩⟩
instance : TyEq P 34 [(3, 0), (4, 1), (9, 2), (9, 3), (9, 4), (9, 5), (4, 6)] := ⟨⟨_, Tryz.underlying34, rfl, by decide⟩, Tryz.stoodInHeld34, Tryz.eqGuardType34⟩
instance : TyB P 34 [.int .i64 0, .bool false, .string ⟨#[]⟩, .string ⟨#[]⟩, .string ⟨#[]⟩, .string ⟨#[]⟩, .bool false] [(0, 1), (1, 1), (2, 1), (3, 1), (4, 1), (5, 1), (6, 1)] := ⟨fun ps => by kernel_rfl⟩
instance : TyFld P 34 0 0 := ⟨fun a w => by simp [Instr.fieldAt, Instr.sureAddr, fieldPlace, Sem.run_bind, Tryz.runUnderlying34, Tryz.sizeOf3]⟩
instance : TyFld P 34 1 1 := ⟨fun a w => by simp [Instr.fieldAt, Instr.sureAddr, fieldPlace, Sem.run_bind, Tryz.runUnderlying34, Tryz.sizeOf4]⟩
instance : TyFld P 34 2 2 := ⟨fun a w => by simp [Instr.fieldAt, Instr.sureAddr, fieldPlace, Sem.run_bind, Tryz.runUnderlying34, Tryz.sizeOf9]⟩
instance : TyFld P 34 3 3 := ⟨fun a w => by simp [Instr.fieldAt, Instr.sureAddr, fieldPlace, Sem.run_bind, Tryz.runUnderlying34, Tryz.sizeOf9]⟩
instance : TyFld P 34 4 4 := ⟨fun a w => by simp [Instr.fieldAt, Instr.sureAddr, fieldPlace, Sem.run_bind, Tryz.runUnderlying34, Tryz.sizeOf9]⟩
instance : TyFld P 34 5 5 := ⟨fun a w => by simp [Instr.fieldAt, Instr.sureAddr, fieldPlace, Sem.run_bind, Tryz.runUnderlying34, Tryz.sizeOf9]⟩
instance : TyFld P 34 6 6 := ⟨fun a w => by simp [Instr.fieldAt, Instr.sureAddr, fieldPlace, Sem.run_bind, Tryz.runUnderlying34, Tryz.sizeOf4]⟩
instance : TyInf P 35 1 := ⟨⟨_, inf_of Tryz.type35, by kernel_rfl⟩⟩
instance : TyFn P 35 := ⟨⟨_, _, _, Tryz.underlying35⟩⟩
instance : TyAgg P 35 false := ⟨Tryz.isAgg35⟩
instance : TySize P 35 1 := ⟨Tryz.sizeOf35⟩
instance : TyZ P 35 [.nilFunc] := ⟨fun w => ⟨_, Tryz.zeroValue35 w, rfl⟩⟩
instance : TyU P 36 (.pointer 110) := ⟨Tryz.underlying36⟩
instance : TyInf P 36 1 := ⟨⟨_, inf_of Tryz.type36, by kernel_rfl⟩⟩
instance : TyAgg P 36 false := ⟨Tryz.isAgg36⟩
instance : TySize P 36 1 := ⟨Tryz.sizeOf36⟩
instance : TyZ P 36 [.pointer none] := ⟨fun w => ⟨_, Tryz.zeroValue36 w, rfl⟩⟩
instance : TyU P 43 (.slice 53) := ⟨Tryz.underlying43⟩
instance : TyInf P 43 1 := ⟨⟨_, inf_of Tryz.type43, by kernel_rfl⟩⟩
instance : TyAgg P 43 false := ⟨Tryz.isAgg43⟩
instance : TySize P 43 1 := ⟨Tryz.sizeOf43⟩
instance : TyZ P 43 [.slice none 0 0] := ⟨fun w => ⟨_, Tryz.zeroValue43 w, rfl⟩⟩
instance : TySl P 43 53 4 := ⟨Tryz.t53, .agg #[.int .i64 0, .int .i64 0, .int .i64 0, .string ⟨#[]⟩], Tryz.underlying43, inf_of Tryz.type53, by kernel_rfl, by kernel_rfl, by kernel_rfl, by decide, by decide⟩
instance : TyU P 47 (.pointer 132) := ⟨Tryz.underlying47⟩
instance : TyInf P 47 1 := ⟨⟨_, inf_of Tryz.type47, by kernel_rfl⟩⟩
instance : TyAgg P 47 false := ⟨Tryz.isAgg47⟩
instance : TySize P 47 1 := ⟨Tryz.sizeOf47⟩
instance : TyZ P 47 [.pointer none] := ⟨fun w => ⟨_, Tryz.zeroValue47 w, rfl⟩⟩
instance : TyInf P 53 4 := ⟨⟨_, inf_of Tryz.type53, by kernel_rfl⟩⟩
instance : TyAgg P 53 true := ⟨Tryz.isAgg53⟩
instance : TySize P 53 4 := ⟨Tryz.sizeOf53⟩
instance : TyZ P 53 [.int .i64 0, .int .i64 0, .int .i64 0, .string ⟨#[]⟩] := ⟨fun w => ⟨_, Tryz.zeroValue53 w, rfl⟩⟩
instance : TyEq P 53 [(3, 0), (3, 1), (3, 2), (9, 3)] := ⟨⟨_, Tryz.underlying53, rfl, by decide⟩, Tryz.stoodInHeld53, Tryz.eqGuardType53⟩
instance : TyB P 53 [.int .i64 0, .int .i64 0, .int .i64 0, .string ⟨#[]⟩] [(0, 1), (1, 1), (2, 1), (3, 1)] := ⟨fun ps => by kernel_rfl⟩
instance : TyFld P 53 0 0 := ⟨fun a w => by simp [Instr.fieldAt, Instr.sureAddr, fieldPlace, Sem.run_bind, Tryz.runUnderlying53, Tryz.sizeOf3]⟩
instance : TyFld P 53 1 1 := ⟨fun a w => by simp [Instr.fieldAt, Instr.sureAddr, fieldPlace, Sem.run_bind, Tryz.runUnderlying53, Tryz.sizeOf3]⟩
instance : TyFld P 53 2 2 := ⟨fun a w => by simp [Instr.fieldAt, Instr.sureAddr, fieldPlace, Sem.run_bind, Tryz.runUnderlying53, Tryz.sizeOf3]⟩
instance : TyFld P 53 3 3 := ⟨fun a w => by simp [Instr.fieldAt, Instr.sureAddr, fieldPlace, Sem.run_bind, Tryz.runUnderlying53, Tryz.sizeOf9]⟩
instance : TyU P 55 (.pointer 61) := ⟨Tryz.underlying55⟩
instance : TyInf P 55 1 := ⟨⟨_, inf_of Tryz.type55, by kernel_rfl⟩⟩
instance : TyAgg P 55 false := ⟨Tryz.isAgg55⟩
instance : TySize P 55 1 := ⟨Tryz.sizeOf55⟩
instance : TyZ P 55 [.pointer none] := ⟨fun w => ⟨_, Tryz.zeroValue55 w, rfl⟩⟩
instance : TyInf P 58 10 := ⟨⟨_, inf_of Tryz.type58, by kernel_rfl⟩⟩
instance : TyAgg P 58 true := ⟨Tryz.isAgg58⟩
instance : TySize P 58 10 := ⟨Tryz.sizeOf58⟩
instance : TyZ P 58 [.int .i64 0, .string ⟨#[]⟩, .string ⟨#[]⟩, .string ⟨#[]⟩, .string ⟨#[]⟩, .string ⟨#[]⟩, .bool false, .bool false, .int .i64 0, .int .i64 0] := ⟨fun w => ⟨_, Tryz.zeroValue58 w, rfl⟩⟩
instance : TyEq P 58 [(3, 0), (9, 1), (9, 2), (9, 3), (9, 4), (9, 5), (4, 6), (4, 7), (3, 8), (3, 9)] := ⟨⟨_, Tryz.underlying58, rfl, by decide⟩, Tryz.stoodInHeld58, Tryz.eqGuardType58⟩
instance : TyB P 58 [.int .i64 0, .string ⟨#[]⟩, .string ⟨#[]⟩, .string ⟨#[]⟩, .string ⟨#[]⟩, .string ⟨#[]⟩, .bool false, .bool false, .int .i64 0, .int .i64 0] [(0, 1), (1, 1), (2, 1), (3, 1), (4, 1), (5, 1), (6, 1), (7, 1), (8, 1), (9, 1)] := ⟨fun ps => by kernel_rfl⟩
instance : TyFld P 58 0 0 := ⟨fun a w => by simp [Instr.fieldAt, Instr.sureAddr, fieldPlace, Sem.run_bind, Tryz.runUnderlying58, Tryz.sizeOf3]⟩
instance : TyFld P 58 1 1 := ⟨fun a w => by simp [Instr.fieldAt, Instr.sureAddr, fieldPlace, Sem.run_bind, Tryz.runUnderlying58, Tryz.sizeOf9]⟩
instance : TyFld P 58 2 2 := ⟨fun a w => by simp [Instr.fieldAt, Instr.sureAddr, fieldPlace, Sem.run_bind, Tryz.runUnderlying58, Tryz.sizeOf9]⟩
instance : TyFld P 58 3 3 := ⟨fun a w => by simp [Instr.fieldAt, Instr.sureAddr, fieldPlace, Sem.run_bind, Tryz.runUnderlying58, Tryz.sizeOf9]⟩
instance : TyFld P 58 4 4 := ⟨fun a w => by simp [Instr.fieldAt, Instr.sureAddr, fieldPlace, Sem.run_bind, Tryz.runUnderlying58, Tryz.sizeOf9]⟩
instance : TyFld P 58 5 5 := ⟨fun a w => by simp [Instr.fieldAt, Instr.sureAddr, fieldPlace, Sem.run_bind, Tryz.runUnderlying58, Tryz.sizeOf9]⟩
instance : TyFld P 58 6 6 := ⟨fun a w => by simp [Instr.fieldAt, Instr.sureAddr, fieldPlace, Sem.run_bind, Tryz.runUnderlying58, Tryz.sizeOf4]⟩
instance : TyFld P 58 7 7 := ⟨fun a w => by simp [Instr.fieldAt, Instr.sureAddr, fieldPlace, Sem.run_bind, Tryz.runUnderlying58, Tryz.sizeOf4]⟩
instance : TyFld P 58 8 8 := ⟨fun a w => by simp [Instr.fieldAt, Instr.sureAddr, fieldPlace, Sem.run_bind, Tryz.runUnderlying58, Tryz.sizeOf3]⟩
instance : TyFld P 58 9 9 := ⟨fun a w => by simp [Instr.fieldAt, Instr.sureAddr, fieldPlace, Sem.run_bind, Tryz.runUnderlying58, Tryz.sizeOf3]⟩
instance : TyU P 59 (.pointer 227) := ⟨Tryz.underlying59⟩
instance : TyInf P 59 1 := ⟨⟨_, inf_of Tryz.type59, by kernel_rfl⟩⟩
instance : TyAgg P 59 false := ⟨Tryz.isAgg59⟩
instance : TySize P 59 1 := ⟨Tryz.sizeOf59⟩
instance : TyZ P 59 [.pointer none] := ⟨fun w => ⟨_, Tryz.zeroValue59 w, rfl⟩⟩
instance : TyInf P 61 22 := ⟨⟨_, inf_of Tryz.type61, by kernel_rfl⟩⟩
instance : TyAgg P 61 true := ⟨Tryz.isAgg61⟩
instance : TySize P 61 22 := ⟨Tryz.sizeOf61⟩
instance : TyZ P 61 [.int .i64 0, .string ⟨#[]⟩, .string ⟨#[]⟩, .string ⟨#[]⟩, .string ⟨#[]⟩, .string ⟨#[]⟩, .bool false, .bool false, .int .i64 0, .int .i64 0, .int .i64 0, .bool false, .string ⟨#[]⟩, .string ⟨#[]⟩, .string ⟨#[]⟩, .string ⟨#[]⟩, .bool false, .pointer none, .slice none 0 0, .int .i64 0, .bool false, .int .i64 0] := ⟨fun w => ⟨_, Tryz.zeroValue61 w, rfl⟩⟩
instance : TyB P 61 [.int .i64 0, .string ⟨#[]⟩, .string ⟨#[]⟩, .string ⟨#[]⟩, .string ⟨#[]⟩, .string ⟨#[]⟩, .bool false, .bool false, .int .i64 0, .int .i64 0, .int .i64 0, .bool false, .string ⟨#[]⟩, .string ⟨#[]⟩, .string ⟨#[]⟩, .string ⟨#[]⟩, .bool false, .pointer none, .slice none 0 0, .int .i64 0, .bool false, .int .i64 0] [(0, 10), (10, 7), (17, 1), (18, 1), (19, 1), (20, 1), (21, 1)] := ⟨fun ps => by kernel_rfl⟩
instance : TyFld P 61 0 0 := ⟨fun a w => by simp [Instr.fieldAt, Instr.sureAddr, fieldPlace, Sem.run_bind, Tryz.runUnderlying61, Tryz.sizeOf58]⟩
instance : TyFld P 61 1 10 := ⟨fun a w => by simp [Instr.fieldAt, Instr.sureAddr, fieldPlace, Sem.run_bind, Tryz.runUnderlying61, Tryz.sizeOf34]⟩
instance : TyFld P 61 2 17 := ⟨fun a w => by simp [Instr.fieldAt, Instr.sureAddr, fieldPlace, Sem.run_bind, Tryz.runUnderlying61, Tryz.sizeOf59]⟩
instance : TyFld P 61 3 18 := ⟨fun a w => by simp [Instr.fieldAt, Instr.sureAddr, fieldPlace, Sem.run_bind, Tryz.runUnderlying61, Tryz.sizeOf22]⟩
instance : TyFld P 61 4 19 := ⟨fun a w => by simp [Instr.fieldAt, Instr.sureAddr, fieldPlace, Sem.run_bind, Tryz.runUnderlying61, Tryz.sizeOf3]⟩
instance : TyFld P 61 5 20 := ⟨fun a w => by simp [Instr.fieldAt, Instr.sureAddr, fieldPlace, Sem.run_bind, Tryz.runUnderlying61, Tryz.sizeOf4]⟩
instance : TyFld P 61 6 21 := ⟨fun a w => by simp [Instr.fieldAt, Instr.sureAddr, fieldPlace, Sem.run_bind, Tryz.runUnderlying61, Tryz.sizeOf3]⟩
instance : TyU P 64 (.slice 3) := ⟨Tryz.underlying64⟩
instance : TyInf P 64 1 := ⟨⟨_, inf_of Tryz.type64, by kernel_rfl⟩⟩
instance : TyAgg P 64 false := ⟨Tryz.isAgg64⟩
instance : TySize P 64 1 := ⟨Tryz.sizeOf64⟩
instance : TyZ P 64 [.slice none 0 0] := ⟨fun w => ⟨_, Tryz.zeroValue64 w, rfl⟩⟩
instance : TySl P 64 3 1 := ⟨Tryz.t3, .int .i64 0, Tryz.underlying64, inf_of Tryz.type3, by kernel_rfl, by kernel_rfl, by kernel_rfl, by decide, by decide⟩
instance : TyU P 69 (.pointer 151) := ⟨Tryz.underlying69⟩
instance : TyInf P 69 1 := ⟨⟨_, inf_of Tryz.type69, by kernel_rfl⟩⟩
instance : TyAgg P 69 false := ⟨Tryz.isAgg69⟩
instance : TySize P 69 1 := ⟨Tryz.sizeOf69⟩
instance : TyZ P 69 [.pointer none] := ⟨fun w => ⟨_, Tryz.zeroValue69 w, rfl⟩⟩
instance : TyU P 71 (.pointer 154) := ⟨Tryz.underlying71⟩
instance : TyInf P 71 1 := ⟨⟨_, inf_of Tryz.type71, by kernel_rfl⟩⟩
instance : TyAgg P 71 false := ⟨Tryz.isAgg71⟩
instance : TySize P 71 1 := ⟨Tryz.sizeOf71⟩
instance : TyZ P 71 [.pointer none] := ⟨fun w => ⟨_, Tryz.zeroValue71 w, rfl⟩⟩
instance : TyU P 79 (.pointer 166) := ⟨Tryz.underlying79⟩
instance : TyInf P 79 1 := ⟨⟨_, inf_of Tryz.type79, by kernel_rfl⟩⟩
instance : TyAgg P 79 false := ⟨Tryz.isAgg79⟩
instance : TySize P 79 1 := ⟨Tryz.sizeOf79⟩
instance : TyZ P 79 [.pointer none] := ⟨fun w => ⟨_, Tryz.zeroValue79 w, rfl⟩⟩
instance : TyU P 84 (.map 3 95) := ⟨Tryz.underlying84⟩
instance : TyInf P 84 1 := ⟨⟨_, inf_of Tryz.type84, by kernel_rfl⟩⟩
instance : TyMap P 84 3 95 (.int .i64) := ⟨Tryz.underlying84, Tryz.underlying3⟩
instance : TyAgg P 84 false := ⟨Tryz.isAgg84⟩
instance : TySize P 84 1 := ⟨Tryz.sizeOf84⟩
instance : TyZ P 84 [.map none] := ⟨fun w => ⟨_, Tryz.zeroValue84 w, rfl⟩⟩
instance : TyU P 87 (.pointer 175) := ⟨Tryz.underlying87⟩
instance : TyInf P 87 1 := ⟨⟨_, inf_of Tryz.type87, by kernel_rfl⟩⟩
instance : TyAgg P 87 false := ⟨Tryz.isAgg87⟩
instance : TySize P 87 1 := ⟨Tryz.sizeOf87⟩
instance : TyZ P 87 [.pointer none] := ⟨fun w => ⟨_, Tryz.zeroValue87 w, rfl⟩⟩
instance : TyInf P 90 24 := ⟨⟨_, inf_of Tryz.type90, by kernel_rfl⟩⟩
instance : TyAgg P 90 true := ⟨Tryz.isAgg90⟩
instance : TySize P 90 24 := ⟨Tryz.sizeOf90⟩
instance : TyZ P 90 [.string ⟨#[]⟩, .string ⟨#[]⟩, .string ⟨#[]⟩, .string ⟨#[]⟩, .int .i64 0, .int .i64 0, .int .i64 0, .int .i64 0, .int .i64 0, .int .i64 0, .int .i64 0, .int .i64 0, .int .i64 0, .int .i64 0, .int .i64 0, .int .i64 0, .map none, .pointer none, .pointer none, .pointer none, .pointer none, .pointer none, .pointer none, .slice none 0 0] := ⟨fun w => ⟨_, Tryz.zeroValue90 w, rfl⟩⟩
instance : TyB P 90 [.string ⟨#[]⟩, .string ⟨#[]⟩, .string ⟨#[]⟩, .string ⟨#[]⟩, .int .i64 0, .int .i64 0, .int .i64 0, .int .i64 0, .int .i64 0, .int .i64 0, .int .i64 0, .int .i64 0, .int .i64 0, .int .i64 0, .int .i64 0, .int .i64 0, .map none, .pointer none, .pointer none, .pointer none, .pointer none, .pointer none, .pointer none, .slice none 0 0] [(0, 15), (15, 1), (16, 1), (17, 1), (18, 1), (19, 1), (20, 1), (21, 1), (22, 1), (23, 1)] := ⟨fun ps => by kernel_rfl⟩
instance : TyFld P 90 0 0 := ⟨fun a w => by simp [Instr.fieldAt, Instr.sureAddr, fieldPlace, Sem.run_bind, Tryz.runUnderlying90, Tryz.sizeOf29]⟩
instance : TyFld P 90 1 15 := ⟨fun a w => by simp [Instr.fieldAt, Instr.sureAddr, fieldPlace, Sem.run_bind, Tryz.runUnderlying90, Tryz.sizeOf3]⟩
instance : TyFld P 90 2 16 := ⟨fun a w => by simp [Instr.fieldAt, Instr.sureAddr, fieldPlace, Sem.run_bind, Tryz.runUnderlying90, Tryz.sizeOf84]⟩
instance : TyFld P 90 3 17 := ⟨fun a w => by simp [Instr.fieldAt, Instr.sureAddr, fieldPlace, Sem.run_bind, Tryz.runUnderlying90, Tryz.sizeOf79]⟩
instance : TyFld P 90 4 18 := ⟨fun a w => by simp [Instr.fieldAt, Instr.sureAddr, fieldPlace, Sem.run_bind, Tryz.runUnderlying90, Tryz.sizeOf71]⟩
instance : TyFld P 90 5 19 := ⟨fun a w => by simp [Instr.fieldAt, Instr.sureAddr, fieldPlace, Sem.run_bind, Tryz.runUnderlying90, Tryz.sizeOf36]⟩
instance : TyFld P 90 6 20 := ⟨fun a w => by simp [Instr.fieldAt, Instr.sureAddr, fieldPlace, Sem.run_bind, Tryz.runUnderlying90, Tryz.sizeOf36]⟩
instance : TyFld P 90 7 21 := ⟨fun a w => by simp [Instr.fieldAt, Instr.sureAddr, fieldPlace, Sem.run_bind, Tryz.runUnderlying90, Tryz.sizeOf69]⟩
instance : TyFld P 90 8 22 := ⟨fun a w => by simp [Instr.fieldAt, Instr.sureAddr, fieldPlace, Sem.run_bind, Tryz.runUnderlying90, Tryz.sizeOf87]⟩
instance : TyFld P 90 9 23 := ⟨fun a w => by simp [Instr.fieldAt, Instr.sureAddr, fieldPlace, Sem.run_bind, Tryz.runUnderlying90, Tryz.sizeOf64]⟩
instance : TyU P 92 (.pointer 180) := ⟨Tryz.underlying92⟩
instance : TyInf P 92 1 := ⟨⟨_, inf_of Tryz.type92, by kernel_rfl⟩⟩
instance : TyAgg P 92 false := ⟨Tryz.isAgg92⟩
instance : TySize P 92 1 := ⟨Tryz.sizeOf92⟩
instance : TyZ P 92 [.pointer none] := ⟨fun w => ⟨_, Tryz.zeroValue92 w, rfl⟩⟩
instance : TyU P 95 (.pointer 99) := ⟨Tryz.underlying95⟩
instance : TyInf P 95 1 := ⟨⟨_, inf_of Tryz.type95, by kernel_rfl⟩⟩
instance : TyAgg P 95 false := ⟨Tryz.isAgg95⟩
instance : TySize P 95 1 := ⟨Tryz.sizeOf95⟩
instance : TyZ P 95 [.pointer none] := ⟨fun w => ⟨_, Tryz.zeroValue95 w, rfl⟩⟩
instance : TyU P 96 (.pointer 182) := ⟨Tryz.underlying96⟩
instance : TyInf P 96 1 := ⟨⟨_, inf_of Tryz.type96, by kernel_rfl⟩⟩
instance : TyAgg P 96 false := ⟨Tryz.isAgg96⟩
instance : TySize P 96 1 := ⟨Tryz.sizeOf96⟩
instance : TyZ P 96 [.pointer none] := ⟨fun w => ⟨_, Tryz.zeroValue96 w, rfl⟩⟩
instance : TyInf P 99 20 := ⟨⟨_, inf_of Tryz.type99, by kernel_rfl⟩⟩
instance : TyAgg P 99 true := ⟨Tryz.isAgg99⟩
instance : TySize P 99 20 := ⟨Tryz.sizeOf99⟩
instance : TyZ P 99 [.int .i64 0, .string ⟨#[]⟩, .string ⟨#[]⟩, .string ⟨#[]⟩, .string ⟨#[]⟩, .string ⟨#[]⟩, .bool false, .bool false, .int .i64 0, .int .i64 0, .int .i64 0, .bool false, .string ⟨#[]⟩, .string ⟨#[]⟩, .string ⟨#[]⟩, .string ⟨#[]⟩, .bool false, .pointer none, .pointer none, .bool false] := ⟨fun w => ⟨_, Tryz.zeroValue99 w, rfl⟩⟩
instance : TyEq P 99 [(58, 0), (34, 10), (92, 17), (96, 18), (4, 19)] := ⟨⟨_, Tryz.underlying99, rfl, by decide⟩, Tryz.stoodInHeld99, Tryz.eqGuardType99⟩
instance : TyB P 99 [.int .i64 0, .string ⟨#[]⟩, .string ⟨#[]⟩, .string ⟨#[]⟩, .string ⟨#[]⟩, .string ⟨#[]⟩, .bool false, .bool false, .int .i64 0, .int .i64 0, .int .i64 0, .bool false, .string ⟨#[]⟩, .string ⟨#[]⟩, .string ⟨#[]⟩, .string ⟨#[]⟩, .bool false, .pointer none, .pointer none, .bool false] [(0, 10), (10, 7), (17, 1), (18, 1), (19, 1)] := ⟨fun ps => by kernel_rfl⟩
instance : TyFld P 99 0 0 := ⟨fun a w => by simp [Instr.fieldAt, Instr.sureAddr, fieldPlace, Sem.run_bind, Tryz.runUnderlying99, Tryz.sizeOf58]⟩
instance : TyFld P 99 1 10 := ⟨fun a w => by simp [Instr.fieldAt, Instr.sureAddr, fieldPlace, Sem.run_bind, Tryz.runUnderlying99, Tryz.sizeOf34]⟩
instance : TyFld P 99 2 17 := ⟨fun a w => by simp [Instr.fieldAt, Instr.sureAddr, fieldPlace, Sem.run_bind, Tryz.runUnderlying99, Tryz.sizeOf92]⟩
instance : TyFld P 99 3 18 := ⟨fun a w => by simp [Instr.fieldAt, Instr.sureAddr, fieldPlace, Sem.run_bind, Tryz.runUnderlying99, Tryz.sizeOf96]⟩
instance : TyFld P 99 4 19 := ⟨fun a w => by simp [Instr.fieldAt, Instr.sureAddr, fieldPlace, Sem.run_bind, Tryz.runUnderlying99, Tryz.sizeOf4]⟩
instance : TyU P 107 (.pointer 193) := ⟨Tryz.underlying107⟩
instance : TyInf P 107 1 := ⟨⟨_, inf_of Tryz.type107, by kernel_rfl⟩⟩
instance : TyAgg P 107 false := ⟨Tryz.isAgg107⟩
instance : TySize P 107 1 := ⟨Tryz.sizeOf107⟩
instance : TyZ P 107 [.pointer none] := ⟨fun w => ⟨_, Tryz.zeroValue107 w, rfl⟩⟩
instance : TyU P 108 (.map 112 9) := ⟨Tryz.underlying108⟩
instance : TyInf P 108 1 := ⟨⟨_, inf_of Tryz.type108, by kernel_rfl⟩⟩
instance : TyAgg P 108 false := ⟨Tryz.isAgg108⟩
instance : TySize P 108 1 := ⟨Tryz.sizeOf108⟩
instance : TyZ P 108 [.map none] := ⟨fun w => ⟨_, Tryz.zeroValue108 w, rfl⟩⟩
instance : TyInf P 110 2 := ⟨⟨_, inf_of Tryz.type110, by kernel_rfl⟩⟩
instance : TyAgg P 110 true := ⟨Tryz.isAgg110⟩
instance : TySize P 110 2 := ⟨Tryz.sizeOf110⟩
instance : TyZ P 110 [.pointer none, .map none] := ⟨fun w => ⟨_, Tryz.zeroValue110 w, rfl⟩⟩
instance : TyB P 110 [.pointer none, .map none] [(0, 1), (1, 1)] := ⟨fun ps => by kernel_rfl⟩
instance : TyFld P 110 0 0 := ⟨fun a w => by simp [Instr.fieldAt, Instr.sureAddr, fieldPlace, Sem.run_bind, Tryz.runUnderlying110, Tryz.sizeOf107]⟩
instance : TyFld P 110 1 1 := ⟨fun a w => by simp [Instr.fieldAt, Instr.sureAddr, fieldPlace, Sem.run_bind, Tryz.runUnderlying110, Tryz.sizeOf108]⟩
instance : TyInf P 112 2 := ⟨⟨_, inf_of Tryz.type112, by kernel_rfl⟩⟩
instance : TyAgg P 112 true := ⟨Tryz.isAgg112⟩
instance : TySize P 112 2 := ⟨Tryz.sizeOf112⟩
instance : TyZ P 112 [.int .i64 0, .string ⟨#[]⟩] := ⟨fun w => ⟨_, Tryz.zeroValue112 w, rfl⟩⟩
instance : TyEq P 112 [(3, 0), (9, 1)] := ⟨⟨_, Tryz.underlying112, rfl, by decide⟩, Tryz.stoodInHeld112, Tryz.eqGuardType112⟩
instance : TyB P 112 [.int .i64 0, .string ⟨#[]⟩] [(0, 1), (1, 1)] := ⟨fun ps => by kernel_rfl⟩
instance : TyFld P 112 0 0 := ⟨fun a w => by simp [Instr.fieldAt, Instr.sureAddr, fieldPlace, Sem.run_bind, Tryz.runUnderlying112, Tryz.sizeOf3]⟩
instance : TyFld P 112 1 1 := ⟨fun a w => by simp [Instr.fieldAt, Instr.sureAddr, fieldPlace, Sem.run_bind, Tryz.runUnderlying112, Tryz.sizeOf9]⟩
instance : TyU P 134 (.slice 9) := ⟨Tryz.underlying134⟩
instance : TyInf P 134 1 := ⟨⟨_, inf_of Tryz.type134, by kernel_rfl⟩⟩
instance : TyAgg P 134 false := ⟨Tryz.isAgg134⟩
instance : TySize P 134 1 := ⟨Tryz.sizeOf134⟩
instance : TyZ P 134 [.slice none 0 0] := ⟨fun w => ⟨_, Tryz.zeroValue134 w, rfl⟩⟩
instance : TySl P 134 9 1 := ⟨Tryz.t9, .string ⟨#[]⟩, Tryz.underlying134, inf_of Tryz.type9, by kernel_rfl, by kernel_rfl, by kernel_rfl, by decide, by decide⟩
instance : TyU P 138 (.slice 205) := ⟨Tryz.underlying138⟩
instance : TyInf P 138 1 := ⟨⟨_, inf_of Tryz.type138, by kernel_rfl⟩⟩
instance : TyAgg P 138 false := ⟨Tryz.isAgg138⟩
instance : TySize P 138 1 := ⟨Tryz.sizeOf138⟩
instance : TyZ P 138 [.slice none 0 0] := ⟨fun w => ⟨_, Tryz.zeroValue138 w, rfl⟩⟩
instance : TySl P 138 205 2 := ⟨Tryz.t205, .agg #[.string ⟨#[]⟩, .bool false], Tryz.underlying138, inf_of Tryz.type205, by kernel_rfl, by kernel_rfl, by kernel_rfl, by decide, by decide⟩
instance : TyInf P 143 1 := ⟨⟨_, inf_of Tryz.type143, by kernel_rfl⟩⟩
instance : TyFn P 143 := ⟨⟨_, _, _, Tryz.underlying143⟩⟩
instance : TyAgg P 143 false := ⟨Tryz.isAgg143⟩
instance : TySize P 143 1 := ⟨Tryz.sizeOf143⟩
instance : TyZ P 143 [.nilFunc] := ⟨fun w => ⟨_, Tryz.zeroValue143 w, rfl⟩⟩
instance : TyU P 149 (.slice 253) := ⟨Tryz.underlying149⟩
instance : TyInf P 149 1 := ⟨⟨_, inf_of Tryz.type149, by kernel_rfl⟩⟩
instance : TyAgg P 149 false := ⟨Tryz.isAgg149⟩
instance : TySize P 149 1 := ⟨Tryz.sizeOf149⟩
instance : TyZ P 149 [.slice none 0 0] := ⟨fun w => ⟨_, Tryz.zeroValue149 w, rfl⟩⟩
instance : TySl P 149 253 11 := ⟨Tryz.t253, .agg #[.string ⟨#[]⟩, .int .i64 0, .string ⟨#[]⟩, .string ⟨#[]⟩, .string ⟨#[]⟩, .string ⟨#[]⟩, .string ⟨#[]⟩, .bool false, .bool false, .int .i64 0, .int .i64 0], Tryz.underlying149, inf_of Tryz.type253, by kernel_rfl, by kernel_rfl, by kernel_rfl, by decide, by decide⟩
instance : TyInf P 151 3 := ⟨⟨_, inf_of Tryz.type151, by kernel_rfl⟩⟩
instance : TyAgg P 151 true := ⟨Tryz.isAgg151⟩
instance : TySize P 151 3 := ⟨Tryz.sizeOf151⟩
instance : TyZ P 151 [.int .i64 0, .slice none 0 0, .int .i64 0] := ⟨fun w => ⟨_, Tryz.zeroValue151 w, rfl⟩⟩
instance : TyB P 151 [.int .i64 0, .slice none 0 0, .int .i64 0] [(0, 1), (1, 1), (2, 1)] := ⟨fun ps => by kernel_rfl⟩
instance : TyFld P 151 0 0 := ⟨fun a w => by simp [Instr.fieldAt, Instr.sureAddr, fieldPlace, Sem.run_bind, Tryz.runUnderlying151, Tryz.sizeOf3]⟩
instance : TyFld P 151 1 1 := ⟨fun a w => by simp [Instr.fieldAt, Instr.sureAddr, fieldPlace, Sem.run_bind, Tryz.runUnderlying151, Tryz.sizeOf149]⟩
instance : TyFld P 151 2 2 := ⟨fun a w => by simp [Instr.fieldAt, Instr.sureAddr, fieldPlace, Sem.run_bind, Tryz.runUnderlying151, Tryz.sizeOf3]⟩
instance : TyU P 152 (.pointer 230) := ⟨Tryz.underlying152⟩
instance : TyInf P 152 1 := ⟨⟨_, inf_of Tryz.type152, by kernel_rfl⟩⟩
instance : TyAgg P 152 false := ⟨Tryz.isAgg152⟩
instance : TySize P 152 1 := ⟨Tryz.sizeOf152⟩
instance : TyZ P 152 [.pointer none] := ⟨fun w => ⟨_, Tryz.zeroValue152 w, rfl⟩⟩
instance : TyInf P 154 17 := ⟨⟨_, inf_of Tryz.type154, by kernel_rfl⟩⟩
instance : TyAgg P 154 true := ⟨Tryz.isAgg154⟩
instance : TySize P 154 17 := ⟨Tryz.sizeOf154⟩
instance : TyZ P 154 [.string ⟨#[]⟩, .string ⟨#[]⟩, .string ⟨#[]⟩, .string ⟨#[]⟩, .int .i64 0, .int .i64 0, .int .i64 0, .int .i64 0, .int .i64 0, .int .i64 0, .int .i64 0, .int .i64 0, .int .i64 0, .int .i64 0, .int .i64 0, .pointer none, .pointer none] := ⟨fun w => ⟨_, Tryz.zeroValue154 w, rfl⟩⟩
instance : TyEq P 154 [(29, 0), (152, 15), (107, 16)] := ⟨⟨_, Tryz.underlying154, rfl, by decide⟩, Tryz.stoodInHeld154, Tryz.eqGuardType154⟩
instance : TyB P 154 [.string ⟨#[]⟩, .string ⟨#[]⟩, .string ⟨#[]⟩, .string ⟨#[]⟩, .int .i64 0, .int .i64 0, .int .i64 0, .int .i64 0, .int .i64 0, .int .i64 0, .int .i64 0, .int .i64 0, .int .i64 0, .int .i64 0, .int .i64 0, .pointer none, .pointer none] [(0, 15), (15, 1), (16, 1)] := ⟨fun ps => by kernel_rfl⟩
instance : TyFld P 154 0 0 := ⟨fun a w => by simp [Instr.fieldAt, Instr.sureAddr, fieldPlace, Sem.run_bind, Tryz.runUnderlying154, Tryz.sizeOf29]⟩
instance : TyFld P 154 1 15 := ⟨fun a w => by simp [Instr.fieldAt, Instr.sureAddr, fieldPlace, Sem.run_bind, Tryz.runUnderlying154, Tryz.sizeOf152]⟩
instance : TyFld P 154 2 16 := ⟨fun a w => by simp [Instr.fieldAt, Instr.sureAddr, fieldPlace, Sem.run_bind, Tryz.runUnderlying154, Tryz.sizeOf107]⟩
instance : TyU P 155 (.pointer 313) := ⟨Tryz.underlying155⟩
instance : TyInf P 155 1 := ⟨⟨_, inf_of Tryz.type155, by kernel_rfl⟩⟩
instance : TyAgg P 155 false := ⟨Tryz.isAgg155⟩
instance : TySize P 155 1 := ⟨Tryz.sizeOf155⟩
instance : TyZ P 155 [.pointer none] := ⟨fun w => ⟨_, Tryz.zeroValue155 w, rfl⟩⟩
instance : TyInf P 162 3 := ⟨⟨_, inf_of Tryz.type162, by kernel_rfl⟩⟩
instance : TyAgg P 162 true := ⟨Tryz.isAgg162⟩
instance : TySize P 162 3 := ⟨Tryz.sizeOf162⟩
instance : TyZ P 162 [.int .i64 0, .int .i64 0, .int .i64 0] := ⟨fun w => ⟨_, Tryz.zeroValue162 w, rfl⟩⟩
instance : TyEq P 162 [(3, 0), (3, 1), (3, 2)] := ⟨⟨_, Tryz.underlying162, rfl, by decide⟩, Tryz.stoodInHeld162, Tryz.eqGuardType162⟩
instance : TyB P 162 [.int .i64 0, .int .i64 0, .int .i64 0] [(0, 1), (1, 1), (2, 1)] := ⟨fun ps => by kernel_rfl⟩
instance : TyFld P 162 0 0 := ⟨fun a w => by simp [Instr.fieldAt, Instr.sureAddr, fieldPlace, Sem.run_bind, Tryz.runUnderlying162, Tryz.sizeOf3]⟩
instance : TyFld P 162 1 1 := ⟨fun a w => by simp [Instr.fieldAt, Instr.sureAddr, fieldPlace, Sem.run_bind, Tryz.runUnderlying162, Tryz.sizeOf3]⟩
instance : TyFld P 162 2 2 := ⟨fun a w => by simp [Instr.fieldAt, Instr.sureAddr, fieldPlace, Sem.run_bind, Tryz.runUnderlying162, Tryz.sizeOf3]⟩
instance : TyU P 163 (.slice 162) := ⟨Tryz.underlying163⟩
instance : TyInf P 163 1 := ⟨⟨_, inf_of Tryz.type163, by kernel_rfl⟩⟩
instance : TyAgg P 163 false := ⟨Tryz.isAgg163⟩
instance : TySize P 163 1 := ⟨Tryz.sizeOf163⟩
instance : TyZ P 163 [.slice none 0 0] := ⟨fun w => ⟨_, Tryz.zeroValue163 w, rfl⟩⟩
instance : TySl P 163 162 3 := ⟨Tryz.t162, .agg #[.int .i64 0, .int .i64 0, .int .i64 0], Tryz.underlying163, inf_of Tryz.type162, by kernel_rfl, by kernel_rfl, by kernel_rfl, by decide, by decide⟩
instance : TyU P 164 (.slice 185) := ⟨Tryz.underlying164⟩
instance : TyInf P 164 1 := ⟨⟨_, inf_of Tryz.type164, by kernel_rfl⟩⟩
instance : TyAgg P 164 false := ⟨Tryz.isAgg164⟩
instance : TySize P 164 1 := ⟨Tryz.sizeOf164⟩
instance : TyZ P 164 [.slice none 0 0] := ⟨fun w => ⟨_, Tryz.zeroValue164 w, rfl⟩⟩
instance : TySl P 164 185 2 := ⟨Tryz.t185, .agg #[.string ⟨#[]⟩, .int .i64 0], Tryz.underlying164, inf_of Tryz.type185, by kernel_rfl, by kernel_rfl, by kernel_rfl, by decide, by decide⟩
instance : TyInf P 166 2 := ⟨⟨_, inf_of Tryz.type166, by kernel_rfl⟩⟩
instance : TyAgg P 166 true := ⟨Tryz.isAgg166⟩
instance : TySize P 166 2 := ⟨Tryz.sizeOf166⟩
instance : TyZ P 166 [.int .i64 0, .slice none 0 0] := ⟨fun w => ⟨_, Tryz.zeroValue166 w, rfl⟩⟩
instance : TyB P 166 [.int .i64 0, .slice none 0 0] [(0, 1), (1, 1)] := ⟨fun ps => by kernel_rfl⟩
instance : TyFld P 166 0 0 := ⟨fun a w => by simp [Instr.fieldAt, Instr.sureAddr, fieldPlace, Sem.run_bind, Tryz.runUnderlying166, Tryz.sizeOf3]⟩
instance : TyFld P 166 1 1 := ⟨fun a w => by simp [Instr.fieldAt, Instr.sureAddr, fieldPlace, Sem.run_bind, Tryz.runUnderlying166, Tryz.sizeOf164]⟩
instance : TyU P 171 (.map 3 3) := ⟨Tryz.underlying171⟩
instance : TyInf P 171 1 := ⟨⟨_, inf_of Tryz.type171, by kernel_rfl⟩⟩
instance : TyMap P 171 3 3 (.int .i64) := ⟨Tryz.underlying171, Tryz.underlying3⟩
instance : TyAgg P 171 false := ⟨Tryz.isAgg171⟩
instance : TySize P 171 1 := ⟨Tryz.sizeOf171⟩
instance : TyZ P 171 [.map none] := ⟨fun w => ⟨_, Tryz.zeroValue171 w, rfl⟩⟩
instance : TyU P 172 (.pointer 261) := ⟨Tryz.underlying172⟩
instance : TyInf P 172 1 := ⟨⟨_, inf_of Tryz.type172, by kernel_rfl⟩⟩
instance : TyAgg P 172 false := ⟨Tryz.isAgg172⟩
instance : TySize P 172 1 := ⟨Tryz.sizeOf172⟩
instance : TyZ P 172 [.pointer none] := ⟨fun w => ⟨_, Tryz.zeroValue172 w, rfl⟩⟩
instance : TyInf P 175 7 := ⟨⟨_, inf_of Tryz.type175, by kernel_rfl⟩⟩
instance : TyAgg P 175 true := ⟨Tryz.isAgg175⟩
instance : TySize P 175 7 := ⟨Tryz.sizeOf175⟩
instance : TyZ P 175 [.int .i64 0, .int .i64 0, .int .i64 0, .map none, .pointer none, .pointer none, .pointer none] := ⟨fun w => ⟨_, Tryz.zeroValue175 w, rfl⟩⟩
instance : TyB P 175 [.int .i64 0, .int .i64 0, .int .i64 0, .map none, .pointer none, .pointer none, .pointer none] [(0, 1), (1, 1), (2, 1), (3, 1), (4, 1), (5, 1), (6, 1)] := ⟨fun ps => by kernel_rfl⟩
instance : TyFld P 175 0 0 := ⟨fun a w => by simp [Instr.fieldAt, Instr.sureAddr, fieldPlace, Sem.run_bind, Tryz.runUnderlying175, Tryz.sizeOf3]⟩
instance : TyFld P 175 1 1 := ⟨fun a w => by simp [Instr.fieldAt, Instr.sureAddr, fieldPlace, Sem.run_bind, Tryz.runUnderlying175, Tryz.sizeOf3]⟩
instance : TyFld P 175 2 2 := ⟨fun a w => by simp [Instr.fieldAt, Instr.sureAddr, fieldPlace, Sem.run_bind, Tryz.runUnderlying175, Tryz.sizeOf3]⟩
instance : TyFld P 175 3 3 := ⟨fun a w => by simp [Instr.fieldAt, Instr.sureAddr, fieldPlace, Sem.run_bind, Tryz.runUnderlying175, Tryz.sizeOf171]⟩
instance : TyFld P 175 4 4 := ⟨fun a w => by simp [Instr.fieldAt, Instr.sureAddr, fieldPlace, Sem.run_bind, Tryz.runUnderlying175, Tryz.sizeOf172]⟩
instance : TyFld P 175 5 5 := ⟨fun a w => by simp [Instr.fieldAt, Instr.sureAddr, fieldPlace, Sem.run_bind, Tryz.runUnderlying175, Tryz.sizeOf172]⟩
instance : TyFld P 175 6 6 := ⟨fun a w => by simp [Instr.fieldAt, Instr.sureAddr, fieldPlace, Sem.run_bind, Tryz.runUnderlying175, Tryz.sizeOf172]⟩
instance : TyU P 178 (.int .u16) := ⟨Tryz.underlying178⟩
instance : TyInf P 178 1 := ⟨⟨_, inf_of Tryz.type178, by kernel_rfl⟩⟩
instance : TyAgg P 178 false := ⟨Tryz.isAgg178⟩
instance : TySize P 178 1 := ⟨Tryz.sizeOf178⟩
instance : TyZ P 178 [.int .u16 0] := ⟨fun w => ⟨_, Tryz.zeroValue178 w, rfl⟩⟩
instance : TyInf P 180 5 := ⟨⟨_, inf_of Tryz.type180, by kernel_rfl⟩⟩
instance : TyAgg P 180 true := ⟨Tryz.isAgg180⟩
instance : TySize P 180 5 := ⟨Tryz.sizeOf180⟩
instance : TyZ P 180 [.int .i64 0, .slice none 0 0, .int .i64 0, .int .i64 0, .bool false] := ⟨fun w => ⟨_, Tryz.zeroValue180 w, rfl⟩⟩
instance : TyB P 180 [.int .i64 0, .slice none 0 0, .int .i64 0, .int .i64 0, .bool false] [(0, 1), (1, 1), (2, 1), (3, 1), (4, 1)] := ⟨fun ps => by kernel_rfl⟩
instance : TyFld P 180 0 0 := ⟨fun a w => by simp [Instr.fieldAt, Instr.sureAddr, fieldPlace, Sem.run_bind, Tryz.runUnderlying180, Tryz.sizeOf3]⟩
instance : TyFld P 180 1 1 := ⟨fun a w => by simp [Instr.fieldAt, Instr.sureAddr, fieldPlace, Sem.run_bind, Tryz.runUnderlying180, Tryz.sizeOf22]⟩
instance : TyFld P 180 2 2 := ⟨fun a w => by simp [Instr.fieldAt, Instr.sureAddr, fieldPlace, Sem.run_bind, Tryz.runUnderlying180, Tryz.sizeOf3]⟩
instance : TyFld P 180 3 3 := ⟨fun a w => by simp [Instr.fieldAt, Instr.sureAddr, fieldPlace, Sem.run_bind, Tryz.runUnderlying180, Tryz.sizeOf3]⟩
instance : TyFld P 180 4 4 := ⟨fun a w => by simp [Instr.fieldAt, Instr.sureAddr, fieldPlace, Sem.run_bind, Tryz.runUnderlying180, Tryz.sizeOf4]⟩
instance : TyInf P 182 2 := ⟨⟨_, inf_of Tryz.type182, by kernel_rfl⟩⟩
instance : TyAgg P 182 true := ⟨Tryz.isAgg182⟩
instance : TySize P 182 2 := ⟨Tryz.sizeOf182⟩
instance : TyZ P 182 [.slice none 0 0, .bool false] := ⟨fun w => ⟨_, Tryz.zeroValue182 w, rfl⟩⟩
instance : TyB P 182 [.slice none 0 0, .bool false] [(0, 1), (1, 1)] := ⟨fun ps => by kernel_rfl⟩
instance : TyFld P 182 0 0 := ⟨fun a w => by simp [Instr.fieldAt, Instr.sureAddr, fieldPlace, Sem.run_bind, Tryz.runUnderlying182, Tryz.sizeOf22]⟩
instance : TyFld P 182 1 1 := ⟨fun a w => by simp [Instr.fieldAt, Instr.sureAddr, fieldPlace, Sem.run_bind, Tryz.runUnderlying182, Tryz.sizeOf4]⟩
instance : TyInf P 185 2 := ⟨⟨_, inf_of Tryz.type185, by kernel_rfl⟩⟩
instance : TyAgg P 185 true := ⟨Tryz.isAgg185⟩
instance : TySize P 185 2 := ⟨Tryz.sizeOf185⟩
instance : TyZ P 185 [.string ⟨#[]⟩, .int .i64 0] := ⟨fun w => ⟨_, Tryz.zeroValue185 w, rfl⟩⟩
instance : TyEq P 185 [(9, 0), (3, 1)] := ⟨⟨_, Tryz.underlying185, rfl, by decide⟩, Tryz.stoodInHeld185, Tryz.eqGuardType185⟩
instance : TyB P 185 [.string ⟨#[]⟩, .int .i64 0] [(0, 1), (1, 1)] := ⟨fun ps => by kernel_rfl⟩
instance : TyFld P 185 0 0 := ⟨fun a w => by simp [Instr.fieldAt, Instr.sureAddr, fieldPlace, Sem.run_bind, Tryz.runUnderlying185, Tryz.sizeOf9]⟩
instance : TyFld P 185 1 1 := ⟨fun a w => by simp [Instr.fieldAt, Instr.sureAddr, fieldPlace, Sem.run_bind, Tryz.runUnderlying185, Tryz.sizeOf3]⟩
instance : TyU P 190 (.map 3 257) := ⟨Tryz.underlying190⟩
instance : TyInf P 190 1 := ⟨⟨_, inf_of Tryz.type190, by kernel_rfl⟩⟩
instance : TyMap P 190 3 257 (.int .i64) := ⟨Tryz.underlying190, Tryz.underlying3⟩
instance : TyAgg P 190 false := ⟨Tryz.isAgg190⟩
instance : TySize P 190 1 := ⟨Tryz.sizeOf190⟩
instance : TyZ P 190 [.map none] := ⟨fun w => ⟨_, Tryz.zeroValue190 w, rfl⟩⟩
instance : TyU P 191 (.map 9 236) := ⟨Tryz.underlying191⟩
instance : TyInf P 191 1 := ⟨⟨_, inf_of Tryz.type191, by kernel_rfl⟩⟩
instance : TyMap P 191 9 236 (.string) := ⟨Tryz.underlying191, Tryz.underlying9⟩
instance : TyAgg P 191 false := ⟨Tryz.isAgg191⟩
instance : TySize P 191 1 := ⟨Tryz.sizeOf191⟩
instance : TyZ P 191 [.map none] := ⟨fun w => ⟨_, Tryz.zeroValue191 w, rfl⟩⟩
instance : TyInf P 193 4 := ⟨⟨_, inf_of Tryz.type193, by kernel_rfl⟩⟩
instance : TyAgg P 193 true := ⟨Tryz.isAgg193⟩
instance : TySize P 193 4 := ⟨Tryz.sizeOf193⟩
instance : TyZ P 193 [.int .i64 0, .int .i64 0, .map none, .map none] := ⟨fun w => ⟨_, Tryz.zeroValue193 w, rfl⟩⟩
instance : TyB P 193 [.int .i64 0, .int .i64 0, .map none, .map none] [(0, 1), (1, 1), (2, 1), (3, 1)] := ⟨fun ps => by kernel_rfl⟩
instance : TyFld P 193 0 0 := ⟨fun a w => by simp [Instr.fieldAt, Instr.sureAddr, fieldPlace, Sem.run_bind, Tryz.runUnderlying193, Tryz.sizeOf3]⟩
instance : TyFld P 193 1 1 := ⟨fun a w => by simp [Instr.fieldAt, Instr.sureAddr, fieldPlace, Sem.run_bind, Tryz.runUnderlying193, Tryz.sizeOf3]⟩
instance : TyFld P 193 2 2 := ⟨fun a w => by simp [Instr.fieldAt, Instr.sureAddr, fieldPlace, Sem.run_bind, Tryz.runUnderlying193, Tryz.sizeOf190]⟩
instance : TyFld P 193 3 3 := ⟨fun a w => by simp [Instr.fieldAt, Instr.sureAddr, fieldPlace, Sem.run_bind, Tryz.runUnderlying193, Tryz.sizeOf191]⟩
instance : TyInf P 205 2 := ⟨⟨_, inf_of Tryz.type205, by kernel_rfl⟩⟩
instance : TyAgg P 205 true := ⟨Tryz.isAgg205⟩
instance : TySize P 205 2 := ⟨Tryz.sizeOf205⟩
instance : TyZ P 205 [.string ⟨#[]⟩, .bool false] := ⟨fun w => ⟨_, Tryz.zeroValue205 w, rfl⟩⟩
instance : TyEq P 205 [(9, 0), (4, 1)] := ⟨⟨_, Tryz.underlying205, rfl, by decide⟩, Tryz.stoodInHeld205, Tryz.eqGuardType205⟩
instance : TyB P 205 [.string ⟨#[]⟩, .bool false] [(0, 1), (1, 1)] := ⟨fun ps => by kernel_rfl⟩
instance : TyFld P 205 0 0 := ⟨fun a w => by simp [Instr.fieldAt, Instr.sureAddr, fieldPlace, Sem.run_bind, Tryz.runUnderlying205, Tryz.sizeOf9]⟩
instance : TyFld P 205 1 1 := ⟨fun a w => by simp [Instr.fieldAt, Instr.sureAddr, fieldPlace, Sem.run_bind, Tryz.runUnderlying205, Tryz.sizeOf4]⟩
instance : TyU P 228 (.slice 341) := ⟨Tryz.underlying228⟩
instance : TyInf P 228 1 := ⟨⟨_, inf_of Tryz.type228, by kernel_rfl⟩⟩
instance : TyAgg P 228 false := ⟨Tryz.isAgg228⟩
instance : TySize P 228 1 := ⟨Tryz.sizeOf228⟩
instance : TyZ P 228 [.slice none 0 0] := ⟨fun w => ⟨_, Tryz.zeroValue228 w, rfl⟩⟩
instance : TySl P 228 341 2 := ⟨Tryz.t341, .agg #[.string ⟨#[]⟩, .pointer none], Tryz.underlying228, inf_of Tryz.type341, by kernel_rfl, by kernel_rfl, by kernel_rfl, by decide, by decide⟩
instance : TyInf P 230 2 := ⟨⟨_, inf_of Tryz.type230, by kernel_rfl⟩⟩
instance : TyAgg P 230 true := ⟨Tryz.isAgg230⟩
instance : TySize P 230 2 := ⟨Tryz.sizeOf230⟩
instance : TyZ P 230 [.int .i64 0, .slice none 0 0] := ⟨fun w => ⟨_, Tryz.zeroValue230 w, rfl⟩⟩
instance : TyB P 230 [.int .i64 0, .slice none 0 0] [(0, 1), (1, 1)] := ⟨fun ps => by kernel_rfl⟩
instance : TyFld P 230 0 0 := ⟨fun a w => by simp [Instr.fieldAt, Instr.sureAddr, fieldPlace, Sem.run_bind, Tryz.runUnderlying230, Tryz.sizeOf3]⟩
instance : TyFld P 230 1 1 := ⟨fun a w => by simp [Instr.fieldAt, Instr.sureAddr, fieldPlace, Sem.run_bind, Tryz.runUnderlying230, Tryz.sizeOf228]⟩
instance : TyU P 236 (.pointer 308) := ⟨Tryz.underlying236⟩
instance : TyInf P 236 1 := ⟨⟨_, inf_of Tryz.type236, by kernel_rfl⟩⟩
instance : TyAgg P 236 false := ⟨Tryz.isAgg236⟩
instance : TySize P 236 1 := ⟨Tryz.sizeOf236⟩
instance : TyZ P 236 [.pointer none] := ⟨fun w => ⟨_, Tryz.zeroValue236 w, rfl⟩⟩
instance : TyInf P 242 3 := ⟨⟨_, inf_of Tryz.type242, by kernel_rfl⟩⟩
instance : TyAgg P 242 true := ⟨Tryz.isAgg242⟩
instance : TySize P 242 3 := ⟨Tryz.sizeOf242⟩
instance : TyZ P 242 [.int .i64 0, .bool false, .bool false] := ⟨fun w => ⟨_, Tryz.zeroValue242 w, rfl⟩⟩
instance : TyEq P 242 [(3, 0), (4, 1), (4, 2)] := ⟨⟨_, Tryz.underlying242, rfl, by decide⟩, Tryz.stoodInHeld242, Tryz.eqGuardType242⟩
instance : TyB P 242 [.int .i64 0, .bool false, .bool false] [(0, 1), (1, 1), (2, 1)] := ⟨fun ps => by kernel_rfl⟩
instance : TyFld P 242 0 0 := ⟨fun a w => by simp [Instr.fieldAt, Instr.sureAddr, fieldPlace, Sem.run_bind, Tryz.runUnderlying242, Tryz.sizeOf3]⟩
instance : TyFld P 242 1 1 := ⟨fun a w => by simp [Instr.fieldAt, Instr.sureAddr, fieldPlace, Sem.run_bind, Tryz.runUnderlying242, Tryz.sizeOf4]⟩
instance : TyFld P 242 2 2 := ⟨fun a w => by simp [Instr.fieldAt, Instr.sureAddr, fieldPlace, Sem.run_bind, Tryz.runUnderlying242, Tryz.sizeOf4]⟩
instance : TyU P 248 (.slice 362) := ⟨Tryz.underlying248⟩
instance : TyInf P 248 1 := ⟨⟨_, inf_of Tryz.type248, by kernel_rfl⟩⟩
instance : TyAgg P 248 false := ⟨Tryz.isAgg248⟩
instance : TySize P 248 1 := ⟨Tryz.sizeOf248⟩
instance : TyZ P 248 [.slice none 0 0] := ⟨fun w => ⟨_, Tryz.zeroValue248 w, rfl⟩⟩
instance : TySl P 248 362 2 := ⟨Tryz.t362, .agg #[.string ⟨#[]⟩, .string ⟨#[]⟩], Tryz.underlying248, inf_of Tryz.type362, by kernel_rfl, by kernel_rfl, by kernel_rfl, by decide, by decide⟩
instance : TyInf P 250 4 := ⟨⟨_, inf_of Tryz.type250, by kernel_rfl⟩⟩
instance : TyAgg P 250 true := ⟨Tryz.isAgg250⟩
instance : TySize P 250 4 := ⟨Tryz.sizeOf250⟩
instance : TyZ P 250 [.slice none 0 0, .string ⟨#[]⟩, .string ⟨#[]⟩, .slice none 0 0] := ⟨fun w => ⟨_, Tryz.zeroValue250 w, rfl⟩⟩
instance : TyB P 250 [.slice none 0 0, .string ⟨#[]⟩, .string ⟨#[]⟩, .slice none 0 0] [(0, 1), (1, 1), (2, 1), (3, 1)] := ⟨fun ps => by kernel_rfl⟩
instance : TyFld P 250 0 0 := ⟨fun a w => by simp [Instr.fieldAt, Instr.sureAddr, fieldPlace, Sem.run_bind, Tryz.runUnderlying250, Tryz.sizeOf248]⟩
instance : TyFld P 250 1 1 := ⟨fun a w => by simp [Instr.fieldAt, Instr.sureAddr, fieldPlace, Sem.run_bind, Tryz.runUnderlying250, Tryz.sizeOf9]⟩
instance : TyFld P 250 2 2 := ⟨fun a w => by simp [Instr.fieldAt, Instr.sureAddr, fieldPlace, Sem.run_bind, Tryz.runUnderlying250, Tryz.sizeOf9]⟩
instance : TyFld P 250 3 3 := ⟨fun a w => by simp [Instr.fieldAt, Instr.sureAddr, fieldPlace, Sem.run_bind, Tryz.runUnderlying250, Tryz.sizeOf134]⟩
instance : TyInf P 253 11 := ⟨⟨_, inf_of Tryz.type253, by kernel_rfl⟩⟩
instance : TyAgg P 253 true := ⟨Tryz.isAgg253⟩
instance : TySize P 253 11 := ⟨Tryz.sizeOf253⟩
instance : TyZ P 253 [.string ⟨#[]⟩, .int .i64 0, .string ⟨#[]⟩, .string ⟨#[]⟩, .string ⟨#[]⟩, .string ⟨#[]⟩, .string ⟨#[]⟩, .bool false, .bool false, .int .i64 0, .int .i64 0] := ⟨fun w => ⟨_, Tryz.zeroValue253 w, rfl⟩⟩
instance : TyEq P 253 [(9, 0), (58, 1)] := ⟨⟨_, Tryz.underlying253, rfl, by decide⟩, Tryz.stoodInHeld253, Tryz.eqGuardType253⟩
instance : TyB P 253 [.string ⟨#[]⟩, .int .i64 0, .string ⟨#[]⟩, .string ⟨#[]⟩, .string ⟨#[]⟩, .string ⟨#[]⟩, .string ⟨#[]⟩, .bool false, .bool false, .int .i64 0, .int .i64 0] [(0, 1), (1, 10)] := ⟨fun ps => by kernel_rfl⟩
instance : TyFld P 253 0 0 := ⟨fun a w => by simp [Instr.fieldAt, Instr.sureAddr, fieldPlace, Sem.run_bind, Tryz.runUnderlying253, Tryz.sizeOf9]⟩
instance : TyFld P 253 1 1 := ⟨fun a w => by simp [Instr.fieldAt, Instr.sureAddr, fieldPlace, Sem.run_bind, Tryz.runUnderlying253, Tryz.sizeOf58]⟩
instance : TyU P 257 (.pointer 330) := ⟨Tryz.underlying257⟩
instance : TyInf P 257 1 := ⟨⟨_, inf_of Tryz.type257, by kernel_rfl⟩⟩
instance : TyAgg P 257 false := ⟨Tryz.isAgg257⟩
instance : TySize P 257 1 := ⟨Tryz.sizeOf257⟩
instance : TyZ P 257 [.pointer none] := ⟨fun w => ⟨_, Tryz.zeroValue257 w, rfl⟩⟩
instance : TyU P 259 (.slice 266) := ⟨Tryz.underlying259⟩
instance : TyInf P 259 1 := ⟨⟨_, inf_of Tryz.type259, by kernel_rfl⟩⟩
instance : TyAgg P 259 false := ⟨Tryz.isAgg259⟩
instance : TySize P 259 1 := ⟨Tryz.sizeOf259⟩
instance : TyZ P 259 [.slice none 0 0] := ⟨fun w => ⟨_, Tryz.zeroValue259 w, rfl⟩⟩
instance : TySl P 259 266 2 := ⟨Tryz.t266, .agg #[.int .i64 0, .int .i64 0], Tryz.underlying259, inf_of Tryz.type266, by kernel_rfl, by kernel_rfl, by kernel_rfl, by decide, by decide⟩
instance : TyInf P 261 2 := ⟨⟨_, inf_of Tryz.type261, by kernel_rfl⟩⟩
instance : TyAgg P 261 true := ⟨Tryz.isAgg261⟩
instance : TySize P 261 2 := ⟨Tryz.sizeOf261⟩
instance : TyZ P 261 [.slice none 0 0, .map none] := ⟨fun w => ⟨_, Tryz.zeroValue261 w, rfl⟩⟩
instance : TyB P 261 [.slice none 0 0, .map none] [(0, 1), (1, 1)] := ⟨fun ps => by kernel_rfl⟩
instance : TyFld P 261 0 0 := ⟨fun a w => by simp [Instr.fieldAt, Instr.sureAddr, fieldPlace, Sem.run_bind, Tryz.runUnderlying261, Tryz.sizeOf259]⟩
instance : TyFld P 261 1 1 := ⟨fun a w => by simp [Instr.fieldAt, Instr.sureAddr, fieldPlace, Sem.run_bind, Tryz.runUnderlying261, Tryz.sizeOf171]⟩
instance : TyInf P 262 256 := ⟨⟨_, inf_of Tryz.type262, by kernel_rfl⟩⟩
instance : TyAgg P 262 true := ⟨Tryz.isAgg262⟩
instance : TySize P 262 256 := ⟨Tryz.sizeOf262⟩
instance : TyZ P 262 (List.replicate 256 (.int .u16 0)) := ⟨fun w => ⟨.agg ((List.replicate 256 (.int .u16 0))).toArray, tyz_of (P := P) (t := 262) (i := Tryz.t262) (inf_of Tryz.type262) (by kernel_rfl) w, by kernel_rfl⟩⟩
instance : TyArr P 262 256 178 1 := ⟨Tryz.underlying262, Tryz.sizeOf178⟩
instance : TyInf P 266 2 := ⟨⟨_, inf_of Tryz.type266, by kernel_rfl⟩⟩
instance : TyAgg P 266 true := ⟨Tryz.isAgg266⟩
instance : TySize P 266 2 := ⟨Tryz.sizeOf266⟩
instance : TyZ P 266 [.int .i64 0, .int .i64 0] := ⟨fun w => ⟨_, Tryz.zeroValue266 w, rfl⟩⟩
instance : TyEq P 266 [(3, 0), (3, 1)] := ⟨⟨_, Tryz.underlying266, rfl, by decide⟩, Tryz.stoodInHeld266, Tryz.eqGuardType266⟩
instance : TyB P 266 [.int .i64 0, .int .i64 0] [(0, 1), (1, 1)] := ⟨fun ps => by kernel_rfl⟩
instance : TyFld P 266 0 0 := ⟨fun a w => by simp [Instr.fieldAt, Instr.sureAddr, fieldPlace, Sem.run_bind, Tryz.runUnderlying266, Tryz.sizeOf3]⟩
instance : TyFld P 266 1 1 := ⟨fun a w => by simp [Instr.fieldAt, Instr.sureAddr, fieldPlace, Sem.run_bind, Tryz.runUnderlying266, Tryz.sizeOf3]⟩
instance : TyInf P 267 1 := ⟨⟨_, inf_of Tryz.type267, by kernel_rfl⟩⟩
instance : TyFn P 267 := ⟨⟨_, _, _, Tryz.underlying267⟩⟩
instance : TyAgg P 267 false := ⟨Tryz.isAgg267⟩
instance : TySize P 267 1 := ⟨Tryz.sizeOf267⟩
instance : TyZ P 267 [.nilFunc] := ⟨fun w => ⟨_, Tryz.zeroValue267 w, rfl⟩⟩
instance : TyInf P 270 1 := ⟨⟨_, inf_of Tryz.type270, by kernel_rfl⟩⟩
instance : TyFn P 270 := ⟨⟨_, _, _, Tryz.underlying270⟩⟩
instance : TyAgg P 270 false := ⟨Tryz.isAgg270⟩
instance : TySize P 270 1 := ⟨Tryz.sizeOf270⟩
instance : TyZ P 270 [.nilFunc] := ⟨fun w => ⟨_, Tryz.zeroValue270 w, rfl⟩⟩
instance : TyU P 284 (.slice 242) := ⟨Tryz.underlying284⟩
instance : TyInf P 284 1 := ⟨⟨_, inf_of Tryz.type284, by kernel_rfl⟩⟩
instance : TyAgg P 284 false := ⟨Tryz.isAgg284⟩
instance : TySize P 284 1 := ⟨Tryz.sizeOf284⟩
instance : TyZ P 284 [.slice none 0 0] := ⟨fun w => ⟨_, Tryz.zeroValue284 w, rfl⟩⟩
instance : TySl P 284 242 3 := ⟨Tryz.t242, .agg #[.int .i64 0, .bool false, .bool false], Tryz.underlying284, inf_of Tryz.type242, by kernel_rfl, by kernel_rfl, by kernel_rfl, by decide, by decide⟩
instance : TyInf P 308 1 := ⟨⟨_, inf_of Tryz.type308, by kernel_rfl⟩⟩
instance : TyAgg P 308 true := ⟨Tryz.isAgg308⟩
instance : TySize P 308 1 := ⟨Tryz.sizeOf308⟩
instance : TyZ P 308 [.slice none 0 0] := ⟨fun w => ⟨_, Tryz.zeroValue308 w, rfl⟩⟩
instance : TyB P 308 [.slice none 0 0] [(0, 1)] := ⟨fun ps => by kernel_rfl⟩
instance : TyFld P 308 0 0 := ⟨fun a w => by simp [Instr.fieldAt, Instr.sureAddr, fieldPlace, Sem.run_bind, Tryz.runUnderlying308, Tryz.sizeOf64]⟩
instance : TyInf P 313 9 := ⟨⟨_, inf_of Tryz.type313, by kernel_rfl⟩⟩
instance : TyAgg P 313 true := ⟨Tryz.isAgg313⟩
instance : TySize P 313 9 := ⟨Tryz.sizeOf313⟩
instance : TyZ P 313 [.string ⟨#[]⟩, .int .i64 0, .slice none 0 0, .string ⟨#[]⟩, .int .i64 0, .string ⟨#[]⟩, .int .i64 0, .slice none 0 0, .pointer none] := ⟨fun w => ⟨_, Tryz.zeroValue313 w, rfl⟩⟩
instance : TyB P 313 [.string ⟨#[]⟩, .int .i64 0, .slice none 0 0, .string ⟨#[]⟩, .int .i64 0, .string ⟨#[]⟩, .int .i64 0, .slice none 0 0, .pointer none] [(0, 1), (1, 1), (2, 1), (3, 1), (4, 1), (5, 1), (6, 1), (7, 1), (8, 1)] := ⟨fun ps => by kernel_rfl⟩
instance : TyFld P 313 0 0 := ⟨fun a w => by simp [Instr.fieldAt, Instr.sureAddr, fieldPlace, Sem.run_bind, Tryz.runUnderlying313, Tryz.sizeOf9]⟩
instance : TyFld P 313 1 1 := ⟨fun a w => by simp [Instr.fieldAt, Instr.sureAddr, fieldPlace, Sem.run_bind, Tryz.runUnderlying313, Tryz.sizeOf3]⟩
instance : TyFld P 313 2 2 := ⟨fun a w => by simp [Instr.fieldAt, Instr.sureAddr, fieldPlace, Sem.run_bind, Tryz.runUnderlying313, Tryz.sizeOf284]⟩
instance : TyFld P 313 3 3 := ⟨fun a w => by simp [Instr.fieldAt, Instr.sureAddr, fieldPlace, Sem.run_bind, Tryz.runUnderlying313, Tryz.sizeOf9]⟩
instance : TyFld P 313 4 4 := ⟨fun a w => by simp [Instr.fieldAt, Instr.sureAddr, fieldPlace, Sem.run_bind, Tryz.runUnderlying313, Tryz.sizeOf3]⟩
instance : TyFld P 313 5 5 := ⟨fun a w => by simp [Instr.fieldAt, Instr.sureAddr, fieldPlace, Sem.run_bind, Tryz.runUnderlying313, Tryz.sizeOf9]⟩
instance : TyFld P 313 6 6 := ⟨fun a w => by simp [Instr.fieldAt, Instr.sureAddr, fieldPlace, Sem.run_bind, Tryz.runUnderlying313, Tryz.sizeOf3]⟩
instance : TyFld P 313 7 7 := ⟨fun a w => by simp [Instr.fieldAt, Instr.sureAddr, fieldPlace, Sem.run_bind, Tryz.runUnderlying313, Tryz.sizeOf134]⟩
instance : TyFld P 313 8 8 := ⟨fun a w => by simp [Instr.fieldAt, Instr.sureAddr, fieldPlace, Sem.run_bind, Tryz.runUnderlying313, Tryz.sizeOf236]⟩
instance : TyU P 316 (.slice 64) := ⟨Tryz.underlying316⟩
instance : TyInf P 316 1 := ⟨⟨_, inf_of Tryz.type316, by kernel_rfl⟩⟩
instance : TyAgg P 316 false := ⟨Tryz.isAgg316⟩
instance : TySize P 316 1 := ⟨Tryz.sizeOf316⟩
instance : TyZ P 316 [.slice none 0 0] := ⟨fun w => ⟨_, Tryz.zeroValue316 w, rfl⟩⟩
instance : TySl P 316 64 1 := ⟨Tryz.t64, .slice none 0 0, Tryz.underlying316, inf_of Tryz.type64, by kernel_rfl, by kernel_rfl, by kernel_rfl, by decide, by decide⟩
instance : TyU P 319 (.pointer 321) := ⟨Tryz.underlying319⟩
instance : TyInf P 319 1 := ⟨⟨_, inf_of Tryz.type319, by kernel_rfl⟩⟩
instance : TyAgg P 319 false := ⟨Tryz.isAgg319⟩
instance : TySize P 319 1 := ⟨Tryz.sizeOf319⟩
instance : TyZ P 319 [.pointer none] := ⟨fun w => ⟨_, Tryz.zeroValue319 w, rfl⟩⟩
instance : TyInf P 321 2 := ⟨⟨_, inf_of Tryz.type321, by kernel_rfl⟩⟩
instance : TyLie P 321 2 := ⟨by kernel_rfl⟩
instance : TyAgg P 321 true := ⟨Tryz.isAgg321⟩
instance : TySize P 321 2 := ⟨Tryz.sizeOf321⟩
instance : TyZ P 321 [.pointer none, .slice none 0 0] := ⟨fun w => ⟨_, Tryz.zeroValue321 w, rfl⟩⟩
instance : TyB P 321 [.pointer none, .slice none 0 0] [(0, 1), (1, 1)] := ⟨fun ps => by kernel_rfl⟩
instance : TyFld P 321 0 0 := ⟨fun a w => by simp [Instr.fieldAt, Instr.sureAddr, fieldPlace, Sem.run_bind, Tryz.runUnderlying321, Tryz.sizeOf319]⟩
instance : TyFld P 321 1 1 := ⟨fun a w => by simp [Instr.fieldAt, Instr.sureAddr, fieldPlace, Sem.run_bind, Tryz.runUnderlying321, Tryz.sizeOf22]⟩
instance : TyInf P 330 1 := ⟨⟨_, inf_of Tryz.type330, by kernel_rfl⟩⟩
instance : TyAgg P 330 true := ⟨Tryz.isAgg330⟩
instance : TySize P 330 1 := ⟨Tryz.sizeOf330⟩
instance : TyZ P 330 [.slice none 0 0] := ⟨fun w => ⟨_, Tryz.zeroValue330 w, rfl⟩⟩
instance : TyB P 330 [.slice none 0 0] [(0, 1)] := ⟨fun ps => by kernel_rfl⟩
instance : TyFld P 330 0 0 := ⟨fun a w => by simp [Instr.fieldAt, Instr.sureAddr, fieldPlace, Sem.run_bind, Tryz.runUnderlying330, Tryz.sizeOf134]⟩
instance : TyU P 331 (.int .u64) := ⟨Tryz.underlying331⟩
instance : TyInf P 331 1 := ⟨⟨_, inf_of Tryz.type331, by kernel_rfl⟩⟩
instance : TyAgg P 331 false := ⟨Tryz.isAgg331⟩
instance : TySize P 331 1 := ⟨Tryz.sizeOf331⟩
instance : TyZ P 331 [.int .u64 0] := ⟨fun w => ⟨_, Tryz.zeroValue331 w, rfl⟩⟩
instance : TyInf P 341 2 := ⟨⟨_, inf_of Tryz.type341, by kernel_rfl⟩⟩
instance : TyAgg P 341 true := ⟨Tryz.isAgg341⟩
instance : TySize P 341 2 := ⟨Tryz.sizeOf341⟩
instance : TyZ P 341 [.string ⟨#[]⟩, .pointer none] := ⟨fun w => ⟨_, Tryz.zeroValue341 w, rfl⟩⟩
instance : TyEq P 341 [(9, 0), (155, 1)] := ⟨⟨_, Tryz.underlying341, rfl, by decide⟩, Tryz.stoodInHeld341, Tryz.eqGuardType341⟩
instance : TyB P 341 [.string ⟨#[]⟩, .pointer none] [(0, 1), (1, 1)] := ⟨fun ps => by kernel_rfl⟩
instance : TyFld P 341 0 0 := ⟨fun a w => by simp [Instr.fieldAt, Instr.sureAddr, fieldPlace, Sem.run_bind, Tryz.runUnderlying341, Tryz.sizeOf9]⟩
instance : TyFld P 341 1 1 := ⟨fun a w => by simp [Instr.fieldAt, Instr.sureAddr, fieldPlace, Sem.run_bind, Tryz.runUnderlying341, Tryz.sizeOf155]⟩
instance : TyU P 352 (.pointer 5) := ⟨Tryz.underlying352⟩
instance : TyInf P 352 1 := ⟨⟨_, inf_of Tryz.type352, by kernel_rfl⟩⟩
instance : TyAgg P 352 false := ⟨Tryz.isAgg352⟩
instance : TySize P 352 1 := ⟨Tryz.sizeOf352⟩
instance : TyZ P 352 [.pointer none] := ⟨fun w => ⟨_, Tryz.zeroValue352 w, rfl⟩⟩
instance : TyInf P 355 256 := ⟨⟨_, inf_of Tryz.type355, by kernel_rfl⟩⟩
instance : TyAgg P 355 true := ⟨Tryz.isAgg355⟩
instance : TySize P 355 256 := ⟨Tryz.sizeOf355⟩
instance : TyZ P 355 (List.replicate 256 (.bool false)) := ⟨fun w => ⟨.agg ((List.replicate 256 (.bool false))).toArray, tyz_of (P := P) (t := 355) (i := Tryz.t355) (inf_of Tryz.type355) (by kernel_rfl) w, by kernel_rfl⟩⟩
instance : TyArr P 355 256 4 1 := ⟨Tryz.underlying355, Tryz.sizeOf4⟩
instance : TyU P 359 (.pointer 355) := ⟨Tryz.underlying359⟩
instance : TyInf P 359 1 := ⟨⟨_, inf_of Tryz.type359, by kernel_rfl⟩⟩
instance : TyAgg P 359 false := ⟨Tryz.isAgg359⟩
instance : TySize P 359 1 := ⟨Tryz.sizeOf359⟩
instance : TyZ P 359 [.pointer none] := ⟨fun w => ⟨_, Tryz.zeroValue359 w, rfl⟩⟩
instance : TyInf P 362 2 := ⟨⟨_, inf_of Tryz.type362, by kernel_rfl⟩⟩
instance : TyAgg P 362 true := ⟨Tryz.isAgg362⟩
instance : TySize P 362 2 := ⟨Tryz.sizeOf362⟩
instance : TyZ P 362 [.string ⟨#[]⟩, .string ⟨#[]⟩] := ⟨fun w => ⟨_, Tryz.zeroValue362 w, rfl⟩⟩
instance : TyEq P 362 [(9, 0), (9, 1)] := ⟨⟨_, Tryz.underlying362, rfl, by decide⟩, Tryz.stoodInHeld362, Tryz.eqGuardType362⟩
instance : TyB P 362 [.string ⟨#[]⟩, .string ⟨#[]⟩] [(0, 1), (1, 1)] := ⟨fun ps => by kernel_rfl⟩
instance : TyFld P 362 0 0 := ⟨fun a w => by simp [Instr.fieldAt, Instr.sureAddr, fieldPlace, Sem.run_bind, Tryz.runUnderlying362, Tryz.sizeOf9]⟩
instance : TyFld P 362 1 1 := ⟨fun a w => by simp [Instr.fieldAt, Instr.sureAddr, fieldPlace, Sem.run_bind, Tryz.runUnderlying362, Tryz.sizeOf9]⟩
instance : TyInf P 381 1 := ⟨⟨_, inf_of Tryz.type381, by kernel_rfl⟩⟩
instance : TyFn P 381 := ⟨⟨_, _, _, Tryz.underlying381⟩⟩
instance : TyAgg P 381 false := ⟨Tryz.isAgg381⟩
instance : TySize P 381 1 := ⟨Tryz.sizeOf381⟩
instance : TyZ P 381 [.nilFunc] := ⟨fun w => ⟨_, Tryz.zeroValue381 w, rfl⟩⟩
instance : TyU P 393 (.int .u32) := ⟨Tryz.underlying393⟩
instance : TyInf P 393 1 := ⟨⟨_, inf_of Tryz.type393, by kernel_rfl⟩⟩
instance : TyAgg P 393 false := ⟨Tryz.isAgg393⟩
instance : TySize P 393 1 := ⟨Tryz.sizeOf393⟩
instance : TyZ P 393 [.int .u32 0] := ⟨fun w => ⟨_, Tryz.zeroValue393 w, rfl⟩⟩
instance : TyUn P 397 := ⟨Tryz.underlying397⟩
instance : TyInf P 397 1 := ⟨⟨_, inf_of Tryz.type397, by kernel_rfl⟩⟩
instance : TyU P 411 (.pointer 3) := ⟨Tryz.underlying411⟩
instance : TyInf P 411 1 := ⟨⟨_, inf_of Tryz.type411, by kernel_rfl⟩⟩
instance : TyAgg P 411 false := ⟨Tryz.isAgg411⟩
instance : TySize P 411 1 := ⟨Tryz.sizeOf411⟩
instance : TyZ P 411 [.pointer none] := ⟨fun w => ⟨_, Tryz.zeroValue411 w, rfl⟩⟩
instance : TyZV P 3 (.int .i64 0) := ⟨Tryz.zeroValue3⟩
instance : TyZV P 9 (.string ⟨#[]⟩) := ⟨Tryz.zeroValue9⟩
instance : TyZV P 95 (.pointer none) := ⟨Tryz.zeroValue95⟩
instance : TyZV P 236 (.pointer none) := ⟨Tryz.zeroValue236⟩
instance : TyZV P 257 (.pointer none) := ⟨Tryz.zeroValue257⟩
instance : DelF P 122 164 := ⟨3, fun _ _ _ _ _ _ h => s122 h⟩
instance : ExOv P 197 164 := ⟨4, run_callFunc_extern Tryz.func197 (by kernel_rfl) (by kernel_rfl) (by kernel_rfl) (by kernel_rfl)⟩
instance : InsF P 123 164 := ⟨3, 197, 198, inferInstance, inferInstance, fun _ _ _ _ _ _ h => s123 h⟩
instance : BsfF P 192 259 266 266 := ⟨3, 331, inferInstance, inferInstance, fun _ _ _ _ _ _ h => s192 h⟩
instance : ExOv P 272 259 := ⟨4, run_callFunc_extern Tryz.func272 (by kernel_rfl) (by kernel_rfl) (by kernel_rfl) (by kernel_rfl)⟩
instance : InsF P 194 259 := ⟨3, 272, 273, inferInstance, inferInstance, fun _ _ _ _ _ _ h => s194 h⟩
instance : BsgF P 195 164 185 := ⟨3, 331, inferInstance, inferInstance, fun _ _ _ _ _ _ h => s195 h⟩
instance : DelF P 203 259 := ⟨3, fun _ _ _ _ _ _ h => s203 h⟩
instance : BinF P 250 64 3 303 304 := ⟨3, 331, inferInstance, inferInstance, fun _ _ _ _ _ h => s250 h⟩
instance : ExOv P 305 64 := ⟨4, run_callFunc_extern Tryz.func305 (by kernel_rfl) (by kernel_rfl) (by kernel_rfl) (by kernel_rfl)⟩
instance : InsF P 251 64 := ⟨3, 305, 306, inferInstance, inferInstance, fun _ _ _ _ _ _ h => s251 h⟩
instance : CloF P 255 316 := ⟨fun _ _ _ _ h => s255 h⟩
instance : BinF P 279 134 9 337 338 := ⟨3, 331, inferInstance, inferInstance, fun _ _ _ _ _ h => s279 h⟩
instance : ExOv P 339 134 := ⟨4, run_callFunc_extern Tryz.func339 (by kernel_rfl) (by kernel_rfl) (by kernel_rfl) (by kernel_rfl)⟩
instance : InsF P 280 134 := ⟨3, 339, 340, inferInstance, inferInstance, fun _ _ _ _ _ _ h => s280 h⟩
instance : CloF P 288 259 := ⟨fun _ _ _ _ h => s288 h⟩
instance : CloF P 307 64 := ⟨fun _ _ _ _ h => s307 h⟩
instance : BsgF P 345 228 341 := ⟨3, 331, inferInstance, inferInstance, fun _ _ _ _ _ _ h => s345 h⟩
instance : BsgF P 349 284 242 := ⟨3, 331, inferInstance, inferInstance, fun _ _ _ _ _ _ h => s349 h⟩
instance : DelF P 353 64 := ⟨3, fun _ _ _ _ _ _ h => s353 h⟩
instance : CloF P 398 134 := ⟨fun _ _ _ _ h => s398 h⟩
instance : DelF P 406 134 := ⟨3, fun _ _ _ _ _ _ h => s406 h⟩
end Go.Proofs.YtgcomleicnblhaaGreatDoor

