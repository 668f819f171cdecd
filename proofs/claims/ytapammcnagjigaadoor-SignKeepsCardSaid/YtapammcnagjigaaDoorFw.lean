import Derived.Test.YtapammcnagjigaaDoorProg
import Derived.Test.YtapammcnagjigaaDoorEng
set_option linter.all false
namespace Go.Proofs.YtapammcnagjigaaDoor
open Go.Vx
noncomputable abbrev P := Tryd.prog
def bmask : Nat := 196159497894293022260892337308319279748960123877058412540
theorem bodies_ok : Bodies P bmask := bodies_of 188 (by decide +kernel) (by kernel_rfl) (by kernel_rfl)

/-- gosem.cut.init -/
def D2 (K : Value → World → Prop) (s : St) : Prop :=
  Dy P (.func (.func 1) #[] #[]) #[] (fun _ s => Ret P (fun w => K (.tuple #[]) w) s) s
noncomputable def b2 : Code := Tryd.f2.body.getD .skip
theorem e2 (K : Value → World → Prop) : wpc P bmask 1 none b2 (lmOf []) (ktOf P 1 [] K) (frOf []) = D2 K := by kernel_rfl
theorem c2 {w : _} {K : Value → World → Prop} {R : Ending → World → Prop} (h : D2 K ⟨w, []⟩) (hK : ∀ v w', K v w' → R (.returned v) w') : Calls P 2 #[] w R :=
  calls_of bodies_ok Tryd.func2 1 [] (c := b2) (args := []) (K := K) (by kernel_rfl) rfl (e2 K) h hK

/-- rollcall/rollcalllaw14.ReplyShort -/
def D3 (a0 a1 a2 : Value) (K : Value → World → Prop) (s : St) : Prop :=
  Cl P 10 #[] (fun v1 s => Uo P .not v1 (fun v2 s => CondP v2 (Ret P (fun w => K (.bool false) w) s) (Cl P 11 #[a2] (fun v3 s => J1 (fun A4 => Grd v3 false (Bi P .len #[22] 3 #[false] #[a2] (fun v6 s => Bo P .gtr 3 false true v6 (.int .i64 14) (fun v7 s => A4 v7 s) s) s) (A4 undef s)) (fun x5 s => Pk P v3 (.bool true) x5 (fun v8 s => J1 (fun A9 => Grd v8 false (Bo P .lss 3 false true a1 (.int .i64 1) (fun v11 s => A9 v11 s) s) (A9 undef s)) (fun x10 s => Pk P v8 (.bool true) x10 (fun v12 s => J1 (fun A13 => Grd v12 false (Bo P .gtr 3 false true a1 (.int .i64 999) (fun v15 s => A13 v15 s) s) (A13 undef s)) (fun x14 s => Pk P v12 (.bool true) x14 (fun v16 s => CondP v16 (Ret P (fun w => K (.bool true) w) s) (L2 (.string ⟨#[]⟩) (.int .i64 0) s (fun N17 x18 x19 s => Cv P 5 3 a0 (fun v20 s => Bo P .rem 3 false true v20 (.int .i64 60) (fun v21 s => Bo P .leq 3 false false x19 v21 (fun v22 s => CondP v22 (Bo P .add 9 false true x18 (.string ⟨#[115]⟩) (fun v23 s => Bo P .add 3 false true x19 (.int .i64 1) (fun v24 s => N17 v23 v24 s) s) s) (Cl P 12 #[x18, a1, .string ⟨#[97, 110, 110]⟩, a2] (fun v25 s => Bo P .add 9 true false (.string ⟨#[58]⟩) x18 (fun v26 s => Bo P .add 9 false true v26 (.string ⟨#[32]⟩) (fun v27 s => Cl P 13 #[a1] (fun v28 s => Bo P .add 9 false false v27 v28 (fun v29 s => Bo P .add 9 false true v29 (.string ⟨#[32, 97, 110, 110]⟩) (fun v30 s => Bi P .len #[9] 3 #[false] #[v25] (fun v31 s => Bo P .gtr 3 false true v31 (.int .i64 510) (fun v32 s => J1 (fun A33 => Grd v32 false (Bi P .len #[9] 3 #[false] #[v25] (fun v35 s => Bi P .len #[9] 3 #[false] #[v30] (fun v36 s => Bo P .lss 3 false false v35 v36 (fun v37 s => A33 v37 s) s) s) s) (A33 undef s)) (fun x34 s => Pk P v32 (.bool true) x34 (fun v38 s => J1 (fun A39 => Grd v38 false (Bi P .len #[9] 3 #[false] #[v30] (fun v41 s => Sl P 9 v25 none (some v41) none (fun v42 s => Bo P .neq 9 false false v42 v30 (fun v43 s => A39 v43 s) s) s) s) (A39 undef s)) (fun x40 s => Pk P v38 (.bool true) x40 (fun v44 s => CondP v44 (Ret P (fun w => K (.bool false) w) s) (L1 (.int .i64 0) s (fun N45 x46 s => Bi P .len #[9] 3 #[false] #[v25] (fun v47 s => Bo P .lss 3 false false x46 v47 (fun v48 s => CondP v48 (Ix P 9 v25 x46 (fun v49 s => Bo P .eql 5 false true v49 (byteV 0) (fun v50 s => J1 (fun A51 => Grd v50 false (Ix P 9 v25 x46 (fun v53 s => Bo P .eql 5 false true v53 (byteV 13) (fun v54 s => A51 v54 s) s) s) (A51 undef s)) (fun x52 s => Pk P v50 (.bool true) x52 (fun v55 s => J1 (fun A56 => Grd v55 false (Ix P 9 v25 x46 (fun v58 s => Bo P .eql 5 false true v58 (byteV 10) (fun v59 s => A56 v59 s) s) s) (A56 undef s)) (fun x57 s => Pk P v55 (.bool true) x57 (fun v60 s => CondP v60 (Ret P (fun w => K (.bool false) w) s) (Bo P .add 3 false true x46 (.int .i64 1) (fun v61 s => N45 v61 s) s)) s)) s)) s) s) (Ret P (fun w => K (.bool true) w) s)) s) s))) s)) s)) s) s) s) s) s) s) s) s)) s) s) s))) s)) s)) s)) s)) s) s
noncomputable def b3 : Code := Tryd.f3.body.getD .skip
theorem e3 (a0 a1 a2 : Value) (K : Value → World → Prop) : wpc P bmask 89 none b3 (lmOf [.tmp 6]) (ktOf P 89 [.tmp 6] K) (frOf [a0, a1, a2]) = D3 a0 a1 a2 K := by kernel_rfl
theorem c3 {a0 a1 a2 w : _} {K : Value → World → Prop} {R : Ending → World → Prop} (h : D3 a0 a1 a2 K ⟨w, []⟩) (hK : ∀ v w', K v w' → R (.returned v) w') : Calls P 3 #[a0, a1, a2] w R :=
  calls_of bodies_ok Tryd.func3 89 [.tmp 6] (c := b3) (args := [a0, a1, a2]) (K := K) (by kernel_rfl) rfl (e3 a0 a1 a2 K) h hK

/-- rollcall/rollcalllaw14.ReplyWho -/
def D4 (a0 a1 a2 : Value) (K : Value → World → Prop) (s : St) : Prop :=
  Cl P 10 #[] (fun v1 s => Uo P .not v1 (fun v2 s => CondP v2 (Ret P (fun w => K (.bool false) w) s) (Bi P .len #[9] 3 #[false] #[a0] (fun v3 s => Bo P .gtr 3 false true v3 (.int .i64 100) (fun v4 s => J1 (fun A5 => Grd v4 false (Bi P .len #[9] 3 #[false] #[a1] (fun v7 s => Bo P .gtr 3 false true v7 (.int .i64 100) (fun v8 s => A5 v8 s) s) s) (A5 undef s)) (fun x6 s => Pk P v4 (.bool true) x6 (fun v9 s => J1 (fun A10 => Grd v9 false (Bi P .len #[9] 3 #[false] #[a2] (fun v12 s => Bo P .gtr 3 false true v12 (.int .i64 100) (fun v13 s => A10 v13 s) s) s) (A10 undef s)) (fun x11 s => Pk P v9 (.bool true) x11 (fun v14 s => CondP v14 (Ret P (fun w => K (.bool true) w) s) (Cl P 14 #[a0, a1, a2] (fun v15 s => Bo P .add 9 false true a0 (.string ⟨#[33]⟩) (fun v16 s => Bo P .add 9 false false v16 a1 (fun v17 s => Bo P .add 9 false true v17 (.string ⟨#[64]⟩) (fun v18 s => Bo P .add 9 false false v18 a2 (fun v19 s => Bo P .eql 9 false false v15 v19 (fun v20 s => Ret P (fun w => K v20 w) s) s) s) s) s) s) s)) s)) s)) s) s)) s) s
noncomputable def b4 : Code := Tryd.f4.body.getD .skip
theorem e4 (a0 a1 a2 : Value) (K : Value → World → Prop) : wpc P bmask 34 none b4 (lmOf [.tmp 6]) (ktOf P 34 [.tmp 6] K) (frOf [a0, a1, a2]) = D4 a0 a1 a2 K := by kernel_rfl
theorem c4 {a0 a1 a2 w : _} {K : Value → World → Prop} {R : Ending → World → Prop} (h : D4 a0 a1 a2 K ⟨w, []⟩) (hK : ∀ v w', K v w' → R (.returned v) w') : Calls P 4 #[a0, a1, a2] w R :=
  calls_of bodies_ok Tryd.func4 34 [.tmp 6] (c := b4) (args := [a0, a1, a2]) (K := K) (by kernel_rfl) rfl (e4 a0 a1 a2 K) h hK

/-- rollcall/rollcalllaw07.MessageParses -/
def D5 (a0 : Value) (K : Value → World → Prop) (s : St) : Prop :=
  Cl P 15 #[] (fun v1 s => Uo P .not v1 (fun v2 s => CondP v2 (Ret P (fun w => K (.bool false) w) s) (Bi P .len #[9] 3 #[false] #[a0] (fun v3 s => Bo P .gtr 3 false true v3 (.int .i64 600) (fun v4 s => CondP v4 (Ret P (fun w => K (.bool true) w) s) (Cl P 16 #[a0] (fun v5 s => Ex P v5 0 (fun v6 s => Ex P v5 1 (fun v7 s => Al P 32 (fun v8 s => Sv P 32 v8 v6 (fun _ s => Cl P 17 #[a0] (fun v9 s => Ex P v9 0 (fun v10 s => Ex P v9 1 (fun v11 s => Al P 32 (fun v12 s => Sv P 32 v12 v10 (fun _ s => Ld P 32 v8 (fun v13 s => Ld P 32 v12 (fun v14 s => Cl P 18 #[v13, v14] (fun v15 s => Uo P .not v15 (fun v16 s => J1 (fun A17 => Grd v16 false (Bo P .neq 3 false false v7 v11 (fun v19 s => A17 v19 s) s) (A17 undef s)) (fun x18 s => Pk P v16 (.bool true) x18 (fun v20 s => CondP v20 (Ret P (fun w => K (.bool false) w) s) (L1 (.int .i64 (-1)) s (fun N21 x22 s => Fa P 32 v12 3 (fun v23 s => Ld P 22 v23 (fun v24 s => Bi P .len #[22] 3 #[false] #[v24] (fun v25 s => Bo P .leq 3 false false x22 v25 (fun v26 s => CondP v26 (J1 (fun A27 => Bo P .geq 3 false true x22 (.int .i64 0) (fun v29 s => J1 (fun A30 => Grd v29 true (Fa P 32 v12 3 (fun v32 s => Ld P 22 v32 (fun v33 s => Bi P .len #[22] 3 #[false] #[v33] (fun v34 s => Bo P .lss 3 false false x22 v34 (fun v35 s => A30 v35 s) s) s) s) s) (A30 undef s)) (fun x31 s => Pk P v29 x31 (.bool false) (fun v36 s => CondP v36 (Fa P 32 v12 3 (fun v37 s => Ld P 22 v37 (fun v38 s => Ia P 22 v38 x22 (fun v39 s => Ld P 9 v39 (fun v40 s => A27 v40 s) s) s) s) s) (A27 (.string ⟨#[]⟩) s)) s)) s) (fun x28 s => Ld P 32 v8 (fun v41 s => Cl P 19 #[v41, x22] (fun v42 s => Bo P .neq 9 false false v42 x28 (fun v43 s => CondP v43 (Ret P (fun w => K (.bool false) w) s) (Bo P .add 3 false true x22 (.int .i64 1) (fun v44 s => N21 v44 s) s)) s) s) s)) (Ret P (fun w => K (.bool true) w) s)) s) s) s) s))) s)) s) s) s) s) s) s) s) s) s) s) s) s) s) s)) s) s)) s) s
noncomputable def b5 : Code := Tryd.f5.body.getD .skip
theorem e5 (a0 : Value) (K : Value → World → Prop) : wpc P bmask 59 none b5 (lmOf [.tmp 2]) (ktOf P 59 [.tmp 2] K) (frOf [a0]) = D5 a0 K := by kernel_rfl
theorem c5 {a0 w : _} {K : Value → World → Prop} {R : Ending → World → Prop} (h : D5 a0 K ⟨w, []⟩) (hK : ∀ v w', K v w' → R (.returned v) w') : Calls P 5 #[a0] w R :=
  calls_of bodies_ok Tryd.func5 59 [.tmp 2] (c := b5) (args := [a0]) (K := K) (by kernel_rfl) rfl (e5 a0 K) h hK

/-- rollcall/rollcalllaw07.MessageColon -/
def D6 (a0 : Value) (K : Value → World → Prop) (s : St) : Prop :=
  Bx P 32 a0 (fun v1 s => Cl P 15 #[] (fun v2 s => Uo P .not v2 (fun v3 s => CondP v3 (Ret P (fun w => K (.bool false) w) s) (Ld P 32 v1 (fun v4 s => Cl P 20 #[v4] (fun v5 s => J1 (fun A6 => Grd v5 false (Ld P 32 v1 (fun v8 s => Cl P 21 #[v8] (fun v9 s => Bo P .neq 3 false true v9 (.int .i64 0) (fun v10 s => A6 v10 s) s) s) s) (A6 undef s)) (fun x7 s => Pk P v5 (.bool true) x7 (fun v11 s => J1 (fun A12 => Grd v11 false (Fa P 32 v1 3 (fun v14 s => Ld P 22 v14 (fun v15 s => Bi P .len #[22] 3 #[false] #[v15] (fun v16 s => Bo P .eql 3 false true v16 (.int .i64 0) (fun v17 s => A12 v17 s) s) s) s) s) (A12 undef s)) (fun x13 s => Pk P v11 (.bool true) x13 (fun v18 s => CondP v18 (Ret P (fun w => K (.bool true) w) s) (Ld P 32 v1 (fun v19 s => Cl P 22 #[v19] (fun v20 s => Fa P 32 v1 3 (fun v21 s => Ld P 22 v21 (fun v22 s => Fa P 32 v1 3 (fun v23 s => Ld P 22 v23 (fun v24 s => Bi P .len #[22] 3 #[false] #[v24] (fun v25 s => Bo P .sub 3 false true v25 (.int .i64 1) (fun v26 s => Ia P 22 v22 v26 (fun v27 s => Ld P 9 v27 (fun v28 s => L1 (.int .i64 0) s (fun N29 x30 s => Bi P .len #[9] 3 #[false] #[v28] (fun v31 s => Bo P .lss 3 false false x30 v31 (fun v32 s => CondP v32 (Ix P 9 v28 x30 (fun v33 s => Bo P .eql 5 false true v33 (byteV 32) (fun v34 s => J1 (fun A35 => Grd v34 false (Bo P .eql 3 false true x30 (.int .i64 0) (fun v37 s => A35 v37 s) s) (A35 undef s)) (fun x36 s => J1 (fun A38 => Grd x36 true (Ix P 9 v28 x30 (fun v40 s => Bo P .eql 5 false true v40 (byteV 58) (fun v41 s => A38 v41 s) s) s) (A38 undef s)) (fun x39 s => J1 (fun A42 => Grd v34 false (Pk P x36 x39 (.bool false) (fun v44 s => A42 v44 s) s) (A42 undef s)) (fun x43 s => Pk P v34 (.bool true) x43 (fun v45 s => CondP v45 (Ret P (fun w => K (.bool true) w) s) (Bo P .add 3 false true x30 (.int .i64 1) (fun v46 s => N29 v46 s) s)) s)))) s) s) (Bo P .eql 9 false true v28 (.string ⟨#[]⟩) (fun v47 s => J1 (fun A48 => Grd v47 false (Bi P .len #[9] 3 #[false] #[v20] (fun v50 s => Bo P .add 3 false true v50 (.int .i64 1) (fun v51 s => Bo P .gtr 3 false true v51 (.int .i64 510) (fun v52 s => A48 v52 s) s) s) s) (A48 undef s)) (fun x49 s => Pk P v47 (.bool true) x49 (fun v53 s => CondP v53 (Ret P (fun w => K (.bool true) w) s) (Bi P .len #[9] 3 #[false] #[v20] (fun v54 s => Bi P .len #[9] 3 #[false] #[v28] (fun v55 s => Bo P .sub 3 false false v54 v55 (fun v56 s => Sl P 9 v20 none (some v56) none (fun v57 s => Bo P .add 9 false true v57 (.string ⟨#[58]⟩) (fun v58 s => Bo P .add 9 false false v58 v28 (fun v59 s => Bi P .len #[9] 3 #[false] #[v20] (fun v60 s => Bi P .len #[9] 3 #[false] #[v28] (fun v61 s => Bo P .sub 3 false false v60 v61 (fun v62 s => Sl P 9 v20 none (some v62) none (fun v63 s => Bo P .add 9 false true v63 (.string ⟨#[32]⟩) (fun v64 s => Bo P .add 9 false false v64 v28 (fun v65 s => Cl P 16 #[v59] (fun v66 s => Ex P v66 0 (fun v67 s => Ex P v66 1 (fun v68 s => Al P 32 (fun v69 s => Sv P 32 v69 v67 (fun _ s => Cl P 16 #[v65] (fun v70 s => Ex P v70 0 (fun v71 s => Ex P v70 1 (fun v72 s => Al P 32 (fun v73 s => Sv P 32 v73 v71 (fun _ s => Bo P .eql 33 false true v68 (.int .i64 0) (fun v74 s => J1 (fun A75 => Grd v74 true (Bo P .eql 33 false true v72 (.int .i64 0) (fun v77 s => A75 v77 s) s) (A75 undef s)) (fun x76 s => Pk P v74 x76 (.bool false) (fun v78 s => J1 (fun A79 => Grd v78 true (Ld P 32 v69 (fun v81 s => Ld P 32 v1 (fun v82 s => Cl P 23 #[v81, v82] (fun v83 s => A79 v83 s) s) s) s) (A79 undef s)) (fun x80 s => Pk P v78 x80 (.bool false) (fun v84 s => J1 (fun A85 => Grd v84 true (Ld P 32 v73 (fun v87 s => Ld P 32 v1 (fun v88 s => Cl P 23 #[v87, v88] (fun v89 s => A85 v89 s) s) s) s) (A85 undef s)) (fun x86 s => Pk P v84 x86 (.bool false) (fun v90 s => Ret P (fun w => K v90 w) s) s)) s)) s)) s) s) s) s) s) s) s) s) s) s) s) s) s) s) s) s) s) s) s) s) s) s) s)) s)) s)) s) s)) s) s) s) s) s) s) s) s) s) s)) s)) s)) s) s)) s) s) s
noncomputable def b6 : Code := Tryd.f6.body.getD .skip
theorem e6 (a0 : Value) (K : Value → World → Prop) : wpc P bmask 111 none b6 (lmOf [.tmp 2]) (ktOf P 111 [.tmp 2] K) (frOf [a0]) = D6 a0 K := by kernel_rfl
theorem c6 {a0 w : _} {K : Value → World → Prop} {R : Ending → World → Prop} (h : D6 a0 K ⟨w, []⟩) (hK : ∀ v w', K v w' → R (.returned v) w') : Calls P 6 #[a0] w R :=
  calls_of bodies_ok Tryd.func6 111 [.tmp 2] (c := b6) (args := [a0]) (K := K) (by kernel_rfl) rfl (e6 a0 K) h hK

/-- rollcall/rollcalllaw07.MessageAgain -/
def D7 (a0 : Value) (K : Value → World → Prop) (s : St) : Prop :=
  Cl P 15 #[] (fun v1 s => Uo P .not v1 (fun v2 s => CondP v2 (Ret P (fun w => K (.bool false) w) s) (Cl P 16 #[a0] (fun v3 s => Ex P v3 0 (fun v4 s => Ex P v3 1 (fun v5 s => Al P 32 (fun v6 s => Sv P 32 v6 v4 (fun _ s => Bo P .neq 33 false true v5 (.int .i64 0) (fun v7 s => CondP v7 (Ld P 32 v6 (fun v8 s => Bd P 32 #[] (fun v9 s => Cl P 23 #[v8, v9] (fun v10 s => J1 (fun A11 => Grd v10 true (Bi P .len #[9] 3 #[false] #[a0] (fun v13 s => Bo P .leq 3 false true v13 (.int .i64 510) (fun v14 s => A11 v14 s) s) s) (A11 undef s)) (fun x12 s => J1 (fun A15 => Grd x12 false (Bo P .eql 33 false true v5 (.int .i64 3) (fun v17 s => A15 v17 s) s) (A15 undef s)) (fun x16 s => J1 (fun A18 => Grd v10 true (Pk P x12 (.bool true) x16 (fun v20 s => A18 v20 s) s) (A18 undef s)) (fun x19 s => Pk P v10 x19 (.bool false) (fun v21 s => Ret P (fun w => K v21 w) s) s)))) s) s) s) (Ld P 32 v6 (fun v22 s => Cl P 24 #[v22] (fun v23 s => Bo P .eql 33 false true v23 (.int .i64 3) (fun v24 s => CondP v24 (Fa P 32 v6 0 (fun v25 s => Ld P 30 v25 (fun v26 s => Bi P .len #[30] 3 #[false] #[v26] (fun v27 s => Bo P .gtr 3 false true v27 (.int .i64 0) (fun v28 s => J1 (fun A29 => Grd v28 false (Fa P 32 v6 3 (fun v31 s => Ld P 22 v31 (fun v32 s => Bi P .len #[22] 3 #[false] #[v32] (fun v33 s => Bo P .eql 3 false true v33 (.int .i64 15) (fun v34 s => A29 v34 s) s) s) s) s) (A29 undef s)) (fun x30 s => Pk P v28 (.bool true) x30 (fun v35 s => Ret P (fun w => K v35 w) s) s)) s) s) s) s) (Ld P 32 v6 (fun v36 s => Cl P 25 #[v36] (fun v37 s => Cl P 16 #[v37] (fun v38 s => Ex P v38 0 (fun v39 s => Ex P v38 1 (fun v40 s => Al P 32 (fun v41 s => Sv P 32 v41 v39 (fun _ s => Bo P .eql 33 false true v23 (.int .i64 0) (fun v42 s => J1 (fun A43 => Grd v42 true (Bo P .eql 33 false true v40 (.int .i64 0) (fun v45 s => A43 v45 s) s) (A43 undef s)) (fun x44 s => Pk P v42 x44 (.bool false) (fun v46 s => J1 (fun A47 => Grd v46 true (Ld P 32 v41 (fun v49 s => Ld P 32 v6 (fun v50 s => Cl P 23 #[v49, v50] (fun v51 s => A47 v51 s) s) s) s) (A47 undef s)) (fun x48 s => Pk P v46 x48 (.bool false) (fun v52 s => J1 (fun A53 => Grd v52 true (Fa P 32 v41 0 (fun v55 s => Ld P 30 v55 (fun v56 s => Fa P 32 v6 0 (fun v57 s => Ld P 30 v57 (fun v58 s => Cl P 26 #[v56, v58] (fun v59 s => A53 v59 s) s) s) s) s) s) (A53 undef s)) (fun x54 s => Pk P v52 x54 (.bool false) (fun v60 s => Ret P (fun w => K v60 w) s) s)) s)) s)) s) s) s) s) s) s) s) s)) s) s) s)) s) s) s) s) s) s)) s) s
noncomputable def b7 : Code := Tryd.f7.body.getD .skip
theorem e7 (a0 : Value) (K : Value → World → Prop) : wpc P bmask 67 none b7 (lmOf [.tmp 2]) (ktOf P 67 [.tmp 2] K) (frOf [a0]) = D7 a0 K := by kernel_rfl
theorem c7 {a0 w : _} {K : Value → World → Prop} {R : Ending → World → Prop} (h : D7 a0 K ⟨w, []⟩) (hK : ∀ v w', K v w' → R (.returned v) w') : Calls P 7 #[a0] w R :=
  calls_of bodies_ok Tryd.func7 67 [.tmp 2] (c := b7) (args := [a0]) (K := K) (by kernel_rfl) rfl (e7 a0 K) h hK

/-- rollcall/rollcalllaw14.ReplyAll -/
def D8 (a0 : Value) (K : Value → World → Prop) (s : St) : Prop :=
  Cl P 10 #[] (fun v1 s => Uo P .not v1 (fun v2 s => CondP v2 (Ret P (fun w => K (.bool false) w) s) (Bi P .len #[46] 3 #[false] #[a0] (fun v3 s => Bo P .gtr 3 false true v3 (.int .i64 60) (fun v4 s => J1 (fun A5 => Grd v4 false (Bi P .len #[46] 3 #[false] #[a0] (fun v7 s => Bo P .eql 3 false true v7 (.int .i64 0) (fun v8 s => A5 v8 s) s) s) (A5 undef s)) (fun x6 s => Pk P v4 (.bool true) x6 (fun v9 s => CondP v9 (Ret P (fun w => K (.bool true) w) s) (L3 (.slice none 0 0) (.string ⟨#[]⟩) (.int .i64 0) s (fun N10 x11 x12 x13 s => Bi P .len #[46] 3 #[false] #[a0] (fun v14 s => Bo P .lss 3 false false x13 v14 (fun v15 s => CondP v15 (L2 (.string ⟨#[]⟩) (.int .i64 0) s (fun N16 x17 x18 s => Ia P 46 a0 x13 (fun v19 s => Ld P 5 v19 (fun v20 s => Cv P 5 3 v20 (fun v21 s => Bo P .rem 3 false true v21 (.int .i64 60) (fun v22 s => Bo P .leq 3 false false x18 v22 (fun v23 s => CondP v23 (Bo P .rem 3 false true x13 (.int .i64 26) (fun v24 s => Bo P .add 3 true false (.int .i64 97) v24 (fun v25 s => Cv P 3 5 v25 (fun v26 s => Bs P 46 1 #[(0, v26)] (fun v27 s => Cv P 46 9 v27 (fun v28 s => Bo P .add 9 false false x17 v28 (fun v29 s => Bo P .add 3 false true x18 (.int .i64 1) (fun v30 s => N16 v29 v30 s) s) s) s) s) s) s) s) (Bs P 22 1 #[(0, x17)] (fun v31 s => Bi P .append #[22, 22] 22 #[false, false] #[x11, v31] (fun v32 s => Bo P .add 9 false true x17 (.string ⟨#[32]⟩) (fun v33 s => Bo P .add 9 false false x12 v33 (fun v34 s => Bo P .add 3 false true x13 (.int .i64 1) (fun v35 s => N10 v32 v34 v35 s) s) s) s) s) s)) s) s) s) s) s)) (Bs P 22 2 #[(0, .string ⟨#[61]⟩), (1, .string ⟨#[35, 99]⟩)] (fun v36 s => Cl P 28 #[x11] (fun v37 s => Cl P 27 #[.string ⟨#[105, 114, 99, 46, 120]⟩, .int .i64 353, .string ⟨#[97, 110, 110]⟩, v36, v37] (fun v38 s => L2 (.string ⟨#[]⟩) (.int .i64 0) s (fun N39 x40 x41 s => Bi P .len #[22] 3 #[false] #[v38] (fun v42 s => Bo P .lss 3 false false x41 v42 (fun v43 s => CondP v43 (Ia P 22 v38 x41 (fun v44 s => Ld P 9 v44 (fun v45 s => Cl P 16 #[v45] (fun v46 s => Ex P v46 0 (fun v47 s => Ex P v46 1 (fun v48 s => Al P 32 (fun v49 s => Sv P 32 v49 v47 (fun _ s => Bo P .neq 33 false true v48 (.int .i64 0) (fun v50 s => J1 (fun A51 => Grd v50 false (Fa P 32 v49 3 (fun v53 s => Ld P 22 v53 (fun v54 s => Bi P .len #[22] 3 #[false] #[v54] (fun v55 s => Bo P .neq 3 false true v55 (.int .i64 4) (fun v56 s => A51 v56 s) s) s) s) s) (A51 undef s)) (fun x52 s => Pk P v50 (.bool true) x52 (fun v57 s => J1 (fun A58 => Grd v57 false (Fa P 32 v49 3 (fun v60 s => Ld P 22 v60 (fun v61 s => Ia P 22 v61 (.int .i64 3) (fun v62 s => Ld P 9 v62 (fun v63 s => Bo P .eql 9 false true v63 (.string ⟨#[]⟩) (fun v64 s => A58 v64 s) s) s) s) s) s) (A58 undef s)) (fun x59 s => Pk P v57 (.bool true) x59 (fun v65 s => J1 (fun A66 => Grd v65 false (Ia P 22 v38 x41 (fun v68 s => Ld P 9 v68 (fun v69 s => Bi P .len #[9] 3 #[false] #[v69] (fun v70 s => Bo P .gtr 3 false true v70 (.int .i64 510) (fun v71 s => A66 v71 s) s) s) s) s) (A66 undef s)) (fun x67 s => Pk P v65 (.bool true) x67 (fun v72 s => CondP v72 (Ret P (fun w => K (.bool false) w) s) (J0 (fun A73 => Bo P .gtr 3 false true x41 (.int .i64 0) (fun v74 s => CondP v74 (L1 (.int .i64 0) s (fun N75 x76 s => Fa P 32 v49 3 (fun v77 s => Ld P 22 v77 (fun v78 s => Ia P 22 v78 (.int .i64 3) (fun v79 s => Ld P 9 v79 (fun v80 s => Bi P .len #[9] 3 #[false] #[v80] (fun v81 s => Bo P .lss 3 false false x76 v81 (fun v82 s => J1 (fun A83 => Grd v82 true (Fa P 32 v49 3 (fun v85 s => Ld P 22 v85 (fun v86 s => Ia P 22 v86 (.int .i64 3) (fun v87 s => Ld P 9 v87 (fun v88 s => Ix P 9 v88 x76 (fun v89 s => Bo P .neq 5 false true v89 (byteV 32) (fun v90 s => A83 v90 s) s) s) s) s) s) s) (A83 undef s)) (fun x84 s => Pk P v82 x84 (.bool false) (fun v91 s => CondP v91 (Bo P .add 3 false true x76 (.int .i64 1) (fun v92 s => N75 v92 s) s) (Bo P .sub 3 false true x41 (.int .i64 1) (fun v93 s => Ia P 22 v38 v93 (fun v94 s => Ld P 9 v94 (fun v95 s => Bi P .len #[9] 3 #[false] #[v95] (fun v96 s => Bo P .add 3 false true v96 (.int .i64 1) (fun v97 s => Bo P .add 3 false false v97 x76 (fun v98 s => Bo P .lss 3 false true v98 (.int .i64 510) (fun v99 s => CondP v99 (Ret P (fun w => K (.bool false) w) s) (A73 s)) s) s) s) s) s) s) s)) s)) s) s) s) s) s) s)) (A73 s)) s) (fun s => Fa P 32 v49 3 (fun v100 s => Ld P 22 v100 (fun v101 s => Ia P 22 v101 (.int .i64 3) (fun v102 s => Ld P 9 v102 (fun v103 s => Bo P .add 9 false true v103 (.string ⟨#[32]⟩) (fun v104 s => Bo P .add 9 false false x40 v104 (fun v105 s => Bo P .add 3 false true x41 (.int .i64 1) (fun v106 s => N39 v105 v106 s) s) s) s) s) s) s) s))) s)) s)) s)) s) s) s) s) s) s) s) s) (Bo P .eql 9 false false x40 x12 (fun v107 s => Ret P (fun w => K v107 w) s) s)) s) s)) s) s) s)) s) s))) s)) s) s)) s) s
noncomputable def b8 : Code := Tryd.f8.body.getD .skip
theorem e8 (a0 : Value) (K : Value → World → Prop) : wpc P bmask 137 none b8 (lmOf [.tmp 2]) (ktOf P 137 [.tmp 2] K) (frOf [a0]) = D8 a0 K := by kernel_rfl
theorem c8 {a0 w : _} {K : Value → World → Prop} {R : Ending → World → Prop} (h : D8 a0 K ⟨w, []⟩) (hK : ∀ v w', K v w' → R (.returned v) w') : Calls P 8 #[a0] w R :=
  calls_of bodies_ok Tryd.func8 137 [.tmp 2] (c := b8) (args := [a0]) (K := K) (by kernel_rfl) rfl (e8 a0 K) h hK

/-- rollcall/rollcalllaw17.SignKeeps -/
def D9 (a0 a1 : Value) (K : Value → World → Prop) (s : St) : Prop :=
  Bx P 52 a0 (fun v1 s => Cl P 29 #[] (fun v2 s => Uo P .not v2 (fun v3 s => CondP v3 (Ret P (fun w => K (.bool false) w) s) (Ld P 52 v1 (fun v4 s => Cl P 30 #[.string ⟨#[]⟩, v4, a1] (fun v5 s => CondP v5 (Ret P (fun w => K (.bool true) w) s) (Ld P 52 v1 (fun v6 s => Cl P 31 #[.string ⟨#[105, 114, 99, 46, 120]⟩, v6, a1] (fun v7 s => Ex P v7 0 (fun v8 s => Ex P v7 1 (fun v9 s => Al P 52 (fun v10 s => Sv P 52 v10 v8 (fun _ s => Ld P 52 v1 (fun v11 s => Cl P 32 #[.string ⟨#[105, 114, 99, 46, 120]⟩, v11, a1] (fun v12 s => Ex P v12 0 (fun v13 s => Ex P v12 1 (fun v14 s => Al P 52 (fun v15 s => Sv P 52 v15 v13 (fun _ s => Ld P 52 v1 (fun v16 s => Cl P 33 #[.string ⟨#[105, 114, 99, 46, 120]⟩, v16, a1] (fun v17 s => Ex P v17 0 (fun v18 s => Ex P v17 1 (fun _ s => Al P 52 (fun v20 s => Sv P 52 v20 v18 (fun _ s => Bi P .len #[22] 3 #[false] #[v9] (fun v21 s => Bo P .gtr 3 false true v21 (.int .i64 0) (fun v22 s => J1 (fun A23 => Grd v22 true (Ld P 52 v10 (fun v25 s => Ld P 52 v1 (fun v26 s => Bo P .neq 52 false false v25 v26 (fun v27 s => A23 v27 s) s) s) s) (A23 undef s)) (fun x24 s => Pk P v22 x24 (.bool false) (fun v28 s => J1 (fun A29 => Grd v28 false (Bi P .len #[22] 3 #[false] #[v14] (fun v31 s => Bo P .gtr 3 false true v31 (.int .i64 0) (fun v32 s => A29 v32 s) s) s) (A29 undef s)) (fun x30 s => J1 (fun A33 => Grd x30 true (Ld P 52 v15 (fun v35 s => Ld P 52 v1 (fun v36 s => Bo P .neq 52 false false v35 v36 (fun v37 s => A33 v37 s) s) s) s) (A33 undef s)) (fun x34 s => J1 (fun A38 => Grd v28 false (Pk P x30 x34 (.bool false) (fun v40 s => A38 v40 s) s) (A38 undef s)) (fun x39 s => Pk P v28 (.bool true) x39 (fun v41 s => CondP v41 (Ret P (fun w => K (.bool false) w) s) (Ld P 52 v20 (fun v42 s => Al P 52 (fun v43 s => Sv P 52 v43 v42 (fun _ s => Dw (fun s => Qt (Fa P 52 v1 0) s fun v44 => Qt (Ld P 3 v44) s fun v45 => Qt (Fa P 52 v1 1) s fun v46 => Qt (Ld P 4 v46) s fun v47 => Qt (Fa P 52 v43 0) s fun v48 => Sv P 3 v48 v45 (fun _ s => Ck (Fa P 52 v1 1) v46 s ∧ Ck (Ld P 4 v46) v47 s ∧ (Qt (Fa P 52 v43 1) s fun v49 => Sv P 4 v49 v47 (fun _ s => Ld P 52 v43 (fun v50 s => Ld P 52 v1 (fun v51 s => Bo P .neq 52 false false v50 v51 (fun v52 s => CondP v52 (Ret P (fun w => K (.bool false) w) s) (Fa P 52 v1 6 (fun v53 s => Ld P 4 v53 (fun v54 s => Uo P .not v54 (fun v55 s => J1 (fun A56 => Grd v55 false (Ld P 52 v10 (fun v58 s => Ld P 52 v1 (fun v59 s => Bo P .eql 52 false false v58 v59 (fun v60 s => A56 v60 s) s) s) s) (A56 undef s)) (fun x57 s => J1 (fun A61 => Grd x57 true (Ld P 52 v15 (fun v63 s => Ld P 52 v1 (fun v64 s => Bo P .eql 52 false false v63 v64 (fun v65 s => A61 v65 s) s) s) s) (A61 undef s)) (fun x62 s => J1 (fun A66 => Grd v55 false (Pk P x57 x62 (.bool false) (fun v68 s => A66 v68 s) s) (A66 undef s)) (fun x67 s => J1 (fun A69 => Grd x67 true (Fa P 52 v20 1 (fun v71 s => Ld P 4 v71 (fun v72 s => Uo P .not v72 (fun v73 s => A69 v73 s) s) s) s) (A69 undef s)) (fun x70 s => J1 (fun A74 => Grd x70 false (Fa P 52 v1 1 (fun v76 s => Ld P 4 v76 (fun v77 s => A74 v77 s) s) s) (A74 undef s)) (fun x75 s => J1 (fun A78 => Grd x67 true (Pk P x70 (.bool true) x75 (fun v80 s => A78 v80 s) s) (A78 undef s)) (fun x79 s => J1 (fun A81 => Grd v55 false (Pk P x67 x79 (.bool false) (fun v83 s => A81 v83 s) s) (A81 undef s)) (fun x82 s => J1 (fun A84 => Grd x82 true (Ld P 52 v20 (fun v86 s => Cl P 34 #[v86] (fun v87 s => Uo P .not v87 (fun v88 s => A84 v88 s) s) s) s) (A84 undef s)) (fun x85 s => J1 (fun A89 => Grd v55 false (Pk P x82 x85 (.bool false) (fun v91 s => A89 v91 s) s) (A89 undef s)) (fun x90 s => Pk P v55 (.bool true) x90 (fun v92 s => Ret P (fun w => K v92 w) s) s)))))))))) s) s) s)) s) s) s) s)) s) s) s) s) s)) s)))) s)) s) s) s) s) s) s) s) s) s) s) s) s) s) s) s) s) s) s) s) s)) s) s)) s) s) s
noncomputable def b9 : Code := Tryd.f9.body.getD .skip
theorem e9 (a0 a1 : Value) (K : Value → World → Prop) : wpc P bmask 90 none b9 (lmOf [.tmp 4]) (ktOf P 90 [.tmp 4] K) (frOf [a0, a1]) = D9 a0 a1 K := by kernel_rfl
theorem c9 {a0 a1 w : _} {K : Value → World → Prop} {R : Ending → World → Prop} (h : D9 a0 a1 K ⟨w, []⟩) (hK : ∀ v w', K v w' → R (.returned v) w') : Calls P 9 #[a0, a1] w R :=
  calls_of bodies_ok Tryd.func9 90 [.tmp 4] (c := b9) (args := [a0, a1]) (K := K) (by kernel_rfl) rfl (e9 a0 a1 K) h hK

/-- rollcall/rollcalllaw14.awake -/
def D10 (K : Value → World → Prop) (s : St) : Prop :=
  Bs P 22 1 #[(0, .string ⟨#[72, 105, 32, 116, 104, 101, 114, 101]⟩)] (fun v1 s => Cl P 12 #[.string ⟨#[105, 114, 99, 46, 120]⟩, .int .i64 1, .string ⟨#[97, 110, 110]⟩, v1] (fun v2 s => Bo P .eql 9 false true v2 (.string ⟨#[58, 105, 114, 99, 46, 120, 32, 48, 48, 49, 32, 97, 110, 110, 32, 58, 72, 105, 32, 116, 104, 101, 114, 101]⟩) (fun v3 s => Ret P (fun w => K v3 w) s) s) s) s
noncomputable def b10 : Code := Tryd.f10.body.getD .skip
theorem e10 (K : Value → World → Prop) : wpc P bmask 4 none b10 (lmOf [.tmp 0]) (ktOf P 4 [.tmp 0] K) (frOf []) = D10 K := by kernel_rfl
theorem c10 {w : _} {K : Value → World → Prop} {R : Ending → World → Prop} (h : D10 K ⟨w, []⟩) (hK : ∀ v w', K v w' → R (.returned v) w') : Calls P 10 #[] w R :=
  calls_of bodies_ok Tryd.func10 4 [.tmp 0] (c := b10) (args := []) (K := K) (by kernel_rfl) rfl (e10 K) h hK

/-- rollcall/rollcalllaw14.great -/
def D11 (a0 : Value) (K : Value → World → Prop) (s : St) : Prop :=
  Bi P .len #[22] 3 #[false] #[a0] (fun v1 s => Bo P .gtr 3 false true v1 (.int .i64 20) (fun v2 s => CondP v2 (Ret P (fun w => K (.bool true) w) s) (L1 (.int .i64 0) s (fun N3 x4 s => Bi P .len #[22] 3 #[false] #[a0] (fun v5 s => Bo P .lss 3 false false x4 v5 (fun v6 s => CondP v6 (Ia P 22 a0 x4 (fun v7 s => Ld P 9 v7 (fun v8 s => Bi P .len #[9] 3 #[false] #[v8] (fun v9 s => Bo P .gtr 3 false true v9 (.int .i64 200) (fun v10 s => CondP v10 (Ret P (fun w => K (.bool true) w) s) (Bo P .add 3 false true x4 (.int .i64 1) (fun v11 s => N3 v11 s) s)) s) s) s) s) (Ret P (fun w => K (.bool false) w) s)) s) s))) s) s
noncomputable def b11 : Code := Tryd.f11.body.getD .skip
theorem e11 (a0 : Value) (K : Value → World → Prop) : wpc P bmask 19 none b11 (lmOf [.tmp 2]) (ktOf P 19 [.tmp 2] K) (frOf [a0]) = D11 a0 K := by kernel_rfl
theorem c11 {a0 w : _} {K : Value → World → Prop} {R : Ending → World → Prop} (h : D11 a0 K ⟨w, []⟩) (hK : ∀ v w', K v w' → R (.returned v) w') : Calls P 11 #[a0] w R :=
  calls_of bodies_ok Tryd.func11 19 [.tmp 2] (c := b11) (args := [a0]) (K := K) (by kernel_rfl) rfl (e11 a0 K) h hK

/-- rollcall/reply.Numeric -/
def D12 (a0 a1 a2 a3 : Value) (K : Value → World → Prop) (s : St) : Prop :=
  Bo P .lss 3 false true a1 (.int .i64 1) (fun v1 s => J1 (fun A2 => Grd v1 false (Bo P .gtr 3 false true a1 (.int .i64 999) (fun v4 s => A2 v4 s) s) (A2 undef s)) (fun x3 s => Pk P v1 (.bool true) x3 (fun v5 s => J1 (fun A6 => Grd v5 false (Bi P .len #[22] 3 #[false] #[a3] (fun v8 s => Bo P .gtr 3 false true v8 (.int .i64 14) (fun v9 s => A6 v9 s) s) s) (A6 undef s)) (fun x7 s => Pk P v5 (.bool true) x7 (fun v10 s => CondP v10 (Ret P (fun w => K (.string ⟨#[]⟩) w) s) (J1 (fun A11 => Bo P .eql 9 false true a2 (.string ⟨#[]⟩) (fun v13 s => CondP v13 (A11 (.string ⟨#[42]⟩) s) (A11 a2 s)) s) (fun x12 s => Cl P 36 #[a1] (fun v14 s => Bs P 22 1 #[(0, x12)] (fun v15 s => Bi P .append #[22, 22] 22 #[false, false] #[v15, a3] (fun v16 s => Cl P 35 #[a0, v14, v16] (fun v17 s => Ret P (fun w => K v17 w) s) s) s) s) s))) s)) s)) s
noncomputable def b12 : Code := Tryd.f12.body.getD .skip
theorem e12 (a0 a1 a2 a3 : Value) (K : Value → World → Prop) : wpc P bmask 30 none b12 (lmOf [.tmp 8]) (ktOf P 30 [.tmp 8] K) (frOf [a0, a1, a2, a3]) = D12 a0 a1 a2 a3 K := by kernel_rfl
theorem c12 {a0 a1 a2 a3 w : _} {K : Value → World → Prop} {R : Ending → World → Prop} (h : D12 a0 a1 a2 a3 K ⟨w, []⟩) (hK : ∀ v w', K v w' → R (.returned v) w') : Calls P 12 #[a0, a1, a2, a3] w R :=
  calls_of bodies_ok Tryd.func12 30 [.tmp 8] (c := b12) (args := [a0, a1, a2, a3]) (K := K) (by kernel_rfl) rfl (e12 a0 a1 a2 a3 K) h hK

/-- rollcall/rollcallref14.Code -/
def D13 (a0 : Value) (K : Value → World → Prop) (s : St) : Prop :=
  Bo P .quo 3 false true a0 (.int .i64 100) (fun v1 s => Bo P .add 3 true false (.int .i64 48) v1 (fun v2 s => Cv P 3 5 v2 (fun v3 s => Bo P .quo 3 false true a0 (.int .i64 10) (fun v4 s => Bo P .rem 3 false true v4 (.int .i64 10) (fun v5 s => Bo P .add 3 true false (.int .i64 48) v5 (fun v6 s => Cv P 3 5 v6 (fun v7 s => Bo P .rem 3 false true a0 (.int .i64 10) (fun v8 s => Bo P .add 3 true false (.int .i64 48) v8 (fun v9 s => Cv P 3 5 v9 (fun v10 s => Bs P 46 3 #[(0, v3), (1, v7), (2, v10)] (fun v11 s => Cv P 46 9 v11 (fun v12 s => Ret P (fun w => K v12 w) s) s) s) s) s) s) s) s) s) s) s) s) s
noncomputable def b13 : Code := Tryd.f13.body.getD .skip
theorem e13 (a0 : Value) (K : Value → World → Prop) : wpc P bmask 18 none b13 (lmOf [.tmp 2]) (ktOf P 18 [.tmp 2] K) (frOf [a0]) = D13 a0 K := by kernel_rfl
theorem c13 {a0 w : _} {K : Value → World → Prop} {R : Ending → World → Prop} (h : D13 a0 K ⟨w, []⟩) (hK : ∀ v w', K v w' → R (.returned v) w') : Calls P 13 #[a0] w R :=
  calls_of bodies_ok Tryd.func13 18 [.tmp 2] (c := b13) (args := [a0]) (K := K) (by kernel_rfl) rfl (e13 a0 K) h hK

/-- rollcall/reply.Who -/
def D14 (a0 a1 a2 : Value) (K : Value → World → Prop) (s : St) : Prop :=
  Bo P .add 9 false true a0 (.string ⟨#[33]⟩) (fun v1 s => Bo P .add 9 false false v1 a1 (fun v2 s => Bo P .add 9 false true v2 (.string ⟨#[64]⟩) (fun v3 s => Bo P .add 9 false false v3 a2 (fun v4 s => Ret P (fun w => K v4 w) s) s) s) s) s
noncomputable def b14 : Code := Tryd.f14.body.getD .skip
theorem e14 (a0 a1 a2 : Value) (K : Value → World → Prop) : wpc P bmask 14 none b14 (lmOf [.tmp 6]) (ktOf P 14 [.tmp 6] K) (frOf [a0, a1, a2]) = D14 a0 a1 a2 K := by kernel_rfl
theorem c14 {a0 a1 a2 w : _} {K : Value → World → Prop} {R : Ending → World → Prop} (h : D14 a0 a1 a2 K ⟨w, []⟩) (hK : ∀ v w', K v w' → R (.returned v) w') : Calls P 14 #[a0, a1, a2] w R :=
  calls_of bodies_ok Tryd.func14 14 [.tmp 6] (c := b14) (args := [a0, a1, a2]) (K := K) (by kernel_rfl) rfl (e14 a0 a1 a2 K) h hK

/-- rollcall/rollcalllaw07.awake -/
def D15 (K : Value → World → Prop) (s : St) : Prop :=
  Cl P 16 #[.string ⟨#[64, 97, 61, 98, 32, 58, 120, 33, 121, 64, 122, 32, 112, 114, 105, 118, 109, 115, 103, 32, 35, 99, 32, 58, 104, 105, 32, 116, 104, 101, 114, 101]⟩] (fun v1 s => Ex P v1 0 (fun v2 s => Ex P v1 1 (fun v3 s => Al P 32 (fun v4 s => Sv P 32 v4 v2 (fun _ s => Bo P .eql 33 false true v3 (.int .i64 0) (fun v5 s => J1 (fun A6 => Grd v5 true (Fa P 32 v4 0 (fun v8 s => Ld P 30 v8 (fun v9 s => Bi P .len #[30] 3 #[false] #[v9] (fun v10 s => Bo P .eql 3 false true v10 (.int .i64 1) (fun v11 s => A6 v11 s) s) s) s) s) (A6 undef s)) (fun x7 s => Pk P v5 x7 (.bool false) (fun v12 s => J1 (fun A13 => Grd v12 true (Fa P 32 v4 1 (fun v15 s => Ld P 9 v15 (fun v16 s => Bo P .eql 9 false true v16 (.string ⟨#[120, 33, 121, 64, 122]⟩) (fun v17 s => A13 v17 s) s) s) s) (A13 undef s)) (fun x14 s => Pk P v12 x14 (.bool false) (fun v18 s => J1 (fun A19 => Grd v18 true (Fa P 32 v4 2 (fun v21 s => Ld P 9 v21 (fun v22 s => Bo P .eql 9 false true v22 (.string ⟨#[80, 82, 73, 86, 77, 83, 71]⟩) (fun v23 s => A19 v23 s) s) s) s) (A19 undef s)) (fun x20 s => Pk P v18 x20 (.bool false) (fun v24 s => J1 (fun A25 => Grd v24 true (Fa P 32 v4 3 (fun v27 s => Ld P 22 v27 (fun v28 s => Bi P .len #[22] 3 #[false] #[v28] (fun v29 s => Bo P .eql 3 false true v29 (.int .i64 2) (fun v30 s => A25 v30 s) s) s) s) s) (A25 undef s)) (fun x26 s => Pk P v24 x26 (.bool false) (fun v31 s => J1 (fun A32 => Grd v31 true (Fa P 32 v4 3 (fun v34 s => Ld P 22 v34 (fun v35 s => Ia P 22 v35 (.int .i64 1) (fun v36 s => Ld P 9 v36 (fun v37 s => Bo P .eql 9 false true v37 (.string ⟨#[104, 105, 32, 116, 104, 101, 114, 101]⟩) (fun v38 s => A32 v38 s) s) s) s) s) s) (A32 undef s)) (fun x33 s => Pk P v31 x33 (.bool false) (fun v39 s => Ret P (fun w => K v39 w) s) s)) s)) s)) s)) s)) s) s) s) s) s) s
noncomputable def b15 : Code := Tryd.f15.body.getD .skip
theorem e15 (K : Value → World → Prop) : wpc P bmask 38 none b15 (lmOf [.tmp 0]) (ktOf P 38 [.tmp 0] K) (frOf []) = D15 K := by kernel_rfl
theorem c15 {w : _} {K : Value → World → Prop} {R : Ending → World → Prop} (h : D15 K ⟨w, []⟩) (hK : ∀ v w', K v w' → R (.returned v) w') : Calls P 15 #[] w R :=
  calls_of bodies_ok Tryd.func15 38 [.tmp 0] (c := b15) (args := []) (K := K) (by kernel_rfl) rfl (e15 K) h hK

/-- rollcall/message.Parse -/
def D16 (a0 : Value) (K : Value → World → Prop) (s : St) : Prop :=
  Al P 32 (fun v1 s => Bi P .len #[9] 3 #[false] #[a0] (fun v2 s => Bo P .gtr 3 false true v2 (.int .i64 510) (fun v3 s => CondP v3 (Bd P 32 #[] (fun v4 s => Sv P 32 v1 v4 (fun _ s => Ret P (fun w => LdR P 32 v1 w fun v5 => K (.tuple #[v5, .int .i64 3]) w) s) s) s) (Cl P 37 #[a0] (fun v6 s => Uo P .not v6 (fun v7 s => CondP v7 (Bd P 32 #[] (fun v8 s => Sv P 32 v1 v8 (fun _ s => Ret P (fun w => LdR P 32 v1 w fun v9 => K (.tuple #[v9, .int .i64 10]) w) s) s) s) (Al P 32 (fun v10 s => J1 (fun A11 => Cl P 38 #[a0, .string ⟨#[64]⟩] (fun v13 s => CondP v13 (Sl P 9 a0 (some (.int .i64 1)) none none (fun v14 s => Cl P 39 #[v14] (fun v15 s => Ex P v15 0 (fun v16 s => Ex P v15 1 (fun v17 s => Cl P 40 #[v16] (fun v18 s => Ex P v18 0 (fun v19 s => Ex P v18 1 (fun v20 s => Bo P .neq 33 false true v20 (.int .i64 0) (fun v21 s => CondP v21 (Bd P 32 #[] (fun v22 s => Sv P 32 v1 v22 (fun _ s => Ret P (fun w => LdR P 32 v1 w fun v23 => K (.tuple #[v23, v20]) w) s) s) s) (Fa P 32 v10 0 (fun v24 s => Sv P 30 v24 v19 (fun _ s => A11 v17 s) s) s)) s) s) s) s) s) s) s) s) (A11 a0 s)) s) (fun x12 s => J1 (fun A25 => Cl P 38 #[x12, .string ⟨#[58]⟩] (fun v27 s => CondP v27 (Sl P 9 x12 (some (.int .i64 1)) none none (fun v28 s => Cl P 39 #[v28] (fun v29 s => Ex P v29 0 (fun v30 s => Ex P v29 1 (fun v31 s => Fa P 32 v10 1 (fun v32 s => Sv P 9 v32 v30 (fun _ s => Fa P 32 v10 1 (fun v33 s => Ld P 9 v33 (fun v34 s => Bo P .eql 9 false true v34 (.string ⟨#[]⟩) (fun v35 s => CondP v35 (Bd P 32 #[] (fun v36 s => Sv P 32 v1 v36 (fun _ s => Ret P (fun w => LdR P 32 v1 w fun v37 => K (.tuple #[v37, .int .i64 9]) w) s) s) s) (A25 v31 s)) s) s) s) s) s) s) s) s) s) (A25 x12 s)) s) (fun x26 s => Bo P .eql 9 false true x26 (.string ⟨#[]⟩) (fun v38 s => CondP v38 (Bd P 32 #[] (fun v39 s => Sv P 32 v1 v39 (fun _ s => Ret P (fun w => LdR P 32 v1 w fun v40 => K (.tuple #[v40, .int .i64 11]) w) s) s) s) (Cl P 39 #[x26] (fun v41 s => Ex P v41 0 (fun v42 s => Ex P v41 1 (fun v43 s => Fa P 32 v10 2 (fun v44 s => Sv P 9 v44 v42 (fun _ s => Fa P 32 v10 2 (fun v45 s => Ld P 9 v45 (fun v46 s => Cl P 41 #[v46] (fun v47 s => Uo P .not v47 (fun v48 s => CondP v48 (Bd P 32 #[] (fun v49 s => Sv P 32 v1 v49 (fun _ s => Ret P (fun w => LdR P 32 v1 w fun v50 => K (.tuple #[v50, .int .i64 4]) w) s) s) s) (Fa P 32 v10 2 (fun v51 s => Ld P 9 v51 (fun v52 s => Cl P 42 #[v52] (fun v53 s => Fa P 32 v10 2 (fun v54 s => Sv P 9 v54 v53 (fun _ s => Cl P 43 #[v43] (fun v55 s => Fa P 32 v10 3 (fun v56 s => Sv P 22 v56 v55 (fun _ s => Ld P 32 v10 (fun v57 s => Sv P 32 v1 v57 (fun _ s => Ret P (fun w => LdR P 32 v1 w fun v58 => K (.tuple #[v58, .int .i64 0]) w) s) s) s) s) s) s) s) s) s) s) s)) s) s) s) s) s) s) s) s) s)) s))) s)) s) s)) s) s) s
noncomputable def b16 : Code := Tryd.f16.body.getD .skip
theorem e16 (a0 : Value) (K : Value → World → Prop) : wpc P bmask 72 none b16 (lmOf [.cell 2 32, .tmp 3]) (ktOf P 72 [.cell 2 32, .tmp 3] K) (frOf [a0]) = D16 a0 K := by kernel_rfl
theorem c16 {a0 w : _} {K : Value → World → Prop} {R : Ending → World → Prop} (h : D16 a0 K ⟨w, []⟩) (hK : ∀ v w', K v w' → R (.returned v) w') : Calls P 16 #[a0] w R :=
  calls_of bodies_ok Tryd.func16 72 [.cell 2 32, .tmp 3] (c := b16) (args := [a0]) (K := K) (by kernel_rfl) rfl (e16 a0 K) h hK

/-- rollcall/rollcallref07.Parse -/
def D17 (a0 : Value) (K : Value → World → Prop) (s : St) : Prop :=
  Al P 32 (fun v1 s => Bi P .len #[9] 3 #[false] #[a0] (fun v2 s => Bo P .gtr 3 false true v2 (.int .i64 510) (fun v3 s => CondP v3 (Bd P 32 #[] (fun v4 s => Sv P 32 v1 v4 (fun _ s => Ret P (fun w => LdR P 32 v1 w fun v5 => K (.tuple #[v5, .int .i64 3]) w) s) s) s) (Cl P 44 #[a0] (fun v6 s => Uo P .not v6 (fun v7 s => CondP v7 (Bd P 32 #[] (fun v8 s => Sv P 32 v1 v8 (fun _ s => Ret P (fun w => LdR P 32 v1 w fun v9 => K (.tuple #[v9, .int .i64 10]) w) s) s) s) (Bd P 32 #[] (fun v10 s => Al P 32 (fun v11 s => Sv P 32 v11 v10 (fun _ s => J1 (fun A12 => Bi P .len #[9] 3 #[false] #[a0] (fun v14 s => Bo P .gtr 3 false true v14 (.int .i64 0) (fun v15 s => J1 (fun A16 => Grd v15 true (Ix P 9 a0 (.int .i64 0) (fun v18 s => Bo P .eql 5 false true v18 (byteV 64) (fun v19 s => A16 v19 s) s) s) (A16 undef s)) (fun x17 s => Pk P v15 x17 (.bool false) (fun v20 s => CondP v20 (Cl P 45 #[a0, .int .i64 0] (fun v21 s => Sl P 9 a0 (some (.int .i64 1)) (some v21) none (fun v22 s => Cl P 46 #[v22] (fun v23 s => Ex P v23 0 (fun v24 s => Ex P v23 1 (fun v25 s => Bo P .neq 3 false true v25 (.int .i64 0) (fun v26 s => CondP v26 (Bd P 32 #[] (fun v27 s => Sv P 32 v1 v27 (fun _ s => Ret P (fun w => LdR P 32 v1 w fun v28 => K (.tuple #[v28, v25]) w) s) s) s) (Fa P 32 v11 0 (fun v29 s => Sv P 30 v29 v24 (fun _ s => Cl P 47 #[a0, v21] (fun v30 s => A12 v30 s) s) s) s)) s) s) s) s) s) s) (A12 (.int .i64 0) s)) s)) s) s) (fun x13 s => J1 (fun A31 => Bi P .len #[9] 3 #[false] #[a0] (fun v33 s => Bo P .lss 3 false false x13 v33 (fun v34 s => J1 (fun A35 => Grd v34 true (Ix P 9 a0 x13 (fun v37 s => Bo P .eql 5 false true v37 (byteV 58) (fun v38 s => A35 v38 s) s) s) (A35 undef s)) (fun x36 s => Pk P v34 x36 (.bool false) (fun v39 s => CondP v39 (Cl P 45 #[a0, x13] (fun v40 s => Bo P .add 3 false true x13 (.int .i64 1) (fun v41 s => Bo P .eql 3 false false v40 v41 (fun v42 s => CondP v42 (Bd P 32 #[] (fun v43 s => Sv P 32 v1 v43 (fun _ s => Ret P (fun w => LdR P 32 v1 w fun v44 => K (.tuple #[v44, .int .i64 9]) w) s) s) s) (Bo P .add 3 false true x13 (.int .i64 1) (fun v45 s => Sl P 9 a0 (some v45) (some v40) none (fun v46 s => Fa P 32 v11 1 (fun v47 s => Sv P 9 v47 v46 (fun _ s => Cl P 47 #[a0, v40] (fun v48 s => A31 v48 s) s) s) s) s) s)) s) s) s) (A31 x13 s)) s)) s) s) (fun x32 s => Bi P .len #[9] 3 #[false] #[a0] (fun v49 s => Bo P .eql 3 false false x32 v49 (fun v50 s => CondP v50 (Bd P 32 #[] (fun v51 s => Sv P 32 v1 v51 (fun _ s => Ret P (fun w => LdR P 32 v1 w fun v52 => K (.tuple #[v52, .int .i64 11]) w) s) s) s) (Cl P 45 #[a0, x32] (fun v53 s => Sl P 9 a0 (some x32) (some v53) none (fun v54 s => Cl P 48 #[v54] (fun v55 s => Uo P .not v55 (fun v56 s => CondP v56 (Bd P 32 #[] (fun v57 s => Sv P 32 v1 v57 (fun _ s => Ret P (fun w => LdR P 32 v1 w fun v58 => K (.tuple #[v58, .int .i64 4]) w) s) s) s) (Sl P 9 a0 (some x32) (some v53) none (fun v59 s => Cl P 49 #[v59] (fun v60 s => Fa P 32 v11 2 (fun v61 s => Sv P 9 v61 v60 (fun _ s => Cl P 47 #[a0, v53] (fun v62 s => J0 (fun A63 => L1 v62 s (fun N64 x65 s => Bi P .len #[9] 3 #[false] #[a0] (fun v66 s => Bo P .lss 3 false false x65 v66 (fun v67 s => CondP v67 (Ix P 9 a0 x65 (fun v68 s => Bo P .eql 5 false true v68 (byteV 58) (fun v69 s => CondP v69 (Dw (fun s => Qt (Fa P 32 v11 3) s fun v70 => Qt (Ld P 22 v70) s fun v71 => Qt (Bo P .add 3 false true x65 (.int .i64 1)) s fun v72 => Qt (Sl P 9 a0 (some v72) none none) s fun v73 => Bs P 22 1 #[(0, v73)] (fun v74 s => Ck (Fa P 32 v11 3) v70 s ∧ Ck (Ld P 22 v70) v71 s ∧ (Bi P .append #[22, 22] 22 #[false, false] #[v71, v74] (fun v75 s => Qt (Fa P 32 v11 3) s fun v76 => Sv P 22 v76 v75 (fun _ s => A63 s) s) s)) s) s) (Fa P 32 v11 3 (fun v77 s => Ld P 22 v77 (fun v78 s => Bi P .len #[22] 3 #[false] #[v78] (fun v79 s => Bo P .eql 3 false true v79 (.int .i64 14) (fun v80 s => CondP v80 (Dw (fun s => Qt (Fa P 32 v11 3) s fun v81 => Qt (Ld P 22 v81) s fun v82 => Qt (Sl P 9 a0 (some x65) none none) s fun v83 => Bs P 22 1 #[(0, v83)] (fun v84 s => Ck (Fa P 32 v11 3) v81 s ∧ Ck (Ld P 22 v81) v82 s ∧ (Bi P .append #[22, 22] 22 #[false, false] #[v82, v84] (fun v85 s => Qt (Fa P 32 v11 3) s fun v86 => Sv P 22 v86 v85 (fun _ s => A63 s) s) s)) s) s) (Cl P 45 #[a0, x65] (fun v87 s => Dw (fun s => Qt (Fa P 32 v11 3) s fun v88 => Qt (Ld P 22 v88) s fun v89 => Qt (Sl P 9 a0 (some x65) (some v87) none) s fun v90 => Bs P 22 1 #[(0, v90)] (fun v91 s => Ck (Fa P 32 v11 3) v88 s ∧ Ck (Ld P 22 v88) v89 s ∧ (Bi P .append #[22, 22] 22 #[false, false] #[v89, v91] (fun v92 s => Qt (Fa P 32 v11 3) s fun v93 => Sv P 22 v93 v92 (fun _ s => Cl P 47 #[a0, v87] (fun v94 s => N64 v94 s) s) s) s)) s) s) s)) s) s) s) s)) s) s) (A63 s)) s) s)) (fun s => Ld P 32 v11 (fun v95 s => Sv P 32 v1 v95 (fun _ s => Ret P (fun w => LdR P 32 v1 w fun v96 => K (.tuple #[v96, .int .i64 0]) w) s) s) s)) s) s) s) s) s)) s) s) s) s)) s) s))) s) s) s)) s) s)) s) s) s
noncomputable def b17 : Code := Tryd.f17.body.getD .skip
theorem e17 (a0 : Value) (K : Value → World → Prop) : wpc P bmask 142 none b17 (lmOf [.cell 2 32, .tmp 3]) (ktOf P 142 [.cell 2 32, .tmp 3] K) (frOf [a0]) = D17 a0 K := by kernel_rfl
theorem c17 {a0 w : _} {K : Value → World → Prop} {R : Ending → World → Prop} (h : D17 a0 K ⟨w, []⟩) (hK : ∀ v w', K v w' → R (.returned v) w') : Calls P 17 #[a0] w R :=
  calls_of bodies_ok Tryd.func17 142 [.cell 2 32, .tmp 3] (c := b17) (args := [a0]) (K := K) (by kernel_rfl) rfl (e17 a0 K) h hK

/-- rollcall/rollcallref07.Same -/
def D18 (a0 a1 : Value) (K : Value → World → Prop) (s : St) : Prop :=
  Bx P 32 a0 (fun v1 s => Bx P 32 a1 (fun v2 s => Fa P 32 v1 0 (fun v3 s => Ld P 30 v3 (fun v4 s => Fa P 32 v2 0 (fun v5 s => Ld P 30 v5 (fun v6 s => Cl P 26 #[v4, v6] (fun v7 s => J1 (fun A8 => Grd v7 true (Fa P 32 v1 1 (fun v10 s => Ld P 9 v10 (fun v11 s => Fa P 32 v2 1 (fun v12 s => Ld P 9 v12 (fun v13 s => Bo P .eql 9 false false v11 v13 (fun v14 s => A8 v14 s) s) s) s) s) s) (A8 undef s)) (fun x9 s => Pk P v7 x9 (.bool false) (fun v15 s => J1 (fun A16 => Grd v15 true (Fa P 32 v1 2 (fun v18 s => Ld P 9 v18 (fun v19 s => Fa P 32 v2 2 (fun v20 s => Ld P 9 v20 (fun v21 s => Bo P .eql 9 false false v19 v21 (fun v22 s => A16 v22 s) s) s) s) s) s) (A16 undef s)) (fun x17 s => Pk P v15 x17 (.bool false) (fun v23 s => J1 (fun A24 => Grd v23 true (Fa P 32 v1 3 (fun v26 s => Ld P 22 v26 (fun v27 s => Fa P 32 v2 3 (fun v28 s => Ld P 22 v28 (fun v29 s => Cl P 50 #[v27, v29] (fun v30 s => A24 v30 s) s) s) s) s) s) (A24 undef s)) (fun x25 s => Pk P v23 x25 (.bool false) (fun v31 s => Ret P (fun w => K v31 w) s) s)) s)) s)) s) s) s) s) s) s) s
noncomputable def b18 : Code := Tryd.f18.body.getD .skip
theorem e18 (a0 a1 : Value) (K : Value → World → Prop) : wpc P bmask 31 none b18 (lmOf [.tmp 4]) (ktOf P 31 [.tmp 4] K) (frOf [a0, a1]) = D18 a0 a1 K := by kernel_rfl
theorem c18 {a0 a1 w : _} {K : Value → World → Prop} {R : Ending → World → Prop} (h : D18 a0 a1 K ⟨w, []⟩) (hK : ∀ v w', K v w' → R (.returned v) w') : Calls P 18 #[a0, a1] w R :=
  calls_of bodies_ok Tryd.func18 31 [.tmp 4] (c := b18) (args := [a0, a1]) (K := K) (by kernel_rfl) rfl (e18 a0 a1 K) h hK

/-- rollcall/message.Param -/
def D19 (a0 a1 : Value) (K : Value → World → Prop) (s : St) : Prop :=
  Bx P 32 a0 (fun v1 s => Bo P .lss 3 false true a1 (.int .i64 0) (fun v2 s => J1 (fun A3 => Grd v2 false (Fa P 32 v1 3 (fun v5 s => Ld P 22 v5 (fun v6 s => Bi P .len #[22] 3 #[false] #[v6] (fun v7 s => Bo P .geq 3 false false a1 v7 (fun v8 s => A3 v8 s) s) s) s) s) (A3 undef s)) (fun x4 s => Pk P v2 (.bool true) x4 (fun v9 s => CondP v9 (Ret P (fun w => K (.string ⟨#[]⟩) w) s) (Fa P 32 v1 3 (fun v10 s => Ld P 22 v10 (fun v11 s => Ia P 22 v11 a1 (fun v12 s => Ld P 9 v12 (fun v13 s => Ret P (fun w => K v13 w) s) s) s) s) s)) s)) s) s
noncomputable def b19 : Code := Tryd.f19.body.getD .skip
theorem e19 (a0 a1 : Value) (K : Value → World → Prop) : wpc P bmask 19 none b19 (lmOf [.tmp 4]) (ktOf P 19 [.tmp 4] K) (frOf [a0, a1]) = D19 a0 a1 K := by kernel_rfl
theorem c19 {a0 a1 w : _} {K : Value → World → Prop} {R : Ending → World → Prop} (h : D19 a0 a1 K ⟨w, []⟩) (hK : ∀ v w', K v w' → R (.returned v) w') : Calls P 19 #[a0, a1] w R :=
  calls_of bodies_ok Tryd.func19 19 [.tmp 4] (c := b19) (args := [a0, a1]) (K := K) (by kernel_rfl) rfl (e19 a0 a1 K) h hK

/-- rollcall/rollcalllaw07.Great -/
def D20 (a0 : Value) (K : Value → World → Prop) (s : St) : Prop :=
  Bx P 32 a0 (fun v1 s => Fa P 32 v1 0 (fun v2 s => Ld P 30 v2 (fun v3 s => Bi P .len #[30] 3 #[false] #[v3] (fun v4 s => Bo P .gtr 3 false true v4 (.int .i64 20) (fun v5 s => J1 (fun A6 => Grd v5 false (Fa P 32 v1 3 (fun v8 s => Ld P 22 v8 (fun v9 s => Bi P .len #[22] 3 #[false] #[v9] (fun v10 s => Bo P .gtr 3 false true v10 (.int .i64 20) (fun v11 s => A6 v11 s) s) s) s) s) (A6 undef s)) (fun x7 s => Pk P v5 (.bool true) x7 (fun v12 s => J1 (fun A13 => Grd v12 false (Fa P 32 v1 1 (fun v15 s => Ld P 9 v15 (fun v16 s => Bi P .len #[9] 3 #[false] #[v16] (fun v17 s => Bo P .gtr 3 false true v17 (.int .i64 200) (fun v18 s => A13 v18 s) s) s) s) s) (A13 undef s)) (fun x14 s => Pk P v12 (.bool true) x14 (fun v19 s => J1 (fun A20 => Grd v19 false (Fa P 32 v1 2 (fun v22 s => Ld P 9 v22 (fun v23 s => Bi P .len #[9] 3 #[false] #[v23] (fun v24 s => Bo P .gtr 3 false true v24 (.int .i64 40) (fun v25 s => A20 v25 s) s) s) s) s) (A20 undef s)) (fun x21 s => Pk P v19 (.bool true) x21 (fun v26 s => CondP v26 (Ret P (fun w => K (.bool true) w) s) (L1 (.int .i64 0) s (fun N27 x28 s => Fa P 32 v1 0 (fun v29 s => Ld P 30 v29 (fun v30 s => Bi P .len #[30] 3 #[false] #[v30] (fun v31 s => Bo P .lss 3 false false x28 v31 (fun v32 s => CondP v32 (Fa P 32 v1 0 (fun v33 s => Ld P 30 v33 (fun v34 s => Ia P 30 v34 x28 (fun v35 s => Fa P 71 v35 0 (fun v36 s => Ld P 9 v36 (fun v37 s => Bi P .len #[9] 3 #[false] #[v37] (fun v38 s => Bo P .gtr 3 false true v38 (.int .i64 60) (fun v39 s => J1 (fun A40 => Grd v39 false (Fa P 32 v1 0 (fun v42 s => Ld P 30 v42 (fun v43 s => Ia P 30 v43 x28 (fun v44 s => Fa P 71 v44 1 (fun v45 s => Ld P 9 v45 (fun v46 s => Bi P .len #[9] 3 #[false] #[v46] (fun v47 s => Bo P .gtr 3 false true v47 (.int .i64 60) (fun v48 s => A40 v48 s) s) s) s) s) s) s) s) (A40 undef s)) (fun x41 s => Pk P v39 (.bool true) x41 (fun v49 s => CondP v49 (Ret P (fun w => K (.bool true) w) s) (Bo P .add 3 false true x28 (.int .i64 1) (fun v50 s => N27 v50 s) s)) s)) s) s) s) s) s) s) s) (L1 (.int .i64 0) s (fun N51 x52 s => Fa P 32 v1 3 (fun v53 s => Ld P 22 v53 (fun v54 s => Bi P .len #[22] 3 #[false] #[v54] (fun v55 s => Bo P .lss 3 false false x52 v55 (fun v56 s => CondP v56 (Fa P 32 v1 3 (fun v57 s => Ld P 22 v57 (fun v58 s => Ia P 22 v58 x52 (fun v59 s => Ld P 9 v59 (fun v60 s => Bi P .len #[9] 3 #[false] #[v60] (fun v61 s => Bo P .gtr 3 false true v61 (.int .i64 200) (fun v62 s => CondP v62 (Ret P (fun w => K (.bool true) w) s) (Bo P .add 3 false true x52 (.int .i64 1) (fun v63 s => N51 v63 s) s)) s) s) s) s) s) s) (Ret P (fun w => K (.bool false) w) s)) s) s) s) s))) s) s) s) s))) s)) s)) s)) s) s) s) s) s
noncomputable def b20 : Code := Tryd.f20.body.getD .skip
theorem e20 (a0 : Value) (K : Value → World → Prop) : wpc P bmask 66 none b20 (lmOf [.tmp 2]) (ktOf P 66 [.tmp 2] K) (frOf [a0]) = D20 a0 K := by kernel_rfl
theorem c20 {a0 w : _} {K : Value → World → Prop} {R : Ending → World → Prop} (h : D20 a0 K ⟨w, []⟩) (hK : ∀ v w', K v w' → R (.returned v) w') : Calls P 20 #[a0] w R :=
  calls_of bodies_ok Tryd.func20 66 [.tmp 2] (c := b20) (args := [a0]) (K := K) (by kernel_rfl) rfl (e20 a0 K) h hK

/-- rollcall/rollcallref07.Check -/
def D21 (a0 : Value) (K : Value → World → Prop) (s : St) : Prop :=
  Bx P 32 a0 (fun v1 s => J0 (fun A2 => Fa P 32 v1 0 (fun v3 s => Ld P 30 v3 (fun v4 s => Bi P .len #[30] 3 #[false] #[v4] (fun v5 s => Bo P .gtr 3 false true v5 (.int .i64 0) (fun v6 s => CondP v6 (Fa P 32 v1 0 (fun v7 s => Ld P 30 v7 (fun v8 s => Cl P 51 #[v8] (fun v9 s => Bo P .neq 3 false true v9 (.int .i64 0) (fun v10 s => CondP v10 (Ret P (fun w => K v9 w) s) (A2 s)) s) s) s) s) (A2 s)) s) s) s) s) (fun s => Fa P 32 v1 1 (fun v11 s => Ld P 9 v11 (fun v12 s => Cl P 44 #[v12] (fun v13 s => Uo P .not v13 (fun v14 s => J1 (fun A15 => Grd v14 false (Fa P 32 v1 1 (fun v17 s => Ld P 9 v17 (fun v18 s => Cl P 52 #[v18, byteV 32] (fun v19 s => A15 v19 s) s) s) s) (A15 undef s)) (fun x16 s => Pk P v14 (.bool true) x16 (fun v20 s => CondP v20 (Ret P (fun w => K (.int .i64 10) w) s) (L1 (.int .i64 0) s (fun N21 x22 s => Fa P 32 v1 3 (fun v23 s => Ld P 22 v23 (fun v24 s => Bi P .len #[22] 3 #[false] #[v24] (fun v25 s => Bo P .lss 3 false false x22 v25 (fun v26 s => CondP v26 (Fa P 32 v1 3 (fun v27 s => Ld P 22 v27 (fun v28 s => Ia P 22 v28 x22 (fun v29 s => Ld P 9 v29 (fun v30 s => Cl P 44 #[v30] (fun v31 s => Uo P .not v31 (fun v32 s => CondP v32 (Ret P (fun w => K (.int .i64 10) w) s) (Bo P .add 3 false true x22 (.int .i64 1) (fun v33 s => N21 v33 s) s)) s) s) s) s) s) s) (J1 (fun A34 => Dw (fun s => Qt (Fa P 32 v1 2) s fun v36 => Qt (Ld P 9 v36) s fun v37 => Cl P 48 #[v37] (fun v38 s => Qt (Uo P .not v38) s fun v39 => Grd v39 false (Qt (Fa P 32 v1 2) s fun v40 => Qt (Ld P 9 v40) s fun v41 => Qt (Fa P 32 v1 2) s fun v42 => Qt (Ld P 9 v42) s fun v43 => Cl P 49 #[v41] (fun v44 s => Ck (Fa P 32 v1 2) v42 s ∧ Ck (Ld P 9 v42) v43 s ∧ (Qt (Bo P .neq 9 false false v44 v43) s fun v45 => Qt (Pk P v39 (.bool true) v45) s fun v46 => A34 v46 s)) s) (Qt (Pk P v39 (.bool true) undef) s fun v47 => A34 v47 s)) s) s) (fun x35 s => CondP x35 (Ret P (fun w => K (.int .i64 4) w) s) (Fa P 32 v1 3 (fun v48 s => Ld P 22 v48 (fun v49 s => Bi P .len #[22] 3 #[false] #[v49] (fun v50 s => Bo P .gtr 3 false true v50 (.int .i64 15) (fun v51 s => CondP v51 (Ret P (fun w => K (.int .i64 7) w) s) (L1 (.int .i64 0) s (fun N52 x53 s => Fa P 32 v1 3 (fun v54 s => Ld P 22 v54 (fun v55 s => Bi P .len #[22] 3 #[false] #[v55] (fun v56 s => Bo P .sub 3 false true v56 (.int .i64 1) (fun v57 s => Bo P .lss 3 false false x53 v57 (fun v58 s => CondP v58 (Fa P 32 v1 3 (fun v59 s => Ld P 22 v59 (fun v60 s => Ia P 22 v60 x53 (fun v61 s => Ld P 9 v61 (fun v62 s => Bo P .eql 9 false true v62 (.string ⟨#[]⟩) (fun v63 s => CondP v63 (Ret P (fun w => K (.int .i64 9) w) s) (Bo P .add 3 false true x53 (.int .i64 1) (fun v64 s => N52 v64 s) s)) s) s) s) s) s) (L1 (.int .i64 0) s (fun N65 x66 s => Fa P 32 v1 3 (fun v67 s => Ld P 22 v67 (fun v68 s => Bi P .len #[22] 3 #[false] #[v68] (fun v69 s => Bo P .sub 3 false true v69 (.int .i64 1) (fun v70 s => Bo P .lss 3 false false x66 v70 (fun v71 s => CondP v71 (Fa P 32 v1 3 (fun v72 s => Ld P 22 v72 (fun v73 s => Ia P 22 v73 x66 (fun v74 s => Ld P 9 v74 (fun v75 s => Ix P 9 v75 (.int .i64 0) (fun v76 s => Bo P .eql 5 false true v76 (byteV 58) (fun v77 s => J1 (fun A78 => Grd v77 false (Fa P 32 v1 3 (fun v80 s => Ld P 22 v80 (fun v81 s => Ia P 22 v81 x66 (fun v82 s => Ld P 9 v82 (fun v83 s => Cl P 52 #[v83, byteV 32] (fun v84 s => A78 v84 s) s) s) s) s) s) (A78 undef s)) (fun x79 s => Pk P v77 (.bool true) x79 (fun v85 s => CondP v85 (Ret P (fun w => K (.int .i64 8) w) s) (Bo P .add 3 false true x66 (.int .i64 1) (fun v86 s => N65 v86 s) s)) s)) s) s) s) s) s) s) (Ld P 32 v1 (fun v87 s => Cl P 53 #[v87] (fun v88 s => Bi P .len #[9] 3 #[false] #[v88] (fun v89 s => Bo P .gtr 3 false true v89 (.int .i64 510) (fun v90 s => CondP v90 (Ret P (fun w => K (.int .i64 3) w) s) (Ret P (fun w => K (.int .i64 0) w) s)) s) s) s) s)) s) s) s) s) s))) s) s) s) s) s))) s) s) s) s)))) s) s) s) s))) s)) s) s) s) s)) s
noncomputable def b21 : Code := Tryd.f21.body.getD .skip
theorem e21 (a0 : Value) (K : Value → World → Prop) : wpc P bmask 97 none b21 (lmOf [.tmp 2]) (ktOf P 97 [.tmp 2] K) (frOf [a0]) = D21 a0 K := by kernel_rfl
theorem c21 {a0 w : _} {K : Value → World → Prop} {R : Ending → World → Prop} (h : D21 a0 K ⟨w, []⟩) (hK : ∀ v w', K v w' → R (.returned v) w') : Calls P 21 #[a0] w R :=
  calls_of bodies_ok Tryd.func21 97 [.tmp 2] (c := b21) (args := [a0]) (K := K) (by kernel_rfl) rfl (e21 a0 K) h hK

/-- rollcall/rollcallref07.Text -/
def D22 (a0 : Value) (K : Value → World → Prop) (s : St) : Prop :=
  Bx P 32 a0 (fun v1 s => Ld P 32 v1 (fun v2 s => Cl P 21 #[v2] (fun v3 s => Bo P .neq 3 false true v3 (.int .i64 0) (fun v4 s => CondP v4 (Ret P (fun w => K (.string ⟨#[]⟩) w) s) (Ld P 32 v1 (fun v5 s => Cl P 53 #[v5] (fun v6 s => Ret P (fun w => K v6 w) s) s) s)) s) s) s) s
noncomputable def b22 : Code := Tryd.f22.body.getD .skip
theorem e22 (a0 : Value) (K : Value → World → Prop) : wpc P bmask 8 none b22 (lmOf [.tmp 2]) (ktOf P 8 [.tmp 2] K) (frOf [a0]) = D22 a0 K := by kernel_rfl
theorem c22 {a0 w : _} {K : Value → World → Prop} {R : Ending → World → Prop} (h : D22 a0 K ⟨w, []⟩) (hK : ∀ v w', K v w' → R (.returned v) w') : Calls P 22 #[a0] w R :=
  calls_of bodies_ok Tryd.func22 8 [.tmp 2] (c := b22) (args := [a0]) (K := K) (by kernel_rfl) rfl (e22 a0 K) h hK

/-- rollcall/message.Same -/
def D23 (a0 a1 : Value) (K : Value → World → Prop) (s : St) : Prop :=
  Bx P 32 a0 (fun v1 s => Bx P 32 a1 (fun v2 s => Fa P 32 v1 0 (fun v3 s => Ld P 30 v3 (fun v4 s => Fa P 32 v2 0 (fun v5 s => Ld P 30 v5 (fun v6 s => Cl P 54 #[v4, v6] (fun v7 s => J1 (fun A8 => Grd v7 true (Fa P 32 v1 1 (fun v10 s => Ld P 9 v10 (fun v11 s => Fa P 32 v2 1 (fun v12 s => Ld P 9 v12 (fun v13 s => Bo P .eql 9 false false v11 v13 (fun v14 s => A8 v14 s) s) s) s) s) s) (A8 undef s)) (fun x9 s => Pk P v7 x9 (.bool false) (fun v15 s => J1 (fun A16 => Grd v15 true (Fa P 32 v1 2 (fun v18 s => Ld P 9 v18 (fun v19 s => Fa P 32 v2 2 (fun v20 s => Ld P 9 v20 (fun v21 s => Bo P .eql 9 false false v19 v21 (fun v22 s => A16 v22 s) s) s) s) s) s) (A16 undef s)) (fun x17 s => Pk P v15 x17 (.bool false) (fun v23 s => J1 (fun A24 => Grd v23 true (Fa P 32 v1 3 (fun v26 s => Ld P 22 v26 (fun v27 s => Fa P 32 v2 3 (fun v28 s => Ld P 22 v28 (fun v29 s => Cl P 55 #[v27, v29] (fun v30 s => A24 v30 s) s) s) s) s) s) (A24 undef s)) (fun x25 s => Pk P v23 x25 (.bool false) (fun v31 s => Ret P (fun w => K v31 w) s) s)) s)) s)) s) s) s) s) s) s) s
noncomputable def b23 : Code := Tryd.f23.body.getD .skip
theorem e23 (a0 a1 : Value) (K : Value → World → Prop) : wpc P bmask 31 none b23 (lmOf [.tmp 4]) (ktOf P 31 [.tmp 4] K) (frOf [a0, a1]) = D23 a0 a1 K := by kernel_rfl
theorem c23 {a0 a1 w : _} {K : Value → World → Prop} {R : Ending → World → Prop} (h : D23 a0 a1 K ⟨w, []⟩) (hK : ∀ v w', K v w' → R (.returned v) w') : Calls P 23 #[a0, a1] w R :=
  calls_of bodies_ok Tryd.func23 31 [.tmp 4] (c := b23) (args := [a0, a1]) (K := K) (by kernel_rfl) rfl (e23 a0 a1 K) h hK

/-- rollcall/message.Check -/
def D24 (a0 : Value) (K : Value → World → Prop) (s : St) : Prop :=
  Bx P 32 a0 (fun v1 s => J0 (fun A2 => Fa P 32 v1 0 (fun v3 s => Ld P 30 v3 (fun v4 s => Bi P .len #[30] 3 #[false] #[v4] (fun v5 s => Bo P .gtr 3 false true v5 (.int .i64 0) (fun v6 s => CondP v6 (Fa P 32 v1 0 (fun v7 s => Ld P 30 v7 (fun v8 s => Cl P 56 #[v8] (fun v9 s => Bo P .neq 33 false true v9 (.int .i64 0) (fun v10 s => CondP v10 (Ret P (fun w => K v9 w) s) (A2 s)) s) s) s) s) (A2 s)) s) s) s) s) (fun s => Fa P 32 v1 1 (fun v11 s => Ld P 9 v11 (fun v12 s => Cl P 37 #[v12] (fun v13 s => Uo P .not v13 (fun v14 s => J1 (fun A15 => Grd v14 false (Fa P 32 v1 1 (fun v17 s => Ld P 9 v17 (fun v18 s => Cl P 57 #[v18, .string ⟨#[32]⟩] (fun v19 s => A15 v19 s) s) s) s) (A15 undef s)) (fun x16 s => Pk P v14 (.bool true) x16 (fun v20 s => J1 (fun A21 => Grd v20 false (Fa P 32 v1 3 (fun v23 s => Ld P 22 v23 (fun v24 s => Cl P 58 #[v24, .func (.func 59) #[] #[]] (fun v25 s => A21 v25 s) s) s) s) (A21 undef s)) (fun x22 s => Pk P v20 (.bool true) x22 (fun v26 s => CondP v26 (Ret P (fun w => K (.int .i64 10) w) s) (J1 (fun A27 => Dw (fun s => Qt (Fa P 32 v1 2) s fun v29 => Qt (Ld P 9 v29) s fun v30 => Cl P 41 #[v30] (fun v31 s => Qt (Uo P .not v31) s fun v32 => Grd v32 false (Qt (Fa P 32 v1 2) s fun v33 => Qt (Ld P 9 v33) s fun v34 => Qt (Fa P 32 v1 2) s fun v35 => Qt (Ld P 9 v35) s fun v36 => Cl P 42 #[v34] (fun v37 s => Ck (Fa P 32 v1 2) v35 s ∧ Ck (Ld P 9 v35) v36 s ∧ (Qt (Bo P .neq 9 false false v37 v36) s fun v38 => Qt (Pk P v32 (.bool true) v38) s fun v39 => A27 v39 s)) s) (Qt (Pk P v32 (.bool true) undef) s fun v40 => A27 v40 s)) s) s) (fun x28 s => CondP x28 (Ret P (fun w => K (.int .i64 4) w) s) (Fa P 32 v1 3 (fun v41 s => Ld P 22 v41 (fun v42 s => Bi P .len #[22] 3 #[false] #[v42] (fun v43 s => Bo P .gtr 3 false true v43 (.int .i64 15) (fun v44 s => CondP v44 (Ret P (fun w => K (.int .i64 7) w) s) (Fa P 32 v1 3 (fun v45 s => Ld P 22 v45 (fun v46 s => Fa P 32 v1 3 (fun v47 s => Ld P 22 v47 (fun v48 s => Bi P .len #[22] 3 #[false] #[v48] (fun v49 s => Bo P .sub 3 false true v49 (.int .i64 1) (fun v50 s => Bi P .max #[3, 3] 3 #[false, true] #[v50, .int .i64 0] (fun v51 s => Sl P 22 v46 none (some v51) none (fun v52 s => Cl P 60 #[v52, .string ⟨#[]⟩] (fun v53 s => CondP v53 (Ret P (fun w => K (.int .i64 9) w) s) (Cl P 58 #[v52, .func (.func 61) #[] #[]] (fun v54 s => CondP v54 (Ret P (fun w => K (.int .i64 8) w) s) (Ld P 32 v1 (fun v55 s => Cl P 62 #[v55] (fun v56 s => Bi P .len #[9] 3 #[false] #[v56] (fun v57 s => Bo P .gtr 3 false true v57 (.int .i64 510) (fun v58 s => CondP v58 (Ret P (fun w => K (.int .i64 3) w) s) (Ret P (fun w => K (.int .i64 0) w) s)) s) s) s) s)) s)) s) s) s) s) s) s) s) s) s)) s) s) s) s)))) s)) s)) s) s) s) s)) s
noncomputable def b24 : Code := Tryd.f24.body.getD .skip
theorem e24 (a0 : Value) (K : Value → World → Prop) : wpc P bmask 66 none b24 (lmOf [.tmp 2]) (ktOf P 66 [.tmp 2] K) (frOf [a0]) = D24 a0 K := by kernel_rfl
theorem c24 {a0 w : _} {K : Value → World → Prop} {R : Ending → World → Prop} (h : D24 a0 K ⟨w, []⟩) (hK : ∀ v w', K v w' → R (.returned v) w') : Calls P 24 #[a0] w R :=
  calls_of bodies_ok Tryd.func24 66 [.tmp 2] (c := b24) (args := [a0]) (K := K) (by kernel_rfl) rfl (e24 a0 K) h hK

/-- rollcall/message.Text -/
def D25 (a0 : Value) (K : Value → World → Prop) (s : St) : Prop :=
  Bx P 32 a0 (fun v1 s => Ld P 32 v1 (fun v2 s => Cl P 24 #[v2] (fun v3 s => Bo P .neq 33 false true v3 (.int .i64 0) (fun v4 s => CondP v4 (Ret P (fun w => K (.string ⟨#[]⟩) w) s) (Ld P 32 v1 (fun v5 s => Cl P 62 #[v5] (fun v6 s => Ret P (fun w => K v6 w) s) s) s)) s) s) s) s
noncomputable def b25 : Code := Tryd.f25.body.getD .skip
theorem e25 (a0 : Value) (K : Value → World → Prop) : wpc P bmask 8 none b25 (lmOf [.tmp 2]) (ktOf P 8 [.tmp 2] K) (frOf [a0]) = D25 a0 K := by kernel_rfl
theorem c25 {a0 w : _} {K : Value → World → Prop} {R : Ending → World → Prop} (h : D25 a0 K ⟨w, []⟩) (hK : ∀ v w', K v w' → R (.returned v) w') : Calls P 25 #[a0] w R :=
  calls_of bodies_ok Tryd.func25 8 [.tmp 2] (c := b25) (args := [a0]) (K := K) (by kernel_rfl) rfl (e25 a0 K) h hK

/-- rollcall/rollcallref06.Same -/
def D26 (a0 a1 : Value) (K : Value → World → Prop) (s : St) : Prop :=
  Bi P .len #[30] 3 #[false] #[a0] (fun v1 s => Bi P .len #[30] 3 #[false] #[a1] (fun v2 s => Bo P .neq 3 false false v1 v2 (fun v3 s => CondP v3 (Ret P (fun w => K (.bool false) w) s) (L1 (.int .i64 0) s (fun N4 x5 s => Bi P .len #[30] 3 #[false] #[a0] (fun v6 s => Bo P .lss 3 false false x5 v6 (fun v7 s => CondP v7 (Dw (fun s => Qt (Ia P 30 a0 x5) s fun v8 => Qt (Ld P 71 v8) s fun v9 => Qt (Ia P 30 a1 x5) s fun v10 => Qt (Ld P 71 v10) s fun v11 => Qt (Bo P .neq 71 false false v9 v11) s fun v12 => CondP v12 (Ret P (fun w => K (.bool false) w) s) (Bo P .add 3 false true x5 (.int .i64 1) (fun v13 s => N4 v13 s) s)) s) (Ret P (fun w => K (.bool true) w) s)) s) s))) s) s) s
noncomputable def b26 : Code := Tryd.f26.body.getD .skip
theorem e26 (a0 a1 : Value) (K : Value → World → Prop) : wpc P bmask 26 none b26 (lmOf [.tmp 4]) (ktOf P 26 [.tmp 4] K) (frOf [a0, a1]) = D26 a0 a1 K := by kernel_rfl
theorem c26 {a0 a1 w : _} {K : Value → World → Prop} {R : Ending → World → Prop} (h : D26 a0 a1 K ⟨w, []⟩) (hK : ∀ v w', K v w' → R (.returned v) w') : Calls P 26 #[a0, a1] w R :=
  calls_of bodies_ok Tryd.func26 26 [.tmp 4] (c := b26) (args := [a0, a1]) (K := K) (by kernel_rfl) rfl (e26 a0 a1 K) h hK

/-- rollcall/reply.Pack -/
def D27 (a0 a1 a2 a3 a4 : Value) (K : Value → World → Prop) (s : St) : Prop :=
  Bx P 9 a0 (fun v1 s => Bx P 3 a1 (fun v2 s => Bx P 9 a2 (fun v3 s => Bx P 22 a3 (fun v4 s => Ld P 3 v2 (fun v5 s => Bo P .lss 3 false true v5 (.int .i64 1) (fun v6 s => J1 (fun A7 => Grd v6 false (Ld P 3 v2 (fun v9 s => Bo P .gtr 3 false true v9 (.int .i64 999) (fun v10 s => A7 v10 s) s) s) (A7 undef s)) (fun x8 s => Pk P v6 (.bool true) x8 (fun v11 s => J1 (fun A12 => Grd v11 false (Ld P 22 v4 (fun v14 s => Bi P .len #[22] 3 #[false] #[v14] (fun v15 s => Bo P .gtr 3 false true v15 (.int .i64 13) (fun v16 s => A12 v16 s) s) s) s) (A12 undef s)) (fun x13 s => Pk P v11 (.bool true) x13 (fun v17 s => CondP v17 (Ret P (fun w => K (.slice none 0 0) w) s) (Mf P (.func 63) #[] #[v1, v2, v3, v4] (fun v18 s => Al P 64 (fun v19 s => Sv P 64 v19 v18 (fun _ s => Ld P 64 v19 (fun v20 s => Dy P v20 #[.string ⟨#[58]⟩] (fun v21 s => Bi P .len #[9] 3 #[false] #[v21] (fun v22 s => Bo P .sub 3 false true v22 (.int .i64 2) (fun v23 s => Al P 3 (fun v24 s => Sv P 3 v24 v23 (fun _ s => Al P 22 (fun v25 s => Al P 9 (fun v26 s => Sv P 9 v26 (.string ⟨#[]⟩) (fun _ s => Mf P (.func 64) #[] #[v26, v24, v25, v19] (fun v27 s => Al P 78 (fun v28 s => Sv P 78 v28 v27 (fun _ s => J0 (fun A29 => Bo P .neq 77 false true a4 (.nilFunc) (fun v30 s => CondP v30 (Rf P none 1 a4 (fun l31 as32 R33 s => Bg P l31 (fun s => Cl P 65 #[as32.headD undef] (fun v35 s => Bo P .neq 9 false true v35 (.string ⟨#[]⟩) (fun v36 s => CondP v36 (Ld P 78 v28 (fun v37 s => Dy P v37 #[v35] (fun _ s => Er P l31 none R33 s) s) s) (Er P l31 none R33 s)) s) s) s) (fun s => A29 s) (fun s => Ret P (fun w => K (.slice none 0 0) w) s) (fun i34 s => False) s) (A29 s)) s) (fun s => J0 (fun A39 => Ld P 9 v26 (fun v40 s => Bo P .neq 9 false true v40 (.string ⟨#[]⟩) (fun v41 s => J1 (fun A42 => Grd v41 false (Ld P 22 v25 (fun v44 s => Bi P .len #[22] 3 #[false] #[v44] (fun v45 s => Bo P .eql 3 false true v45 (.int .i64 0) (fun v46 s => A42 v46 s) s) s) s) (A42 undef s)) (fun x43 s => Pk P v41 (.bool true) x43 (fun v47 s => CondP v47 (Dw (fun s => Qt (Ld P 22 v25) s fun v48 => Qt (Ld P 64 v19) s fun v49 => Qt (Ld P 9 v26) s fun v50 => Dy P v49 #[v50] (fun v51 s => Ck (Ld P 22 v25) v48 s ∧ (Bs P 22 1 #[(0, v51)] (fun v52 s => Ck (Ld P 22 v25) v48 s ∧ (Bi P .append #[22, 22] 22 #[false, false] #[v48, v52] (fun v53 s => Sv P 22 v25 v53 (fun _ s => A39 s) s) s)) s)) s) s) (A39 s)) s)) s) s) (fun s => Ld P 22 v25 (fun v54 s => Ret P (fun w => K v54 w) s) s))) s) s) s) s) s) s) s) s) s) s) s) s) s) s) s)) s)) s)) s) s) s) s) s) s
noncomputable def b27 : Code := Tryd.f27.body.getD .skip
theorem e27 (a0 a1 a2 a3 a4 : Value) (K : Value → World → Prop) : wpc P bmask 60 none b27 (lmOf [.tmp 10]) (ktOf P 60 [.tmp 10] K) (frOf [a0, a1, a2, a3, a4]) = D27 a0 a1 a2 a3 a4 K := by kernel_rfl
theorem c27 {a0 a1 a2 a3 a4 w : _} {K : Value → World → Prop} {R : Ending → World → Prop} (h : D27 a0 a1 a2 a3 a4 K ⟨w, []⟩) (hK : ∀ v w', K v w' → R (.returned v) w') : Calls P 27 #[a0, a1, a2, a3, a4] w R :=
  calls_of bodies_ok Tryd.func27 60 [.tmp 10] (c := b27) (args := [a0, a1, a2, a3, a4]) (K := K) (by kernel_rfl) rfl (e27 a0 a1 a2 a3 a4 K) h hK

/-- rollcall/rollcalllaw14.listed -/
def D28 (a0 : Value) (K : Value → World → Prop) (s : St) : Prop :=
  Bx P 22 a0 (fun v1 s => Mf P (.func 66) #[] #[v1] (fun v2 s => Ret P (fun w => K v2 w) s) s) s
noncomputable def b28 : Code := Tryd.f28.body.getD .skip
theorem e28 (a0 : Value) (K : Value → World → Prop) : wpc P bmask 4 none b28 (lmOf [.tmp 2]) (ktOf P 4 [.tmp 2] K) (frOf [a0]) = D28 a0 K := by kernel_rfl
theorem c28 {a0 w : _} {K : Value → World → Prop} {R : Ending → World → Prop} (h : D28 a0 K ⟨w, []⟩) (hK : ∀ v w', K v w' → R (.returned v) w') : Calls P 28 #[a0] w R :=
  calls_of bodies_ok Tryd.func28 4 [.tmp 2] (c := b28) (args := [a0]) (K := K) (by kernel_rfl) rfl (e28 a0 K) h hK

/-- rollcall/rollcalllaw17.awake -/
def D29 (K : Value → World → Prop) (s : St) : Prop :=
  Bd P 52 #[] (fun v1 s => Bs P 22 2 #[(0, .string ⟨#[82, 69, 81]⟩), (1, .string ⟨#[97, 119, 97, 121, 45, 110, 111, 116, 105, 102, 121]⟩)] (fun v2 s => Cl P 33 #[.string ⟨#[105, 114, 99, 46, 120]⟩, v1, v2] (fun v3 s => Ex P v3 0 (fun v4 s => Ex P v3 1 (fun v5 s => Al P 52 (fun v6 s => Sv P 52 v6 v4 (fun _ s => Fa P 52 v6 0 (fun v7 s => Ld P 3 v7 (fun v8 s => Bo P .eql 3 false true v8 (.int .i64 1) (fun v9 s => J1 (fun A10 => Grd v9 true (Fa P 52 v6 1 (fun v12 s => Ld P 4 v12 (fun v13 s => A10 v13 s) s) s) (A10 undef s)) (fun x11 s => Pk P v9 x11 (.bool false) (fun v14 s => J1 (fun A15 => Grd v14 true (Bi P .len #[22] 3 #[false] #[v5] (fun v17 s => Bo P .eql 3 false true v17 (.int .i64 1) (fun v18 s => A15 v18 s) s) s) (A15 undef s)) (fun x16 s => Pk P v14 x16 (.bool false) (fun v19 s => J1 (fun A20 => Grd v19 true (Ia P 22 v5 (.int .i64 0) (fun v22 s => Ld P 9 v22 (fun v23 s => Bo P .eql 9 false true v23 (.string ⟨#[58, 105, 114, 99, 46, 120, 32, 67, 65, 80, 32, 42, 32, 65, 67, 75, 32, 97, 119, 97, 121, 45, 110, 111, 116, 105, 102, 121]⟩) (fun v24 s => A20 v24 s) s) s) s) (A20 undef s)) (fun x21 s => Pk P v19 x21 (.bool false) (fun v25 s => Ret P (fun w => K v25 w) s) s)) s)) s)) s) s) s) s) s) s) s) s) s) s
noncomputable def b29 : Code := Tryd.f29.body.getD .skip
theorem e29 (K : Value → World → Prop) : wpc P bmask 27 none b29 (lmOf [.tmp 0]) (ktOf P 27 [.tmp 0] K) (frOf []) = D29 K := by kernel_rfl
theorem c29 {w : _} {K : Value → World → Prop} {R : Ending → World → Prop} (h : D29 K ⟨w, []⟩) (hK : ∀ v w', K v w' → R (.returned v) w') : Calls P 29 #[] w R :=
  calls_of bodies_ok Tryd.func29 27 [.tmp 0] (c := b29) (args := []) (K := K) (by kernel_rfl) rfl (e29 K) h hK

/-- rollcall/rollcalllaw17.great -/
def D30 (a0 a1 a2 : Value) (K : Value → World → Prop) (s : St) : Prop :=
  Bx P 52 a1 (fun v1 s => Bi P .len #[22] 3 #[false] #[a2] (fun v2 s => Bo P .gtr 3 false true v2 (.int .i64 20) (fun v3 s => J1 (fun A4 => Grd v3 false (Bi P .len #[9] 3 #[false] #[a0] (fun v6 s => Bo P .gtr 3 false true v6 (.int .i64 60) (fun v7 s => A4 v7 s) s) s) (A4 undef s)) (fun x5 s => Pk P v3 (.bool true) x5 (fun v8 s => J1 (fun A9 => Grd v8 false (Fa P 52 v1 3 (fun v11 s => Ld P 9 v11 (fun v12 s => Bi P .len #[9] 3 #[false] #[v12] (fun v13 s => Bo P .gtr 3 false true v13 (.int .i64 100) (fun v14 s => A9 v14 s) s) s) s) s) (A9 undef s)) (fun x10 s => Pk P v8 (.bool true) x10 (fun v15 s => J1 (fun A16 => Grd v15 false (Fa P 52 v1 4 (fun v18 s => Ld P 9 v18 (fun v19 s => Bi P .len #[9] 3 #[false] #[v19] (fun v20 s => Bo P .gtr 3 false true v20 (.int .i64 100) (fun v21 s => A16 v21 s) s) s) s) s) (A16 undef s)) (fun x17 s => Pk P v15 (.bool true) x17 (fun v22 s => J1 (fun A23 => Grd v22 false (Fa P 52 v1 5 (fun v25 s => Ld P 9 v25 (fun v26 s => Bi P .len #[9] 3 #[false] #[v26] (fun v27 s => Bo P .gtr 3 false true v27 (.int .i64 100) (fun v28 s => A23 v28 s) s) s) s) s) (A23 undef s)) (fun x24 s => Pk P v22 (.bool true) x24 (fun v29 s => J1 (fun A30 => Grd v29 false (Fa P 52 v1 2 (fun v32 s => Ld P 9 v32 (fun v33 s => Bi P .len #[9] 3 #[false] #[v33] (fun v34 s => Bo P .gtr 3 false true v34 (.int .i64 100) (fun v35 s => A30 v35 s) s) s) s) s) (A30 undef s)) (fun x31 s => Pk P v29 (.bool true) x31 (fun v36 s => CondP v36 (Ret P (fun w => K (.bool true) w) s) (L1 (.int .i64 0) s (fun N37 x38 s => Bi P .len #[22] 3 #[false] #[a2] (fun v39 s => Bo P .lss 3 false false x38 v39 (fun v40 s => CondP v40 (Ia P 22 a2 x38 (fun v41 s => Ld P 9 v41 (fun v42 s => Bi P .len #[9] 3 #[false] #[v42] (fun v43 s => Bo P .gtr 3 false true v43 (.int .i64 100) (fun v44 s => CondP v44 (Ret P (fun w => K (.bool true) w) s) (Bo P .add 3 false true x38 (.int .i64 1) (fun v45 s => N37 v45 s) s)) s) s) s) s) (Ret P (fun w => K (.bool false) w) s)) s) s))) s)) s)) s)) s)) s)) s) s) s
noncomputable def b30 : Code := Tryd.f30.body.getD .skip
theorem e30 (a0 a1 a2 : Value) (K : Value → World → Prop) : wpc P bmask 52 none b30 (lmOf [.tmp 6]) (ktOf P 52 [.tmp 6] K) (frOf [a0, a1, a2]) = D30 a0 a1 a2 K := by kernel_rfl
theorem c30 {a0 a1 a2 w : _} {K : Value → World → Prop} {R : Ending → World → Prop} (h : D30 a0 a1 a2 K ⟨w, []⟩) (hK : ∀ v w', K v w' → R (.returned v) w') : Calls P 30 #[a0, a1, a2] w R :=
  calls_of bodies_ok Tryd.func30 52 [.tmp 6] (c := b30) (args := [a0, a1, a2]) (K := K) (by kernel_rfl) rfl (e30 a0 a1 a2 K) h hK

/-- rollcall/sign.Pass -/
def D31 (a0 a1 a2 : Value) (K : Value → World → Prop) (s : St) : Prop :=
  Bx P 52 a1 (fun v1 s => Al P 52 (fun v2 s => Fa P 52 v1 6 (fun v3 s => Ld P 4 v3 (fun v4 s => CondP v4 (J1 (fun A5 => Dw (fun s => Qt (Ld P 52 v1) s fun v7 => Qt (Fa P 52 v1 3) s fun v8 => Qt (Ld P 9 v8) s fun v9 => Cl P 67 #[a0, .int .i64 462, v9, .slice none 0 0] (fun v10 s => Ck (Ld P 52 v1) v7 s ∧ ((Bs P 22 1 #[(0, v10)] (fun v11 s => Ck (Ld P 52 v1) v7 s ∧ (Sv P 52 v2 v7 (fun _ s => A5 v11 s) s)) s) ∧ (Sv P 52 v2 v7 (fun _ s => Bs P 22 1 #[(0, v10)] (fun v12 s => A5 v12 s) s) s))) s) s) (fun x6 s => Ret P (fun w => LdR P 52 v2 w fun v13 => K (.tuple #[v13, x6]) w) s)) (Bi P .len #[22] 3 #[false] #[a2] (fun v14 s => Bo P .eql 3 false true v14 (.int .i64 0) (fun v15 s => CondP v15 (J1 (fun A16 => Dw (fun s => Qt (Ld P 52 v1) s fun v18 => Qt (Fa P 52 v1 3) s fun v19 => Qt (Ld P 9 v19) s fun v20 => Bs P 22 1 #[(0, .string ⟨#[80, 65, 83, 83]⟩)] (fun v21 s => Ck (Ld P 52 v1) v18 s ∧ Ck (Fa P 52 v1 3) v19 s ∧ Ck (Ld P 9 v19) v20 s ∧ (Cl P 67 #[a0, .int .i64 461, v20, v21] (fun v22 s => Ck (Ld P 52 v1) v18 s ∧ ((Bs P 22 1 #[(0, v22)] (fun v23 s => Ck (Ld P 52 v1) v18 s ∧ (Sv P 52 v2 v18 (fun _ s => A16 v23 s) s)) s) ∧ (Sv P 52 v2 v18 (fun _ s => Bs P 22 1 #[(0, v22)] (fun v24 s => A16 v24 s) s) s))) s)) s) s) (fun x17 s => Ret P (fun w => LdR P 52 v2 w fun v25 => K (.tuple #[v25, x17]) w) s)) (Ia P 22 a2 (.int .i64 0) (fun v26 s => Ld P 9 v26 (fun v27 s => Fa P 52 v1 2 (fun v28 s => Sv P 9 v28 v27 (fun _ s => Ld P 52 v1 (fun v29 s => Sv P 52 v2 v29 (fun _ s => Ret P (fun w => LdR P 52 v2 w fun v30 => K (.tuple #[v30, .slice none 0 0]) w) s) s) s) s) s) s) s)) s) s)) s) s) s) s
noncomputable def b31 : Code := Tryd.f31.body.getD .skip
theorem e31 (a0 a1 a2 : Value) (K : Value → World → Prop) : wpc P bmask 33 none b31 (lmOf [.cell 6 52, .tmp 7]) (ktOf P 33 [.cell 6 52, .tmp 7] K) (frOf [a0, a1, a2]) = D31 a0 a1 a2 K := by kernel_rfl
theorem c31 {a0 a1 a2 w : _} {K : Value → World → Prop} {R : Ending → World → Prop} (h : D31 a0 a1 a2 K ⟨w, []⟩) (hK : ∀ v w', K v w' → R (.returned v) w') : Calls P 31 #[a0, a1, a2] w R :=
  calls_of bodies_ok Tryd.func31 33 [.cell 6 52, .tmp 7] (c := b31) (args := [a0, a1, a2]) (K := K) (by kernel_rfl) rfl (e31 a0 a1 a2 K) h hK

/-- rollcall/sign.User -/
def D32 (a0 a1 a2 : Value) (K : Value → World → Prop) (s : St) : Prop :=
  Bx P 52 a1 (fun v1 s => Al P 52 (fun v2 s => Fa P 52 v1 6 (fun v3 s => Ld P 4 v3 (fun v4 s => CondP v4 (J1 (fun A5 => Dw (fun s => Qt (Ld P 52 v1) s fun v7 => Qt (Fa P 52 v1 3) s fun v8 => Qt (Ld P 9 v8) s fun v9 => Cl P 67 #[a0, .int .i64 462, v9, .slice none 0 0] (fun v10 s => Ck (Ld P 52 v1) v7 s ∧ ((Bs P 22 1 #[(0, v10)] (fun v11 s => Ck (Ld P 52 v1) v7 s ∧ (Sv P 52 v2 v7 (fun _ s => A5 v11 s) s)) s) ∧ (Sv P 52 v2 v7 (fun _ s => Bs P 22 1 #[(0, v10)] (fun v12 s => A5 v12 s) s) s))) s) s) (fun x6 s => Ret P (fun w => LdR P 52 v2 w fun v13 => K (.tuple #[v13, x6]) w) s)) (Bi P .len #[22] 3 #[false] #[a2] (fun v14 s => Bo P .lss 3 false true v14 (.int .i64 4) (fun v15 s => CondP v15 (J1 (fun A16 => Dw (fun s => Qt (Ld P 52 v1) s fun v18 => Qt (Fa P 52 v1 3) s fun v19 => Qt (Ld P 9 v19) s fun v20 => Bs P 22 1 #[(0, .string ⟨#[85, 83, 69, 82]⟩)] (fun v21 s => Ck (Ld P 52 v1) v18 s ∧ Ck (Fa P 52 v1 3) v19 s ∧ Ck (Ld P 9 v19) v20 s ∧ (Cl P 67 #[a0, .int .i64 461, v20, v21] (fun v22 s => Ck (Ld P 52 v1) v18 s ∧ ((Bs P 22 1 #[(0, v22)] (fun v23 s => Ck (Ld P 52 v1) v18 s ∧ (Sv P 52 v2 v18 (fun _ s => A16 v23 s) s)) s) ∧ (Sv P 52 v2 v18 (fun _ s => Bs P 22 1 #[(0, v22)] (fun v24 s => A16 v24 s) s) s))) s)) s) s) (fun x17 s => Ret P (fun w => LdR P 52 v2 w fun v25 => K (.tuple #[v25, x17]) w) s)) (Ia P 22 a2 (.int .i64 0) (fun v26 s => Ld P 9 v26 (fun v27 s => Cl P 68 #[v27] (fun v28 s => Uo P .not v28 (fun v29 s => CondP v29 (J1 (fun A30 => Dw (fun s => Qt (Ld P 52 v1) s fun v32 => Qt (Fa P 52 v1 3) s fun v33 => Qt (Ld P 9 v33) s fun v34 => Cl P 67 #[a0, .int .i64 468, v34, .slice none 0 0] (fun v35 s => Ck (Ld P 52 v1) v32 s ∧ ((Bs P 22 1 #[(0, v35)] (fun v36 s => Ck (Ld P 52 v1) v32 s ∧ (Sv P 52 v2 v32 (fun _ s => A30 v36 s) s)) s) ∧ (Sv P 52 v2 v32 (fun _ s => Bs P 22 1 #[(0, v35)] (fun v37 s => A30 v37 s) s) s))) s) s) (fun x31 s => Ret P (fun w => LdR P 52 v2 w fun v38 => K (.tuple #[v38, x31]) w) s)) (Dw (fun s => Qt (Ia P 22 a2 (.int .i64 0)) s fun v39 => Qt (Ld P 9 v39) s fun v40 => Qt (Ia P 22 a2 (.int .i64 3)) s fun v41 => Qt (Ld P 9 v41) s fun v42 => Qt (Fa P 52 v1 4) s fun v43 => Cl P 69 #[v42, .int .i64 100] (fun v44 s => Ck (Ia P 22 a2 (.int .i64 0)) v39 s ∧ Ck (Ld P 9 v39) v40 s ∧ Ck (Fa P 52 v1 4) v43 s ∧ (Sv P 9 v43 v40 (fun _ s => Qt (Fa P 52 v1 5) s fun v45 => Sv P 9 v45 v44 (fun _ s => Ld P 52 v1 (fun v46 s => Sv P 52 v2 v46 (fun _ s => Ret P (fun w => LdR P 52 v2 w fun v47 => K (.tuple #[v47, .slice none 0 0]) w) s) s) s) s) s)) s) s)) s) s) s) s)) s) s)) s) s) s) s
noncomputable def b32 : Code := Tryd.f32.body.getD .skip
theorem e32 (a0 a1 a2 : Value) (K : Value → World → Prop) : wpc P bmask 50 none b32 (lmOf [.cell 6 52, .tmp 7]) (ktOf P 50 [.cell 6 52, .tmp 7] K) (frOf [a0, a1, a2]) = D32 a0 a1 a2 K := by kernel_rfl
theorem c32 {a0 a1 a2 w : _} {K : Value → World → Prop} {R : Ending → World → Prop} (h : D32 a0 a1 a2 K ⟨w, []⟩) (hK : ∀ v w', K v w' → R (.returned v) w') : Calls P 32 #[a0, a1, a2] w R :=
  calls_of bodies_ok Tryd.func32 50 [.cell 6 52, .tmp 7] (c := b32) (args := [a0, a1, a2]) (K := K) (by kernel_rfl) rfl (e32 a0 a1 a2 K) h hK

/-- rollcall/sign.Cap -/
def D33 (a0 a1 a2 : Value) (K : Value → World → Prop) (s : St) : Prop :=
  Bx P 9 a0 (fun v1 s => Bx P 52 a1 (fun v2 s => Al P 52 (fun v3 s => Cl P 71 #[a2, .int .i64 0] (fun v4 s => Cl P 70 #[v4] (fun v5 s => Mf P (.func 72) #[] #[v1, v2] (fun v6 s => Bo P .eql 9 false true v5 (.string ⟨#[76, 83]⟩) (fun v7 s => CondP v7 (Fa P 52 v2 6 (fun v8 s => Ld P 4 v8 (fun v9 s => Uo P .not v9 (fun v10 s => Fa P 52 v2 1 (fun v11 s => Sv P 4 v11 v10 (fun _ s => Dw (fun s => Qt (Ld P 52 v2) s fun v12 => Cl P 74 #[.int .i64 7] (fun v13 s => Ck (Ld P 52 v2) v12 s ∧ (Dy P v6 #[v5, v13] (fun v14 s => Ck (Ld P 52 v2) v12 s ∧ (Sv P 52 v3 v12 (fun _ s => Ret P (fun w => LdR P 52 v3 w fun v15 => K (.tuple #[v15, v14]) w) s) s)) s)) s) s) s) s) s) s) s) (Bo P .eql 9 false true v5 (.string ⟨#[76, 73, 83, 84]⟩) (fun v16 s => CondP v16 (Dw (fun s => Qt (Ld P 52 v2) s fun v17 => Qt (Fa P 52 v2 0) s fun v18 => Qt (Ld P 3 v18) s fun v19 => Cl P 74 #[v19] (fun v20 s => Ck (Ld P 52 v2) v17 s ∧ (Dy P v6 #[v5, v20] (fun v21 s => Ck (Ld P 52 v2) v17 s ∧ (Sv P 52 v3 v17 (fun _ s => Ret P (fun w => LdR P 52 v3 w fun v22 => K (.tuple #[v22, v21]) w) s) s)) s)) s) s) (Bo P .eql 9 false true v5 (.string ⟨#[82, 69, 81]⟩) (fun v23 s => CondP v23 (Cl P 71 #[a2, .int .i64 1] (fun v24 s => Fa P 52 v2 6 (fun v25 s => Ld P 4 v25 (fun v26 s => Uo P .not v26 (fun v27 s => Fa P 52 v2 1 (fun v28 s => Sv P 4 v28 v27 (fun _ s => Fa P 52 v2 0 (fun v29 s => Ld P 3 v29 (fun v30 s => Cl P 75 #[v30, v24] (fun v31 s => Ex P v31 0 (fun v32 s => Ex P v31 1 (fun v33 s => Fa P 52 v2 0 (fun v34 s => Sv P 3 v34 v32 (fun _ s => CondP v33 (Dw (fun s => Qt (Ld P 52 v2) s fun v35 => Dy P v6 #[.string ⟨#[65, 67, 75]⟩, v24] (fun v36 s => Ck (Ld P 52 v2) v35 s ∧ (Sv P 52 v3 v35 (fun _ s => Ret P (fun w => LdR P 52 v3 w fun v37 => K (.tuple #[v37, v36]) w) s) s)) s) s) (Dw (fun s => Qt (Ld P 52 v2) s fun v38 => Dy P v6 #[.string ⟨#[78, 65, 75]⟩, v24] (fun v39 s => Ck (Ld P 52 v2) v38 s ∧ (Sv P 52 v3 v38 (fun _ s => Ret P (fun w => LdR P 52 v3 w fun v40 => K (.tuple #[v40, v39]) w) s) s)) s) s)) s) s) s) s) s) s) s) s) s) s) s) s) s) (Bo P .eql 9 false true v5 (.string ⟨#[69, 78, 68]⟩) (fun v41 s => CondP v41 (Fa P 52 v2 1 (fun v42 s => Sv P 4 v42 (.bool false) (fun _ s => Ld P 52 v2 (fun v43 s => Sv P 52 v3 v43 (fun _ s => Ret P (fun w => LdR P 52 v3 w fun v44 => K (.tuple #[v44, .slice none 0 0]) w) s) s) s) s) s) (J1 (fun A45 => Dw (fun s => Qt (Ld P 52 v2) s fun v47 => Qt (Ld P 9 v1) s fun v48 => Qt (Fa P 52 v2 3) s fun v49 => Qt (Ld P 9 v49) s fun v50 => Cl P 71 #[a2, .int .i64 0] (fun v51 s => Ck (Ld P 52 v2) v47 s ∧ Ck (Ld P 9 v1) v48 s ∧ Ck (Fa P 52 v2 3) v49 s ∧ Ck (Ld P 9 v49) v50 s ∧ (Bs P 22 1 #[(0, v51)] (fun v52 s => Ck (Ld P 52 v2) v47 s ∧ Ck (Ld P 9 v1) v48 s ∧ Ck (Fa P 52 v2 3) v49 s ∧ Ck (Ld P 9 v49) v50 s ∧ (Cl P 67 #[v48, .int .i64 410, v50, v52] (fun v53 s => Ck (Ld P 52 v2) v47 s ∧ ((Bs P 22 1 #[(0, v53)] (fun v54 s => Ck (Ld P 52 v2) v47 s ∧ (Sv P 52 v3 v47 (fun _ s => A45 v54 s) s)) s) ∧ (Sv P 52 v3 v47 (fun _ s => Bs P 22 1 #[(0, v53)] (fun v55 s => A45 v55 s) s) s))) s)) s)) s) s) (fun x46 s => Ret P (fun w => LdR P 52 v3 w fun v56 => K (.tuple #[v56, x46]) w) s))) s)) s)) s)) s) s) s) s) s) s) s
noncomputable def b33 : Code := Tryd.f33.body.getD .skip
theorem e33 (a0 a1 a2 : Value) (K : Value → World → Prop) : wpc P bmask 77 none b33 (lmOf [.cell 6 52, .tmp 7]) (ktOf P 77 [.cell 6 52, .tmp 7] K) (frOf [a0, a1, a2]) = D33 a0 a1 a2 K := by kernel_rfl
theorem c33 {a0 a1 a2 w : _} {K : Value → World → Prop} {R : Ending → World → Prop} (h : D33 a0 a1 a2 K ⟨w, []⟩) (hK : ∀ v w', K v w' → R (.returned v) w') : Calls P 33 #[a0, a1, a2] w R :=
  calls_of bodies_ok Tryd.func33 77 [.cell 6 52, .tmp 7] (c := b33) (args := [a0, a1, a2]) (K := K) (by kernel_rfl) rfl (e33 a0 a1 a2 K) h hK

/-- rollcall/sign.Ready -/
def D34 (a0 : Value) (K : Value → World → Prop) (s : St) : Prop :=
  Bx P 52 a0 (fun v1 s => Fa P 52 v1 3 (fun v2 s => Ld P 9 v2 (fun v3 s => Bo P .neq 9 false true v3 (.string ⟨#[]⟩) (fun v4 s => J1 (fun A5 => Grd v4 true (Fa P 52 v1 4 (fun v7 s => Ld P 9 v7 (fun v8 s => Bo P .neq 9 false true v8 (.string ⟨#[]⟩) (fun v9 s => A5 v9 s) s) s) s) (A5 undef s)) (fun x6 s => Pk P v4 x6 (.bool false) (fun v10 s => J1 (fun A11 => Grd v10 true (Fa P 52 v1 1 (fun v13 s => Ld P 4 v13 (fun v14 s => Uo P .not v14 (fun v15 s => A11 v15 s) s) s) s) (A11 undef s)) (fun x12 s => Pk P v10 x12 (.bool false) (fun v16 s => J1 (fun A17 => Grd v16 true (Fa P 52 v1 6 (fun v19 s => Ld P 4 v19 (fun v20 s => Uo P .not v20 (fun v21 s => A17 v21 s) s) s) s) (A17 undef s)) (fun x18 s => Pk P v16 x18 (.bool false) (fun v22 s => Ret P (fun w => K v22 w) s) s)) s)) s)) s) s) s) s
noncomputable def b34 : Code := Tryd.f34.body.getD .skip
theorem e34 (a0 : Value) (K : Value → World → Prop) : wpc P bmask 21 none b34 (lmOf [.tmp 2]) (ktOf P 21 [.tmp 2] K) (frOf [a0]) = D34 a0 K := by kernel_rfl
theorem c34 {a0 w : _} {K : Value → World → Prop} {R : Ending → World → Prop} (h : D34 a0 K ⟨w, []⟩) (hK : ∀ v w', K v w' → R (.returned v) w') : Calls P 34 #[a0] w R :=
  calls_of bodies_ok Tryd.func34 21 [.tmp 2] (c := b34) (args := [a0]) (K := K) (by kernel_rfl) rfl (e34 a0 K) h hK

/-- rollcall/message.Make -/
def D35 (a0 a1 a2 : Value) (K : Value → World → Prop) (s : St) : Prop :=
  Bi P .len #[9] 3 #[false] #[a0] (fun v1 s => Cl P 69 #[a0, v1] (fun v2 s => Cl P 76 #[v2, .string ⟨#[32]⟩, .string ⟨#[45]⟩] (fun v3 s => Bd P 32 #[(1, v3), (2, a1)] (fun v4 s => Al P 32 (fun v5 s => Sv P 32 v5 v4 (fun _ s => Bi P .len #[22] 3 #[false] #[a2] (fun v6 s => L1 (.int .i64 0) s (fun N7 x8 s => Bo P .lss 3 false false x8 v6 (fun v9 s => CondP v9 (Ia P 22 a2 x8 (fun v10 s => Ld P 9 v10 (fun v11 s => Bi P .len #[9] 3 #[false] #[v11] (fun v12 s => Cl P 69 #[v11, v12] (fun v13 s => J1 (fun A14 => Bi P .len #[22] 3 #[false] #[a2] (fun v16 s => Bo P .sub 3 false true v16 (.int .i64 1) (fun v17 s => Bo P .lss 3 false false x8 v17 (fun v18 s => CondP v18 (Cl P 77 #[v13] (fun v19 s => A14 v19 s) s) (A14 v13 s)) s) s) s) (fun x15 s => Fa P 32 v5 3 (fun v20 s => Ld P 22 v20 (fun v21 s => Bs P 22 1 #[(0, x15)] (fun v22 s => Bi P .append #[22, 22] 22 #[false, false] #[v21, v22] (fun v23 s => Fa P 32 v5 3 (fun v24 s => Sv P 22 v24 v23 (fun _ s => Bo P .add 3 false true x8 (.int .i64 1) (fun v25 s => N7 v25 s) s) s) s) s) s) s) s)) s) s) s) s) (Cl P 41 #[a1] (fun v26 s => Uo P .not v26 (fun v27 s => J1 (fun A28 => Grd v27 false (Cl P 42 #[a1] (fun v30 s => Bo P .neq 9 false false v30 a1 (fun v31 s => A28 v31 s) s) s) (A28 undef s)) (fun x29 s => Pk P v27 (.bool true) x29 (fun v32 s => J1 (fun A33 => Grd v32 false (Bi P .len #[22] 3 #[false] #[a2] (fun v35 s => Bo P .gtr 3 false true v35 (.int .i64 15) (fun v36 s => A33 v36 s) s) s) (A33 undef s)) (fun x34 s => Pk P v32 (.bool true) x34 (fun v37 s => CondP v37 (Ret P (fun w => K (.string ⟨#[]⟩) w) s) (Ld P 32 v5 (fun v38 s => Cl P 62 #[v38] (fun v39 s => Bi P .len #[9] 3 #[false] #[v39] (fun v40 s => Bi P .min #[3, 3] 3 #[false, true] #[v40, .int .i64 510] (fun v41 s => Sl P 9 v39 none (some v41) none (fun v42 s => Ret P (fun w => K v42 w) s) s) s) s) s) s)) s)) s)) s) s)) s)) s) s) s) s) s) s) s
noncomputable def b35 : Code := Tryd.f35.body.getD .skip
theorem e35 (a0 a1 a2 : Value) (K : Value → World → Prop) : wpc P bmask 64 none b35 (lmOf [.tmp 6]) (ktOf P 64 [.tmp 6] K) (frOf [a0, a1, a2]) = D35 a0 a1 a2 K := by kernel_rfl
theorem c35 {a0 a1 a2 w : _} {K : Value → World → Prop} {R : Ending → World → Prop} (h : D35 a0 a1 a2 K ⟨w, []⟩) (hK : ∀ v w', K v w' → R (.returned v) w') : Calls P 35 #[a0, a1, a2] w R :=
  calls_of bodies_ok Tryd.func35 64 [.tmp 6] (c := b35) (args := [a0, a1, a2]) (K := K) (by kernel_rfl) rfl (e35 a0 a1 a2 K) h hK

/-- rollcall/reply.digits -/
def D36 (a0 : Value) (K : Value → World → Prop) (s : St) : Prop :=
  Bo P .quo 3 false true a0 (.int .i64 100) (fun v1 s => Bo P .add 3 true false (.int .i64 48) v1 (fun v2 s => Cv P 3 5 v2 (fun v3 s => Bo P .quo 3 false true a0 (.int .i64 10) (fun v4 s => Bo P .rem 3 false true v4 (.int .i64 10) (fun v5 s => Bo P .add 3 true false (.int .i64 48) v5 (fun v6 s => Cv P 3 5 v6 (fun v7 s => Bo P .rem 3 false true a0 (.int .i64 10) (fun v8 s => Bo P .add 3 true false (.int .i64 48) v8 (fun v9 s => Cv P 3 5 v9 (fun v10 s => Bs P 46 3 #[(0, v3), (1, v7), (2, v10)] (fun v11 s => Cv P 46 9 v11 (fun v12 s => Ret P (fun w => K v12 w) s) s) s) s) s) s) s) s) s) s) s) s) s
noncomputable def b36 : Code := Tryd.f36.body.getD .skip
theorem e36 (a0 : Value) (K : Value → World → Prop) : wpc P bmask 18 none b36 (lmOf [.tmp 2]) (ktOf P 18 [.tmp 2] K) (frOf [a0]) = D36 a0 K := by kernel_rfl
theorem c36 {a0 w : _} {K : Value → World → Prop} {R : Ending → World → Prop} (h : D36 a0 K ⟨w, []⟩) (hK : ∀ v w', K v w' → R (.returned v) w') : Calls P 36 #[a0] w R :=
  calls_of bodies_ok Tryd.func36 18 [.tmp 2] (c := b36) (args := [a0]) (K := K) (by kernel_rfl) rfl (e36 a0 K) h hK

/-- rollcall/valid.Text -/
def D37 (a0 : Value) (K : Value → World → Prop) (s : St) : Prop :=
  Bi P .len #[9] 3 #[false] #[a0] (fun v1 s => Cl P 78 #[a0, .int .i64 0, v1, .int .u16 64] (fun v2 s => Ret P (fun w => K v2 w) s) s) s
noncomputable def b37 : Code := Tryd.f37.body.getD .skip
theorem e37 (a0 : Value) (K : Value → World → Prop) : wpc P bmask 7 none b37 (lmOf [.tmp 2]) (ktOf P 7 [.tmp 2] K) (frOf [a0]) = D37 a0 K := by kernel_rfl
theorem c37 {a0 w : _} {K : Value → World → Prop} {R : Ending → World → Prop} (h : D37 a0 K ⟨w, []⟩) (hK : ∀ v w', K v w' → R (.returned v) w') : Calls P 37 #[a0] w R :=
  calls_of bodies_ok Tryd.func37 7 [.tmp 2] (c := b37) (args := [a0]) (K := K) (by kernel_rfl) rfl (e37 a0 K) h hK

/-- strings.HasPrefix -/
def D38 (a0 a1 : Value) (K : Value → World → Prop) (s : St) : Prop :=
  Cl P 79 #[a0, a1] (fun v1 s => Ret P (fun w => K v1 w) s) s
noncomputable def b38 : Code := Tryd.f38.body.getD .skip
theorem e38 (a0 a1 : Value) (K : Value → World → Prop) : wpc P bmask 8 none b38 (lmOf [.tmp 4]) (ktOf P 8 [.tmp 4] K) (frOf [a0, a1]) = D38 a0 a1 K := by kernel_rfl
theorem c38 {a0 a1 w : _} {K : Value → World → Prop} {R : Ending → World → Prop} (h : D38 a0 a1 K ⟨w, []⟩) (hK : ∀ v w', K v w' → R (.returned v) w') : Calls P 38 #[a0, a1] w R :=
  calls_of bodies_ok Tryd.func38 8 [.tmp 4] (c := b38) (args := [a0, a1]) (K := K) (by kernel_rfl) rfl (e38 a0 a1 K) h hK

/-- rollcall/message.part -/
def D39 (a0 : Value) (K : Value → World → Prop) (s : St) : Prop :=
  Cl P 80 #[a0, .string ⟨#[32]⟩] (fun v1 s => Ex P v1 0 (fun v2 s => Ex P v1 1 (fun v3 s => Ex P v1 2 (fun _ s => Cl P 81 #[v3, .string ⟨#[32]⟩] (fun v5 s => Ret P (fun w => K (.tuple #[v2, v5]) w) s) s) s) s) s) s
noncomputable def b39 : Code := Tryd.f39.body.getD .skip
theorem e39 (a0 : Value) (K : Value → World → Prop) : wpc P bmask 13 none b39 (lmOf [.tmp 2, .tmp 3]) (ktOf P 13 [.tmp 2, .tmp 3] K) (frOf [a0]) = D39 a0 K := by kernel_rfl
theorem c39 {a0 w : _} {K : Value → World → Prop} {R : Ending → World → Prop} (h : D39 a0 K ⟨w, []⟩) (hK : ∀ v w', K v w' → R (.returned v) w') : Calls P 39 #[a0] w R :=
  calls_of bodies_ok Tryd.func39 13 [.tmp 2, .tmp 3] (c := b39) (args := [a0]) (K := K) (by kernel_rfl) rfl (e39 a0 K) h hK

/-- rollcall/tags.Parse -/
def D40 (a0 : Value) (K : Value → World → Prop) (s : St) : Prop :=
  Cl P 82 #[a0, .string ⟨#[59]⟩] (fun v1 s => Bi P .len #[22] 3 #[false] #[v1] (fun v2 s => L2 (.slice none 0 0) (.int .i64 0) s (fun N3 x4 x5 s => Bo P .lss 3 false false x5 v2 (fun v6 s => CondP v6 (J1 (fun A7 => Ia P 22 v1 x5 (fun v9 s => Ld P 9 v9 (fun v10 s => Cl P 80 #[v10, .string ⟨#[61]⟩] (fun v11 s => Ex P v11 0 (fun v12 s => Ex P v11 1 (fun v13 s => Ex P v11 2 (fun _ s => Al P 9 (fun v15 s => Sv P 9 v15 v12 (fun _ s => Ld P 9 v15 (fun v16 s => Cl P 83 #[v16] (fun v17 s => Bo P .neq 33 false true v17 (.int .i64 0) (fun v18 s => CondP v18 (Ret P (fun w => K (.tuple #[.slice none 0 0, v17]) w) s) (Cl P 84 #[v13, .string ⟨#[0, 13, 10, 32]⟩] (fun v19 s => CondP v19 (Ret P (fun w => K (.tuple #[.slice none 0 0, .int .i64 10]) w) s) (J1 (fun A20 => Dw (fun s => Qt (Ld P 9 v15) s fun v22 => (Cl P 85 #[v13] (fun v23 s => Ck (Ld P 9 v15) v22 s ∧ (Qt (Bd P 71 #[(0, v22), (1, v23)]) s fun v24 => Al P 71 (fun v25 s => Ck (Ld P 9 v15) v22 s ∧ Ck (Bd P 71 #[(0, v22), (1, v23)]) v24 s ∧ (Sv P 71 v25 v24 (fun _ s => A20 v25 s) s)) s)) s) ∧ (Al P 71 (fun v26 s => Ck (Ld P 9 v15) v22 s ∧ (Cl P 85 #[v13] (fun v27 s => Ck (Ld P 9 v15) v22 s ∧ (Qt (Bd P 71 #[(0, v22), (1, v27)]) s fun v28 => Sv P 71 v26 v28 (fun _ s => A20 v26 s) s)) s)) s)) s) (fun x21 s => Mf P (.func 87) #[] #[v15] (fun v29 s => Cl P 86 #[x4, v29] (fun v30 s => Bo P .geq 3 false true v30 (.int .i64 0) (fun v31 s => CondP v31 (Ld P 71 x21 (fun v32 s => Ia P 30 x4 v30 (fun v33 s => Sv P 71 v33 v32 (fun _ s => A7 x4 s) s) s) s) (Ld P 71 x21 (fun v34 s => Bs P 30 1 #[(0, v34)] (fun v35 s => Bi P .append #[30, 30] 30 #[false, false] #[x4, v35] (fun v36 s => A7 v36 s) s) s) s)) s) s) s))) s)) s) s) s) s) s) s) s) s) s) s) s) (fun x8 s => Bo P .add 3 false true x5 (.int .i64 1) (fun v37 s => N3 x8 v37 s) s)) (Bi P .len #[30] 3 #[false] #[x4] (fun v38 s => Bo P .gtr 3 false true v38 (.int .i64 16) (fun v39 s => CondP v39 (Ret P (fun w => K (.tuple #[.slice none 0 0, .int .i64 7]) w) s) (Ret P (fun w => K (.tuple #[x4, .int .i64 0]) w) s)) s) s)) s)) s) s
noncomputable def b40 : Code := Tryd.f40.body.getD .skip
theorem e40 (a0 : Value) (K : Value → World → Prop) : wpc P bmask 55 none b40 (lmOf [.tmp 2, .tmp 3]) (ktOf P 55 [.tmp 2, .tmp 3] K) (frOf [a0]) = D40 a0 K := by kernel_rfl
theorem c40 {a0 w : _} {K : Value → World → Prop} {R : Ending → World → Prop} (h : D40 a0 K ⟨w, []⟩) (hK : ∀ v w', K v w' → R (.returned v) w') : Calls P 40 #[a0] w R :=
  calls_of bodies_ok Tryd.func40 55 [.tmp 2, .tmp 3] (c := b40) (args := [a0]) (K := K) (by kernel_rfl) rfl (e40 a0 K) h hK

/-- rollcall/message.command -/
def D41 (a0 : Value) (K : Value → World → Prop) (s : St) : Prop :=
  Cl P 88 #[a0, .string ⟨#[65, 66, 67, 68, 69, 70, 71, 72, 73, 74, 75, 76, 77, 78, 79, 80, 81, 82, 83, 84, 85, 86, 87, 88, 89, 90, 97, 98, 99, 100, 101, 102, 103, 104, 105, 106, 107, 108, 109, 110, 111, 112, 113, 114, 115, 116, 117, 118, 119, 120, 121, 122]⟩] (fun v1 s => Bo P .eql 9 false true v1 (.string ⟨#[]⟩) (fun v2 s => Bo P .neq 9 false true a0 (.string ⟨#[]⟩) (fun v3 s => J1 (fun A4 => Grd v3 true (A4 v2 s) (A4 undef s)) (fun x5 s => Pk P v3 x5 (.bool false) (fun v6 s => J1 (fun A7 => Grd v6 false (Bi P .len #[9] 3 #[false] #[a0] (fun v9 s => Bo P .eql 3 false true v9 (.int .i64 3) (fun v10 s => A7 v10 s) s) s) (A7 undef s)) (fun x8 s => J1 (fun A11 => Grd x8 true (Cl P 88 #[a0, .string ⟨#[48, 49, 50, 51, 52, 53, 54, 55, 56, 57]⟩] (fun v13 s => Bo P .eql 9 false true v13 (.string ⟨#[]⟩) (fun v14 s => A11 v14 s) s) s) (A11 undef s)) (fun x12 s => J1 (fun A15 => Grd v6 false (Pk P x8 x12 (.bool false) (fun v17 s => A15 v17 s) s) (A15 undef s)) (fun x16 s => Pk P v6 (.bool true) x16 (fun v18 s => Ret P (fun w => K v18 w) s) s)))) s)) s) s) s
noncomputable def b41 : Code := Tryd.f41.body.getD .skip
theorem e41 (a0 : Value) (K : Value → World → Prop) : wpc P bmask 22 none b41 (lmOf [.tmp 2]) (ktOf P 22 [.tmp 2] K) (frOf [a0]) = D41 a0 K := by kernel_rfl
theorem c41 {a0 w : _} {K : Value → World → Prop} {R : Ending → World → Prop} (h : D41 a0 K ⟨w, []⟩) (hK : ∀ v w', K v w' → R (.returned v) w') : Calls P 41 #[a0] w R :=
  calls_of bodies_ok Tryd.func41 22 [.tmp 2] (c := b41) (args := [a0]) (K := K) (by kernel_rfl) rfl (e41 a0 K) h hK

/-- rollcall/message.capitals -/
def D42 (a0 : Value) (K : Value → World → Prop) (s : St) : Prop :=
  Cv P 9 46 a0 (fun v1 s => Bi P .len #[46] 3 #[false] #[v1] (fun v2 s => L1 (.int .i64 0) s (fun N3 x4 s => Bo P .lss 3 false false x4 v2 (fun v5 s => CondP v5 (J0 (fun A6 => Ia P 46 v1 x4 (fun v7 s => Ld P 5 v7 (fun v8 s => Bo P .geq 5 false true v8 (byteV 97) (fun v9 s => J1 (fun A10 => Grd v9 true (Bo P .leq 5 false true v8 (byteV 122) (fun v12 s => A10 v12 s) s) (A10 undef s)) (fun x11 s => Pk P v9 x11 (.bool false) (fun v13 s => CondP v13 (Bo P .sub 5 false true v8 (byteV 32) (fun v14 s => Ia P 46 v1 x4 (fun v15 s => Sv P 5 v15 v14 (fun _ s => A6 s) s) s) s) (A6 s)) s)) s) s) s) (fun s => Bo P .add 3 false true x4 (.int .i64 1) (fun v16 s => N3 v16 s) s)) (Cv P 46 9 v1 (fun v17 s => Ret P (fun w => K v17 w) s) s)) s)) s) s
noncomputable def b42 : Code := Tryd.f42.body.getD .skip
theorem e42 (a0 : Value) (K : Value → World → Prop) : wpc P bmask 29 none b42 (lmOf [.tmp 2]) (ktOf P 29 [.tmp 2] K) (frOf [a0]) = D42 a0 K := by kernel_rfl
theorem c42 {a0 w : _} {K : Value → World → Prop} {R : Ending → World → Prop} (h : D42 a0 K ⟨w, []⟩) (hK : ∀ v w', K v w' → R (.returned v) w') : Calls P 42 #[a0] w R :=
  calls_of bodies_ok Tryd.func42 29 [.tmp 2] (c := b42) (args := [a0]) (K := K) (by kernel_rfl) rfl (e42 a0 K) h hK

/-- rollcall/message.params -/
def D43 (a0 : Value) (K : Value → World → Prop) (s : St) : Prop :=
  J1 (fun A1 => L2 a0 (.slice none 0 0) s (fun N3 x4 x5 s => Bo P .neq 9 false true x4 (.string ⟨#[]⟩) (fun v6 s => CondP v6 (Cl P 89 #[x4, .string ⟨#[58]⟩] (fun v7 s => Ex P v7 0 (fun v8 s => Ex P v7 1 (fun v9 s => J1 (fun A10 => Grd v9 false (Bi P .len #[22] 3 #[false] #[x5] (fun v12 s => Bo P .eql 3 false true v12 (.int .i64 14) (fun v13 s => A10 v13 s) s) s) (A10 undef s)) (fun x11 s => Pk P v9 (.bool true) x11 (fun v14 s => CondP v14 (Bs P 22 1 #[(0, v8)] (fun v15 s => Bi P .append #[22, 22] 22 #[false, false] #[x5, v15] (fun v16 s => A1 v16 s) s) s) (Cl P 39 #[x4] (fun v17 s => Ex P v17 0 (fun v18 s => Ex P v17 1 (fun v19 s => Bs P 22 1 #[(0, v18)] (fun v20 s => Bi P .append #[22, 22] 22 #[false, false] #[x5, v20] (fun v21 s => N3 v19 v21 s) s) s) s) s) s)) s)) s) s) s) (A1 x5 s)) s)) (fun x2 s => Ret P (fun w => K x2 w) s)
noncomputable def b43 : Code := Tryd.f43.body.getD .skip
theorem e43 (a0 : Value) (K : Value → World → Prop) : wpc P bmask 34 none b43 (lmOf [.tmp 2]) (ktOf P 34 [.tmp 2] K) (frOf [a0]) = D43 a0 K := by kernel_rfl
theorem c43 {a0 w : _} {K : Value → World → Prop} {R : Ending → World → Prop} (h : D43 a0 K ⟨w, []⟩) (hK : ∀ v w', K v w' → R (.returned v) w') : Calls P 43 #[a0] w R :=
  calls_of bodies_ok Tryd.func43 34 [.tmp 2] (c := b43) (args := [a0]) (K := K) (by kernel_rfl) rfl (e43 a0 K) h hK

/-- rollcall/rollcallref03.Text -/
def D44 (a0 : Value) (K : Value → World → Prop) (s : St) : Prop :=
  Cl P 90 #[a0, byteV 0] (fun v1 s => Uo P .not v1 (fun v2 s => J1 (fun A3 => Grd v2 true (Cl P 90 #[a0, byteV 10] (fun v5 s => Uo P .not v5 (fun v6 s => A3 v6 s) s) s) (A3 undef s)) (fun x4 s => Pk P v2 x4 (.bool false) (fun v7 s => J1 (fun A8 => Grd v7 true (Cl P 90 #[a0, byteV 13] (fun v10 s => Uo P .not v10 (fun v11 s => A8 v11 s) s) s) (A8 undef s)) (fun x9 s => Pk P v7 x9 (.bool false) (fun v12 s => Ret P (fun w => K v12 w) s) s)) s)) s) s
noncomputable def b44 : Code := Tryd.f44.body.getD .skip
theorem e44 (a0 : Value) (K : Value → World → Prop) : wpc P bmask 16 none b44 (lmOf [.tmp 2]) (ktOf P 16 [.tmp 2] K) (frOf [a0]) = D44 a0 K := by kernel_rfl
theorem c44 {a0 w : _} {K : Value → World → Prop} {R : Ending → World → Prop} (h : D44 a0 K ⟨w, []⟩) (hK : ∀ v w', K v w' → R (.returned v) w') : Calls P 44 #[a0] w R :=
  calls_of bodies_ok Tryd.func44 16 [.tmp 2] (c := b44) (args := [a0]) (K := K) (by kernel_rfl) rfl (e44 a0 K) h hK

/-- rollcall/rollcallref07.word -/
def D45 (a0 a1 : Value) (K : Value → World → Prop) (s : St) : Prop :=
  L1 a1 s (fun N1 x2 s => Bi P .len #[9] 3 #[false] #[a0] (fun v3 s => Bo P .lss 3 false false x2 v3 (fun v4 s => J1 (fun A5 => Grd v4 true (Ix P 9 a0 x2 (fun v7 s => Bo P .neq 5 false true v7 (byteV 32) (fun v8 s => A5 v8 s) s) s) (A5 undef s)) (fun x6 s => Pk P v4 x6 (.bool false) (fun v9 s => CondP v9 (Bo P .add 3 false true x2 (.int .i64 1) (fun v10 s => N1 v10 s) s) (Ret P (fun w => K x2 w) s)) s)) s) s)
noncomputable def b45 : Code := Tryd.f45.body.getD .skip
theorem e45 (a0 a1 : Value) (K : Value → World → Prop) : wpc P bmask 18 none b45 (lmOf [.tmp 4]) (ktOf P 18 [.tmp 4] K) (frOf [a0, a1]) = D45 a0 a1 K := by kernel_rfl
theorem c45 {a0 a1 w : _} {K : Value → World → Prop} {R : Ending → World → Prop} (h : D45 a0 a1 K ⟨w, []⟩) (hK : ∀ v w', K v w' → R (.returned v) w') : Calls P 45 #[a0, a1] w R :=
  calls_of bodies_ok Tryd.func45 18 [.tmp 4] (c := b45) (args := [a0, a1]) (K := K) (by kernel_rfl) rfl (e45 a0 a1 K) h hK

/-- rollcall/rollcallref06.Parse -/
def D46 (a0 : Value) (K : Value → World → Prop) (s : St) : Prop :=
  L2 (.slice none 0 0) (.int .i64 0) s (fun N1 x2 x3 s => Bi P .len #[9] 3 #[false] #[a0] (fun v4 s => Bo P .leq 3 false false x3 v4 (fun v5 s => CondP v5 (L1 x3 s (fun N6 x7 s => Bi P .len #[9] 3 #[false] #[a0] (fun v8 s => Bo P .lss 3 false false x7 v8 (fun v9 s => J1 (fun A10 => Grd v9 true (Ix P 9 a0 x7 (fun v12 s => Bo P .neq 5 false true v12 (byteV 59) (fun v13 s => A10 v13 s) s) s) (A10 undef s)) (fun x11 s => Pk P v9 x11 (.bool false) (fun v14 s => CondP v14 (Bo P .add 3 false true x7 (.int .i64 1) (fun v15 s => N6 v15 s) s) (L1 x3 s (fun N16 x17 s => Bo P .lss 3 false false x17 x7 (fun v18 s => J1 (fun A19 => Grd v18 true (Ix P 9 a0 x17 (fun v21 s => Bo P .neq 5 false true v21 (byteV 61) (fun v22 s => A19 v22 s) s) s) (A19 undef s)) (fun x20 s => Pk P v18 x20 (.bool false) (fun v23 s => CondP v23 (Bo P .add 3 false true x17 (.int .i64 1) (fun v24 s => N16 v24 s) s) (Sl P 9 a0 (some x3) (some x17) none (fun v25 s => Bd P 71 #[(0, v25)] (fun v26 s => Al P 71 (fun v27 s => Sv P 71 v27 v26 (fun _ s => Fa P 71 v27 0 (fun v28 s => Ld P 9 v28 (fun v29 s => Cl P 91 #[v29] (fun v30 s => Bo P .neq 3 false true v30 (.int .i64 0) (fun v31 s => CondP v31 (Ret P (fun w => K (.tuple #[.slice none 0 0, v30]) w) s) (J0 (fun A32 => Bo P .lss 3 false false x17 x7 (fun v33 s => CondP v33 (Bo P .add 3 false true x17 (.int .i64 1) (fun v34 s => L1 v34 s (fun N35 x36 s => Bo P .lss 3 false false x36 x7 (fun v37 s => CondP v37 (Ix P 9 a0 x36 (fun v38 s => Bo P .eql 5 false true v38 (byteV 0) (fun v39 s => J1 (fun A40 => Grd v39 false (Ix P 9 a0 x36 (fun v42 s => Bo P .eql 5 false true v42 (byteV 10) (fun v43 s => A40 v43 s) s) s) (A40 undef s)) (fun x41 s => Pk P v39 (.bool true) x41 (fun v44 s => J1 (fun A45 => Grd v44 false (Ix P 9 a0 x36 (fun v47 s => Bo P .eql 5 false true v47 (byteV 13) (fun v48 s => A45 v48 s) s) s) (A45 undef s)) (fun x46 s => Pk P v44 (.bool true) x46 (fun v49 s => J1 (fun A50 => Grd v49 false (Ix P 9 a0 x36 (fun v52 s => Bo P .eql 5 false true v52 (byteV 32) (fun v53 s => A50 v53 s) s) s) (A50 undef s)) (fun x51 s => Pk P v49 (.bool true) x51 (fun v54 s => CondP v54 (Ret P (fun w => K (.tuple #[.slice none 0 0, .int .i64 10]) w) s) (Bo P .add 3 false true x36 (.int .i64 1) (fun v55 s => N35 v55 s) s)) s)) s)) s)) s) s) (Bo P .add 3 false true x17 (.int .i64 1) (fun v56 s => Sl P 9 a0 (some v56) (some x7) none (fun v57 s => Cl P 92 #[v57] (fun v58 s => Fa P 71 v27 1 (fun v59 s => Sv P 9 v59 v58 (fun _ s => A32 s) s) s) s) s) s)) s)) s) (A32 s)) s) (fun s => J1 (fun A60 => Fa P 71 v27 0 (fun v62 s => Ld P 9 v62 (fun v63 s => Cl P 93 #[x2, v63] (fun v64 s => Bo P .geq 3 false true v64 (.int .i64 0) (fun v65 s => CondP v65 (Ld P 71 v27 (fun v66 s => Ia P 30 x2 v64 (fun v67 s => Sv P 71 v67 v66 (fun _ s => A60 x2 s) s) s) s) (Ld P 71 v27 (fun v68 s => Bs P 30 1 #[(0, v68)] (fun v69 s => Bi P .append #[30, 30] 30 #[false, false] #[x2, v69] (fun v70 s => A60 v70 s) s) s) s)) s) s) s) s) (fun x61 s => Bo P .add 3 false true x7 (.int .i64 1) (fun v71 s => N1 x61 v71 s) s)))) s) s) s) s) s) s) s) s)) s)) s))) s)) s) s)) (Bi P .len #[30] 3 #[false] #[x2] (fun v72 s => Bo P .gtr 3 false true v72 (.int .i64 16) (fun v73 s => CondP v73 (Ret P (fun w => K (.tuple #[.slice none 0 0, .int .i64 7]) w) s) (Ret P (fun w => K (.tuple #[x2, .int .i64 0]) w) s)) s) s)) s) s)
noncomputable def b46 : Code := Tryd.f46.body.getD .skip
theorem e46 (a0 : Value) (K : Value → World → Prop) : wpc P bmask 111 none b46 (lmOf [.tmp 2, .tmp 3]) (ktOf P 111 [.tmp 2, .tmp 3] K) (frOf [a0]) = D46 a0 K := by kernel_rfl
theorem c46 {a0 w : _} {K : Value → World → Prop} {R : Ending → World → Prop} (h : D46 a0 K ⟨w, []⟩) (hK : ∀ v w', K v w' → R (.returned v) w') : Calls P 46 #[a0] w R :=
  calls_of bodies_ok Tryd.func46 111 [.tmp 2, .tmp 3] (c := b46) (args := [a0]) (K := K) (by kernel_rfl) rfl (e46 a0 K) h hK

/-- rollcall/rollcallref07.blanks -/
def D47 (a0 a1 : Value) (K : Value → World → Prop) (s : St) : Prop :=
  L1 a1 s (fun N1 x2 s => Bi P .len #[9] 3 #[false] #[a0] (fun v3 s => Bo P .lss 3 false false x2 v3 (fun v4 s => J1 (fun A5 => Grd v4 true (Ix P 9 a0 x2 (fun v7 s => Bo P .eql 5 false true v7 (byteV 32) (fun v8 s => A5 v8 s) s) s) (A5 undef s)) (fun x6 s => Pk P v4 x6 (.bool false) (fun v9 s => CondP v9 (Bo P .add 3 false true x2 (.int .i64 1) (fun v10 s => N1 v10 s) s) (Ret P (fun w => K x2 w) s)) s)) s) s)
noncomputable def b47 : Code := Tryd.f47.body.getD .skip
theorem e47 (a0 a1 : Value) (K : Value → World → Prop) : wpc P bmask 18 none b47 (lmOf [.tmp 4]) (ktOf P 18 [.tmp 4] K) (frOf [a0, a1]) = D47 a0 a1 K := by kernel_rfl
theorem c47 {a0 a1 w : _} {K : Value → World → Prop} {R : Ending → World → Prop} (h : D47 a0 a1 K ⟨w, []⟩) (hK : ∀ v w', K v w' → R (.returned v) w') : Calls P 47 #[a0, a1] w R :=
  calls_of bodies_ok Tryd.func47 18 [.tmp 4] (c := b47) (args := [a0, a1]) (K := K) (by kernel_rfl) rfl (e47 a0 a1 K) h hK

/-- rollcall/rollcallref07.Command -/
def D48 (a0 : Value) (K : Value → World → Prop) (s : St) : Prop :=
  Bi P .len #[9] 3 #[false] #[a0] (fun v1 s => Bo P .gtr 3 false true v1 (.int .i64 0) (fun v2 s => Bi P .len #[9] 3 #[false] #[a0] (fun v3 s => Bo P .eql 3 false true v3 (.int .i64 3) (fun v4 s => L3 v2 v4 (.int .i64 0) s (fun N5 x6 x7 x8 s => Bi P .len #[9] 3 #[false] #[a0] (fun v9 s => Bo P .lss 3 false false x8 v9 (fun v10 s => CondP v10 (J1 (fun A11 => Grd x6 true (Ix P 9 a0 x8 (fun v13 s => Cl P 94 #[v13] (fun v14 s => A11 v14 s) s) s) (A11 undef s)) (fun x12 s => Pk P x6 x12 (.bool false) (fun v15 s => J1 (fun A16 => Grd x7 true (Ix P 9 a0 x8 (fun v18 s => Cl P 95 #[v18] (fun v19 s => A16 v19 s) s) s) (A16 undef s)) (fun x17 s => Pk P x7 x17 (.bool false) (fun v20 s => Bo P .add 3 false true x8 (.int .i64 1) (fun v21 s => N5 v15 v20 v21 s) s) s)) s)) (J1 (fun A22 => Grd x6 false (A22 x7 s) (A22 undef s)) (fun x23 s => Pk P x6 (.bool true) x23 (fun v24 s => Ret P (fun w => K v24 w) s) s))) s) s)) s) s) s) s
noncomputable def b48 : Code := Tryd.f48.body.getD .skip
theorem e48 (a0 : Value) (K : Value → World → Prop) : wpc P bmask 36 none b48 (lmOf [.tmp 2]) (ktOf P 36 [.tmp 2] K) (frOf [a0]) = D48 a0 K := by kernel_rfl
theorem c48 {a0 w : _} {K : Value → World → Prop} {R : Ending → World → Prop} (h : D48 a0 K ⟨w, []⟩) (hK : ∀ v w', K v w' → R (.returned v) w') : Calls P 48 #[a0] w R :=
  calls_of bodies_ok Tryd.func48 36 [.tmp 2] (c := b48) (args := [a0]) (K := K) (by kernel_rfl) rfl (e48 a0 K) h hK

/-- rollcall/rollcallref07.Capitals -/
def D49 (a0 : Value) (K : Value → World → Prop) (s : St) : Prop :=
  L2 (.string ⟨#[]⟩) (.int .i64 0) s (fun N1 x2 x3 s => Bi P .len #[9] 3 #[false] #[a0] (fun v4 s => Bo P .lss 3 false false x3 v4 (fun v5 s => CondP v5 (Ix P 9 a0 x3 (fun v6 s => J1 (fun A7 => Bo P .geq 5 false true v6 (byteV 97) (fun v9 s => J1 (fun A10 => Grd v9 true (Bo P .leq 5 false true v6 (byteV 122) (fun v12 s => A10 v12 s) s) (A10 undef s)) (fun x11 s => Pk P v9 x11 (.bool false) (fun v13 s => CondP v13 (Bo P .sub 5 false true v6 (byteV 32) (fun v14 s => A7 v14 s) s) (A7 v6 s)) s)) s) (fun x8 s => Bs P 46 1 #[(0, x8)] (fun v15 s => Cv P 46 9 v15 (fun v16 s => Bo P .add 9 false false x2 v16 (fun v17 s => Bo P .add 3 false true x3 (.int .i64 1) (fun v18 s => N1 v17 v18 s) s) s) s) s)) s) (Ret P (fun w => K x2 w) s)) s) s)
noncomputable def b49 : Code := Tryd.f49.body.getD .skip
theorem e49 (a0 : Value) (K : Value → World → Prop) : wpc P bmask 29 none b49 (lmOf [.tmp 2]) (ktOf P 29 [.tmp 2] K) (frOf [a0]) = D49 a0 K := by kernel_rfl
theorem c49 {a0 w : _} {K : Value → World → Prop} {R : Ending → World → Prop} (h : D49 a0 K ⟨w, []⟩) (hK : ∀ v w', K v w' → R (.returned v) w') : Calls P 49 #[a0] w R :=
  calls_of bodies_ok Tryd.func49 29 [.tmp 2] (c := b49) (args := [a0]) (K := K) (by kernel_rfl) rfl (e49 a0 K) h hK

/-- rollcall/rollcallref01.Texts -/
def D50 (a0 a1 : Value) (K : Value → World → Prop) (s : St) : Prop :=
  Bi P .len #[22] 3 #[false] #[a0] (fun v1 s => Bi P .len #[22] 3 #[false] #[a1] (fun v2 s => Bo P .neq 3 false false v1 v2 (fun v3 s => CondP v3 (Ret P (fun w => K (.bool false) w) s) (L1 (.int .i64 0) s (fun N4 x5 s => Bi P .len #[22] 3 #[false] #[a0] (fun v6 s => Bo P .lss 3 false false x5 v6 (fun v7 s => CondP v7 (Dw (fun s => Qt (Ia P 22 a0 x5) s fun v8 => Qt (Ld P 9 v8) s fun v9 => Qt (Ia P 22 a1 x5) s fun v10 => Qt (Ld P 9 v10) s fun v11 => Qt (Bo P .neq 9 false false v9 v11) s fun v12 => CondP v12 (Ret P (fun w => K (.bool false) w) s) (Bo P .add 3 false true x5 (.int .i64 1) (fun v13 s => N4 v13 s) s)) s) (Ret P (fun w => K (.bool true) w) s)) s) s))) s) s) s
noncomputable def b50 : Code := Tryd.f50.body.getD .skip
theorem e50 (a0 a1 : Value) (K : Value → World → Prop) : wpc P bmask 26 none b50 (lmOf [.tmp 4]) (ktOf P 26 [.tmp 4] K) (frOf [a0, a1]) = D50 a0 a1 K := by kernel_rfl
theorem c50 {a0 a1 w : _} {K : Value → World → Prop} {R : Ending → World → Prop} (h : D50 a0 a1 K ⟨w, []⟩) (hK : ∀ v w', K v w' → R (.returned v) w') : Calls P 50 #[a0, a1] w R :=
  calls_of bodies_ok Tryd.func50 26 [.tmp 4] (c := b50) (args := [a0, a1]) (K := K) (by kernel_rfl) rfl (e50 a0 a1 K) h hK

/-- rollcall/rollcallref06.Check -/
def D51 (a0 : Value) (K : Value → World → Prop) (s : St) : Prop :=
  Bi P .len #[30] 3 #[false] #[a0] (fun v1 s => Bo P .eql 3 false true v1 (.int .i64 0) (fun v2 s => CondP v2 (Ret P (fun w => K (.int .i64 9) w) s) (L1 (.int .i64 0) s (fun N3 x4 s => Bi P .len #[30] 3 #[false] #[a0] (fun v5 s => Bo P .lss 3 false false x4 v5 (fun v6 s => CondP v6 (Ia P 30 a0 x4 (fun v7 s => Fa P 71 v7 0 (fun v8 s => Ld P 9 v8 (fun v9 s => Cl P 91 #[v9] (fun v10 s => Bo P .neq 3 false true v10 (.int .i64 0) (fun v11 s => CondP v11 (Ret P (fun w => K v10 w) s) (L1 (.int .i64 0) s (fun N12 x13 s => Ia P 30 a0 x4 (fun v14 s => Fa P 71 v14 1 (fun v15 s => Ld P 9 v15 (fun v16 s => Bi P .len #[9] 3 #[false] #[v16] (fun v17 s => Bo P .lss 3 false false x13 v17 (fun v18 s => CondP v18 (Ia P 30 a0 x4 (fun v19 s => Fa P 71 v19 1 (fun v20 s => Ld P 9 v20 (fun v21 s => Ix P 9 v21 x13 (fun v22 s => Bo P .eql 5 false true v22 (byteV 0) (fun v23 s => CondP v23 (Ret P (fun w => K (.int .i64 10) w) s) (Bo P .add 3 false true x13 (.int .i64 1) (fun v24 s => N12 v24 s) s)) s) s) s) s) s) (Dw (fun s => Qt (Sl P 30 a0 none (some x4) none) s fun v25 => Qt (Ia P 30 a0 x4) s fun v26 => Qt (Fa P 71 v26 0) s fun v27 => Qt (Ld P 9 v27) s fun v28 => Cl P 93 #[v25, v28] (fun v29 s => Qt (Bo P .geq 3 false true v29 (.int .i64 0)) s fun v30 => CondP v30 (Ret P (fun w => K (.int .i64 6) w) s) (Bo P .add 3 false true x4 (.int .i64 1) (fun v31 s => N3 v31 s) s)) s) s)) s) s) s) s) s))) s) s) s) s) s) (Bi P .len #[30] 3 #[false] #[a0] (fun v32 s => Bo P .gtr 3 false true v32 (.int .i64 16) (fun v33 s => CondP v33 (Ret P (fun w => K (.int .i64 7) w) s) (Ret P (fun w => K (.int .i64 0) w) s)) s) s)) s) s))) s) s
noncomputable def b51 : Code := Tryd.f51.body.getD .skip
theorem e51 (a0 : Value) (K : Value → World → Prop) : wpc P bmask 55 none b51 (lmOf [.tmp 2]) (ktOf P 55 [.tmp 2] K) (frOf [a0]) = D51 a0 K := by kernel_rfl
theorem c51 {a0 w : _} {K : Value → World → Prop} {R : Ending → World → Prop} (h : D51 a0 K ⟨w, []⟩) (hK : ∀ v w', K v w' → R (.returned v) w') : Calls P 51 #[a0] w R :=
  calls_of bodies_ok Tryd.func51 55 [.tmp 2] (c := b51) (args := [a0]) (K := K) (by kernel_rfl) rfl (e51 a0 K) h hK

/-- rollcall/rollcallref07.has -/
def D52 (a0 a1 : Value) (K : Value → World → Prop) (s : St) : Prop :=
  L1 (.int .i64 0) s (fun N1 x2 s => Bi P .len #[9] 3 #[false] #[a0] (fun v3 s => Bo P .lss 3 false false x2 v3 (fun v4 s => CondP v4 (Ix P 9 a0 x2 (fun v5 s => Bo P .eql 5 false false v5 a1 (fun v6 s => CondP v6 (Ret P (fun w => K (.bool true) w) s) (Bo P .add 3 false true x2 (.int .i64 1) (fun v7 s => N1 v7 s) s)) s) s) (Ret P (fun w => K (.bool false) w) s)) s) s)
noncomputable def b52 : Code := Tryd.f52.body.getD .skip
theorem e52 (a0 a1 : Value) (K : Value → World → Prop) : wpc P bmask 17 none b52 (lmOf [.tmp 4]) (ktOf P 17 [.tmp 4] K) (frOf [a0, a1]) = D52 a0 a1 K := by kernel_rfl
theorem c52 {a0 a1 w : _} {K : Value → World → Prop} {R : Ending → World → Prop} (h : D52 a0 a1 K ⟨w, []⟩) (hK : ∀ v w', K v w' → R (.returned v) w') : Calls P 52 #[a0, a1] w R :=
  calls_of bodies_ok Tryd.func52 17 [.tmp 4] (c := b52) (args := [a0, a1]) (K := K) (by kernel_rfl) rfl (e52 a0 a1 K) h hK

/-- rollcall/rollcallref07.plain -/
def D53 (a0 : Value) (K : Value → World → Prop) (s : St) : Prop :=
  Bx P 32 a0 (fun v1 s => J1 (fun A2 => Fa P 32 v1 0 (fun v4 s => Ld P 30 v4 (fun v5 s => Bi P .len #[30] 3 #[false] #[v5] (fun v6 s => Bo P .gtr 3 false true v6 (.int .i64 0) (fun v7 s => CondP v7 (Fa P 32 v1 0 (fun v8 s => Ld P 30 v8 (fun v9 s => Cl P 96 #[v9] (fun v10 s => Bo P .add 9 true false (.string ⟨#[64]⟩) v10 (fun v11 s => Bo P .add 9 false true v11 (.string ⟨#[32]⟩) (fun v12 s => A2 v12 s) s) s) s) s) s) (A2 (.string ⟨#[]⟩) s)) s) s) s) s) (fun x3 s => J1 (fun A13 => Fa P 32 v1 1 (fun v15 s => Ld P 9 v15 (fun v16 s => Bo P .neq 9 false true v16 (.string ⟨#[]⟩) (fun v17 s => CondP v17 (Bo P .add 9 false true x3 (.string ⟨#[58]⟩) (fun v18 s => Fa P 32 v1 1 (fun v19 s => Ld P 9 v19 (fun v20 s => Bo P .add 9 false false v18 v20 (fun v21 s => Bo P .add 9 false true v21 (.string ⟨#[32]⟩) (fun v22 s => A13 v22 s) s) s) s) s) s) (A13 x3 s)) s) s) s) (fun x14 s => Fa P 32 v1 2 (fun v23 s => Ld P 9 v23 (fun v24 s => Bo P .add 9 false false x14 v24 (fun v25 s => L2 v25 (.int .i64 0) s (fun N26 x27 x28 s => Fa P 32 v1 3 (fun v29 s => Ld P 22 v29 (fun v30 s => Bi P .len #[22] 3 #[false] #[v30] (fun v31 s => Bo P .lss 3 false false x28 v31 (fun v32 s => CondP v32 (Fa P 32 v1 3 (fun v33 s => Ld P 22 v33 (fun v34 s => Ia P 22 v34 x28 (fun v35 s => Ld P 9 v35 (fun v36 s => J1 (fun A37 => Fa P 32 v1 3 (fun v39 s => Ld P 22 v39 (fun v40 s => Bi P .len #[22] 3 #[false] #[v40] (fun v41 s => Bo P .sub 3 false true v41 (.int .i64 1) (fun v42 s => Bo P .eql 3 false false x28 v42 (fun v43 s => J1 (fun A44 => Grd v43 true (Bo P .eql 9 false true v36 (.string ⟨#[]⟩) (fun v46 s => A44 v46 s) s) (A44 undef s)) (fun x45 s => J1 (fun A47 => Grd x45 false (Ix P 9 v36 (.int .i64 0) (fun v49 s => Bo P .eql 5 false true v49 (byteV 58) (fun v50 s => A47 v50 s) s) s) (A47 undef s)) (fun x48 s => J1 (fun A51 => Grd v43 true (Pk P x45 (.bool true) x48 (fun v53 s => A51 v53 s) s) (A51 undef s)) (fun x52 s => J1 (fun A54 => Grd x52 false (Cl P 52 #[v36, byteV 32] (fun v56 s => A54 v56 s) s) (A54 undef s)) (fun x55 s => J1 (fun A57 => Grd v43 true (Pk P x52 (.bool true) x55 (fun v59 s => A57 v59 s) s) (A57 undef s)) (fun x58 s => Pk P v43 x58 (.bool false) (fun v60 s => CondP v60 (Bo P .add 9 true false (.string ⟨#[58]⟩) v36 (fun v61 s => A37 v61 s) s) (A37 v36 s)) s)))))) s) s) s) s) s) (fun x38 s => Bo P .add 9 false true x27 (.string ⟨#[32]⟩) (fun v62 s => Bo P .add 9 false false v62 x38 (fun v63 s => Bo P .add 3 false true x28 (.int .i64 1) (fun v64 s => N26 v63 v64 s) s) s) s)) s) s) s) s) (Ret P (fun w => K x27 w) s)) s) s) s) s)) s) s) s))) s
noncomputable def b53 : Code := Tryd.f53.body.getD .skip
theorem e53 (a0 : Value) (K : Value → World → Prop) : wpc P bmask 66 none b53 (lmOf [.tmp 2]) (ktOf P 66 [.tmp 2] K) (frOf [a0]) = D53 a0 K := by kernel_rfl
theorem c53 {a0 w : _} {K : Value → World → Prop} {R : Ending → World → Prop} (h : D53 a0 K ⟨w, []⟩) (hK : ∀ v w', K v w' → R (.returned v) w') : Calls P 53 #[a0] w R :=
  calls_of bodies_ok Tryd.func53 66 [.tmp 2] (c := b53) (args := [a0]) (K := K) (by kernel_rfl) rfl (e53 a0 K) h hK

/-- slices.Equal[[]rollcall/api.Tag,rollcall/api.Tag] -/
def D54 (a0 a1 : Value) (K : Value → World → Prop) (s : St) : Prop :=
  Bi P .len #[30] 3 #[false] #[a0] (fun v1 s => Bi P .len #[30] 3 #[false] #[a1] (fun v2 s => Bo P .neq 3 false false v1 v2 (fun v3 s => CondP v3 (Ret P (fun w => K (.bool false) w) s) (Bi P .len #[30] 3 #[false] #[a0] (fun v4 s => L1 (.int .i64 0) s (fun N5 x6 s => Bo P .lss 3 false false x6 v4 (fun v7 s => CondP v7 (Dw (fun s => Qt (Ia P 30 a0 x6) s fun v8 => Qt (Ld P 71 v8) s fun v9 => Qt (Ia P 30 a1 x6) s fun v10 => Qt (Ld P 71 v10) s fun v11 => Qt (Bo P .neq 71 false false v9 v11) s fun v12 => CondP v12 (Ret P (fun w => K (.bool false) w) s) (Bo P .add 3 false true x6 (.int .i64 1) (fun v13 s => N5 v13 s) s)) s) (Ret P (fun w => K (.bool true) w) s)) s)) s)) s) s) s
noncomputable def b54 : Code := Tryd.f54.body.getD .skip
theorem e54 (a0 a1 : Value) (K : Value → World → Prop) : wpc P bmask 26 none b54 (lmOf [.tmp 4]) (ktOf P 26 [.tmp 4] K) (frOf [a0, a1]) = D54 a0 a1 K := by kernel_rfl
theorem c54 {a0 a1 w : _} {K : Value → World → Prop} {R : Ending → World → Prop} (h : D54 a0 a1 K ⟨w, []⟩) (hK : ∀ v w', K v w' → R (.returned v) w') : Calls P 54 #[a0, a1] w R :=
  calls_of bodies_ok Tryd.func54 26 [.tmp 4] (c := b54) (args := [a0, a1]) (K := K) (by kernel_rfl) rfl (e54 a0 a1 K) h hK

/-- slices.Equal[[]string,string] -/
def D55 (a0 a1 : Value) (K : Value → World → Prop) (s : St) : Prop :=
  Bi P .len #[22] 3 #[false] #[a0] (fun v1 s => Bi P .len #[22] 3 #[false] #[a1] (fun v2 s => Bo P .neq 3 false false v1 v2 (fun v3 s => CondP v3 (Ret P (fun w => K (.bool false) w) s) (Bi P .len #[22] 3 #[false] #[a0] (fun v4 s => L1 (.int .i64 0) s (fun N5 x6 s => Bo P .lss 3 false false x6 v4 (fun v7 s => CondP v7 (Dw (fun s => Qt (Ia P 22 a0 x6) s fun v8 => Qt (Ld P 9 v8) s fun v9 => Qt (Ia P 22 a1 x6) s fun v10 => Qt (Ld P 9 v10) s fun v11 => Qt (Bo P .neq 9 false false v9 v11) s fun v12 => CondP v12 (Ret P (fun w => K (.bool false) w) s) (Bo P .add 3 false true x6 (.int .i64 1) (fun v13 s => N5 v13 s) s)) s) (Ret P (fun w => K (.bool true) w) s)) s)) s)) s) s) s
noncomputable def b55 : Code := Tryd.f55.body.getD .skip
theorem e55 (a0 a1 : Value) (K : Value → World → Prop) : wpc P bmask 26 none b55 (lmOf [.tmp 4]) (ktOf P 26 [.tmp 4] K) (frOf [a0, a1]) = D55 a0 a1 K := by kernel_rfl
theorem c55 {a0 a1 w : _} {K : Value → World → Prop} {R : Ending → World → Prop} (h : D55 a0 a1 K ⟨w, []⟩) (hK : ∀ v w', K v w' → R (.returned v) w') : Calls P 55 #[a0, a1] w R :=
  calls_of bodies_ok Tryd.func55 26 [.tmp 4] (c := b55) (args := [a0, a1]) (K := K) (by kernel_rfl) rfl (e55 a0 a1 K) h hK

/-- rollcall/tags.Check -/
def D56 (a0 : Value) (K : Value → World → Prop) (s : St) : Prop :=
  Bi P .len #[30] 3 #[false] #[a0] (fun v1 s => Bo P .eql 3 false true v1 (.int .i64 0) (fun v2 s => CondP v2 (Ret P (fun w => K (.int .i64 9) w) s) (Bi P .len #[30] 3 #[false] #[a0] (fun v3 s => L1 (.int .i64 0) s (fun N4 x5 s => Bo P .lss 3 false false x5 v3 (fun v6 s => CondP v6 (Ia P 30 a0 x5 (fun v7 s => Ld P 71 v7 (fun v8 s => Al P 71 (fun v9 s => Sv P 71 v9 v8 (fun _ s => Fa P 71 v9 0 (fun v10 s => Ld P 9 v10 (fun v11 s => Cl P 83 #[v11] (fun v12 s => Bo P .neq 33 false true v12 (.int .i64 0) (fun v13 s => CondP v13 (Ret P (fun w => K v12 w) s) (Fa P 71 v9 1 (fun v14 s => Ld P 9 v14 (fun v15 s => Cl P 97 #[v15, byteV 0] (fun v16 s => Bo P .geq 3 false true v16 (.int .i64 0) (fun v17 s => CondP v17 (Ret P (fun w => K (.int .i64 10) w) s) (Dw (fun s => Qt (Sl P 30 a0 none (some x5) none) s fun v18 => Qt (Fa P 71 v9 0) s fun v19 => Qt (Ld P 9 v19) s fun v20 => Cl P 98 #[v18, v20] (fun v21 s => Qt (Ex P v21 0) s fun v22 => Qt (Ex P v21 1) s fun v23 => CondP v23 (Ret P (fun w => K (.int .i64 6) w) s) (Bo P .add 3 false true x5 (.int .i64 1) (fun v24 s => N4 v24 s) s)) s) s)) s) s) s) s)) s) s) s) s) s) s) s) s) (Bi P .len #[30] 3 #[false] #[a0] (fun v25 s => Bo P .gtr 3 false true v25 (.int .i64 16) (fun v26 s => CondP v26 (Ret P (fun w => K (.int .i64 7) w) s) (Ret P (fun w => K (.int .i64 0) w) s)) s) s)) s)) s)) s) s
noncomputable def b56 : Code := Tryd.f56.body.getD .skip
theorem e56 (a0 : Value) (K : Value → World → Prop) : wpc P bmask 42 none b56 (lmOf [.tmp 2]) (ktOf P 42 [.tmp 2] K) (frOf [a0]) = D56 a0 K := by kernel_rfl
theorem c56 {a0 w : _} {K : Value → World → Prop} {R : Ending → World → Prop} (h : D56 a0 K ⟨w, []⟩) (hK : ∀ v w', K v w' → R (.returned v) w') : Calls P 56 #[a0] w R :=
  calls_of bodies_ok Tryd.func56 42 [.tmp 2] (c := b56) (args := [a0]) (K := K) (by kernel_rfl) rfl (e56 a0 K) h hK

/-- strings.Contains -/
def D57 (a0 a1 : Value) (K : Value → World → Prop) (s : St) : Prop :=
  Cl P 99 #[a0, a1] (fun v1 s => Bo P .geq 3 false true v1 (.int .i64 0) (fun v2 s => Ret P (fun w => K v2 w) s) s) s
noncomputable def b57 : Code := Tryd.f57.body.getD .skip
theorem e57 (a0 a1 : Value) (K : Value → World → Prop) : wpc P bmask 9 none b57 (lmOf [.tmp 4]) (ktOf P 9 [.tmp 4] K) (frOf [a0, a1]) = D57 a0 a1 K := by kernel_rfl
theorem c57 {a0 a1 w : _} {K : Value → World → Prop} {R : Ending → World → Prop} (h : D57 a0 a1 K ⟨w, []⟩) (hK : ∀ v w', K v w' → R (.returned v) w') : Calls P 57 #[a0, a1] w R :=
  calls_of bodies_ok Tryd.func57 9 [.tmp 4] (c := b57) (args := [a0, a1]) (K := K) (by kernel_rfl) rfl (e57 a0 a1 K) h hK

/-- slices.ContainsFunc[[]string,string] -/
def D58 (a0 a1 : Value) (K : Value → World → Prop) (s : St) : Prop :=
  Cl P 100 #[a0, a1] (fun v1 s => Bo P .geq 3 false true v1 (.int .i64 0) (fun v2 s => Ret P (fun w => K v2 w) s) s) s
noncomputable def b58 : Code := Tryd.f58.body.getD .skip
theorem e58 (a0 a1 : Value) (K : Value → World → Prop) : wpc P bmask 9 none b58 (lmOf [.tmp 4]) (ktOf P 9 [.tmp 4] K) (frOf [a0, a1]) = D58 a0 a1 K := by kernel_rfl
theorem c58 {a0 a1 w : _} {K : Value → World → Prop} {R : Ending → World → Prop} (h : D58 a0 a1 K ⟨w, []⟩) (hK : ∀ v w', K v w' → R (.returned v) w') : Calls P 58 #[a0, a1] w R :=
  calls_of bodies_ok Tryd.func58 9 [.tmp 4] (c := b58) (args := [a0, a1]) (K := K) (by kernel_rfl) rfl (e58 a0 a1 K) h hK

/-- rollcall/message.Check$1 -/
def D59 (a0 : Value) (K : Value → World → Prop) (s : St) : Prop :=
  Cl P 37 #[a0] (fun v1 s => Uo P .not v1 (fun v2 s => Ret P (fun w => K v2 w) s) s) s
noncomputable def b59 : Code := Tryd.f59.body.getD .skip
theorem e59 (a0 : Value) (K : Value → World → Prop) : wpc P bmask 6 none b59 (lmOf [.tmp 2]) (ktOf P 6 [.tmp 2] K) (frOf [a0]) = D59 a0 K := by kernel_rfl
theorem c59 {a0 w : _} {K : Value → World → Prop} {R : Ending → World → Prop} (h : D59 a0 K ⟨w, []⟩) (hK : ∀ v w', K v w' → R (.returned v) w') : Calls P 59 #[a0] w R :=
  calls_of bodies_ok Tryd.func59 6 [.tmp 2] (c := b59) (args := [a0]) (K := K) (by kernel_rfl) rfl (e59 a0 K) h hK

/-- slices.Contains[[]string,string] -/
def D60 (a0 a1 : Value) (K : Value → World → Prop) (s : St) : Prop :=
  Cl P 101 #[a0, a1] (fun v1 s => Bo P .geq 3 false true v1 (.int .i64 0) (fun v2 s => Ret P (fun w => K v2 w) s) s) s
noncomputable def b60 : Code := Tryd.f60.body.getD .skip
theorem e60 (a0 a1 : Value) (K : Value → World → Prop) : wpc P bmask 9 none b60 (lmOf [.tmp 4]) (ktOf P 9 [.tmp 4] K) (frOf [a0, a1]) = D60 a0 a1 K := by kernel_rfl
theorem c60 {a0 a1 w : _} {K : Value → World → Prop} {R : Ending → World → Prop} (h : D60 a0 a1 K ⟨w, []⟩) (hK : ∀ v w', K v w' → R (.returned v) w') : Calls P 60 #[a0, a1] w R :=
  calls_of bodies_ok Tryd.func60 9 [.tmp 4] (c := b60) (args := [a0, a1]) (K := K) (by kernel_rfl) rfl (e60 a0 a1 K) h hK

/-- rollcall/message.spare -/
def D61 (a0 : Value) (K : Value → World → Prop) (s : St) : Prop :=
  Bo P .eql 9 false true a0 (.string ⟨#[]⟩) (fun v1 s => J1 (fun A2 => Grd v1 false (Ix P 9 a0 (.int .i64 0) (fun v4 s => Bo P .eql 5 false true v4 (byteV 58) (fun v5 s => A2 v5 s) s) s) (A2 undef s)) (fun x3 s => Pk P v1 (.bool true) x3 (fun v6 s => J1 (fun A7 => Grd v6 false (Cl P 57 #[a0, .string ⟨#[32]⟩] (fun v9 s => A7 v9 s) s) (A7 undef s)) (fun x8 s => Pk P v6 (.bool true) x8 (fun v10 s => Ret P (fun w => K v10 w) s) s)) s)) s
noncomputable def b61 : Code := Tryd.f61.body.getD .skip
theorem e61 (a0 : Value) (K : Value → World → Prop) : wpc P bmask 14 none b61 (lmOf [.tmp 2]) (ktOf P 14 [.tmp 2] K) (frOf [a0]) = D61 a0 K := by kernel_rfl
theorem c61 {a0 w : _} {K : Value → World → Prop} {R : Ending → World → Prop} (h : D61 a0 K ⟨w, []⟩) (hK : ∀ v w', K v w' → R (.returned v) w') : Calls P 61 #[a0] w R :=
  calls_of bodies_ok Tryd.func61 14 [.tmp 2] (c := b61) (args := [a0]) (K := K) (by kernel_rfl) rfl (e61 a0 K) h hK

/-- rollcall/message.text -/
def D62 (a0 : Value) (K : Value → World → Prop) (s : St) : Prop :=
  Bx P 32 a0 (fun v1 s => Al P 107 (fun v2 s => J0 (fun A3 => Fa P 32 v1 0 (fun v4 s => Ld P 30 v4 (fun v5 s => Bi P .len #[30] 3 #[false] #[v5] (fun v6 s => Bo P .gtr 3 false true v6 (.int .i64 0) (fun v7 s => CondP v7 (Fa P 32 v1 0 (fun v8 s => Ld P 30 v8 (fun v9 s => Cl P 103 #[v9] (fun v10 s => Bo P .add 9 true false (.string ⟨#[64]⟩) v10 (fun v11 s => Bo P .add 9 false true v11 (.string ⟨#[32]⟩) (fun v12 s => Cl P 102 #[v2, v12] (fun _ s => A3 s) s) s) s) s) s) s) (A3 s)) s) s) s) s) (fun s => J0 (fun A14 => Fa P 32 v1 1 (fun v15 s => Ld P 9 v15 (fun v16 s => Bo P .neq 9 false true v16 (.string ⟨#[]⟩) (fun v17 s => CondP v17 (Fa P 32 v1 1 (fun v18 s => Ld P 9 v18 (fun v19 s => Bo P .add 9 true false (.string ⟨#[58]⟩) v19 (fun v20 s => Bo P .add 9 false true v20 (.string ⟨#[32]⟩) (fun v21 s => Cl P 102 #[v2, v21] (fun _ s => A14 s) s) s) s) s) s) (A14 s)) s) s) s) (fun s => Fa P 32 v1 2 (fun v23 s => Ld P 9 v23 (fun v24 s => Cl P 102 #[v2, v24] (fun _ s => Fa P 32 v1 3 (fun v26 s => Ld P 22 v26 (fun v27 s => Bi P .len #[22] 3 #[false] #[v27] (fun v28 s => L1 (.int .i64 0) s (fun N29 x30 s => Bo P .lss 3 false false x30 v28 (fun v31 s => CondP v31 (Ia P 22 v27 x30 (fun v32 s => Ld P 9 v32 (fun v33 s => Cl P 104 #[v2, byteV 32] (fun _ s => J0 (fun A35 => Fa P 32 v1 3 (fun v36 s => Ld P 22 v36 (fun v37 s => Bi P .len #[22] 3 #[false] #[v37] (fun v38 s => Bo P .sub 3 false true v38 (.int .i64 1) (fun v39 s => Bo P .eql 3 false false x30 v39 (fun v40 s => J1 (fun A41 => Grd v40 true (Cl P 61 #[v33] (fun v43 s => A41 v43 s) s) (A41 undef s)) (fun x42 s => Pk P v40 x42 (.bool false) (fun v44 s => CondP v44 (Cl P 104 #[v2, byteV 58] (fun _ s => A35 s) s) (A35 s)) s)) s) s) s) s) s) (fun s => Cl P 102 #[v2, v33] (fun _ s => Bo P .add 3 false true x30 (.int .i64 1) (fun v47 s => N29 v47 s) s) s)) s) s) s) (Cl P 105 #[v2] (fun v48 s => Ret P (fun w => K v48 w) s) s)) s)) s) s) s) s) s) s))) s) s
noncomputable def b62 : Code := Tryd.f62.body.getD .skip
theorem e62 (a0 : Value) (K : Value → World → Prop) : wpc P bmask 51 none b62 (lmOf [.tmp 2]) (ktOf P 51 [.tmp 2] K) (frOf [a0]) = D62 a0 K := by kernel_rfl
theorem c62 {a0 w : _} {K : Value → World → Prop} {R : Ending → World → Prop} (h : D62 a0 K ⟨w, []⟩) (hK : ∀ v w', K v w' → R (.returned v) w') : Calls P 62 #[a0] w R :=
  calls_of bodies_ok Tryd.func62 51 [.tmp 2] (c := b62) (args := [a0]) (K := K) (by kernel_rfl) rfl (e62 a0 K) h hK

/-- rollcall/reply.Pack$1 -/
def D63 (a0 a1 a2 a3 a4 : Value) (K : Value → World → Prop) (s : St) : Prop :=
  J1 (fun A1 => Dw (fun s => Qt (Ld P 9 a1) s fun v3 => Qt (Ld P 3 a2) s fun v4 => Qt (Ld P 9 a3) s fun v5 => Qt (Ld P 22 a4) s fun v6 => (Bi P .append #[22, 22] 22 #[true, false] #[.slice none 0 0, v6] (fun v7 s => Ck (Ld P 9 a1) v3 s ∧ Ck (Ld P 3 a2) v4 s ∧ Ck (Ld P 9 a3) v5 s ∧ (Bs P 22 1 #[(0, a0)] (fun v8 s => Ck (Ld P 9 a1) v3 s ∧ Ck (Ld P 3 a2) v4 s ∧ Ck (Ld P 9 a3) v5 s ∧ (Bi P .append #[22, 22] 22 #[false, false] #[v7, v8] (fun v9 s => Ck (Ld P 9 a1) v3 s ∧ Ck (Ld P 3 a2) v4 s ∧ Ck (Ld P 9 a3) v5 s ∧ (Cl P 12 #[v3, v4, v5, v9] (fun v10 s => A1 v10 s) s)) s)) s)) s) ∧ (Bs P 22 1 #[(0, a0)] (fun v11 s => Ck (Ld P 9 a1) v3 s ∧ Ck (Ld P 3 a2) v4 s ∧ Ck (Ld P 9 a3) v5 s ∧ Ck (Ld P 22 a4) v6 s ∧ (Bi P .append #[22, 22] 22 #[true, false] #[.slice none 0 0, v6] (fun v12 s => Ck (Ld P 9 a1) v3 s ∧ Ck (Ld P 3 a2) v4 s ∧ Ck (Ld P 9 a3) v5 s ∧ (Bi P .append #[22, 22] 22 #[false, false] #[v12, v11] (fun v13 s => Ck (Ld P 9 a1) v3 s ∧ Ck (Ld P 3 a2) v4 s ∧ Ck (Ld P 9 a3) v5 s ∧ (Cl P 12 #[v3, v4, v5, v13] (fun v14 s => A1 v14 s) s)) s)) s)) s)) s) (fun x2 s => Ret P (fun w => K x2 w) s)
noncomputable def b63 : Code := Tryd.f63.body.getD .skip
theorem e63 (a0 a1 a2 a3 a4 : Value) (K : Value → World → Prop) : wpc P bmask 16 none b63 (lmOf [.tmp 6]) (ktOf P 16 [.tmp 6] K) (frOf [a0, a1, a2, a3, a4]) = D63 a0 a1 a2 a3 a4 K := by kernel_rfl
theorem c63 {a0 a1 a2 a3 a4 w : _} {K : Value → World → Prop} {R : Ending → World → Prop} (h : D63 a0 a1 a2 a3 a4 K ⟨w, []⟩) (hK : ∀ v w', K v w' → R (.returned v) w') : Calls P 63 #[a0, a1, a2, a3, a4] w R :=
  calls_of bodies_ok Tryd.func63 16 [.tmp 6] (c := b63) (args := [a0, a1, a2, a3, a4]) (K := K) (by kernel_rfl) rfl (e63 a0 a1 a2 a3 a4 K) h hK

/-- rollcall/reply.Pack$2 -/
def D64 (a0 a1 a2 a3 a4 : Value) (K : Value → World → Prop) (s : St) : Prop :=
  J0 (fun A1 => Ld P 9 a1 (fun v2 s => Bo P .neq 9 false true v2 (.string ⟨#[]⟩) (fun v3 s => J1 (fun A4 => Grd v3 true (Ld P 3 a2 (fun v6 s => Bo P .add 3 false true v6 (.int .i64 1) (fun v7 s => Ld P 9 a1 (fun v8 s => Bi P .len #[9] 3 #[false] #[v8] (fun v9 s => Bo P .add 3 false false v7 v9 (fun v10 s => Bo P .add 3 false true v10 (.int .i64 1) (fun v11 s => Bi P .len #[9] 3 #[false] #[a0] (fun v12 s => Bo P .add 3 false false v11 v12 (fun v13 s => Bo P .gtr 3 false true v13 (.int .i64 510) (fun v14 s => A4 v14 s) s) s) s) s) s) s) s) s) s) (A4 undef s)) (fun x5 s => Pk P v3 x5 (.bool false) (fun v15 s => CondP v15 (Dw (fun s => Qt (Ld P 22 a3) s fun v16 => Qt (Ld P 64 a4) s fun v17 => Qt (Ld P 9 a1) s fun v18 => Dy P v17 #[v18] (fun v19 s => Ck (Ld P 22 a3) v16 s ∧ (Bs P 22 1 #[(0, v19)] (fun v20 s => Ck (Ld P 22 a3) v16 s ∧ (Bi P .append #[22, 22] 22 #[false, false] #[v16, v20] (fun v21 s => Sv P 22 a3 v21 (fun _ s => Sv P 9 a1 (.string ⟨#[]⟩) (fun _ s => A1 s) s) s) s)) s)) s) s) (A1 s)) s)) s) s) (fun s => J0 (fun A22 => Ld P 9 a1 (fun v23 s => Bo P .neq 9 false true v23 (.string ⟨#[]⟩) (fun v24 s => CondP v24 (Ld P 9 a1 (fun v25 s => Bo P .add 9 false true v25 (.string ⟨#[32]⟩) (fun v26 s => Sv P 9 a1 v26 (fun _ s => A22 s) s) s) s) (A22 s)) s) s) (fun s => Ld P 9 a1 (fun v27 s => Bo P .add 9 false false v27 a0 (fun v28 s => Sv P 9 a1 v28 (fun _ s => Ret P (fun w => K (.tuple #[]) w) s) s) s) s))
noncomputable def b64 : Code := Tryd.f64.body.getD .skip
theorem e64 (a0 a1 a2 a3 a4 : Value) (K : Value → World → Prop) : wpc P bmask 33 none b64 (lmOf []) (ktOf P 33 [] K) (frOf [a0, a1, a2, a3, a4]) = D64 a0 a1 a2 a3 a4 K := by kernel_rfl
theorem c64 {a0 a1 a2 a3 a4 w : _} {K : Value → World → Prop} {R : Ending → World → Prop} (h : D64 a0 a1 a2 a3 a4 K ⟨w, []⟩) (hK : ∀ v w', K v w' → R (.returned v) w') : Calls P 64 #[a0, a1, a2, a3, a4] w R :=
  calls_of bodies_ok Tryd.func64 33 [] (c := b64) (args := [a0, a1, a2, a3, a4]) (K := K) (by kernel_rfl) rfl (e64 a0 a1 a2 a3 a4 K) h hK

/-- rollcall/reply.word -/
def D65 (a0 : Value) (K : Value → World → Prop) (s : St) : Prop :=
  Bi P .len #[9] 3 #[false] #[a0] (fun v1 s => Cl P 69 #[a0, v1] (fun v2 s => Cl P 76 #[v2, .string ⟨#[32]⟩, .string ⟨#[]⟩] (fun v3 s => Ret P (fun w => K v3 w) s) s) s) s
noncomputable def b65 : Code := Tryd.f65.body.getD .skip
theorem e65 (a0 : Value) (K : Value → World → Prop) : wpc P bmask 8 none b65 (lmOf [.tmp 2]) (ktOf P 8 [.tmp 2] K) (frOf [a0]) = D65 a0 K := by kernel_rfl
theorem c65 {a0 w : _} {K : Value → World → Prop} {R : Ending → World → Prop} (h : D65 a0 K ⟨w, []⟩) (hK : ∀ v w', K v w' → R (.returned v) w') : Calls P 65 #[a0] w R :=
  calls_of bodies_ok Tryd.func65 8 [.tmp 2] (c := b65) (args := [a0]) (K := K) (by kernel_rfl) rfl (e65 a0 K) h hK

/-- rollcall/rollcalllaw14.listed$1 -/
def D66 (a0 a1 : Value) (K : Value → World → Prop) (s : St) : Prop :=
  L1 (.int .i64 0) s (fun N1 x2 s => Ld P 22 a1 (fun v3 s => Bi P .len #[22] 3 #[false] #[v3] (fun v4 s => Bo P .lss 3 false false x2 v4 (fun v5 s => CondP v5 (Ld P 22 a1 (fun v6 s => Ia P 22 v6 x2 (fun v7 s => Ld P 9 v7 (fun v8 s => Dy P a0 #[v8] (fun v9 s => Uo P .not v9 (fun v10 s => CondP v10 (Ret P (fun w => K (.tuple #[]) w) s) (Bo P .add 3 false true x2 (.int .i64 1) (fun v11 s => N1 v11 s) s)) s) s) s) s) s) (Ret P (fun w => K (.tuple #[]) w) s)) s) s) s)
noncomputable def b66 : Code := Tryd.f66.body.getD .skip
theorem e66 (a0 a1 : Value) (K : Value → World → Prop) : wpc P bmask 17 none b66 (lmOf []) (ktOf P 17 [] K) (frOf [a0, a1]) = D66 a0 a1 K := by kernel_rfl
theorem c66 {a0 a1 w : _} {K : Value → World → Prop} {R : Ending → World → Prop} (h : D66 a0 a1 K ⟨w, []⟩) (hK : ∀ v w', K v w' → R (.returned v) w') : Calls P 66 #[a0, a1] w R :=
  calls_of bodies_ok Tryd.func66 17 [] (c := b66) (args := [a0, a1]) (K := K) (by kernel_rfl) rfl (e66 a0 a1 K) h hK

/-- rollcall/reply.Told -/
def D67 (a0 a1 a2 a3 : Value) (K : Value → World → Prop) (s : St) : Prop :=
  Bi P .append #[22, 22] 22 #[true, false] #[.slice none 0 0, a3] (fun v1 s => Cl P 106 #[a1] (fun v2 s => Bs P 22 1 #[(0, v2)] (fun v3 s => Bi P .append #[22, 22] 22 #[false, false] #[v1, v3] (fun v4 s => Cl P 12 #[a0, a1, a2, v4] (fun v5 s => Ret P (fun w => K v5 w) s) s) s) s) s) s
noncomputable def b67 : Code := Tryd.f67.body.getD .skip
theorem e67 (a0 a1 a2 a3 : Value) (K : Value → World → Prop) : wpc P bmask 19 none b67 (lmOf [.tmp 8]) (ktOf P 19 [.tmp 8] K) (frOf [a0, a1, a2, a3]) = D67 a0 a1 a2 a3 K := by kernel_rfl
theorem c67 {a0 a1 a2 a3 w : _} {K : Value → World → Prop} {R : Ending → World → Prop} (h : D67 a0 a1 a2 a3 K ⟨w, []⟩) (hK : ∀ v w', K v w' → R (.returned v) w') : Calls P 67 #[a0, a1, a2, a3] w R :=
  calls_of bodies_ok Tryd.func67 19 [.tmp 8] (c := b67) (args := [a0, a1, a2, a3]) (K := K) (by kernel_rfl) rfl (e67 a0 a1 a2 a3 K) h hK

/-- rollcall/valid.User -/
def D68 (a0 : Value) (K : Value → World → Prop) (s : St) : Prop :=
  Cl P 78 #[a0, .int .i64 1, .int .i64 10, .int .u16 8] (fun v1 s => Ret P (fun w => K v1 w) s) s
noncomputable def b68 : Code := Tryd.f68.body.getD .skip
theorem e68 (a0 : Value) (K : Value → World → Prop) : wpc P bmask 5 none b68 (lmOf [.tmp 2]) (ktOf P 5 [.tmp 2] K) (frOf [a0]) = D68 a0 K := by kernel_rfl
theorem c68 {a0 w : _} {K : Value → World → Prop} {R : Ending → World → Prop} (h : D68 a0 K ⟨w, []⟩) (hK : ∀ v w', K v w' → R (.returned v) w') : Calls P 68 #[a0] w R :=
  calls_of bodies_ok Tryd.func68 5 [.tmp 2] (c := b68) (args := [a0]) (K := K) (by kernel_rfl) rfl (e68 a0 K) h hK

/-- rollcall/valid.Clean -/
def D69 (a0 a1 : Value) (K : Value → World → Prop) (s : St) : Prop :=
  Cl P 107 #[] (fun v1 s => Al P 114 (fun v2 s => Sv P 114 v2 v1 (fun _ s => Al P 107 (fun v3 s => L1 (.int .i64 0) s (fun N4 x5 s => Bi P .len #[9] 3 #[false] #[a0] (fun v6 s => Bo P .lss 3 false false x5 v6 (fun v7 s => J1 (fun A8 => Grd v7 true (Cl P 108 #[v3] (fun v10 s => Bo P .lss 3 false false v10 a1 (fun v11 s => A8 v11 s) s) s) (A8 undef s)) (fun x9 s => Pk P v7 x9 (.bool false) (fun v12 s => CondP v12 (J0 (fun A13 => Ix P 9 a0 x5 (fun v14 s => Ia P 114 v2 v14 (fun v15 s => Ld P 87 v15 (fun v16 s => Bo P .and 87 false true v16 (.int .u16 64) (fun v17 s => Bo P .neq 87 false true v17 (.int .u16 0) (fun v18 s => CondP v18 (Ix P 9 a0 x5 (fun v19 s => Cl P 104 #[v3, v19] (fun _ s => A13 s) s) s) (A13 s)) s) s) s) s) s) (fun s => Bo P .add 3 false true x5 (.int .i64 1) (fun v21 s => N4 v21 s) s)) (Cl P 105 #[v3] (fun v22 s => Ret P (fun w => K v22 w) s) s)) s)) s) s)) s) s) s) s
noncomputable def b69 : Code := Tryd.f69.body.getD .skip
theorem e69 (a0 a1 : Value) (K : Value → World → Prop) : wpc P bmask 32 none b69 (lmOf [.tmp 4]) (ktOf P 32 [.tmp 4] K) (frOf [a0, a1]) = D69 a0 a1 K := by kernel_rfl
theorem c69 {a0 a1 w : _} {K : Value → World → Prop} {R : Ending → World → Prop} (h : D69 a0 a1 K ⟨w, []⟩) (hK : ∀ v w', K v w' → R (.returned v) w') : Calls P 69 #[a0, a1] w R :=
  calls_of bodies_ok Tryd.func69 32 [.tmp 4] (c := b69) (args := [a0, a1]) (K := K) (by kernel_rfl) rfl (e69 a0 a1 K) h hK

/-- rollcall/sign.capitals -/
def D70 (a0 : Value) (K : Value → World → Prop) (s : St) : Prop :=
  Cl P 109 #[.func (.func 110) #[] #[], a0] (fun v1 s => Ret P (fun w => K v1 w) s) s
noncomputable def b70 : Code := Tryd.f70.body.getD .skip
theorem e70 (a0 : Value) (K : Value → World → Prop) : wpc P bmask 5 none b70 (lmOf [.tmp 2]) (ktOf P 5 [.tmp 2] K) (frOf [a0]) = D70 a0 K := by kernel_rfl
theorem c70 {a0 w : _} {K : Value → World → Prop} {R : Ending → World → Prop} (h : D70 a0 K ⟨w, []⟩) (hK : ∀ v w', K v w' → R (.returned v) w') : Calls P 70 #[a0] w R :=
  calls_of bodies_ok Tryd.func70 5 [.tmp 2] (c := b70) (args := [a0]) (K := K) (by kernel_rfl) rfl (e70 a0 K) h hK

/-- rollcall/sign.param -/
def D71 (a0 a1 : Value) (K : Value → World → Prop) (s : St) : Prop :=
  Bi P .len #[22] 3 #[false] #[a0] (fun v1 s => Bo P .geq 3 false false a1 v1 (fun v2 s => CondP v2 (Ret P (fun w => K (.string ⟨#[]⟩) w) s) (Ia P 22 a0 a1 (fun v3 s => Ld P 9 v3 (fun v4 s => Ret P (fun w => K v4 w) s) s) s)) s) s
noncomputable def b71 : Code := Tryd.f71.body.getD .skip
theorem e71 (a0 a1 : Value) (K : Value → World → Prop) : wpc P bmask 13 none b71 (lmOf [.tmp 4]) (ktOf P 13 [.tmp 4] K) (frOf [a0, a1]) = D71 a0 a1 K := by kernel_rfl
theorem c71 {a0 a1 w : _} {K : Value → World → Prop} {R : Ending → World → Prop} (h : D71 a0 a1 K ⟨w, []⟩) (hK : ∀ v w', K v w' → R (.returned v) w') : Calls P 71 #[a0, a1] w R :=
  calls_of bodies_ok Tryd.func71 13 [.tmp 4] (c := b71) (args := [a0, a1]) (K := K) (by kernel_rfl) rfl (e71 a0 a1 K) h hK

/-- rollcall/sign.Cap$1 -/
def D72 (a0 a1 a2 a3 : Value) (K : Value → World → Prop) (s : St) : Prop :=
  Dw (fun s => Qt (Ld P 9 a2) s fun v1 => Qt (Ld P 52 a3) s fun v2 => Cl P 73 #[v2] (fun v3 s => Ck (Ld P 9 a2) v1 s ∧ (Bs P 22 3 #[(0, v3), (1, a0), (2, a1)] (fun v4 s => Ck (Ld P 9 a2) v1 s ∧ (Cl P 35 #[v1, .string ⟨#[67, 65, 80]⟩, v4] (fun v5 s => Bs P 22 1 #[(0, v5)] (fun v6 s => Ret P (fun w => K v6 w) s) s) s)) s)) s) s
noncomputable def b72 : Code := Tryd.f72.body.getD .skip
theorem e72 (a0 a1 a2 a3 : Value) (K : Value → World → Prop) : wpc P bmask 15 none b72 (lmOf [.tmp 6]) (ktOf P 15 [.tmp 6] K) (frOf [a0, a1, a2, a3]) = D72 a0 a1 a2 a3 K := by kernel_rfl
theorem c72 {a0 a1 a2 a3 w : _} {K : Value → World → Prop} {R : Ending → World → Prop} (h : D72 a0 a1 a2 a3 K ⟨w, []⟩) (hK : ∀ v w', K v w' → R (.returned v) w') : Calls P 72 #[a0, a1, a2, a3] w R :=
  calls_of bodies_ok Tryd.func72 15 [.tmp 6] (c := b72) (args := [a0, a1, a2, a3]) (K := K) (by kernel_rfl) rfl (e72 a0 a1 a2 a3 K) h hK

/-- rollcall/sign.to -/
def D73 (a0 : Value) (K : Value → World → Prop) (s : St) : Prop :=
  Bx P 52 a0 (fun v1 s => Fa P 52 v1 3 (fun v2 s => Ld P 9 v2 (fun v3 s => Bo P .eql 9 false true v3 (.string ⟨#[]⟩) (fun v4 s => CondP v4 (Ret P (fun w => K (.string ⟨#[42]⟩) w) s) (Fa P 52 v1 3 (fun v5 s => Ld P 9 v5 (fun v6 s => Ret P (fun w => K v6 w) s) s) s)) s) s) s) s
noncomputable def b73 : Code := Tryd.f73.body.getD .skip
theorem e73 (a0 : Value) (K : Value → World → Prop) : wpc P bmask 8 none b73 (lmOf [.tmp 2]) (ktOf P 8 [.tmp 2] K) (frOf [a0]) = D73 a0 K := by kernel_rfl
theorem c73 {a0 w : _} {K : Value → World → Prop} {R : Ending → World → Prop} (h : D73 a0 K ⟨w, []⟩) (hK : ∀ v w', K v w' → R (.returned v) w') : Calls P 73 #[a0] w R :=
  calls_of bodies_ok Tryd.func73 8 [.tmp 2] (c := b73) (args := [a0]) (K := K) (by kernel_rfl) rfl (e73 a0 K) h hK

/-- rollcall/caps.Text -/
def D74 (a0 : Value) (K : Value → World → Prop) (s : St) : Prop :=
  Bx P 3 a0 (fun v1 s => Al P 22 (fun v2 s => Cl P 111 #[] (fun v3 s => Rf P none 2 v3 (fun l4 as5 R6 s => Bg P l4 (fun s => Ld P 3 v1 (fun v8 s => Bo P .and 3 false false v8 (as5.tail.headD undef) (fun v9 s => Bo P .neq 3 false true v9 (.int .i64 0) (fun v10 s => CondP v10 (Ld P 22 v2 (fun v11 s => Bs P 22 1 #[(0, as5.headD undef)] (fun v12 s => Bi P .append #[22, 22] 22 #[false, false] #[v11, v12] (fun v13 s => Sv P 22 v2 v13 (fun _ s => Er P l4 none R6 s) s) s) s) s) (Er P l4 none R6 s)) s) s) s) s) (fun s => Ld P 22 v2 (fun v14 s => Cl P 112 #[v14, .string ⟨#[32]⟩] (fun v15 s => Ret P (fun w => K v15 w) s) s) s) (fun s => Ret P (fun w => K (.string ⟨#[]⟩) w) s) (fun i7 s => False) s) s) s) s
noncomputable def b74 : Code := Tryd.f74.body.getD .skip
theorem e74 (a0 : Value) (K : Value → World → Prop) : wpc P bmask 19 none b74 (lmOf [.tmp 2]) (ktOf P 19 [.tmp 2] K) (frOf [a0]) = D74 a0 K := by kernel_rfl
theorem c74 {a0 w : _} {K : Value → World → Prop} {R : Ending → World → Prop} (h : D74 a0 K ⟨w, []⟩) (hK : ∀ v w', K v w' → R (.returned v) w') : Calls P 74 #[a0] w R :=
  calls_of bodies_ok Tryd.func74 19 [.tmp 2] (c := b74) (args := [a0]) (K := K) (by kernel_rfl) rfl (e74 a0 K) h hK

/-- rollcall/caps.Apply -/
def D75 (a0 a1 : Value) (K : Value → World → Prop) (s : St) : Prop :=
  Cl P 82 #[a1, .string ⟨#[32]⟩] (fun v1 s => Bi P .len #[22] 3 #[false] #[v1] (fun v2 s => L2 a0 (.int .i64 0) s (fun N3 x4 x5 s => Bo P .lss 3 false false x5 v2 (fun v6 s => CondP v6 (J1 (fun A7 => Ia P 22 v1 x5 (fun v9 s => Ld P 9 v9 (fun v10 s => Bo P .eql 9 false true v10 (.string ⟨#[]⟩) (fun v11 s => CondP v11 (A7 x4 s) (Cl P 89 #[v10, .string ⟨#[45]⟩] (fun v12 s => Ex P v12 0 (fun v13 s => Ex P v12 1 (fun v14 s => Cl P 113 #[v13] (fun v15 s => Bo P .eql 3 false true v15 (.int .i64 0) (fun v16 s => CondP v16 (Ret P (fun w => K (.tuple #[a0, .bool false]) w) s) (CondP v14 (Bo P .andNot 3 false false x4 v15 (fun v17 s => A7 v17 s) s) (Bo P .or 3 false false x4 v15 (fun v18 s => A7 v18 s) s))) s) s) s) s) s)) s) s) s) (fun x8 s => Bo P .add 3 false true x5 (.int .i64 1) (fun v19 s => N3 x8 v19 s) s)) (Ret P (fun w => K (.tuple #[x4, .bool true]) w) s)) s)) s) s
noncomputable def b75 : Code := Tryd.f75.body.getD .skip
theorem e75 (a0 a1 : Value) (K : Value → World → Prop) : wpc P bmask 43 none b75 (lmOf [.tmp 4, .tmp 5]) (ktOf P 43 [.tmp 4, .tmp 5] K) (frOf [a0, a1]) = D75 a0 a1 K := by kernel_rfl
theorem c75 {a0 a1 w : _} {K : Value → World → Prop} {R : Ending → World → Prop} (h : D75 a0 a1 K ⟨w, []⟩) (hK : ∀ v w', K v w' → R (.returned v) w') : Calls P 75 #[a0, a1] w R :=
  calls_of bodies_ok Tryd.func75 43 [.tmp 4, .tmp 5] (c := b75) (args := [a0, a1]) (K := K) (by kernel_rfl) rfl (e75 a0 a1 K) h hK

/-- strings.ReplaceAll -/
def D76 (a0 a1 a2 : Value) (K : Value → World → Prop) (s : St) : Prop :=
  Cl P 114 #[a0, a1, a2, .int .i64 (-1)] (fun v1 s => Ret P (fun w => K v1 w) s) s
noncomputable def b76 : Code := Tryd.f76.body.getD .skip
theorem e76 (a0 a1 a2 : Value) (K : Value → World → Prop) : wpc P bmask 11 none b76 (lmOf [.tmp 6]) (ktOf P 11 [.tmp 6] K) (frOf [a0, a1, a2]) = D76 a0 a1 a2 K := by kernel_rfl
theorem c76 {a0 a1 a2 w : _} {K : Value → World → Prop} {R : Ending → World → Prop} (h : D76 a0 a1 a2 K ⟨w, []⟩) (hK : ∀ v w', K v w' → R (.returned v) w') : Calls P 76 #[a0, a1, a2] w R :=
  calls_of bodies_ok Tryd.func76 11 [.tmp 6] (c := b76) (args := [a0, a1, a2]) (K := K) (by kernel_rfl) rfl (e76 a0 a1 a2 K) h hK

/-- rollcall/message.middle -/
def D77 (a0 : Value) (K : Value → World → Prop) (s : St) : Prop :=
  Bo P .eql 9 false true a0 (.string ⟨#[]⟩) (fun v1 s => CondP v1 (Ret P (fun w => K (.string ⟨#[42]⟩) w) s) (Cl P 76 #[a0, .string ⟨#[32]⟩, .string ⟨#[45]⟩] (fun v2 s => Cv P 9 46 v2 (fun v3 s => J0 (fun A4 => Ia P 46 v3 (.int .i64 0) (fun v5 s => Ld P 5 v5 (fun v6 s => Bo P .eql 5 false true v6 (byteV 58) (fun v7 s => CondP v7 (Ia P 46 v3 (.int .i64 0) (fun v8 s => Sv P 5 v8 (byteV 45) (fun _ s => A4 s) s) s) (A4 s)) s) s) s) (fun s => Cv P 46 9 v3 (fun v9 s => Ret P (fun w => K v9 w) s) s)) s) s)) s
noncomputable def b77 : Code := Tryd.f77.body.getD .skip
theorem e77 (a0 : Value) (K : Value → World → Prop) : wpc P bmask 17 none b77 (lmOf [.tmp 2]) (ktOf P 17 [.tmp 2] K) (frOf [a0]) = D77 a0 K := by kernel_rfl
theorem c77 {a0 w : _} {K : Value → World → Prop} {R : Ending → World → Prop} (h : D77 a0 K ⟨w, []⟩) (hK : ∀ v w', K v w' → R (.returned v) w') : Calls P 77 #[a0] w R :=
  calls_of bodies_ok Tryd.func77 17 [.tmp 2] (c := b77) (args := [a0]) (K := K) (by kernel_rfl) rfl (e77 a0 K) h hK

/-- rollcall/valid.all -/
def D78 (a0 a1 a2 a3 : Value) (K : Value → World → Prop) (s : St) : Prop :=
  Bi P .len #[9] 3 #[false] #[a0] (fun v1 s => Bo P .lss 3 false false v1 a1 (fun v2 s => J1 (fun A3 => Grd v2 false (Bi P .len #[9] 3 #[false] #[a0] (fun v5 s => Bo P .gtr 3 false false v5 a2 (fun v6 s => A3 v6 s) s) s) (A3 undef s)) (fun x4 s => Pk P v2 (.bool true) x4 (fun v7 s => CondP v7 (Ret P (fun w => K (.bool false) w) s) (Cl P 107 #[] (fun v8 s => Al P 114 (fun v9 s => Sv P 114 v9 v8 (fun _ s => Bi P .len #[9] 3 #[false] #[a0] (fun v10 s => L1 (.int .i64 0) s (fun N11 x12 s => Bo P .lss 3 false false x12 v10 (fun v13 s => CondP v13 (Ix P 9 a0 x12 (fun v14 s => Ia P 114 v9 v14 (fun v15 s => Ld P 87 v15 (fun v16 s => Bo P .and 87 false false v16 a3 (fun v17 s => Bo P .eql 87 false true v17 (.int .u16 0) (fun v18 s => CondP v18 (Ret P (fun w => K (.bool false) w) s) (Bo P .add 3 false true x12 (.int .i64 1) (fun v19 s => N11 v19 s) s)) s) s) s) s) s) (Ret P (fun w => K (.bool true) w) s)) s)) s) s) s) s)) s)) s) s
noncomputable def b78 : Code := Tryd.f78.body.getD .skip
theorem e78 (a0 a1 a2 a3 : Value) (K : Value → World → Prop) : wpc P bmask 36 none b78 (lmOf [.tmp 8]) (ktOf P 36 [.tmp 8] K) (frOf [a0, a1, a2, a3]) = D78 a0 a1 a2 a3 K := by kernel_rfl
theorem c78 {a0 a1 a2 a3 w : _} {K : Value → World → Prop} {R : Ending → World → Prop} (h : D78 a0 a1 a2 a3 K ⟨w, []⟩) (hK : ∀ v w', K v w' → R (.returned v) w') : Calls P 78 #[a0, a1, a2, a3] w R :=
  calls_of bodies_ok Tryd.func78 36 [.tmp 8] (c := b78) (args := [a0, a1, a2, a3]) (K := K) (by kernel_rfl) rfl (e78 a0 a1 a2 a3 K) h hK

/-- internal/stringslite.HasPrefix -/
def D79 (a0 a1 : Value) (K : Value → World → Prop) (s : St) : Prop :=
  Bi P .len #[9] 3 #[false] #[a0] (fun v1 s => Bi P .len #[9] 3 #[false] #[a1] (fun v2 s => Bo P .geq 3 false false v1 v2 (fun v3 s => J1 (fun A4 => Grd v3 true (Bi P .len #[9] 3 #[false] #[a1] (fun v6 s => Sl P 9 a0 none (some v6) none (fun v7 s => Bo P .eql 9 false false v7 a1 (fun v8 s => A4 v8 s) s) s) s) (A4 undef s)) (fun x5 s => Pk P v3 x5 (.bool false) (fun v9 s => Ret P (fun w => K v9 w) s) s)) s) s) s
noncomputable def b79 : Code := Tryd.f79.body.getD .skip
theorem e79 (a0 a1 : Value) (K : Value → World → Prop) : wpc P bmask 18 none b79 (lmOf [.tmp 4]) (ktOf P 18 [.tmp 4] K) (frOf [a0, a1]) = D79 a0 a1 K := by kernel_rfl
theorem c79 {a0 a1 w : _} {K : Value → World → Prop} {R : Ending → World → Prop} (h : D79 a0 a1 K ⟨w, []⟩) (hK : ∀ v w', K v w' → R (.returned v) w') : Calls P 79 #[a0, a1] w R :=
  calls_of bodies_ok Tryd.func79 18 [.tmp 4] (c := b79) (args := [a0, a1]) (K := K) (by kernel_rfl) rfl (e79 a0 a1 K) h hK

/-- strings.Cut -/
def D80 (a0 a1 : Value) (K : Value → World → Prop) (s : St) : Prop :=
  Cl P 115 #[a0, a1] (fun v1 s => Ex P v1 0 (fun v2 s => Ex P v1 1 (fun v3 s => Ex P v1 2 (fun v4 s => Ret P (fun w => K (.tuple #[v2, v3, v4]) w) s) s) s) s) s
noncomputable def b80 : Code := Tryd.f80.body.getD .skip
theorem e80 (a0 a1 : Value) (K : Value → World → Prop) : wpc P bmask 13 none b80 (lmOf [.tmp 4, .tmp 5, .tmp 6]) (ktOf P 13 [.tmp 4, .tmp 5, .tmp 6] K) (frOf [a0, a1]) = D80 a0 a1 K := by kernel_rfl
theorem c80 {a0 a1 w : _} {K : Value → World → Prop} {R : Ending → World → Prop} (h : D80 a0 a1 K ⟨w, []⟩) (hK : ∀ v w', K v w' → R (.returned v) w') : Calls P 80 #[a0, a1] w R :=
  calls_of bodies_ok Tryd.func80 13 [.tmp 4, .tmp 5, .tmp 6] (c := b80) (args := [a0, a1]) (K := K) (by kernel_rfl) rfl (e80 a0 a1 K) h hK

/-- strings.TrimLeft -/
def D81 (a0 a1 : Value) (K : Value → World → Prop) (s : St) : Prop :=
  Bo P .eql 9 false true a0 (.string ⟨#[]⟩) (fun v1 s => J1 (fun A2 => Grd v1 false (Bo P .eql 9 false true a1 (.string ⟨#[]⟩) (fun v4 s => A2 v4 s) s) (A2 undef s)) (fun x3 s => Pk P v1 (.bool true) x3 (fun v5 s => CondP v5 (Ret P (fun w => K a0 w) s) (Bi P .len #[9] 3 #[false] #[a1] (fun v6 s => Bo P .eql 3 false true v6 (.int .i64 1) (fun v7 s => J1 (fun A8 => Grd v7 true (Ix P 9 a1 (.int .i64 0) (fun v10 s => Bo P .lss 5 false true v10 (byteV 128) (fun v11 s => A8 v11 s) s) s) (A8 undef s)) (fun x9 s => Pk P v7 x9 (.bool false) (fun v12 s => CondP v12 (Ix P 9 a1 (.int .i64 0) (fun v13 s => Cl P 116 #[a0, v13] (fun v14 s => Ret P (fun w => K v14 w) s) s) s) (Cl P 117 #[a1] (fun v15 s => Ex P v15 0 (fun v16 s => Ex P v15 1 (fun v17 s => Al P 126 (fun v18 s => Sv P 126 v18 v16 (fun _ s => CondP v17 (Cl P 118 #[a0, v18] (fun v19 s => Ret P (fun w => K v19 w) s) s) (Cl P 119 #[a0, a1] (fun v20 s => Ret P (fun w => K v20 w) s) s)) s) s) s) s) s)) s)) s) s)) s)) s
noncomputable def b81 : Code := Tryd.f81.body.getD .skip
theorem e81 (a0 a1 : Value) (K : Value → World → Prop) : wpc P bmask 37 none b81 (lmOf [.tmp 4]) (ktOf P 37 [.tmp 4] K) (frOf [a0, a1]) = D81 a0 a1 K := by kernel_rfl
theorem c81 {a0 a1 w : _} {K : Value → World → Prop} {R : Ending → World → Prop} (h : D81 a0 a1 K ⟨w, []⟩) (hK : ∀ v w', K v w' → R (.returned v) w') : Calls P 81 #[a0, a1] w R :=
  calls_of bodies_ok Tryd.func81 37 [.tmp 4] (c := b81) (args := [a0, a1]) (K := K) (by kernel_rfl) rfl (e81 a0 a1 K) h hK

/-- strings.Split -/
def D82 (a0 a1 : Value) (K : Value → World → Prop) (s : St) : Prop :=
  Cl P 120 #[a0, a1, .int .i64 0, .int .i64 (-1)] (fun v1 s => Ret P (fun w => K v1 w) s) s
noncomputable def b82 : Code := Tryd.f82.body.getD .skip
theorem e82 (a0 a1 : Value) (K : Value → World → Prop) : wpc P bmask 8 none b82 (lmOf [.tmp 4]) (ktOf P 8 [.tmp 4] K) (frOf [a0, a1]) = D82 a0 a1 K := by kernel_rfl
theorem c82 {a0 a1 w : _} {K : Value → World → Prop} {R : Ending → World → Prop} (h : D82 a0 a1 K ⟨w, []⟩) (hK : ∀ v w', K v w' → R (.returned v) w') : Calls P 82 #[a0, a1] w R :=
  calls_of bodies_ok Tryd.func82 8 [.tmp 4] (c := b82) (args := [a0, a1]) (K := K) (by kernel_rfl) rfl (e82 a0 a1 K) h hK

/-- rollcall/tags.named -/
def D83 (a0 : Value) (K : Value → World → Prop) (s : St) : Prop :=
  Bo P .eql 9 false true a0 (.string ⟨#[]⟩) (fun v1 s => CondP v1 (Ret P (fun w => K (.int .i64 9) w) s) (Bi P .len #[9] 3 #[false] #[a0] (fun v2 s => L1 (.int .i64 0) s (fun N3 x4 s => Bo P .lss 3 false false x4 v2 (fun v5 s => CondP v5 (Ix P 9 a0 x4 (fun v6 s => Bo P .lss 5 false true v6 (byteV 97) (fun v7 s => J1 (fun A8 => Grd v7 false (Bo P .gtr 5 false true v6 (byteV 122) (fun v10 s => A8 v10 s) s) (A8 undef s)) (fun x9 s => Pk P v7 (.bool true) x9 (fun v11 s => J1 (fun A12 => Grd v11 true (Bo P .lss 5 false true v6 (byteV 65) (fun v14 s => A12 v14 s) s) (A12 undef s)) (fun x13 s => J1 (fun A15 => Grd x13 false (Bo P .gtr 5 false true v6 (byteV 90) (fun v17 s => A15 v17 s) s) (A15 undef s)) (fun x16 s => J1 (fun A18 => Grd v11 true (Pk P x13 (.bool true) x16 (fun v20 s => A18 v20 s) s) (A18 undef s)) (fun x19 s => Pk P v11 x19 (.bool false) (fun v21 s => J1 (fun A22 => Grd v21 true (Bo P .lss 5 false true v6 (byteV 48) (fun v24 s => A22 v24 s) s) (A22 undef s)) (fun x23 s => J1 (fun A25 => Grd x23 false (Bo P .gtr 5 false true v6 (byteV 57) (fun v27 s => A25 v27 s) s) (A25 undef s)) (fun x26 s => J1 (fun A28 => Grd v21 true (Pk P x23 (.bool true) x26 (fun v30 s => A28 v30 s) s) (A28 undef s)) (fun x29 s => Pk P v21 x29 (.bool false) (fun v31 s => J1 (fun A32 => Grd v31 true (Cl P 97 #[.string ⟨#[45, 47, 43, 46]⟩, v6] (fun v34 s => Bo P .lss 3 false true v34 (.int .i64 0) (fun v35 s => A32 v35 s) s) s) (A32 undef s)) (fun x33 s => Pk P v31 x33 (.bool false) (fun v36 s => CondP v36 (Ret P (fun w => K (.int .i64 10) w) s) (Bo P .add 3 false true x4 (.int .i64 1) (fun v37 s => N3 v37 s) s)) s)) s)))) s)))) s)) s) s) (Ret P (fun w => K (.int .i64 0) w) s)) s)) s)) s
noncomputable def b83 : Code := Tryd.f83.body.getD .skip
theorem e83 (a0 : Value) (K : Value → World → Prop) : wpc P bmask 43 none b83 (lmOf [.tmp 2]) (ktOf P 43 [.tmp 2] K) (frOf [a0]) = D83 a0 K := by kernel_rfl
theorem c83 {a0 w : _} {K : Value → World → Prop} {R : Ending → World → Prop} (h : D83 a0 K ⟨w, []⟩) (hK : ∀ v w', K v w' → R (.returned v) w') : Calls P 83 #[a0] w R :=
  calls_of bodies_ok Tryd.func83 43 [.tmp 2] (c := b83) (args := [a0]) (K := K) (by kernel_rfl) rfl (e83 a0 K) h hK

/-- strings.ContainsAny -/
def D84 (a0 a1 : Value) (K : Value → World → Prop) (s : St) : Prop :=
  Cl P 121 #[a0, a1] (fun v1 s => Bo P .geq 3 false true v1 (.int .i64 0) (fun v2 s => Ret P (fun w => K v2 w) s) s) s
noncomputable def b84 : Code := Tryd.f84.body.getD .skip
theorem e84 (a0 a1 : Value) (K : Value → World → Prop) : wpc P bmask 9 none b84 (lmOf [.tmp 4]) (ktOf P 9 [.tmp 4] K) (frOf [a0, a1]) = D84 a0 a1 K := by kernel_rfl
theorem c84 {a0 a1 w : _} {K : Value → World → Prop} {R : Ending → World → Prop} (h : D84 a0 a1 K ⟨w, []⟩) (hK : ∀ v w', K v w' → R (.returned v) w') : Calls P 84 #[a0, a1] w R :=
  calls_of bodies_ok Tryd.func84 9 [.tmp 4] (c := b84) (args := [a0, a1]) (K := K) (by kernel_rfl) rfl (e84 a0 a1 K) h hK

/-- rollcall/tags.Unescape -/
def D85 (a0 : Value) (K : Value → World → Prop) (s : St) : Prop :=
  Al P 107 (fun v1 s => Bi P .len #[9] 3 #[false] #[a0] (fun v2 s => L2 (.bool false) (.int .i64 0) s (fun N3 x4 x5 s => Bo P .lss 3 false false x5 v2 (fun v6 s => CondP v6 (J1 (fun A7 => CondP x4 (Ix P 9 a0 x5 (fun v9 s => Cl P 122 #[v9] (fun v10 s => Cl P 104 #[v1, v10] (fun _ s => A7 (.bool false) s) s) s) s) (Ix P 9 a0 x5 (fun v12 s => Bo P .eql 5 false true v12 (byteV 92) (fun v13 s => CondP v13 (A7 (.bool true) s) (Ix P 9 a0 x5 (fun v14 s => Cl P 104 #[v1, v14] (fun _ s => A7 x4 s) s) s)) s) s)) (fun x8 s => Bo P .add 3 false true x5 (.int .i64 1) (fun v16 s => N3 x8 v16 s) s)) (Cl P 105 #[v1] (fun v17 s => Ret P (fun w => K v17 w) s) s)) s)) s) s
noncomputable def b85 : Code := Tryd.f85.body.getD .skip
theorem e85 (a0 : Value) (K : Value → World → Prop) : wpc P bmask 29 none b85 (lmOf [.tmp 2]) (ktOf P 29 [.tmp 2] K) (frOf [a0]) = D85 a0 K := by kernel_rfl
theorem c85 {a0 w : _} {K : Value → World → Prop} {R : Ending → World → Prop} (h : D85 a0 K ⟨w, []⟩) (hK : ∀ v w', K v w' → R (.returned v) w') : Calls P 85 #[a0] w R :=
  calls_of bodies_ok Tryd.func85 29 [.tmp 2] (c := b85) (args := [a0]) (K := K) (by kernel_rfl) rfl (e85 a0 K) h hK

/-- slices.IndexFunc[[]rollcall/api.Tag,rollcall/api.Tag] -/
def D86 (a0 a1 : Value) (K : Value → World → Prop) (s : St) : Prop :=
  Bi P .len #[30] 3 #[false] #[a0] (fun v1 s => L1 (.int .i64 0) s (fun N2 x3 s => Bo P .lss 3 false false x3 v1 (fun v4 s => CondP v4 (Ia P 30 a0 x3 (fun v5 s => Ld P 71 v5 (fun v6 s => Dy P a1 #[v6] (fun v7 s => CondP v7 (Ret P (fun w => K x3 w) s) (Bo P .add 3 false true x3 (.int .i64 1) (fun v8 s => N2 v8 s) s)) s) s) s) (Ret P (fun w => K (.int .i64 (-1)) w) s)) s)) s
noncomputable def b86 : Code := Tryd.f86.body.getD .skip
theorem e86 (a0 a1 : Value) (K : Value → World → Prop) : wpc P bmask 19 none b86 (lmOf [.tmp 4]) (ktOf P 19 [.tmp 4] K) (frOf [a0, a1]) = D86 a0 a1 K := by kernel_rfl
theorem c86 {a0 a1 w : _} {K : Value → World → Prop} {R : Ending → World → Prop} (h : D86 a0 a1 K ⟨w, []⟩) (hK : ∀ v w', K v w' → R (.returned v) w') : Calls P 86 #[a0, a1] w R :=
  calls_of bodies_ok Tryd.func86 19 [.tmp 4] (c := b86) (args := [a0, a1]) (K := K) (by kernel_rfl) rfl (e86 a0 a1 K) h hK

/-- rollcall/tags.Parse$1 -/
def D87 (a0 a1 : Value) (K : Value → World → Prop) (s : St) : Prop :=
  Bx P 71 a0 (fun v1 s => Fa P 71 v1 0 (fun v2 s => Ld P 9 v2 (fun v3 s => Ld P 9 a1 (fun v4 s => Bo P .eql 9 false false v3 v4 (fun v5 s => Ret P (fun w => K v5 w) s) s) s) s) s) s
noncomputable def b87 : Code := Tryd.f87.body.getD .skip
theorem e87 (a0 a1 : Value) (K : Value → World → Prop) : wpc P bmask 8 none b87 (lmOf [.tmp 3]) (ktOf P 8 [.tmp 3] K) (frOf [a0, a1]) = D87 a0 a1 K := by kernel_rfl
theorem c87 {a0 a1 w : _} {K : Value → World → Prop} {R : Ending → World → Prop} (h : D87 a0 a1 K ⟨w, []⟩) (hK : ∀ v w', K v w' → R (.returned v) w') : Calls P 87 #[a0, a1] w R :=
  calls_of bodies_ok Tryd.func87 8 [.tmp 3] (c := b87) (args := [a0, a1]) (K := K) (by kernel_rfl) rfl (e87 a0 a1 K) h hK

/-- strings.Trim -/
def D88 (a0 a1 : Value) (K : Value → World → Prop) (s : St) : Prop :=
  Bo P .eql 9 false true a0 (.string ⟨#[]⟩) (fun v1 s => J1 (fun A2 => Grd v1 false (Bo P .eql 9 false true a1 (.string ⟨#[]⟩) (fun v4 s => A2 v4 s) s) (A2 undef s)) (fun x3 s => Pk P v1 (.bool true) x3 (fun v5 s => CondP v5 (Ret P (fun w => K a0 w) s) (Bi P .len #[9] 3 #[false] #[a1] (fun v6 s => Bo P .eql 3 false true v6 (.int .i64 1) (fun v7 s => J1 (fun A8 => Grd v7 true (Ix P 9 a1 (.int .i64 0) (fun v10 s => Bo P .lss 5 false true v10 (byteV 128) (fun v11 s => A8 v11 s) s) s) (A8 undef s)) (fun x9 s => Pk P v7 x9 (.bool false) (fun v12 s => CondP v12 (Dw (fun s => Qt (Ix P 9 a1 (.int .i64 0)) s fun v13 => Qt (Ix P 9 a1 (.int .i64 0)) s fun v14 => Cl P 123 #[a0, v13] (fun v15 s => Ck (Ix P 9 a1 (.int .i64 0)) v14 s ∧ (Cl P 116 #[v15, v14] (fun v16 s => Ret P (fun w => K v16 w) s) s)) s) s) (Cl P 117 #[a1] (fun v17 s => Ex P v17 0 (fun v18 s => Ex P v17 1 (fun v19 s => Al P 126 (fun v20 s => Sv P 126 v20 v18 (fun _ s => CondP v19 (Cl P 124 #[a0, v20] (fun v21 s => Cl P 118 #[v21, v20] (fun v22 s => Ret P (fun w => K v22 w) s) s) s) (Cl P 125 #[a0, a1] (fun v23 s => Cl P 119 #[v23, a1] (fun v24 s => Ret P (fun w => K v24 w) s) s) s)) s) s) s) s) s)) s)) s) s)) s)) s
noncomputable def b88 : Code := Tryd.f88.body.getD .skip
theorem e88 (a0 a1 : Value) (K : Value → World → Prop) : wpc P bmask 43 none b88 (lmOf [.tmp 4]) (ktOf P 43 [.tmp 4] K) (frOf [a0, a1]) = D88 a0 a1 K := by kernel_rfl
theorem c88 {a0 a1 w : _} {K : Value → World → Prop} {R : Ending → World → Prop} (h : D88 a0 a1 K ⟨w, []⟩) (hK : ∀ v w', K v w' → R (.returned v) w') : Calls P 88 #[a0, a1] w R :=
  calls_of bodies_ok Tryd.func88 43 [.tmp 4] (c := b88) (args := [a0, a1]) (K := K) (by kernel_rfl) rfl (e88 a0 a1 K) h hK

/-- strings.CutPrefix -/
def D89 (a0 a1 : Value) (K : Value → World → Prop) (s : St) : Prop :=
  Cl P 126 #[a0, a1] (fun v1 s => Ex P v1 0 (fun v2 s => Ex P v1 1 (fun v3 s => Ret P (fun w => K (.tuple #[v2, v3]) w) s) s) s) s
noncomputable def b89 : Code := Tryd.f89.body.getD .skip
theorem e89 (a0 a1 : Value) (K : Value → World → Prop) : wpc P bmask 11 none b89 (lmOf [.tmp 4, .tmp 5]) (ktOf P 11 [.tmp 4, .tmp 5] K) (frOf [a0, a1]) = D89 a0 a1 K := by kernel_rfl
theorem c89 {a0 a1 w : _} {K : Value → World → Prop} {R : Ending → World → Prop} (h : D89 a0 a1 K ⟨w, []⟩) (hK : ∀ v w', K v w' → R (.returned v) w') : Calls P 89 #[a0, a1] w R :=
  calls_of bodies_ok Tryd.func89 11 [.tmp 4, .tmp 5] (c := b89) (args := [a0, a1]) (K := K) (by kernel_rfl) rfl (e89 a0 a1 K) h hK

/-- rollcall/rollcallref03.in -/
def D90 (a0 a1 : Value) (K : Value → World → Prop) (s : St) : Prop :=
  L1 (.int .i64 0) s (fun N1 x2 s => Bi P .len #[9] 3 #[false] #[a0] (fun v3 s => Bo P .lss 3 false false x2 v3 (fun v4 s => CondP v4 (Ix P 9 a0 x2 (fun v5 s => Bo P .eql 5 false false v5 a1 (fun v6 s => CondP v6 (Ret P (fun w => K (.bool true) w) s) (Bo P .add 3 false true x2 (.int .i64 1) (fun v7 s => N1 v7 s) s)) s) s) (Ret P (fun w => K (.bool false) w) s)) s) s)
noncomputable def b90 : Code := Tryd.f90.body.getD .skip
theorem e90 (a0 a1 : Value) (K : Value → World → Prop) : wpc P bmask 17 none b90 (lmOf [.tmp 4]) (ktOf P 17 [.tmp 4] K) (frOf [a0, a1]) = D90 a0 a1 K := by kernel_rfl
theorem c90 {a0 a1 w : _} {K : Value → World → Prop} {R : Ending → World → Prop} (h : D90 a0 a1 K ⟨w, []⟩) (hK : ∀ v w', K v w' → R (.returned v) w') : Calls P 90 #[a0, a1] w R :=
  calls_of bodies_ok Tryd.func90 17 [.tmp 4] (c := b90) (args := [a0, a1]) (K := K) (by kernel_rfl) rfl (e90 a0 a1 K) h hK

/-- rollcall/rollcallref06.Name -/
def D91 (a0 : Value) (K : Value → World → Prop) (s : St) : Prop :=
  Bo P .eql 9 false true a0 (.string ⟨#[]⟩) (fun v1 s => CondP v1 (Ret P (fun w => K (.int .i64 9) w) s) (L1 (.int .i64 0) s (fun N2 x3 s => Bi P .len #[9] 3 #[false] #[a0] (fun v4 s => Bo P .lss 3 false false x3 v4 (fun v5 s => CondP v5 (Ix P 9 a0 x3 (fun v6 s => Cl P 94 #[v6] (fun v7 s => Uo P .not v7 (fun v8 s => J1 (fun A9 => Grd v8 true (Cl P 95 #[v6] (fun v11 s => Uo P .not v11 (fun v12 s => A9 v12 s) s) s) (A9 undef s)) (fun x10 s => Pk P v8 x10 (.bool false) (fun v13 s => J1 (fun A14 => Grd v13 true (Bo P .neq 5 false true v6 (byteV 45) (fun v16 s => A14 v16 s) s) (A14 undef s)) (fun x15 s => Pk P v13 x15 (.bool false) (fun v17 s => J1 (fun A18 => Grd v17 true (Bo P .neq 5 false true v6 (byteV 47) (fun v20 s => A18 v20 s) s) (A18 undef s)) (fun x19 s => Pk P v17 x19 (.bool false) (fun v21 s => J1 (fun A22 => Grd v21 true (Bo P .neq 5 false true v6 (byteV 43) (fun v24 s => A22 v24 s) s) (A22 undef s)) (fun x23 s => Pk P v21 x23 (.bool false) (fun v25 s => J1 (fun A26 => Grd v25 true (Bo P .neq 5 false true v6 (byteV 46) (fun v28 s => A26 v28 s) s) (A26 undef s)) (fun x27 s => Pk P v25 x27 (.bool false) (fun v29 s => CondP v29 (Ret P (fun w => K (.int .i64 10) w) s) (Bo P .add 3 false true x3 (.int .i64 1) (fun v30 s => N2 v30 s) s)) s)) s)) s)) s)) s)) s) s) s) (Ret P (fun w => K (.int .i64 0) w) s)) s) s))) s
noncomputable def b91 : Code := Tryd.f91.body.getD .skip
theorem e91 (a0 : Value) (K : Value → World → Prop) : wpc P bmask 40 none b91 (lmOf [.tmp 2]) (ktOf P 40 [.tmp 2] K) (frOf [a0]) = D91 a0 K := by kernel_rfl
theorem c91 {a0 w : _} {K : Value → World → Prop} {R : Ending → World → Prop} (h : D91 a0 K ⟨w, []⟩) (hK : ∀ v w', K v w' → R (.returned v) w') : Calls P 91 #[a0] w R :=
  calls_of bodies_ok Tryd.func91 40 [.tmp 2] (c := b91) (args := [a0]) (K := K) (by kernel_rfl) rfl (e91 a0 K) h hK

/-- rollcall/rollcallref06.Unescape -/
def D92 (a0 : Value) (K : Value → World → Prop) (s : St) : Prop :=
  L2 (.string ⟨#[]⟩) (.int .i64 0) s (fun N1 x2 x3 s => Bi P .len #[9] 3 #[false] #[a0] (fun v4 s => Bo P .lss 3 false false x3 v4 (fun v5 s => CondP v5 (J2 (fun A6 => Ix P 9 a0 x3 (fun v9 s => Bo P .neq 5 false true v9 (byteV 92) (fun v10 s => CondP v10 (Bo P .add 3 false true x3 (.int .i64 1) (fun v11 s => Sl P 9 a0 (some x3) (some v11) none (fun v12 s => Bo P .add 9 false false x2 v12 (fun v13 s => A6 v13 x3 s) s) s) s) (Bo P .add 3 false true x3 (.int .i64 1) (fun v14 s => Bi P .len #[9] 3 #[false] #[a0] (fun v15 s => Bo P .eql 3 false false v14 v15 (fun v16 s => CondP v16 (Ret P (fun w => K x2 w) s) (Ix P 9 a0 v14 (fun v17 s => L2 v17 (.int .i64 0) s (fun N18 x19 x20 s => Bo P .lss 3 false true x20 (.int .i64 256) (fun v21 s => CondP v21 (J1 (fun A22 => Dw (fun s => Qt (Cv P 3 5 x20) s fun v24 => Qt (Ix P 9 a0 v14) s fun v25 => Cl P 127 #[v24] (fun v26 s => Ck (Ix P 9 a0 v14) v25 s ∧ (Qt (Bo P .eql 5 false false v26 v25) s fun v27 => CondP v27 (Cv P 3 5 x20 (fun v28 s => A22 v28 s) s) (A22 x19 s))) s) s) (fun x23 s => Bo P .add 3 false true x20 (.int .i64 1) (fun v29 s => N18 x23 v29 s) s)) (Bs P 46 1 #[(0, x19)] (fun v30 s => Cv P 46 9 v30 (fun v31 s => Bo P .add 9 false false x2 v31 (fun v32 s => A6 v32 v14 s) s) s) s)) s)) s)) s) s) s)) s) s) (fun x7 x8 s => Bo P .add 3 false true x8 (.int .i64 1) (fun v33 s => N1 x7 v33 s) s)) (Ret P (fun w => K x2 w) s)) s) s)
noncomputable def b92 : Code := Tryd.f92.body.getD .skip
theorem e92 (a0 : Value) (K : Value → World → Prop) : wpc P bmask 53 none b92 (lmOf [.tmp 2]) (ktOf P 53 [.tmp 2] K) (frOf [a0]) = D92 a0 K := by kernel_rfl
theorem c92 {a0 w : _} {K : Value → World → Prop} {R : Ending → World → Prop} (h : D92 a0 K ⟨w, []⟩) (hK : ∀ v w', K v w' → R (.returned v) w') : Calls P 92 #[a0] w R :=
  calls_of bodies_ok Tryd.func92 53 [.tmp 2] (c := b92) (args := [a0]) (K := K) (by kernel_rfl) rfl (e92 a0 K) h hK

/-- rollcall/rollcallref06.at -/
def D93 (a0 a1 : Value) (K : Value → World → Prop) (s : St) : Prop :=
  L1 (.int .i64 0) s (fun N1 x2 s => Bi P .len #[30] 3 #[false] #[a0] (fun v3 s => Bo P .lss 3 false false x2 v3 (fun v4 s => CondP v4 (Ia P 30 a0 x2 (fun v5 s => Fa P 71 v5 0 (fun v6 s => Ld P 9 v6 (fun v7 s => Bo P .eql 9 false false v7 a1 (fun v8 s => CondP v8 (Ret P (fun w => K x2 w) s) (Bo P .add 3 false true x2 (.int .i64 1) (fun v9 s => N1 v9 s) s)) s) s) s) s) (Ret P (fun w => K (.int .i64 (-1)) w) s)) s) s)
noncomputable def b93 : Code := Tryd.f93.body.getD .skip
theorem e93 (a0 a1 : Value) (K : Value → World → Prop) : wpc P bmask 20 none b93 (lmOf [.tmp 4]) (ktOf P 20 [.tmp 4] K) (frOf [a0, a1]) = D93 a0 a1 K := by kernel_rfl
theorem c93 {a0 a1 w : _} {K : Value → World → Prop} {R : Ending → World → Prop} (h : D93 a0 a1 K ⟨w, []⟩) (hK : ∀ v w', K v w' → R (.returned v) w') : Calls P 93 #[a0, a1] w R :=
  calls_of bodies_ok Tryd.func93 20 [.tmp 4] (c := b93) (args := [a0, a1]) (K := K) (by kernel_rfl) rfl (e93 a0 a1 K) h hK

/-- rollcall/rollcallref03.Letter -/
def D94 (a0 : Value) (K : Value → World → Prop) (s : St) : Prop :=
  Bo P .geq 5 false true a0 (byteV 65) (fun v1 s => J1 (fun A2 => Grd v1 true (Bo P .leq 5 false true a0 (byteV 90) (fun v4 s => A2 v4 s) s) (A2 undef s)) (fun x3 s => Pk P v1 x3 (.bool false) (fun v5 s => J1 (fun A6 => Grd v5 false (Bo P .geq 5 false true a0 (byteV 97) (fun v8 s => A6 v8 s) s) (A6 undef s)) (fun x7 s => J1 (fun A9 => Grd x7 true (Bo P .leq 5 false true a0 (byteV 122) (fun v11 s => A9 v11 s) s) (A9 undef s)) (fun x10 s => J1 (fun A12 => Grd v5 false (Pk P x7 x10 (.bool false) (fun v14 s => A12 v14 s) s) (A12 undef s)) (fun x13 s => Pk P v5 (.bool true) x13 (fun v15 s => Ret P (fun w => K v15 w) s) s)))) s)) s
noncomputable def b94 : Code := Tryd.f94.body.getD .skip
theorem e94 (a0 : Value) (K : Value → World → Prop) : wpc P bmask 17 none b94 (lmOf [.tmp 2]) (ktOf P 17 [.tmp 2] K) (frOf [a0]) = D94 a0 K := by kernel_rfl
theorem c94 {a0 w : _} {K : Value → World → Prop} {R : Ending → World → Prop} (h : D94 a0 K ⟨w, []⟩) (hK : ∀ v w', K v w' → R (.returned v) w') : Calls P 94 #[a0] w R :=
  calls_of bodies_ok Tryd.func94 17 [.tmp 2] (c := b94) (args := [a0]) (K := K) (by kernel_rfl) rfl (e94 a0 K) h hK

/-- rollcall/rollcallref03.Digit -/
def D95 (a0 : Value) (K : Value → World → Prop) (s : St) : Prop :=
  Bo P .geq 5 false true a0 (byteV 48) (fun v1 s => J1 (fun A2 => Grd v1 true (Bo P .leq 5 false true a0 (byteV 57) (fun v4 s => A2 v4 s) s) (A2 undef s)) (fun x3 s => Pk P v1 x3 (.bool false) (fun v5 s => Ret P (fun w => K v5 w) s) s)) s
noncomputable def b95 : Code := Tryd.f95.body.getD .skip
theorem e95 (a0 : Value) (K : Value → World → Prop) : wpc P bmask 9 none b95 (lmOf [.tmp 2]) (ktOf P 9 [.tmp 2] K) (frOf [a0]) = D95 a0 K := by kernel_rfl
theorem c95 {a0 w : _} {K : Value → World → Prop} {R : Ending → World → Prop} (h : D95 a0 K ⟨w, []⟩) (hK : ∀ v w', K v w' → R (.returned v) w') : Calls P 95 #[a0] w R :=
  calls_of bodies_ok Tryd.func95 9 [.tmp 2] (c := b95) (args := [a0]) (K := K) (by kernel_rfl) rfl (e95 a0 K) h hK

/-- rollcall/rollcallref06.Text -/
def D96 (a0 : Value) (K : Value → World → Prop) (s : St) : Prop :=
  Cl P 51 #[a0] (fun v1 s => Bo P .neq 3 false true v1 (.int .i64 0) (fun v2 s => CondP v2 (Ret P (fun w => K (.string ⟨#[]⟩) w) s) (L2 (.string ⟨#[]⟩) (.int .i64 0) s (fun N3 x4 x5 s => Bi P .len #[30] 3 #[false] #[a0] (fun v6 s => Bo P .lss 3 false false x5 v6 (fun v7 s => CondP v7 (J1 (fun A8 => J1 (fun A10 => Bo P .gtr 3 false true x5 (.int .i64 0) (fun v12 s => CondP v12 (Bo P .add 9 false true x4 (.string ⟨#[59]⟩) (fun v13 s => A10 v13 s) s) (A10 x4 s)) s) (fun x11 s => Ia P 30 a0 x5 (fun v14 s => Fa P 71 v14 0 (fun v15 s => Ld P 9 v15 (fun v16 s => Bo P .add 9 false false x11 v16 (fun v17 s => Ia P 30 a0 x5 (fun v18 s => Fa P 71 v18 1 (fun v19 s => Ld P 9 v19 (fun v20 s => Bo P .neq 9 false true v20 (.string ⟨#[]⟩) (fun v21 s => CondP v21 (Bo P .add 9 false true v17 (.string ⟨#[61]⟩) (fun v22 s => Ia P 30 a0 x5 (fun v23 s => Fa P 71 v23 1 (fun v24 s => Ld P 9 v24 (fun v25 s => Cl P 128 #[v25] (fun v26 s => Bo P .add 9 false false v22 v26 (fun v27 s => A8 v27 s) s) s) s) s) s) s) (A8 v17 s)) s) s) s) s) s) s) s) s)) (fun x9 s => Bo P .add 3 false true x5 (.int .i64 1) (fun v28 s => N3 x9 v28 s) s)) (Ret P (fun w => K x4 w) s)) s) s))) s) s
noncomputable def b96 : Code := Tryd.f96.body.getD .skip
theorem e96 (a0 : Value) (K : Value → World → Prop) : wpc P bmask 41 none b96 (lmOf [.tmp 2]) (ktOf P 41 [.tmp 2] K) (frOf [a0]) = D96 a0 K := by kernel_rfl
theorem c96 {a0 w : _} {K : Value → World → Prop} {R : Ending → World → Prop} (h : D96 a0 K ⟨w, []⟩) (hK : ∀ v w', K v w' → R (.returned v) w') : Calls P 96 #[a0] w R :=
  calls_of bodies_ok Tryd.func96 41 [.tmp 2] (c := b96) (args := [a0]) (K := K) (by kernel_rfl) rfl (e96 a0 K) h hK

/-- strings.IndexByte -/
def D97 (a0 a1 : Value) (K : Value → World → Prop) (s : St) : Prop :=
  Cl P 129 #[a0, a1] (fun v1 s => Ret P (fun w => K v1 w) s) s
noncomputable def b97 : Code := Tryd.f97.body.getD .skip
theorem e97 (a0 a1 : Value) (K : Value → World → Prop) : wpc P bmask 8 none b97 (lmOf [.tmp 4]) (ktOf P 8 [.tmp 4] K) (frOf [a0, a1]) = D97 a0 a1 K := by kernel_rfl
theorem c97 {a0 a1 w : _} {K : Value → World → Prop} {R : Ending → World → Prop} (h : D97 a0 a1 K ⟨w, []⟩) (hK : ∀ v w', K v w' → R (.returned v) w') : Calls P 97 #[a0, a1] w R :=
  calls_of bodies_ok Tryd.func97 8 [.tmp 4] (c := b97) (args := [a0, a1]) (K := K) (by kernel_rfl) rfl (e97 a0 a1 K) h hK

/-- rollcall/tags.Get -/
def D98 (a0 a1 : Value) (K : Value → World → Prop) (s : St) : Prop :=
  Bi P .len #[30] 3 #[false] #[a0] (fun v1 s => L1 (.int .i64 0) s (fun N2 x3 s => Bo P .lss 3 false false x3 v1 (fun v4 s => CondP v4 (Ia P 30 a0 x3 (fun v5 s => Ld P 71 v5 (fun v6 s => Al P 71 (fun v7 s => Sv P 71 v7 v6 (fun _ s => Fa P 71 v7 0 (fun v8 s => Ld P 9 v8 (fun v9 s => Bo P .eql 9 false false v9 a1 (fun v10 s => CondP v10 (Fa P 71 v7 1 (fun v11 s => Ld P 9 v11 (fun v12 s => Ret P (fun w => K (.tuple #[v12, .bool true]) w) s) s) s) (Bo P .add 3 false true x3 (.int .i64 1) (fun v13 s => N2 v13 s) s)) s) s) s) s) s) s) s) (Ret P (fun w => K (.tuple #[.string ⟨#[]⟩, .bool false]) w) s)) s)) s
noncomputable def b98 : Code := Tryd.f98.body.getD .skip
theorem e98 (a0 a1 : Value) (K : Value → World → Prop) : wpc P bmask 21 none b98 (lmOf [.tmp 4, .tmp 5]) (ktOf P 21 [.tmp 4, .tmp 5] K) (frOf [a0, a1]) = D98 a0 a1 K := by kernel_rfl
theorem c98 {a0 a1 w : _} {K : Value → World → Prop} {R : Ending → World → Prop} (h : D98 a0 a1 K ⟨w, []⟩) (hK : ∀ v w', K v w' → R (.returned v) w') : Calls P 98 #[a0, a1] w R :=
  calls_of bodies_ok Tryd.func98 21 [.tmp 4, .tmp 5] (c := b98) (args := [a0, a1]) (K := K) (by kernel_rfl) rfl (e98 a0 a1 K) h hK

/-- strings.Index -/
def D99 (a0 a1 : Value) (K : Value → World → Prop) (s : St) : Prop :=
  Cl P 130 #[a0, a1] (fun v1 s => Ret P (fun w => K v1 w) s) s
noncomputable def b99 : Code := Tryd.f99.body.getD .skip
theorem e99 (a0 a1 : Value) (K : Value → World → Prop) : wpc P bmask 8 none b99 (lmOf [.tmp 4]) (ktOf P 8 [.tmp 4] K) (frOf [a0, a1]) = D99 a0 a1 K := by kernel_rfl
theorem c99 {a0 a1 w : _} {K : Value → World → Prop} {R : Ending → World → Prop} (h : D99 a0 a1 K ⟨w, []⟩) (hK : ∀ v w', K v w' → R (.returned v) w') : Calls P 99 #[a0, a1] w R :=
  calls_of bodies_ok Tryd.func99 8 [.tmp 4] (c := b99) (args := [a0, a1]) (K := K) (by kernel_rfl) rfl (e99 a0 a1 K) h hK

/-- slices.IndexFunc[[]string,string] -/
def D100 (a0 a1 : Value) (K : Value → World → Prop) (s : St) : Prop :=
  Bi P .len #[22] 3 #[false] #[a0] (fun v1 s => L1 (.int .i64 0) s (fun N2 x3 s => Bo P .lss 3 false false x3 v1 (fun v4 s => CondP v4 (Ia P 22 a0 x3 (fun v5 s => Ld P 9 v5 (fun v6 s => Dy P a1 #[v6] (fun v7 s => CondP v7 (Ret P (fun w => K x3 w) s) (Bo P .add 3 false true x3 (.int .i64 1) (fun v8 s => N2 v8 s) s)) s) s) s) (Ret P (fun w => K (.int .i64 (-1)) w) s)) s)) s
noncomputable def b100 : Code := Tryd.f100.body.getD .skip
theorem e100 (a0 a1 : Value) (K : Value → World → Prop) : wpc P bmask 19 none b100 (lmOf [.tmp 4]) (ktOf P 19 [.tmp 4] K) (frOf [a0, a1]) = D100 a0 a1 K := by kernel_rfl
theorem c100 {a0 a1 w : _} {K : Value → World → Prop} {R : Ending → World → Prop} (h : D100 a0 a1 K ⟨w, []⟩) (hK : ∀ v w', K v w' → R (.returned v) w') : Calls P 100 #[a0, a1] w R :=
  calls_of bodies_ok Tryd.func100 19 [.tmp 4] (c := b100) (args := [a0, a1]) (K := K) (by kernel_rfl) rfl (e100 a0 a1 K) h hK

/-- slices.Index[[]string,string] -/
def D101 (a0 a1 : Value) (K : Value → World → Prop) (s : St) : Prop :=
  Bi P .len #[22] 3 #[false] #[a0] (fun v1 s => L1 (.int .i64 0) s (fun N2 x3 s => Bo P .lss 3 false false x3 v1 (fun v4 s => CondP v4 (Ia P 22 a0 x3 (fun v5 s => Ld P 9 v5 (fun v6 s => Bo P .eql 9 false false a1 v6 (fun v7 s => CondP v7 (Ret P (fun w => K x3 w) s) (Bo P .add 3 false true x3 (.int .i64 1) (fun v8 s => N2 v8 s) s)) s) s) s) (Ret P (fun w => K (.int .i64 (-1)) w) s)) s)) s
noncomputable def b101 : Code := Tryd.f101.body.getD .skip
theorem e101 (a0 a1 : Value) (K : Value → World → Prop) : wpc P bmask 19 none b101 (lmOf [.tmp 4]) (ktOf P 19 [.tmp 4] K) (frOf [a0, a1]) = D101 a0 a1 K := by kernel_rfl
theorem c101 {a0 a1 w : _} {K : Value → World → Prop} {R : Ending → World → Prop} (h : D101 a0 a1 K ⟨w, []⟩) (hK : ∀ v w', K v w' → R (.returned v) w') : Calls P 101 #[a0, a1] w R :=
  calls_of bodies_ok Tryd.func101 19 [.tmp 4] (c := b101) (args := [a0, a1]) (K := K) (by kernel_rfl) rfl (e101 a0 a1 K) h hK

/-- (*strings.Builder).WriteString -/
def D102 (a0 a1 : Value) (K : Value → World → Prop) (s : St) : Prop :=
  Cl P 131 #[a0] (fun _ s => Nc P a0 (fun v2 s => Fa P 107 v2 1 (fun v3 s => Ld P 46 v3 (fun v4 s => Bi P .append #[46, 9] 46 #[false, false] #[v4, a1] (fun v5 s => Nc P a0 (fun v6 s => Fa P 107 v6 1 (fun v7 s => Sv P 46 v7 v5 (fun _ s => Bi P .len #[9] 3 #[false] #[a1] (fun v8 s => Ret P (fun w => K (.tuple #[v8, .nilIface]) w) s) s) s) s) s) s) s) s) s) s
noncomputable def b102 : Code := Tryd.f102.body.getD .skip
theorem e102 (a0 a1 : Value) (K : Value → World → Prop) : wpc P bmask 19 none b102 (lmOf [.tmp 4, .tmp 5]) (ktOf P 19 [.tmp 4, .tmp 5] K) (frOf [a0, a1]) = D102 a0 a1 K := by kernel_rfl
theorem c102 {a0 a1 w : _} {K : Value → World → Prop} {R : Ending → World → Prop} (h : D102 a0 a1 K ⟨w, []⟩) (hK : ∀ v w', K v w' → R (.returned v) w') : Calls P 102 #[a0, a1] w R :=
  calls_of bodies_ok Tryd.func102 19 [.tmp 4, .tmp 5] (c := b102) (args := [a0, a1]) (K := K) (by kernel_rfl) rfl (e102 a0 a1 K) h hK

/-- rollcall/tags.Text -/
def D103 (a0 : Value) (K : Value → World → Prop) (s : St) : Prop :=
  Cl P 56 #[a0] (fun v1 s => Bo P .neq 33 false true v1 (.int .i64 0) (fun v2 s => CondP v2 (Ret P (fun w => K (.string ⟨#[]⟩) w) s) (Bi P .len #[30] 3 #[false] #[a0] (fun v3 s => L2 (.slice none 0 0) (.int .i64 0) s (fun N4 x5 x6 s => Bo P .lss 3 false false x6 v3 (fun v7 s => CondP v7 (Ia P 30 a0 x6 (fun v8 s => Ld P 71 v8 (fun v9 s => Al P 71 (fun v10 s => Sv P 71 v10 v9 (fun _ s => Fa P 71 v10 0 (fun v11 s => Ld P 9 v11 (fun v12 s => J1 (fun A13 => Fa P 71 v10 1 (fun v15 s => Ld P 9 v15 (fun v16 s => Bo P .neq 9 false true v16 (.string ⟨#[]⟩) (fun v17 s => CondP v17 (Fa P 71 v10 1 (fun v18 s => Ld P 9 v18 (fun v19 s => Cl P 132 #[v19] (fun v20 s => Bo P .add 9 true false (.string ⟨#[61]⟩) v20 (fun v21 s => Bo P .add 9 false false v12 v21 (fun v22 s => A13 v22 s) s) s) s) s) s) (A13 v12 s)) s) s) s) (fun x14 s => Bs P 22 1 #[(0, x14)] (fun v23 s => Bi P .append #[22, 22] 22 #[false, false] #[x5, v23] (fun v24 s => Bo P .add 3 false true x6 (.int .i64 1) (fun v25 s => N4 v24 v25 s) s) s) s)) s) s) s) s) s) s) (Cl P 112 #[x5, .string ⟨#[59]⟩] (fun v26 s => Ret P (fun w => K v26 w) s) s)) s)) s)) s) s
noncomputable def b103 : Code := Tryd.f103.body.getD .skip
theorem e103 (a0 : Value) (K : Value → World → Prop) : wpc P bmask 34 none b103 (lmOf [.tmp 2]) (ktOf P 34 [.tmp 2] K) (frOf [a0]) = D103 a0 K := by kernel_rfl
theorem c103 {a0 w : _} {K : Value → World → Prop} {R : Ending → World → Prop} (h : D103 a0 K ⟨w, []⟩) (hK : ∀ v w', K v w' → R (.returned v) w') : Calls P 103 #[a0] w R :=
  calls_of bodies_ok Tryd.func103 34 [.tmp 2] (c := b103) (args := [a0]) (K := K) (by kernel_rfl) rfl (e103 a0 K) h hK

/-- (*strings.Builder).WriteByte -/
def D104 (a0 a1 : Value) (K : Value → World → Prop) (s : St) : Prop :=
  Cl P 131 #[a0] (fun _ s => Nc P a0 (fun v2 s => Fa P 107 v2 1 (fun v3 s => Ld P 46 v3 (fun v4 s => Bs P 46 1 #[(0, a1)] (fun v5 s => Bi P .append #[46, 46] 46 #[false, false] #[v4, v5] (fun v6 s => Nc P a0 (fun v7 s => Fa P 107 v7 1 (fun v8 s => Sv P 46 v8 v6 (fun _ s => Ret P (fun w => K (.nilIface) w) s) s) s) s) s) s) s) s) s) s
noncomputable def b104 : Code := Tryd.f104.body.getD .skip
theorem e104 (a0 a1 : Value) (K : Value → World → Prop) : wpc P bmask 17 none b104 (lmOf [.tmp 4]) (ktOf P 17 [.tmp 4] K) (frOf [a0, a1]) = D104 a0 a1 K := by kernel_rfl
theorem c104 {a0 a1 w : _} {K : Value → World → Prop} {R : Ending → World → Prop} (h : D104 a0 a1 K ⟨w, []⟩) (hK : ∀ v w', K v w' → R (.returned v) w') : Calls P 104 #[a0, a1] w R :=
  calls_of bodies_ok Tryd.func104 17 [.tmp 4] (c := b104) (args := [a0, a1]) (K := K) (by kernel_rfl) rfl (e104 a0 a1 K) h hK

/-- (*strings.Builder).String -/
def D105 (a0 : Value) (K : Value → World → Prop) (s : St) : Prop :=
  Dw (fun s => Qt (Nc P a0) s fun v1 => Qt (Fa P 107 v1 1) s fun v2 => Qt (Ld P 46 v2) s fun v3 => Qt (Nc P a0) s fun v4 => Qt (Fa P 107 v4 1) s fun v5 => Qt (Ld P 46 v5) s fun v6 => Qt (Bi P .len #[46] 3 #[false] #[v6]) s fun v7 => Bi P .unsafeSliceData #[46] 133 #[false] #[v3] (fun v8 s => Ck (Nc P a0) v4 s ∧ Ck (Fa P 107 v4 1) v5 s ∧ Ck (Ld P 46 v5) v6 s ∧ Ck (Bi P .len #[46] 3 #[false] #[v6]) v7 s ∧ (Bi P .unsafeString #[133, 3] 9 #[false, false] #[v8, v7] (fun v9 s => Ret P (fun w => K v9 w) s) s)) s) s
noncomputable def b105 : Code := Tryd.f105.body.getD .skip
theorem e105 (a0 : Value) (K : Value → World → Prop) : wpc P bmask 14 none b105 (lmOf [.tmp 2]) (ktOf P 14 [.tmp 2] K) (frOf [a0]) = D105 a0 K := by kernel_rfl
theorem c105 {a0 w : _} {K : Value → World → Prop} {R : Ending → World → Prop} (h : D105 a0 K ⟨w, []⟩) (hK : ∀ v w', K v w' → R (.returned v) w') : Calls P 105 #[a0] w R :=
  calls_of bodies_ok Tryd.func105 14 [.tmp 2] (c := b105) (args := [a0]) (K := K) (by kernel_rfl) rfl (e105 a0 K) h hK

/-- rollcall/reply.Word -/
def D106 (a0 : Value) (K : Value → World → Prop) (s : St) : Prop :=
  Bo P .eql 3 false true a0 (.int .i64 305) (fun v1 s => CondP v1 (Ret P (fun w => K (.string ⟨#[89, 111, 117, 32, 97, 114, 101, 32, 110, 111, 32, 108, 111, 110, 103, 101, 114, 32, 109, 97, 114, 107, 101, 100, 32, 97, 115, 32, 98, 101, 105, 110, 103, 32, 97, 119, 97, 121]⟩) w) s) (Bo P .eql 3 false true a0 (.int .i64 306) (fun v2 s => CondP v2 (Ret P (fun w => K (.string ⟨#[89, 111, 117, 32, 104, 97, 118, 101, 32, 98, 101, 101, 110, 32, 109, 97, 114, 107, 101, 100, 32, 97, 115, 32, 98, 101, 105, 110, 103, 32, 97, 119, 97, 121]⟩) w) s) (J1 (fun A3 => Bo P .eql 3 false true a0 (.int .i64 315) (fun v5 s => CondP v5 (A3 v5 s) (Bo P .eql 3 false true a0 (.int .i64 318) (fun v6 s => CondP v6 (A3 v6 s) (Bo P .eql 3 false true a0 (.int .i64 323) (fun v7 s => CondP v7 (A3 v7 s) (Bo P .eql 3 false true a0 (.int .i64 366) (fun v8 s => CondP v8 (A3 v8 s) (Bo P .eql 3 false true a0 (.int .i64 368) (fun v9 s => CondP v9 (A3 v9 s) (Bo P .eql 3 false true a0 (.int .i64 369) (fun v10 s => CondP v10 (A3 v10 s) (Bo P .eql 3 false true a0 (.int .i64 607) (fun v11 s => CondP v11 (A3 v11 s) (Bo P .eql 3 false true a0 (.int .i64 733) (fun v12 s => A3 v12 s) s)) s)) s)) s)) s)) s)) s)) s) (fun x4 s => CondP x4 (Cl P 133 #[a0] (fun v13 s => Bo P .add 9 true false (.string ⟨#[69, 110, 100, 32, 111, 102, 32]⟩) v13 (fun v14 s => Ret P (fun w => K v14 w) s) s) s) (Bo P .eql 3 false true a0 (.int .i64 381) (fun v15 s => CondP v15 (Ret P (fun w => K (.string ⟨#[89, 111, 117, 32, 97, 114, 101, 32, 110, 111, 119, 32, 97, 110, 32, 73, 82, 67, 32, 111, 112, 101, 114, 97, 116, 111, 114]⟩) w) s) (Bo P .eql 3 false true a0 (.int .i64 422) (fun v16 s => CondP v16 (Ret P (fun w => K (.string ⟨#[77, 79, 84, 68, 32, 70, 105, 108, 101, 32, 105, 115, 32, 109, 105, 115, 115, 105, 110, 103]⟩) w) s) (J1 (fun A17 => Bo P .eql 3 false true a0 (.int .i64 471) (fun v19 s => CondP v19 (A17 v19 s) (Bo P .eql 3 false true a0 (.int .i64 473) (fun v20 s => CondP v20 (A17 v20 s) (Bo P .eql 3 false true a0 (.int .i64 474) (fun v21 s => CondP v21 (A17 v21 s) (Bo P .eql 3 false true a0 (.int .i64 475) (fun v22 s => A17 v22 s) s)) s)) s)) s) (fun x18 s => CondP x18 (Mm P 134 none (fun v23 s => Mu P 134 v23 (.int .i64 471) (.string ⟨#[108]⟩) (fun _ s => Mu P 134 v23 (.int .i64 473) (.string ⟨#[105]⟩) (fun _ s => Mu P 134 v23 (.int .i64 474) (.string ⟨#[98]⟩) (fun _ s => Mu P 134 v23 (.int .i64 475) (.string ⟨#[107]⟩) (fun _ s => Lk P 134 v23 a0 false (fun v24 s => Bo P .add 9 true false (.string ⟨#[67, 97, 110, 110, 111, 116, 32, 106, 111, 105, 110, 32, 99, 104, 97, 110, 110, 101, 108, 32, 40, 43]⟩) v24 (fun v25 s => Bo P .add 9 false true v25 (.string ⟨#[41]⟩) (fun v26 s => Ret P (fun w => K v26 w) s) s) s) s) s) s) s) s) s) (Cl P 134 #[a0] (fun v27 s => Ret P (fun w => K v27 w) s) s)))) s)) s)))) s)) s
noncomputable def b106 : Code := Tryd.f106.body.getD .skip
theorem e106 (a0 : Value) (K : Value → World → Prop) : wpc P bmask 37 none b106 (lmOf [.tmp 2]) (ktOf P 37 [.tmp 2] K) (frOf [a0]) = D106 a0 K := by kernel_rfl
theorem c106 {a0 w : _} {K : Value → World → Prop} {R : Ending → World → Prop} (h : D106 a0 K ⟨w, []⟩) (hK : ∀ v w', K v w' → R (.returned v) w') : Calls P 106 #[a0] w R :=
  calls_of bodies_ok Tryd.func106 37 [.tmp 2] (c := b106) (args := [a0]) (K := K) (by kernel_rfl) rfl (e106 a0 K) h hK

/-- rollcall/valid.kinds -/
def D107 (K : Value → World → Prop) (s : St) : Prop :=
  Al P 114 (fun v1 s => Al P 114 (fun v2 s => L1 (.int .i64 0) s (fun N3 x4 s => Bo P .lss 3 false true x4 (.int .i64 256) (fun v5 s => CondP v5 (J0 (fun A6 => Bo P .geq 3 false true x4 (.int .i64 48) (fun v7 s => J1 (fun A8 => Grd v7 true (Bo P .leq 3 false true x4 (.int .i64 57) (fun v10 s => A8 v10 s) s) (A8 undef s)) (fun x9 s => Pk P v7 x9 (.bool false) (fun v11 s => Bo P .geq 3 false true x4 (.int .i64 33) (fun v12 s => J1 (fun A13 => Grd v12 true (Bo P .leq 3 false true x4 (.int .i64 126) (fun v15 s => A13 v15 s) s) (A13 undef s)) (fun x14 s => Pk P v12 x14 (.bool false) (fun v16 s => J0 (fun A17 => Cl P 135 #[x4] (fun v18 s => J1 (fun A19 => Grd v18 false (Cl P 136 #[.string ⟨#[91, 93, 92, 95, 94, 123, 124, 125, 96]⟩, x4] (fun v21 s => A19 v21 s) s) (A19 undef s)) (fun x20 s => Pk P v18 (.bool true) x20 (fun v22 s => CondP v22 (Ia P 114 v2 x4 (fun v23 s => Ld P 87 v23 (fun v24 s => Bo P .or 87 false true v24 (.int .u16 3) (fun v25 s => Ia P 114 v2 x4 (fun v26 s => Sv P 87 v26 v25 (fun _ s => A17 s) s) s) s) s) s) (A17 s)) s)) s) (fun s => J0 (fun A27 => J1 (fun A28 => Grd v11 false (Bo P .eql 3 false true x4 (.int .i64 45) (fun v30 s => A28 v30 s) s) (A28 undef s)) (fun x29 s => Pk P v11 (.bool true) x29 (fun v31 s => CondP v31 (Ia P 114 v2 x4 (fun v32 s => Ld P 87 v32 (fun v33 s => Bo P .or 87 false true v33 (.int .u16 2) (fun v34 s => Ia P 114 v2 x4 (fun v35 s => Sv P 87 v35 v34 (fun _ s => A27 s) s) s) s) s) s) (A27 s)) s)) (fun s => J0 (fun A36 => Cl P 136 #[.string ⟨#[0, 7, 10, 13, 32, 44, 58]⟩, x4] (fun v37 s => Uo P .not v37 (fun v38 s => CondP v38 (Ia P 114 v2 x4 (fun v39 s => Ld P 87 v39 (fun v40 s => Bo P .or 87 false true v40 (.int .u16 4) (fun v41 s => Ia P 114 v2 x4 (fun v42 s => Sv P 87 v42 v41 (fun _ s => A36 s) s) s) s) s) s) (A36 s)) s) s) (fun s => J0 (fun A43 => J1 (fun A44 => Grd v16 true (Cl P 136 #[.string ⟨#[33, 64, 42, 63, 58]⟩, x4] (fun v46 s => Uo P .not v46 (fun v47 s => A44 v47 s) s) s) (A44 undef s)) (fun x45 s => Pk P v16 x45 (.bool false) (fun v48 s => CondP v48 (Ia P 114 v2 x4 (fun v49 s => Ld P 87 v49 (fun v50 s => Bo P .or 87 false true v50 (.int .u16 8) (fun v51 s => Ia P 114 v2 x4 (fun v52 s => Sv P 87 v52 v51 (fun _ s => A43 s) s) s) s) s) s) (A43 s)) s)) (fun s => J0 (fun A53 => Cl P 135 #[x4] (fun v54 s => J1 (fun A55 => Grd v54 false (A55 v11 s) (A55 undef s)) (fun x56 s => Pk P v54 (.bool true) x56 (fun v57 s => J1 (fun A58 => Grd v57 false (Cl P 136 #[.string ⟨#[46, 45, 58]⟩, x4] (fun v60 s => A58 v60 s) s) (A58 undef s)) (fun x59 s => Pk P v57 (.bool true) x59 (fun v61 s => CondP v61 (Ia P 114 v2 x4 (fun v62 s => Ld P 87 v62 (fun v63 s => Bo P .or 87 false true v63 (.int .u16 16) (fun v64 s => Ia P 114 v2 x4 (fun v65 s => Sv P 87 v65 v64 (fun _ s => A53 s) s) s) s) s) s) (A53 s)) s)) s)) s) (fun s => J0 (fun A66 => J1 (fun A67 => Grd v16 true (Bo P .neq 3 false true x4 (.int .i64 44) (fun v69 s => A67 v69 s) s) (A67 undef s)) (fun x68 s => Pk P v16 x68 (.bool false) (fun v70 s => CondP v70 (Ia P 114 v2 x4 (fun v71 s => Ld P 87 v71 (fun v72 s => Bo P .or 87 false true v72 (.int .u16 32) (fun v73 s => Ia P 114 v2 x4 (fun v74 s => Sv P 87 v74 v73 (fun _ s => A66 s) s) s) s) s) s) (A66 s)) s)) (fun s => Cl P 136 #[.string ⟨#[0, 10, 13]⟩, x4] (fun v75 s => Uo P .not v75 (fun v76 s => CondP v76 (Ia P 114 v2 x4 (fun v77 s => Ld P 87 v77 (fun v78 s => Bo P .or 87 false true v78 (.int .u16 64) (fun v79 s => Ia P 114 v2 x4 (fun v80 s => Sv P 87 v80 v79 (fun _ s => A6 s) s) s) s) s) s) (A6 s)) s) s))))))) s)) s) s)) s) (fun s => Bo P .add 3 false true x4 (.int .i64 1) (fun v81 s => N3 v81 s) s)) (Ld P 114 v2 (fun v82 s => Sv P 114 v1 v82 (fun _ s => Ret P (fun w => LdR P 114 v1 w fun v83 => K v83 w) s) s) s)) s)) s) s
noncomputable def b107 : Code := Tryd.f107.body.getD .skip
theorem e107 (K : Value → World → Prop) : wpc P bmask 94 none b107 (lmOf [.cell 0 114]) (ktOf P 94 [.cell 0 114] K) (frOf []) = D107 K := by kernel_rfl
theorem c107 {w : _} {K : Value → World → Prop} {R : Ending → World → Prop} (h : D107 K ⟨w, []⟩) (hK : ∀ v w', K v w' → R (.returned v) w') : Calls P 107 #[] w R :=
  calls_of bodies_ok Tryd.func107 94 [.cell 0 114] (c := b107) (args := []) (K := K) (by kernel_rfl) rfl (e107 K) h hK

/-- (*strings.Builder).Len -/
def D108 (a0 : Value) (K : Value → World → Prop) (s : St) : Prop :=
  Nc P a0 (fun v1 s => Fa P 107 v1 1 (fun v2 s => Ld P 46 v2 (fun v3 s => Bi P .len #[46] 3 #[false] #[v3] (fun v4 s => Ret P (fun w => K v4 w) s) s) s) s) s
noncomputable def b108 : Code := Tryd.f108.body.getD .skip
theorem e108 (a0 : Value) (K : Value → World → Prop) : wpc P bmask 8 none b108 (lmOf [.tmp 2]) (ktOf P 8 [.tmp 2] K) (frOf [a0]) = D108 a0 K := by kernel_rfl
theorem c108 {a0 w : _} {K : Value → World → Prop} {R : Ending → World → Prop} (h : D108 a0 K ⟨w, []⟩) (hK : ∀ v w', K v w' → R (.returned v) w') : Calls P 108 #[a0] w R :=
  calls_of bodies_ok Tryd.func108 8 [.tmp 2] (c := b108) (args := [a0]) (K := K) (by kernel_rfl) rfl (e108 a0 K) h hK

/-- strings.Map -/
def D109 (a0 a1 : Value) (K : Value → World → Prop) (s : St) : Prop :=
  Al P 107 (fun v1 s => J1 (fun A2 => Rg P 9 a1 (fun v4 s => L1 a1 s (fun N5 x6 s => Nx P v4 true 0 (fun v7 s => Ex P v7 0 (fun v8 s => CondP v8 (Ex P v7 1 (fun v9 s => Ex P v7 2 (fun v10 s => Dy P a0 #[v10] (fun v11 s => Bo P .eql 21 false false v11 v10 (fun v12 s => J1 (fun A13 => Grd v12 true (Bo P .neq 21 false true v10 (.int .i32 65533) (fun v15 s => A13 v15 s) s) (A13 undef s)) (fun x14 s => Pk P v12 x14 (.bool false) (fun v16 s => CondP v16 (N5 x6 s) (J1 (fun A17 => Bo P .eql 21 false true v10 (.int .i32 65533) (fun v19 s => CondP v19 (Sl P 9 x6 (some v9) none none (fun v20 s => Cl P 137 #[v20] (fun v21 s => Ex P v21 0 (fun v22 s => Ex P v21 1 (fun v23 s => Bo P .neq 3 false true v23 (.int .i64 1) (fun v24 s => J1 (fun A25 => Grd v24 true (Bo P .eql 21 false false v11 v22 (fun v27 s => A25 v27 s) s) (A25 undef s)) (fun x26 s => Pk P v24 x26 (.bool false) (fun v28 s => CondP v28 (N5 x6 s) (A17 v23 s)) s)) s) s) s) s) s) (Cl P 138 #[v10] (fun v29 s => A17 v29 s) s)) s) (fun x18 s => Bi P .len #[9] 3 #[false] #[x6] (fun v30 s => Bo P .add 3 false true v30 (.int .i64 4) (fun v31 s => Cl P 139 #[v1, v31] (fun _ s => Sl P 9 x6 none (some v9) none (fun v33 s => Cl P 102 #[v1, v33] (fun _ s => J0 (fun A35 => Bo P .geq 21 false true v11 (.int .i32 0) (fun v36 s => CondP v36 (Cl P 140 #[v1, v11] (fun _ s => A35 s) s) (A35 s)) s) (fun s => Bo P .add 3 false false v9 x18 (fun v38 s => Sl P 9 x6 (some v38) none none (fun v39 s => A2 v39 s) s) s)) s) s) s) s) s))) s)) s) s) s) s) (A2 x6 s)) s) s)) s) (fun x3 s => Cl P 141 #[v1] (fun v40 s => Bo P .eql 3 false true v40 (.int .i64 0) (fun v41 s => CondP v41 (Ret P (fun w => K x3 w) s) (Rg P 9 x3 (fun v42 s => L0 s (fun N43 s => Nx P v42 true 0 (fun v44 s => Ex P v44 0 (fun v45 s => CondP v45 (Ex P v44 2 (fun v46 s => Dy P a0 #[v46] (fun v47 s => Bo P .geq 21 false true v47 (.int .i32 0) (fun v48 s => CondP v48 (Bo P .lss 21 false true v47 (.int .i32 128) (fun v49 s => CondP v49 (Cv P 21 5 v47 (fun v50 s => Cl P 104 #[v1, v50] (fun _ s => N43 s) s) s) (Cl P 140 #[v1, v47] (fun _ s => N43 s) s)) s) (N43 s)) s) s) s) (Cl P 105 #[v1] (fun v53 s => Ret P (fun w => K v53 w) s) s)) s) s)) s)) s) s)) s
noncomputable def b109 : Code := Tryd.f109.body.getD .skip
theorem e109 (a0 a1 : Value) (K : Value → World → Prop) : wpc P bmask 85 none b109 (lmOf [.tmp 4]) (ktOf P 85 [.tmp 4] K) (frOf [a0, a1]) = D109 a0 a1 K := by kernel_rfl
theorem c109 {a0 a1 w : _} {K : Value → World → Prop} {R : Ending → World → Prop} (h : D109 a0 a1 K ⟨w, []⟩) (hK : ∀ v w', K v w' → R (.returned v) w') : Calls P 109 #[a0, a1] w R :=
  calls_of bodies_ok Tryd.func109 85 [.tmp 4] (c := b109) (args := [a0, a1]) (K := K) (by kernel_rfl) rfl (e109 a0 a1 K) h hK

/-- rollcall/sign.capitals$1 -/
def D110 (a0 : Value) (K : Value → World → Prop) (s : St) : Prop :=
  Bo P .geq 21 false true a0 (.int .i32 97) (fun v1 s => J1 (fun A2 => Grd v1 true (Bo P .leq 21 false true a0 (.int .i32 122) (fun v4 s => A2 v4 s) s) (A2 undef s)) (fun x3 s => Pk P v1 x3 (.bool false) (fun v5 s => CondP v5 (Bo P .sub 21 false true a0 (.int .i32 32) (fun v6 s => Ret P (fun w => K v6 w) s) s) (Ret P (fun w => K a0 w) s)) s)) s
noncomputable def b110 : Code := Tryd.f110.body.getD .skip
theorem e110 (a0 : Value) (K : Value → World → Prop) : wpc P bmask 12 none b110 (lmOf [.tmp 2]) (ktOf P 12 [.tmp 2] K) (frOf [a0]) = D110 a0 K := by kernel_rfl
theorem c110 {a0 w : _} {K : Value → World → Prop} {R : Ending → World → Prop} (h : D110 a0 K ⟨w, []⟩) (hK : ∀ v w', K v w' → R (.returned v) w') : Calls P 110 #[a0] w R :=
  calls_of bodies_ok Tryd.func110 12 [.tmp 2] (c := b110) (args := [a0]) (K := K) (by kernel_rfl) rfl (e110 a0 K) h hK

/-- rollcall/caps.All -/
def D111 (K : Value → World → Prop) (s : St) : Prop :=
  Ret P (fun w => K (.func (.func 142) #[] #[]) w) s
noncomputable def b111 : Code := Tryd.f111.body.getD .skip
theorem e111 (K : Value → World → Prop) : wpc P bmask 1 none b111 (lmOf [.tmp 0]) (ktOf P 1 [.tmp 0] K) (frOf []) = D111 K := by kernel_rfl
theorem c111 {w : _} {K : Value → World → Prop} {R : Ending → World → Prop} (h : D111 K ⟨w, []⟩) (hK : ∀ v w', K v w' → R (.returned v) w') : Calls P 111 #[] w R :=
  calls_of bodies_ok Tryd.func111 1 [.tmp 0] (c := b111) (args := []) (K := K) (by kernel_rfl) rfl (e111 K) h hK

/-- strings.Join -/
def D112 (a0 a1 : Value) (K : Value → World → Prop) (s : St) : Prop :=
  Bi P .len #[22] 3 #[false] #[a0] (fun v1 s => Bo P .eql 3 false true v1 (.int .i64 0) (fun v2 s => CondP v2 (Ret P (fun w => K (.string ⟨#[]⟩) w) s) (Bo P .eql 3 false true v1 (.int .i64 1) (fun v3 s => CondP v3 (Ia P 22 a0 (.int .i64 0) (fun v4 s => Ld P 9 v4 (fun v5 s => Ret P (fun w => K v5 w) s) s) s) (J1 (fun A6 => Bi P .len #[9] 3 #[false] #[a1] (fun v8 s => Bo P .gtr 3 false true v8 (.int .i64 0) (fun v9 s => CondP v9 (J0 (fun A10 => Bi P .len #[9] 3 #[false] #[a1] (fun v11 s => Bi P .len #[22] 3 #[false] #[a0] (fun v12 s => Bo P .sub 3 false true v12 (.int .i64 1) (fun v13 s => Bo P .quo 3 true false (.int .i64 9223372036854775807) v13 (fun v14 s => Bo P .geq 3 false false v11 v14 (fun v15 s => CondP v15 (Mi P 9 (.string ⟨#[115, 116, 114, 105, 110, 103, 115, 58, 32, 74, 111, 105, 110, 32, 111, 117, 116, 112, 117, 116, 32, 108, 101, 110, 103, 116, 104, 32, 111, 118, 101, 114, 102, 108, 111, 119]⟩) (fun v16 s => Pn P v16 (fun _ s => A10 s) s) s) (A10 s)) s) s) s) s) s) (fun s => Bi P .len #[9] 3 #[false] #[a1] (fun v17 s => Bi P .len #[22] 3 #[false] #[a0] (fun v18 s => Bo P .sub 3 false true v18 (.int .i64 1) (fun v19 s => Bo P .mul 3 false false v17 v19 (fun v20 s => Bo P .add 3 false false (.int .i64 0) v20 (fun v21 s => A6 v21 s) s) s) s) s) s)) (A6 (.int .i64 0) s)) s) s) (fun x7 s => Bi P .len #[22] 3 #[false] #[a0] (fun v22 s => L2 x7 (.int .i64 0) s (fun N23 x24 x25 s => Bo P .lss 3 false false x25 v22 (fun v26 s => CondP v26 (Ia P 22 a0 x25 (fun v27 s => Ld P 9 v27 (fun v28 s => J0 (fun A29 => Bi P .len #[9] 3 #[false] #[v28] (fun v30 s => Bo P .sub 3 true false (.int .i64 9223372036854775807) x24 (fun v31 s => Bo P .gtr 3 false false v30 v31 (fun v32 s => CondP v32 (Mi P 9 (.string ⟨#[115, 116, 114, 105, 110, 103, 115, 58, 32, 74, 111, 105, 110, 32, 111, 117, 116, 112, 117, 116, 32, 108, 101, 110, 103, 116, 104, 32, 111, 118, 101, 114, 102, 108, 111, 119]⟩) (fun v33 s => Pn P v33 (fun _ s => A29 s) s) s) (A29 s)) s) s) s) (fun s => Bi P .len #[9] 3 #[false] #[v28] (fun v34 s => Bo P .add 3 false false x24 v34 (fun v35 s => Bo P .add 3 false true x25 (.int .i64 1) (fun v36 s => N23 v35 v36 s) s) s) s)) s) s) (Al P 107 (fun v37 s => Cl P 139 #[v37, x24] (fun _ s => Ia P 22 a0 (.int .i64 0) (fun v39 s => Ld P 9 v39 (fun v40 s => Cl P 102 #[v37, v40] (fun _ s => Sl P 22 a0 (some (.int .i64 1)) none none (fun v42 s => Bi P .len #[22] 3 #[false] #[v42] (fun v43 s => L1 (.int .i64 0) s (fun N44 x45 s => Bo P .lss 3 false false x45 v43 (fun v46 s => CondP v46 (Ia P 22 v42 x45 (fun v47 s => Ld P 9 v47 (fun v48 s => Cl P 102 #[v37, a1] (fun _ s => Cl P 102 #[v37, v48] (fun _ s => Bo P .add 3 false true x45 (.int .i64 1) (fun v51 s => N44 v51 s) s) s) s) s) s) (Cl P 105 #[v37] (fun v52 s => Ret P (fun w => K v52 w) s) s)) s)) s) s) s) s) s) s) s)) s)) s))) s)) s) s
noncomputable def b112 : Code := Tryd.f112.body.getD .skip
theorem e112 (a0 a1 : Value) (K : Value → World → Prop) : wpc P bmask 75 none b112 (lmOf [.tmp 4]) (ktOf P 75 [.tmp 4] K) (frOf [a0, a1]) = D112 a0 a1 K := by kernel_rfl
theorem c112 {a0 a1 w : _} {K : Value → World → Prop} {R : Ending → World → Prop} (h : D112 a0 a1 K ⟨w, []⟩) (hK : ∀ v w', K v w' → R (.returned v) w') : Calls P 112 #[a0, a1] w R :=
  calls_of bodies_ok Tryd.func112 75 [.tmp 4] (c := b112) (args := [a0, a1]) (K := K) (by kernel_rfl) rfl (e112 a0 a1 K) h hK

/-- rollcall/caps.Number -/
def D113 (a0 : Value) (K : Value → World → Prop) (s : St) : Prop :=
  Bx P 9 a0 (fun v1 s => Al P 3 (fun v2 s => Cl P 111 #[] (fun v3 s => Rf P none 2 v3 (fun l4 as5 R6 s => Bg P l4 (fun s => Ld P 9 v1 (fun v8 s => Bo P .eql 9 false false (as5.headD undef) v8 (fun v9 s => CondP v9 (Sv P 3 v2 (as5.tail.headD undef) (fun _ s => Er P l4 (some .ret) R6 s) s) (Er P l4 none R6 s)) s) s) s) (fun s => Sv P 3 v2 (.int .i64 0) (fun _ s => Ret P (fun w => LdR P 3 v2 w fun v10 => K v10 w) s) s) (fun s => Ret P (fun w => LdR P 3 v2 w fun v11 => K v11 w) s) (fun i7 s => False) s) s) s) s
noncomputable def b113 : Code := Tryd.f113.body.getD .skip
theorem e113 (a0 : Value) (K : Value → World → Prop) : wpc P bmask 12 none b113 (lmOf [.cell 2 3]) (ktOf P 12 [.cell 2 3] K) (frOf [a0]) = D113 a0 K := by kernel_rfl
theorem c113 {a0 w : _} {K : Value → World → Prop} {R : Ending → World → Prop} (h : D113 a0 K ⟨w, []⟩) (hK : ∀ v w', K v w' → R (.returned v) w') : Calls P 113 #[a0] w R :=
  calls_of bodies_ok Tryd.func113 12 [.cell 2 3] (c := b113) (args := [a0]) (K := K) (by kernel_rfl) rfl (e113 a0 K) h hK

/-- strings.Replace -/
def D114 (a0 a1 a2 a3 : Value) (K : Value → World → Prop) (s : St) : Prop :=
  Bo P .eql 9 false false a1 a2 (fun v1 s => J1 (fun A2 => Grd v1 false (Bo P .eql 3 false true a3 (.int .i64 0) (fun v4 s => A2 v4 s) s) (A2 undef s)) (fun x3 s => Pk P v1 (.bool true) x3 (fun v5 s => CondP v5 (Ret P (fun w => K a0 w) s) (J1 (fun A6 => Cl P 143 #[a0, a1] (fun v8 s => Bo P .eql 3 false true v8 (.int .i64 0) (fun v9 s => CondP v9 (Ret P (fun w => K a0 w) s) (Bo P .lss 3 false true a3 (.int .i64 0) (fun v10 s => J1 (fun A11 => Grd v10 false (Bo P .lss 3 false false v8 a3 (fun v13 s => A11 v13 s) s) (A11 undef s)) (fun x12 s => Pk P v10 (.bool true) x12 (fun v14 s => CondP v14 (A6 v8 s) (A6 a3 s)) s)) s)) s) s) (fun x7 s => Al P 107 (fun v15 s => Bi P .len #[9] 3 #[false] #[a0] (fun v16 s => Bi P .len #[9] 3 #[false] #[a2] (fun v17 s => Bi P .len #[9] 3 #[false] #[a1] (fun v18 s => Bo P .sub 3 false false v17 v18 (fun v19 s => Bo P .mul 3 false false x7 v19 (fun v20 s => Bo P .add 3 false false v16 v20 (fun v21 s => Cl P 139 #[v15, v21] (fun _ s => J1 (fun A23 => Bi P .len #[9] 3 #[false] #[a1] (fun v25 s => Bo P .gtr 3 false true v25 (.int .i64 0) (fun v26 s => CondP v26 (L2 (.int .i64 0) (.int .i64 0) s (fun N27 x28 x29 s => Bo P .lss 3 false false x29 x7 (fun v30 s => CondP v30 (Sl P 9 a0 (some x28) none none (fun v31 s => Cl P 99 #[v31, a1] (fun v32 s => Bo P .add 3 false false x28 v32 (fun v33 s => Sl P 9 a0 (some x28) (some v33) none (fun v34 s => Cl P 102 #[v15, v34] (fun _ s => Cl P 102 #[v15, a2] (fun _ s => Bi P .len #[9] 3 #[false] #[a1] (fun v37 s => Bo P .add 3 false false v33 v37 (fun v38 s => Bo P .add 3 false true x29 (.int .i64 1) (fun v39 s => N27 v38 v39 s) s) s) s) s) s) s) s) s) s) (A23 x28 s)) s)) (Cl P 102 #[v15, a2] (fun _ s => Bo P .sub 3 false true x7 (.int .i64 1) (fun v41 s => L2 (.int .i64 0) (.int .i64 0) s (fun N42 x43 x44 s => Bo P .lss 3 false false x44 v41 (fun v45 s => CondP v45 (Sl P 9 a0 (some x43) none none (fun v46 s => Cl P 137 #[v46] (fun v47 s => Ex P v47 0 (fun _ s => Ex P v47 1 (fun v49 s => Bo P .add 3 false false x43 v49 (fun v50 s => Sl P 9 a0 (some x43) (some v50) none (fun v51 s => Cl P 102 #[v15, v51] (fun _ s => Cl P 102 #[v15, a2] (fun _ s => Bo P .add 3 false true x44 (.int .i64 1) (fun v54 s => N42 v50 v54 s) s) s) s) s) s) s) s) s) s) (A23 x43 s)) s)) s) s)) s) s) (fun x24 s => Sl P 9 a0 (some x24) none none (fun v55 s => Cl P 102 #[v15, v55] (fun _ s => Cl P 105 #[v15] (fun v57 s => Ret P (fun w => K v57 w) s) s) s) s)) s) s) s) s) s) s) s) s))) s)) s
noncomputable def b114 : Code := Tryd.f114.body.getD .skip
theorem e114 (a0 a1 a2 a3 : Value) (K : Value → World → Prop) : wpc P bmask 104 none b114 (lmOf [.tmp 8]) (ktOf P 104 [.tmp 8] K) (frOf [a0, a1, a2, a3]) = D114 a0 a1 a2 a3 K := by kernel_rfl
theorem c114 {a0 a1 a2 a3 w : _} {K : Value → World → Prop} {R : Ending → World → Prop} (h : D114 a0 a1 a2 a3 K ⟨w, []⟩) (hK : ∀ v w', K v w' → R (.returned v) w') : Calls P 114 #[a0, a1, a2, a3] w R :=
  calls_of bodies_ok Tryd.func114 104 [.tmp 8] (c := b114) (args := [a0, a1, a2, a3]) (K := K) (by kernel_rfl) rfl (e114 a0 a1 a2 a3 K) h hK

/-- internal/stringslite.Cut -/
def D115 (a0 a1 : Value) (K : Value → World → Prop) (s : St) : Prop :=
  Cl P 130 #[a0, a1] (fun v1 s => Bo P .geq 3 false true v1 (.int .i64 0) (fun v2 s => CondP v2 (Dw (fun s => Qt (Sl P 9 a0 none (some v1) none) s fun v3 => Qt (Bi P .len #[9] 3 #[false] #[a1]) s fun v4 => Qt (Bo P .add 3 false false v1 v4) s fun v5 => Qt (Sl P 9 a0 (some v5) none none) s fun v6 => Ret P (fun w => K (.tuple #[v3, v6, .bool true]) w) s) s) (Ret P (fun w => K (.tuple #[a0, .string ⟨#[]⟩, .bool false]) w) s)) s) s
noncomputable def b115 : Code := Tryd.f115.body.getD .skip
theorem e115 (a0 a1 : Value) (K : Value → World → Prop) : wpc P bmask 23 none b115 (lmOf [.tmp 4, .tmp 5, .tmp 6]) (ktOf P 23 [.tmp 4, .tmp 5, .tmp 6] K) (frOf [a0, a1]) = D115 a0 a1 K := by kernel_rfl
theorem c115 {a0 a1 w : _} {K : Value → World → Prop} {R : Ending → World → Prop} (h : D115 a0 a1 K ⟨w, []⟩) (hK : ∀ v w', K v w' → R (.returned v) w') : Calls P 115 #[a0, a1] w R :=
  calls_of bodies_ok Tryd.func115 23 [.tmp 4, .tmp 5, .tmp 6] (c := b115) (args := [a0, a1]) (K := K) (by kernel_rfl) rfl (e115 a0 a1 K) h hK

/-- strings.trimLeftByte -/
def D116 (a0 a1 : Value) (K : Value → World → Prop) (s : St) : Prop :=
  L1 a0 s (fun N1 x2 s => Bi P .len #[9] 3 #[false] #[x2] (fun v3 s => Bo P .gtr 3 false true v3 (.int .i64 0) (fun v4 s => J1 (fun A5 => Grd v4 true (Ix P 9 x2 (.int .i64 0) (fun v7 s => Bo P .eql 5 false false v7 a1 (fun v8 s => A5 v8 s) s) s) (A5 undef s)) (fun x6 s => Pk P v4 x6 (.bool false) (fun v9 s => CondP v9 (Sl P 9 x2 (some (.int .i64 1)) none none (fun v10 s => N1 v10 s) s) (Ret P (fun w => K x2 w) s)) s)) s) s)
noncomputable def b116 : Code := Tryd.f116.body.getD .skip
theorem e116 (a0 a1 : Value) (K : Value → World → Prop) : wpc P bmask 17 none b116 (lmOf [.tmp 4]) (ktOf P 17 [.tmp 4] K) (frOf [a0, a1]) = D116 a0 a1 K := by kernel_rfl
theorem c116 {a0 a1 w : _} {K : Value → World → Prop} {R : Ending → World → Prop} (h : D116 a0 a1 K ⟨w, []⟩) (hK : ∀ v w', K v w' → R (.returned v) w') : Calls P 116 #[a0, a1] w R :=
  calls_of bodies_ok Tryd.func116 17 [.tmp 4] (c := b116) (args := [a0, a1]) (K := K) (by kernel_rfl) rfl (e116 a0 a1 K) h hK

/-- strings.makeASCIISet -/
def D117 (a0 : Value) (K : Value → World → Prop) (s : St) : Prop :=
  Al P 126 (fun v1 s => L1 (.int .i64 0) s (fun N2 x3 s => Bi P .len #[9] 3 #[false] #[a0] (fun v4 s => Bo P .lss 3 false false x3 v4 (fun v5 s => CondP v5 (Ix P 9 a0 x3 (fun v6 s => Bo P .geq 5 false true v6 (byteV 128) (fun v7 s => CondP v7 (Ld P 126 v1 (fun v8 s => Sv P 126 v1 v8 (fun _ s => Ret P (fun w => LdR P 126 v1 w fun v9 => K (.tuple #[v9, .bool false]) w) s) s) s) (Ia P 126 v1 v6 (fun v10 s => Sv P 4 v10 (.bool true) (fun _ s => Bo P .add 3 false true x3 (.int .i64 1) (fun v11 s => N2 v11 s) s) s) s)) s) s) (Ld P 126 v1 (fun v12 s => Sv P 126 v1 v12 (fun _ s => Ret P (fun w => LdR P 126 v1 w fun v13 => K (.tuple #[v13, .bool true]) w) s) s) s)) s) s)) s
noncomputable def b117 : Code := Tryd.f117.body.getD .skip
theorem e117 (a0 : Value) (K : Value → World → Prop) : wpc P bmask 21 none b117 (lmOf [.cell 2 126, .tmp 3]) (ktOf P 21 [.cell 2 126, .tmp 3] K) (frOf [a0]) = D117 a0 K := by kernel_rfl
theorem c117 {a0 w : _} {K : Value → World → Prop} {R : Ending → World → Prop} (h : D117 a0 K ⟨w, []⟩) (hK : ∀ v w', K v w' → R (.returned v) w') : Calls P 117 #[a0] w R :=
  calls_of bodies_ok Tryd.func117 21 [.cell 2 126, .tmp 3] (c := b117) (args := [a0]) (K := K) (by kernel_rfl) rfl (e117 a0 K) h hK

/-- strings.trimLeftASCII -/
def D118 (a0 a1 : Value) (K : Value → World → Prop) (s : St) : Prop :=
  J1 (fun A1 => L1 a0 s (fun N3 x4 s => Bi P .len #[9] 3 #[false] #[x4] (fun v5 s => Bo P .gtr 3 false true v5 (.int .i64 0) (fun v6 s => CondP v6 (Ix P 9 x4 (.int .i64 0) (fun v7 s => Cl P 144 #[a1, v7] (fun v8 s => Uo P .not v8 (fun v9 s => CondP v9 (A1 x4 s) (Sl P 9 x4 (some (.int .i64 1)) none none (fun v10 s => N3 v10 s) s)) s) s) s) (A1 x4 s)) s) s)) (fun x2 s => Ret P (fun w => K x2 w) s)
noncomputable def b118 : Code := Tryd.f118.body.getD .skip
theorem e118 (a0 a1 : Value) (K : Value → World → Prop) : wpc P bmask 16 none b118 (lmOf [.tmp 4]) (ktOf P 16 [.tmp 4] K) (frOf [a0, a1]) = D118 a0 a1 K := by kernel_rfl
theorem c118 {a0 a1 w : _} {K : Value → World → Prop} {R : Ending → World → Prop} (h : D118 a0 a1 K ⟨w, []⟩) (hK : ∀ v w', K v w' → R (.returned v) w') : Calls P 118 #[a0, a1] w R :=
  calls_of bodies_ok Tryd.func118 16 [.tmp 4] (c := b118) (args := [a0, a1]) (K := K) (by kernel_rfl) rfl (e118 a0 a1 K) h hK

/-- strings.trimLeftUnicode -/
def D119 (a0 a1 : Value) (K : Value → World → Prop) (s : St) : Prop :=
  J1 (fun A1 => L1 a0 s (fun N3 x4 s => Bi P .len #[9] 3 #[false] #[x4] (fun v5 s => Bo P .gtr 3 false true v5 (.int .i64 0) (fun v6 s => CondP v6 (Cl P 137 #[x4] (fun v7 s => Ex P v7 0 (fun v8 s => Ex P v7 1 (fun v9 s => Cl P 145 #[a1, v8] (fun v10 s => Uo P .not v10 (fun v11 s => CondP v11 (A1 x4 s) (Sl P 9 x4 (some v9) none none (fun v12 s => N3 v12 s) s)) s) s) s) s) s) (A1 x4 s)) s) s)) (fun x2 s => Ret P (fun w => K x2 w) s)
noncomputable def b119 : Code := Tryd.f119.body.getD .skip
theorem e119 (a0 a1 : Value) (K : Value → World → Prop) : wpc P bmask 23 none b119 (lmOf [.tmp 4]) (ktOf P 23 [.tmp 4] K) (frOf [a0, a1]) = D119 a0 a1 K := by kernel_rfl
theorem c119 {a0 a1 w : _} {K : Value → World → Prop} {R : Ending → World → Prop} (h : D119 a0 a1 K ⟨w, []⟩) (hK : ∀ v w', K v w' → R (.returned v) w') : Calls P 119 #[a0, a1] w R :=
  calls_of bodies_ok Tryd.func119 23 [.tmp 4] (c := b119) (args := [a0, a1]) (K := K) (by kernel_rfl) rfl (e119 a0 a1 K) h hK

/-- strings.genSplit -/
def D120 (a0 a1 a2 a3 : Value) (K : Value → World → Prop) (s : St) : Prop :=
  Bo P .eql 3 false true a3 (.int .i64 0) (fun v1 s => CondP v1 (Ret P (fun w => K (.slice none 0 0) w) s) (Bo P .eql 9 false true a1 (.string ⟨#[]⟩) (fun v2 s => CondP v2 (Cl P 146 #[a0, a3] (fun v3 s => Ret P (fun w => K v3 w) s) s) (J1 (fun A4 => Bo P .lss 3 false true a3 (.int .i64 0) (fun v6 s => CondP v6 (Cl P 143 #[a0, a1] (fun v7 s => Bo P .add 3 false true v7 (.int .i64 1) (fun v8 s => A4 v8 s) s) s) (A4 a3 s)) s) (fun x5 s => Bi P .len #[9] 3 #[false] #[a0] (fun v9 s => Bo P .add 3 false true v9 (.int .i64 1) (fun v10 s => Bi P .min #[3, 3] 3 #[false, false] #[x5, v10] (fun v11 s => Ms P 22 v11 v11 (fun v12 s => Bo P .sub 3 false true v11 (.int .i64 1) (fun v13 s => J2 (fun A14 => L2 a0 (.int .i64 0) s (fun N17 x18 x19 s => Bo P .lss 3 false false x19 v13 (fun v20 s => CondP v20 (Cl P 99 #[x18, a1] (fun v21 s => Bo P .lss 3 false true v21 (.int .i64 0) (fun v22 s => CondP v22 (A14 x18 x19 s) (Bo P .add 3 false false v21 a2 (fun v23 s => Sl P 9 x18 none (some v23) none (fun v24 s => Ia P 22 v12 x19 (fun v25 s => Sv P 9 v25 v24 (fun _ s => Bi P .len #[9] 3 #[false] #[a1] (fun v26 s => Bo P .add 3 false false v21 v26 (fun v27 s => Sl P 9 x18 (some v27) none none (fun v28 s => Bo P .add 3 false true x19 (.int .i64 1) (fun v29 s => N17 v28 v29 s) s) s) s) s) s) s) s) s)) s) s) (A14 x18 x19 s)) s)) (fun x15 x16 s => Ia P 22 v12 x16 (fun v30 s => Sv P 9 v30 x15 (fun _ s => Bo P .add 3 false true x16 (.int .i64 1) (fun v31 s => Sl P 22 v12 none (some v31) none (fun v32 s => Ret P (fun w => K v32 w) s) s) s) s) s)) s) s) s) s) s))) s)) s
noncomputable def b120 : Code := Tryd.f120.body.getD .skip
theorem e120 (a0 a1 a2 a3 : Value) (K : Value → World → Prop) : wpc P bmask 66 none b120 (lmOf [.tmp 8]) (ktOf P 66 [.tmp 8] K) (frOf [a0, a1, a2, a3]) = D120 a0 a1 a2 a3 K := by kernel_rfl
theorem c120 {a0 a1 a2 a3 w : _} {K : Value → World → Prop} {R : Ending → World → Prop} (h : D120 a0 a1 a2 a3 K ⟨w, []⟩) (hK : ∀ v w', K v w' → R (.returned v) w') : Calls P 120 #[a0, a1, a2, a3] w R :=
  calls_of bodies_ok Tryd.func120 66 [.tmp 8] (c := b120) (args := [a0, a1, a2, a3]) (K := K) (by kernel_rfl) rfl (e120 a0 a1 a2 a3 K) h hK

/-- strings.IndexAny -/
def D121 (a0 a1 : Value) (K : Value → World → Prop) (s : St) : Prop :=
  Bo P .eql 9 false true a1 (.string ⟨#[]⟩) (fun v1 s => CondP v1 (Ret P (fun w => K (.int .i64 (-1)) w) s) (Bi P .len #[9] 3 #[false] #[a1] (fun v2 s => Bo P .eql 3 false true v2 (.int .i64 1) (fun v3 s => CondP v3 (Ix P 9 a1 (.int .i64 0) (fun v4 s => Cv P 5 21 v4 (fun v5 s => J1 (fun A6 => Bo P .geq 21 false true v5 (.int .i32 128) (fun v8 s => CondP v8 (A6 (.int .i32 65533) s) (A6 v5 s)) s) (fun x7 s => Cl P 147 #[a0, x7] (fun v9 s => Ret P (fun w => K v9 w) s) s)) s) s) (J0 (fun A10 => Bi P .len #[9] 3 #[false] #[a0] (fun v11 s => Cl P 148 #[v11] (fun v12 s => CondP v12 (Cl P 117 #[a1] (fun v13 s => Ex P v13 0 (fun v14 s => Ex P v13 1 (fun v15 s => Al P 126 (fun v16 s => Sv P 126 v16 v14 (fun _ s => CondP v15 (L1 (.int .i64 0) s (fun N17 x18 s => Bi P .len #[9] 3 #[false] #[a0] (fun v19 s => Bo P .lss 3 false false x18 v19 (fun v20 s => CondP v20 (Ix P 9 a0 x18 (fun v21 s => Cl P 144 #[v16, v21] (fun v22 s => CondP v22 (Ret P (fun w => K x18 w) s) (Bo P .add 3 false true x18 (.int .i64 1) (fun v23 s => N17 v23 s) s)) s) s) (Ret P (fun w => K (.int .i64 (-1)) w) s)) s) s)) (A10 s)) s) s) s) s) s) (A10 s)) s) s) (fun s => Rg P 9 a0 (fun v24 s => L0 s (fun N25 s => Nx P v24 true 0 (fun v26 s => Ex P v26 0 (fun v27 s => CondP v27 (Ex P v26 1 (fun v28 s => Ex P v26 2 (fun v29 s => Cl P 147 #[a1, v29] (fun v30 s => Bo P .geq 3 false true v30 (.int .i64 0) (fun v31 s => CondP v31 (Ret P (fun w => K v28 w) s) (N25 s)) s) s) s) s) (Ret P (fun w => K (.int .i64 (-1)) w) s)) s) s)) s))) s) s)) s
noncomputable def b121 : Code := Tryd.f121.body.getD .skip
theorem e121 (a0 a1 : Value) (K : Value → World → Prop) : wpc P bmask 55 none b121 (lmOf [.tmp 4]) (ktOf P 55 [.tmp 4] K) (frOf [a0, a1]) = D121 a0 a1 K := by kernel_rfl
theorem c121 {a0 a1 w : _} {K : Value → World → Prop} {R : Ending → World → Prop} (h : D121 a0 a1 K ⟨w, []⟩) (hK : ∀ v w', K v w' → R (.returned v) w') : Calls P 121 #[a0, a1] w R :=
  calls_of bodies_ok Tryd.func121 55 [.tmp 4] (c := b121) (args := [a0, a1]) (K := K) (by kernel_rfl) rfl (e121 a0 a1 K) h hK

/-- rollcall/tags.plain -/
def D122 (a0 : Value) (K : Value → World → Prop) (s : St) : Prop :=
  Bo P .eql 5 false true a0 (byteV 58) (fun v1 s => CondP v1 (Ret P (fun w => K (byteV 59) w) s) (Bo P .eql 5 false true a0 (byteV 115) (fun v2 s => CondP v2 (Ret P (fun w => K (byteV 32) w) s) (Bo P .eql 5 false true a0 (byteV 114) (fun v3 s => CondP v3 (Ret P (fun w => K (byteV 13) w) s) (Bo P .eql 5 false true a0 (byteV 110) (fun v4 s => CondP v4 (Ret P (fun w => K (byteV 10) w) s) (Ret P (fun w => K a0 w) s)) s)) s)) s)) s
noncomputable def b122 : Code := Tryd.f122.body.getD .skip
theorem e122 (a0 : Value) (K : Value → World → Prop) : wpc P bmask 13 none b122 (lmOf [.tmp 2]) (ktOf P 13 [.tmp 2] K) (frOf [a0]) = D122 a0 K := by kernel_rfl
theorem c122 {a0 w : _} {K : Value → World → Prop} {R : Ending → World → Prop} (h : D122 a0 K ⟨w, []⟩) (hK : ∀ v w', K v w' → R (.returned v) w') : Calls P 122 #[a0] w R :=
  calls_of bodies_ok Tryd.func122 13 [.tmp 2] (c := b122) (args := [a0]) (K := K) (by kernel_rfl) rfl (e122 a0 K) h hK

/-- strings.trimRightByte -/
def D123 (a0 a1 : Value) (K : Value → World → Prop) (s : St) : Prop :=
  L1 a0 s (fun N1 x2 s => Bi P .len #[9] 3 #[false] #[x2] (fun v3 s => Bo P .gtr 3 false true v3 (.int .i64 0) (fun v4 s => J1 (fun A5 => Grd v4 true (Bi P .len #[9] 3 #[false] #[x2] (fun v7 s => Bo P .sub 3 false true v7 (.int .i64 1) (fun v8 s => Ix P 9 x2 v8 (fun v9 s => Bo P .eql 5 false false v9 a1 (fun v10 s => A5 v10 s) s) s) s) s) (A5 undef s)) (fun x6 s => Pk P v4 x6 (.bool false) (fun v11 s => CondP v11 (Bi P .len #[9] 3 #[false] #[x2] (fun v12 s => Bo P .sub 3 false true v12 (.int .i64 1) (fun v13 s => Sl P 9 x2 none (some v13) none (fun v14 s => N1 v14 s) s) s) s) (Ret P (fun w => K x2 w) s)) s)) s) s)
noncomputable def b123 : Code := Tryd.f123.body.getD .skip
theorem e123 (a0 a1 : Value) (K : Value → World → Prop) : wpc P bmask 23 none b123 (lmOf [.tmp 4]) (ktOf P 23 [.tmp 4] K) (frOf [a0, a1]) = D123 a0 a1 K := by kernel_rfl
theorem c123 {a0 a1 w : _} {K : Value → World → Prop} {R : Ending → World → Prop} (h : D123 a0 a1 K ⟨w, []⟩) (hK : ∀ v w', K v w' → R (.returned v) w') : Calls P 123 #[a0, a1] w R :=
  calls_of bodies_ok Tryd.func123 23 [.tmp 4] (c := b123) (args := [a0, a1]) (K := K) (by kernel_rfl) rfl (e123 a0 a1 K) h hK

/-- strings.trimRightASCII -/
def D124 (a0 a1 : Value) (K : Value → World → Prop) (s : St) : Prop :=
  J1 (fun A1 => L1 a0 s (fun N3 x4 s => Bi P .len #[9] 3 #[false] #[x4] (fun v5 s => Bo P .gtr 3 false true v5 (.int .i64 0) (fun v6 s => CondP v6 (Bi P .len #[9] 3 #[false] #[x4] (fun v7 s => Bo P .sub 3 false true v7 (.int .i64 1) (fun v8 s => Ix P 9 x4 v8 (fun v9 s => Cl P 144 #[a1, v9] (fun v10 s => Uo P .not v10 (fun v11 s => CondP v11 (A1 x4 s) (Bi P .len #[9] 3 #[false] #[x4] (fun v12 s => Bo P .sub 3 false true v12 (.int .i64 1) (fun v13 s => Sl P 9 x4 none (some v13) none (fun v14 s => N3 v14 s) s) s) s)) s) s) s) s) s) (A1 x4 s)) s) s)) (fun x2 s => Ret P (fun w => K x2 w) s)
noncomputable def b124 : Code := Tryd.f124.body.getD .skip
theorem e124 (a0 a1 : Value) (K : Value → World → Prop) : wpc P bmask 22 none b124 (lmOf [.tmp 4]) (ktOf P 22 [.tmp 4] K) (frOf [a0, a1]) = D124 a0 a1 K := by kernel_rfl
theorem c124 {a0 a1 w : _} {K : Value → World → Prop} {R : Ending → World → Prop} (h : D124 a0 a1 K ⟨w, []⟩) (hK : ∀ v w', K v w' → R (.returned v) w') : Calls P 124 #[a0, a1] w R :=
  calls_of bodies_ok Tryd.func124 22 [.tmp 4] (c := b124) (args := [a0, a1]) (K := K) (by kernel_rfl) rfl (e124 a0 a1 K) h hK

/-- strings.trimRightUnicode -/
def D125 (a0 a1 : Value) (K : Value → World → Prop) (s : St) : Prop :=
  J1 (fun A1 => L1 a0 s (fun N3 x4 s => Bi P .len #[9] 3 #[false] #[x4] (fun v5 s => Bo P .gtr 3 false true v5 (.int .i64 0) (fun v6 s => CondP v6 (Bi P .len #[9] 3 #[false] #[x4] (fun v7 s => Bo P .sub 3 false true v7 (.int .i64 1) (fun v8 s => Ix P 9 x4 v8 (fun v9 s => Cv P 5 21 v9 (fun v10 s => J2 (fun A11 => Bo P .geq 21 false true v10 (.int .i32 128) (fun v14 s => CondP v14 (Cl P 149 #[x4] (fun v15 s => Ex P v15 0 (fun v16 s => Ex P v15 1 (fun v17 s => A11 v16 v17 s) s) s) s) (A11 v10 (.int .i64 1) s)) s) (fun x12 x13 s => Cl P 145 #[a1, x12] (fun v18 s => Uo P .not v18 (fun v19 s => CondP v19 (A1 x4 s) (Bi P .len #[9] 3 #[false] #[x4] (fun v20 s => Bo P .sub 3 false false v20 x13 (fun v21 s => Sl P 9 x4 none (some v21) none (fun v22 s => N3 v22 s) s) s) s)) s) s)) s) s) s) s) (A1 x4 s)) s) s)) (fun x2 s => Ret P (fun w => K x2 w) s)
noncomputable def b125 : Code := Tryd.f125.body.getD .skip
theorem e125 (a0 a1 : Value) (K : Value → World → Prop) : wpc P bmask 34 none b125 (lmOf [.tmp 4]) (ktOf P 34 [.tmp 4] K) (frOf [a0, a1]) = D125 a0 a1 K := by kernel_rfl
theorem c125 {a0 a1 w : _} {K : Value → World → Prop} {R : Ending → World → Prop} (h : D125 a0 a1 K ⟨w, []⟩) (hK : ∀ v w', K v w' → R (.returned v) w') : Calls P 125 #[a0, a1] w R :=
  calls_of bodies_ok Tryd.func125 34 [.tmp 4] (c := b125) (args := [a0, a1]) (K := K) (by kernel_rfl) rfl (e125 a0 a1 K) h hK

/-- internal/stringslite.CutPrefix -/
def D126 (a0 a1 : Value) (K : Value → World → Prop) (s : St) : Prop :=
  Cl P 79 #[a0, a1] (fun v1 s => Uo P .not v1 (fun v2 s => CondP v2 (Ret P (fun w => K (.tuple #[a0, .bool false]) w) s) (Bi P .len #[9] 3 #[false] #[a1] (fun v3 s => Sl P 9 a0 (some v3) none none (fun v4 s => Ret P (fun w => K (.tuple #[v4, .bool true]) w) s) s) s)) s) s
noncomputable def b126 : Code := Tryd.f126.body.getD .skip
theorem e126 (a0 a1 : Value) (K : Value → World → Prop) : wpc P bmask 15 none b126 (lmOf [.tmp 4, .tmp 5]) (ktOf P 15 [.tmp 4, .tmp 5] K) (frOf [a0, a1]) = D126 a0 a1 K := by kernel_rfl
theorem c126 {a0 a1 w : _} {K : Value → World → Prop} {R : Ending → World → Prop} (h : D126 a0 a1 K ⟨w, []⟩) (hK : ∀ v w', K v w' → R (.returned v) w') : Calls P 126 #[a0, a1] w R :=
  calls_of bodies_ok Tryd.func126 15 [.tmp 4, .tmp 5] (c := b126) (args := [a0, a1]) (K := K) (by kernel_rfl) rfl (e126 a0 a1 K) h hK

/-- rollcall/rollcallref06.sign -/
def D127 (a0 : Value) (K : Value → World → Prop) (s : St) : Prop :=
  Bo P .eql 5 false true a0 (byteV 59) (fun v1 s => CondP v1 (Ret P (fun w => K (byteV 58) w) s) (Bo P .eql 5 false true a0 (byteV 32) (fun v2 s => CondP v2 (Ret P (fun w => K (byteV 115) w) s) (Bo P .eql 5 false true a0 (byteV 92) (fun v3 s => CondP v3 (Ret P (fun w => K (byteV 92) w) s) (Bo P .eql 5 false true a0 (byteV 13) (fun v4 s => CondP v4 (Ret P (fun w => K (byteV 114) w) s) (Bo P .eql 5 false true a0 (byteV 10) (fun v5 s => CondP v5 (Ret P (fun w => K (byteV 110) w) s) (Ret P (fun w => K (byteV 0) w) s)) s)) s)) s)) s)) s
noncomputable def b127 : Code := Tryd.f127.body.getD .skip
theorem e127 (a0 : Value) (K : Value → World → Prop) : wpc P bmask 14 none b127 (lmOf [.tmp 2]) (ktOf P 14 [.tmp 2] K) (frOf [a0]) = D127 a0 K := by kernel_rfl
theorem c127 {a0 w : _} {K : Value → World → Prop} {R : Ending → World → Prop} (h : D127 a0 K ⟨w, []⟩) (hK : ∀ v w', K v w' → R (.returned v) w') : Calls P 127 #[a0] w R :=
  calls_of bodies_ok Tryd.func127 14 [.tmp 2] (c := b127) (args := [a0]) (K := K) (by kernel_rfl) rfl (e127 a0 K) h hK

/-- rollcall/rollcallref06.Escape -/
def D128 (a0 : Value) (K : Value → World → Prop) (s : St) : Prop :=
  L2 (.string ⟨#[]⟩) (.int .i64 0) s (fun N1 x2 x3 s => Bi P .len #[9] 3 #[false] #[a0] (fun v4 s => Bo P .lss 3 false false x3 v4 (fun v5 s => CondP v5 (J1 (fun A6 => Ix P 9 a0 x3 (fun v8 s => Cl P 127 #[v8] (fun v9 s => Bo P .neq 5 false true v9 (byteV 0) (fun v10 s => CondP v10 (Bs P 46 2 #[(0, byteV 92), (1, v9)] (fun v11 s => Cv P 46 9 v11 (fun v12 s => Bo P .add 9 false false x2 v12 (fun v13 s => A6 v13 s) s) s) s) (Bo P .add 3 false true x3 (.int .i64 1) (fun v14 s => Sl P 9 a0 (some x3) (some v14) none (fun v15 s => Bo P .add 9 false false x2 v15 (fun v16 s => A6 v16 s) s) s) s)) s) s) s) (fun x7 s => Bo P .add 3 false true x3 (.int .i64 1) (fun v17 s => N1 x7 v17 s) s)) (Ret P (fun w => K x2 w) s)) s) s)
noncomputable def b128 : Code := Tryd.f128.body.getD .skip
theorem e128 (a0 : Value) (K : Value → World → Prop) : wpc P bmask 31 none b128 (lmOf [.tmp 2]) (ktOf P 31 [.tmp 2] K) (frOf [a0]) = D128 a0 K := by kernel_rfl
theorem c128 {a0 w : _} {K : Value → World → Prop} {R : Ending → World → Prop} (h : D128 a0 K ⟨w, []⟩) (hK : ∀ v w', K v w' → R (.returned v) w') : Calls P 128 #[a0] w R :=
  calls_of bodies_ok Tryd.func128 31 [.tmp 2] (c := b128) (args := [a0]) (K := K) (by kernel_rfl) rfl (e128 a0 K) h hK

/-- internal/stringslite.IndexByte -/
def D129 (a0 a1 : Value) (K : Value → World → Prop) (s : St) : Prop :=
  Dy P (.func (.func 150) #[] #[]) #[a0, a1] (fun v1 s => Ret P (fun w => K v1 w) s) s
noncomputable def b129 : Code := Tryd.f129.body.getD .skip
theorem e129 (a0 a1 : Value) (K : Value → World → Prop) : wpc P bmask 8 none b129 (lmOf [.tmp 4]) (ktOf P 8 [.tmp 4] K) (frOf [a0, a1]) = D129 a0 a1 K := by kernel_rfl
theorem c129 {a0 a1 w : _} {K : Value → World → Prop} {R : Ending → World → Prop} (h : D129 a0 a1 K ⟨w, []⟩) (hK : ∀ v w', K v w' → R (.returned v) w') : Calls P 129 #[a0, a1] w R :=
  calls_of bodies_ok Tryd.func129 8 [.tmp 4] (c := b129) (args := [a0, a1]) (K := K) (by kernel_rfl) rfl (e129 a0 a1 K) h hK

/-- internal/stringslite.Index -/
def D130 (a0 a1 : Value) (K : Value → World → Prop) (s : St) : Prop :=
  Bi P .len #[9] 3 #[false] #[a1] (fun v1 s => Bo P .eql 3 false true v1 (.int .i64 0) (fun v2 s => J1 (fun A3 => Grd v2 false (Bo P .eql 9 false false a1 a0 (fun v5 s => A3 v5 s) s) (A3 undef s)) (fun x4 s => Pk P v2 (.bool true) x4 (fun v6 s => CondP v6 (Ret P (fun w => K (.int .i64 0) w) s) (Bo P .eql 3 false true v1 (.int .i64 1) (fun v7 s => CondP v7 (Ix P 9 a1 (.int .i64 0) (fun v8 s => Cl P 129 #[a0, v8] (fun v9 s => Ret P (fun w => K v9 w) s) s) s) (Bi P .len #[9] 3 #[false] #[a0] (fun v10 s => Bo P .geq 3 false false v1 v10 (fun v11 s => CondP v11 (Ret P (fun w => K (.int .i64 (-1)) w) s) (Ld P 3 (.pointer (some ⟨0, 0, none⟩)) (fun v12 s => Bo P .leq 3 false false v1 v12 (fun v13 s => J1 (fun A14 => Grd v13 true (Bi P .len #[9] 3 #[false] #[a0] (fun v16 s => Bo P .leq 3 false true v16 (.int .i64 64) (fun v17 s => A14 v17 s) s) s) (A14 undef s)) (fun x15 s => Pk P v13 x15 (.bool false) (fun v18 s => CondP v18 (Dy P (.func (.func 151) #[] #[]) #[a0, a1] (fun v19 s => Ret P (fun w => K v19 w) s) s) (Ix P 9 a1 (.int .i64 0) (fun v20 s => Ix P 9 a1 (.int .i64 1) (fun v21 s => Bi P .len #[9] 3 #[false] #[a0] (fun v22 s => Bo P .sub 3 false false v22 v1 (fun v23 s => Bo P .add 3 false true v23 (.int .i64 1) (fun v24 s => L2 (.int .i64 0) (.int .i64 0) s (fun N25 x26 x27 s => Bo P .lss 3 false false x26 v24 (fun v28 s => CondP v28 (J1 (fun A29 => Ix P 9 a0 x26 (fun v31 s => Bo P .neq 5 false false v31 v20 (fun v32 s => CondP v32 (Bo P .add 3 false true x26 (.int .i64 1) (fun v33 s => Sl P 9 a0 (some v33) (some v24) none (fun v34 s => Cl P 129 #[v34, v20] (fun v35 s => Bo P .lss 3 false true v35 (.int .i64 0) (fun v36 s => CondP v36 (Ret P (fun w => K (.int .i64 (-1)) w) s) (Bo P .add 3 false true v35 (.int .i64 1) (fun v37 s => Bo P .add 3 false false x26 v37 (fun v38 s => A29 v38 s) s) s)) s) s) s) s) (A29 x26 s)) s) s) (fun x30 s => Bo P .add 3 false true x30 (.int .i64 1) (fun v39 s => Ix P 9 a0 v39 (fun v40 s => Bo P .eql 5 false false v40 v21 (fun v41 s => J1 (fun A42 => Grd v41 true (Bo P .add 3 false false x30 v1 (fun v44 s => Sl P 9 a0 (some x30) (some v44) none (fun v45 s => Bo P .eql 9 false false v45 a1 (fun v46 s => A42 v46 s) s) s) s) (A42 undef s)) (fun x43 s => Pk P v41 x43 (.bool false) (fun v47 s => CondP v47 (Ret P (fun w => K x30 w) s) (Bo P .add 3 false true x30 (.int .i64 1) (fun v48 s => Bo P .add 3 false true x27 (.int .i64 1) (fun v49 s => Ld P 3 (.pointer (some ⟨0, 0, none⟩)) (fun v50 s => Bo P .leq 3 false false v1 v50 (fun v51 s => J1 (fun A52 => Grd v51 true (Cl P 152 #[v48] (fun v54 s => Bo P .gtr 3 false false v49 v54 (fun v55 s => A52 v55 s) s) s) (A52 undef s)) (fun x53 s => Pk P v51 x53 (.bool false) (fun v56 s => CondP v56 (Sl P 9 a0 (some v48) none none (fun v57 s => Dy P (.func (.func 151) #[] #[]) #[v57, a1] (fun v58 s => Bo P .geq 3 false true v58 (.int .i64 0) (fun v59 s => CondP v59 (Bo P .add 3 false false v58 v48 (fun v60 s => Ret P (fun w => K v60 w) s) s) (Ret P (fun w => K (.int .i64 (-1)) w) s)) s) s) s) (Ld P 3 (.pointer (some ⟨0, 0, none⟩)) (fun v61 s => Bo P .gtr 3 false false v1 v61 (fun v62 s => J1 (fun A63 => Grd v62 true (Bo P .shr 3 false true v48 (.int .u64 4) (fun v65 s => Bo P .add 3 true false (.int .i64 4) v65 (fun v66 s => Bo P .geq 3 false false v49 v66 (fun v67 s => A63 v67 s) s) s) s) (A63 undef s)) (fun x64 s => Pk P v62 x64 (.bool false) (fun v68 s => J1 (fun A69 => Grd v68 true (Bo P .lss 3 false false v48 v24 (fun v71 s => A69 v71 s) s) (A69 undef s)) (fun x70 s => Pk P v68 x70 (.bool false) (fun v72 s => CondP v72 (Sl P 9 a0 (some v48) none none (fun v73 s => Cl P 153 #[v73, a1] (fun v74 s => Bo P .lss 3 false true v74 (.int .i64 0) (fun v75 s => CondP v75 (Ret P (fun w => K (.int .i64 (-1)) w) s) (Bo P .add 3 false false v48 v74 (fun v76 s => Ret P (fun w => K v76 w) s) s)) s) s) s) (N25 v48 v49 s)) s)) s)) s) s)) s)) s) s) s) s)) s)) s) s) s)) (Ret P (fun w => K (.int .i64 (-1)) w) s)) s)) s) s) s) s) s)) s)) s) s)) s) s)) s)) s)) s) s
noncomputable def b130 : Code := Tryd.f130.body.getD .skip
theorem e130 (a0 a1 : Value) (K : Value → World → Prop) : wpc P bmask 143 none b130 (lmOf [.tmp 4]) (ktOf P 143 [.tmp 4] K) (frOf [a0, a1]) = D130 a0 a1 K := by kernel_rfl
theorem c130 {a0 a1 w : _} {K : Value → World → Prop} {R : Ending → World → Prop} (h : D130 a0 a1 K ⟨w, []⟩) (hK : ∀ v w', K v w' → R (.returned v) w') : Calls P 130 #[a0, a1] w R :=
  calls_of bodies_ok Tryd.func130 143 [.tmp 4] (c := b130) (args := [a0, a1]) (K := K) (by kernel_rfl) rfl (e130 a0 a1 K) h hK

/-- (*strings.Builder).copyCheck -/
def D131 (a0 : Value) (K : Value → World → Prop) (s : St) : Prop :=
  Nc P a0 (fun v1 s => Fa P 107 v1 0 (fun v2 s => Ld P 105 v2 (fun v3 s => Bo P .eql 105 false true v3 (.pointer none) (fun v4 s => CondP v4 (Cv P 105 147 a0 (fun v5 s => Dy P (.func (.func 154) #[] #[]) #[v5] (fun v6 s => Cv P 147 105 v6 (fun v7 s => Nc P a0 (fun v8 s => Fa P 107 v8 0 (fun v9 s => Sv P 105 v9 v7 (fun _ s => Ret P (fun w => K (.tuple #[]) w) s) s) s) s) s) s) s) (Nc P a0 (fun v10 s => Fa P 107 v10 0 (fun v11 s => Ld P 105 v11 (fun v12 s => Bo P .neq 105 false false v12 a0 (fun v13 s => CondP v13 (False) (Ret P (fun w => K (.tuple #[]) w) s)) s) s) s) s)) s) s) s) s
noncomputable def b131 : Code := Tryd.f131.body.getD .skip
theorem e131 (a0 : Value) (K : Value → World → Prop) : wpc P bmask 20 none b131 (lmOf []) (ktOf P 20 [] K) (frOf [a0]) = D131 a0 K := by kernel_rfl
theorem c131 {a0 w : _} {K : Value → World → Prop} {R : Ending → World → Prop} (h : D131 a0 K ⟨w, []⟩) (hK : ∀ v w', K v w' → R (.returned v) w') : Calls P 131 #[a0] w R :=
  calls_of bodies_ok Tryd.func131 20 [] (c := b131) (args := [a0]) (K := K) (by kernel_rfl) rfl (e131 a0 K) h hK

/-- rollcall/tags.Escape -/
def D132 (a0 : Value) (K : Value → World → Prop) (s : St) : Prop :=
  Al P 107 (fun v1 s => Bi P .len #[9] 3 #[false] #[a0] (fun v2 s => L1 (.int .i64 0) s (fun N3 x4 s => Bo P .lss 3 false false x4 v2 (fun v5 s => CondP v5 (J0 (fun A6 => Ix P 9 a0 x4 (fun v7 s => J0 (fun A8 => Bo P .eql 5 false true v7 (byteV 59) (fun v9 s => CondP v9 (Cl P 102 #[v1, .string ⟨#[92, 58]⟩] (fun _ s => A6 s) s) (Bo P .eql 5 false true v7 (byteV 32) (fun v11 s => CondP v11 (Cl P 102 #[v1, .string ⟨#[92, 115]⟩] (fun _ s => A6 s) s) (Bo P .eql 5 false true v7 (byteV 13) (fun v13 s => CondP v13 (Cl P 102 #[v1, .string ⟨#[92, 114]⟩] (fun _ s => A6 s) s) (Bo P .eql 5 false true v7 (byteV 10) (fun v15 s => CondP v15 (Cl P 102 #[v1, .string ⟨#[92, 110]⟩] (fun _ s => A6 s) s) (Bo P .eql 5 false true v7 (byteV 92) (fun v17 s => CondP v17 (Cl P 104 #[v1, byteV 92] (fun _ s => A8 s) s) (A8 s)) s)) s)) s)) s)) s) (fun s => Cl P 104 #[v1, v7] (fun _ s => A6 s) s)) s) (fun s => Bo P .add 3 false true x4 (.int .i64 1) (fun v20 s => N3 v20 s) s)) (Cl P 105 #[v1] (fun v21 s => Ret P (fun w => K v21 w) s) s)) s)) s) s
noncomputable def b132 : Code := Tryd.f132.body.getD .skip
theorem e132 (a0 : Value) (K : Value → World → Prop) : wpc P bmask 34 none b132 (lmOf [.tmp 2]) (ktOf P 34 [.tmp 2] K) (frOf [a0]) = D132 a0 K := by kernel_rfl
theorem c132 {a0 w : _} {K : Value → World → Prop} {R : Ending → World → Prop} (h : D132 a0 K ⟨w, []⟩) (hK : ∀ v w', K v w' → R (.returned v) w') : Calls P 132 #[a0] w R :=
  calls_of bodies_ok Tryd.func132 34 [.tmp 2] (c := b132) (args := [a0]) (K := K) (by kernel_rfl) rfl (e132 a0 K) h hK

/-- rollcall/reply.list -/
def D133 (a0 : Value) (K : Value → World → Prop) (s : St) : Prop :=
  Bo P .eql 3 false true a0 (.int .i64 315) (fun v1 s => CondP v1 (Ret P (fun w => K (.string ⟨#[87, 72, 79, 32, 108, 105, 115, 116]⟩) w) s) (Bo P .eql 3 false true a0 (.int .i64 318) (fun v2 s => CondP v2 (Ret P (fun w => K (.string ⟨#[87, 72, 79, 73, 83, 32, 108, 105, 115, 116]⟩) w) s) (Bo P .eql 3 false true a0 (.int .i64 323) (fun v3 s => CondP v3 (Ret P (fun w => K (.string ⟨#[76, 73, 83, 84]⟩) w) s) (Bo P .eql 3 false true a0 (.int .i64 366) (fun v4 s => CondP v4 (Ret P (fun w => K (.string ⟨#[78, 65, 77, 69, 83, 32, 108, 105, 115, 116]⟩) w) s) (Bo P .eql 3 false true a0 (.int .i64 368) (fun v5 s => CondP v5 (Ret P (fun w => K (.string ⟨#[98, 97, 110, 32, 108, 105, 115, 116]⟩) w) s) (Bo P .eql 3 false true a0 (.int .i64 369) (fun v6 s => CondP v6 (Ret P (fun w => K (.string ⟨#[87, 72, 79, 87, 65, 83]⟩) w) s) (Bo P .eql 3 false true a0 (.int .i64 607) (fun v7 s => CondP v7 (Ret P (fun w => K (.string ⟨#[87, 65, 84, 67, 72, 32, 108, 105, 115, 116]⟩) w) s) (Ret P (fun w => K (.string ⟨#[77, 79, 78, 73, 84, 79, 82, 32, 108, 105, 115, 116]⟩) w) s)) s)) s)) s)) s)) s)) s)) s
noncomputable def b133 : Code := Tryd.f133.body.getD .skip
theorem e133 (a0 : Value) (K : Value → World → Prop) : wpc P bmask 18 none b133 (lmOf [.tmp 2]) (ktOf P 18 [.tmp 2] K) (frOf [a0]) = D133 a0 K := by kernel_rfl
theorem c133 {a0 w : _} {K : Value → World → Prop} {R : Ending → World → Prop} (h : D133 a0 K ⟨w, []⟩) (hK : ∀ v w', K v w' → R (.returned v) w') : Calls P 133 #[a0] w R :=
  calls_of bodies_ok Tryd.func133 18 [.tmp 2] (c := b133) (args := [a0]) (K := K) (by kernel_rfl) rfl (e133 a0 K) h hK

/-- rollcall/reply.wrong -/
def D134 (a0 : Value) (K : Value → World → Prop) (s : St) : Prop :=
  Bo P .eql 3 false true a0 (.int .i64 401) (fun v1 s => CondP v1 (Ret P (fun w => K (.string ⟨#[78, 111, 32, 115, 117, 99, 104, 32, 110, 105, 99, 107]⟩) w) s) (Bo P .eql 3 false true a0 (.int .i64 402) (fun v2 s => CondP v2 (Ret P (fun w => K (.string ⟨#[78, 111, 32, 115, 117, 99, 104, 32, 115, 101, 114, 118, 101, 114]⟩) w) s) (Bo P .eql 3 false true a0 (.int .i64 403) (fun v3 s => CondP v3 (Ret P (fun w => K (.string ⟨#[78, 111, 32, 115, 117, 99, 104, 32, 99, 104, 97, 110, 110, 101, 108]⟩) w) s) (Bo P .eql 3 false true a0 (.int .i64 404) (fun v4 s => CondP v4 (Ret P (fun w => K (.string ⟨#[67, 97, 110, 110, 111, 116, 32, 115, 101, 110, 100, 32, 116, 111, 32, 99, 104, 97, 110, 110, 101, 108]⟩) w) s) (Bo P .eql 3 false true a0 (.int .i64 405) (fun v5 s => CondP v5 (Ret P (fun w => K (.string ⟨#[89, 111, 117, 32, 104, 97, 118, 101, 32, 106, 111, 105, 110, 101, 100, 32, 116, 111, 111, 32, 109, 97, 110, 121, 32, 99, 104, 97, 110, 110, 101, 108, 115]⟩) w) s) (Bo P .eql 3 false true a0 (.int .i64 406) (fun v6 s => CondP v6 (Ret P (fun w => K (.string ⟨#[84, 104, 101, 114, 101, 32, 119, 97, 115, 32, 110, 111, 32, 115, 117, 99, 104, 32, 110, 105, 99, 107, 110, 97, 109, 101]⟩) w) s) (Bo P .eql 3 false true a0 (.int .i64 407) (fun v7 s => CondP v7 (Ret P (fun w => K (.string ⟨#[84, 111, 111, 32, 109, 97, 110, 121, 32, 116, 97, 114, 103, 101, 116, 115]⟩) w) s) (Bo P .eql 3 false true a0 (.int .i64 409) (fun v8 s => CondP v8 (Ret P (fun w => K (.string ⟨#[78, 111, 32, 111, 114, 105, 103, 105, 110, 32, 115, 112, 101, 99, 105, 102, 105, 101, 100]⟩) w) s) (Bo P .eql 3 false true a0 (.int .i64 410) (fun v9 s => CondP v9 (Ret P (fun w => K (.string ⟨#[73, 110, 118, 97, 108, 105, 100, 32, 67, 65, 80, 32, 99, 111, 109, 109, 97, 110, 100]⟩) w) s) (Bo P .eql 3 false true a0 (.int .i64 411) (fun v10 s => CondP v10 (Ret P (fun w => K (.string ⟨#[78, 111, 32, 114, 101, 99, 105, 112, 105, 101, 110, 116, 32, 103, 105, 118, 101, 110]⟩) w) s) (Bo P .eql 3 false true a0 (.int .i64 412) (fun v11 s => CondP v11 (Ret P (fun w => K (.string ⟨#[78, 111, 32, 116, 101, 120, 116, 32, 116, 111, 32, 115, 101, 110, 100]⟩) w) s) (Bo P .eql 3 false true a0 (.int .i64 417) (fun v12 s => CondP v12 (Ret P (fun w => K (.string ⟨#[73, 110, 112, 117, 116, 32, 108, 105, 110, 101, 32, 119, 97, 115, 32, 116, 111, 111, 32, 108, 111, 110, 103]⟩) w) s) (Bo P .eql 3 false true a0 (.int .i64 421) (fun v13 s => CondP v13 (Ret P (fun w => K (.string ⟨#[85, 110, 107, 110, 111, 119, 110, 32, 99, 111, 109, 109, 97, 110, 100]⟩) w) s) (Bo P .eql 3 false true a0 (.int .i64 431) (fun v14 s => CondP v14 (Ret P (fun w => K (.string ⟨#[78, 111, 32, 110, 105, 99, 107, 110, 97, 109, 101, 32, 103, 105, 118, 101, 110]⟩) w) s) (Bo P .eql 3 false true a0 (.int .i64 432) (fun v15 s => CondP v15 (Ret P (fun w => K (.string ⟨#[69, 114, 114, 111, 110, 101, 111, 117, 115, 32, 110, 105, 99, 107, 110, 97, 109, 101]⟩) w) s) (Bo P .eql 3 false true a0 (.int .i64 433) (fun v16 s => CondP v16 (Ret P (fun w => K (.string ⟨#[78, 105, 99, 107, 110, 97, 109, 101, 32, 105, 115, 32, 97, 108, 114, 101, 97, 100, 121, 32, 105, 110, 32, 117, 115, 101]⟩) w) s) (Cl P 155 #[a0] (fun v17 s => Ret P (fun w => K v17 w) s) s)) s)) s)) s)) s)) s)) s)) s)) s)) s)) s)) s)) s)) s)) s)) s)) s
noncomputable def b134 : Code := Tryd.f134.body.getD .skip
theorem e134 (a0 : Value) (K : Value → World → Prop) : wpc P bmask 38 none b134 (lmOf [.tmp 2]) (ktOf P 38 [.tmp 2] K) (frOf [a0]) = D134 a0 K := by kernel_rfl
theorem c134 {a0 w : _} {K : Value → World → Prop} {R : Ending → World → Prop} (h : D134 a0 K ⟨w, []⟩) (hK : ∀ v w', K v w' → R (.returned v) w') : Calls P 134 #[a0] w R :=
  calls_of bodies_ok Tryd.func134 38 [.tmp 2] (c := b134) (args := [a0]) (K := K) (by kernel_rfl) rfl (e134 a0 K) h hK

/-- rollcall/valid.letter -/
def D135 (a0 : Value) (K : Value → World → Prop) (s : St) : Prop :=
  Bo P .geq 3 false true a0 (.int .i64 97) (fun v1 s => J1 (fun A2 => Grd v1 true (Bo P .leq 3 false true a0 (.int .i64 122) (fun v4 s => A2 v4 s) s) (A2 undef s)) (fun x3 s => Pk P v1 x3 (.bool false) (fun v5 s => J1 (fun A6 => Grd v5 false (Bo P .geq 3 false true a0 (.int .i64 65) (fun v8 s => A6 v8 s) s) (A6 undef s)) (fun x7 s => J1 (fun A9 => Grd x7 true (Bo P .leq 3 false true a0 (.int .i64 90) (fun v11 s => A9 v11 s) s) (A9 undef s)) (fun x10 s => J1 (fun A12 => Grd v5 false (Pk P x7 x10 (.bool false) (fun v14 s => A12 v14 s) s) (A12 undef s)) (fun x13 s => Pk P v5 (.bool true) x13 (fun v15 s => Ret P (fun w => K v15 w) s) s)))) s)) s
noncomputable def b135 : Code := Tryd.f135.body.getD .skip
theorem e135 (a0 : Value) (K : Value → World → Prop) : wpc P bmask 17 none b135 (lmOf [.tmp 2]) (ktOf P 17 [.tmp 2] K) (frOf [a0]) = D135 a0 K := by kernel_rfl
theorem c135 {a0 w : _} {K : Value → World → Prop} {R : Ending → World → Prop} (h : D135 a0 K ⟨w, []⟩) (hK : ∀ v w', K v w' → R (.returned v) w') : Calls P 135 #[a0] w R :=
  calls_of bodies_ok Tryd.func135 17 [.tmp 2] (c := b135) (args := [a0]) (K := K) (by kernel_rfl) rfl (e135 a0 K) h hK

/-- rollcall/valid.has -/
def D136 (a0 a1 : Value) (K : Value → World → Prop) (s : St) : Prop :=
  Cv P 3 5 a1 (fun v1 s => Cl P 97 #[a0, v1] (fun v2 s => Bo P .geq 3 false true v2 (.int .i64 0) (fun v3 s => Ret P (fun w => K v3 w) s) s) s) s
noncomputable def b136 : Code := Tryd.f136.body.getD .skip
theorem e136 (a0 a1 : Value) (K : Value → World → Prop) : wpc P bmask 10 none b136 (lmOf [.tmp 4]) (ktOf P 10 [.tmp 4] K) (frOf [a0, a1]) = D136 a0 a1 K := by kernel_rfl
theorem c136 {a0 a1 w : _} {K : Value → World → Prop} {R : Ending → World → Prop} (h : D136 a0 a1 K ⟨w, []⟩) (hK : ∀ v w', K v w' → R (.returned v) w') : Calls P 136 #[a0, a1] w R :=
  calls_of bodies_ok Tryd.func136 10 [.tmp 4] (c := b136) (args := [a0, a1]) (K := K) (by kernel_rfl) rfl (e136 a0 a1 K) h hK

/-- unicode/utf8.DecodeRuneInString -/
def D137 (a0 : Value) (K : Value → World → Prop) (s : St) : Prop :=
  Bo P .neq 9 false true a0 (.string ⟨#[]⟩) (fun v1 s => J1 (fun A2 => Grd v1 true (Ix P 9 a0 (.int .i64 0) (fun v4 s => Bo P .lss 5 false true v4 (byteV 128) (fun v5 s => A2 v5 s) s) s) (A2 undef s)) (fun x3 s => Pk P v1 x3 (.bool false) (fun v6 s => CondP v6 (Ix P 9 a0 (.int .i64 0) (fun v7 s => Cv P 5 21 v7 (fun v8 s => Ret P (fun w => K (.tuple #[v8, .int .i64 1]) w) s) s) s) (Cl P 156 #[a0] (fun v9 s => Ex P v9 0 (fun v10 s => Ex P v9 1 (fun v11 s => Ret P (fun w => K (.tuple #[v10, v11]) w) s) s) s) s)) s)) s
noncomputable def b137 : Code := Tryd.f137.body.getD .skip
theorem e137 (a0 : Value) (K : Value → World → Prop) : wpc P bmask 19 none b137 (lmOf [.tmp 2, .tmp 3]) (ktOf P 19 [.tmp 2, .tmp 3] K) (frOf [a0]) = D137 a0 K := by kernel_rfl
theorem c137 {a0 w : _} {K : Value → World → Prop} {R : Ending → World → Prop} (h : D137 a0 K ⟨w, []⟩) (hK : ∀ v w', K v w' → R (.returned v) w') : Calls P 137 #[a0] w R :=
  calls_of bodies_ok Tryd.func137 19 [.tmp 2, .tmp 3] (c := b137) (args := [a0]) (K := K) (by kernel_rfl) rfl (e137 a0 K) h hK

/-- unicode/utf8.RuneLen -/
def D138 (a0 : Value) (K : Value → World → Prop) (s : St) : Prop :=
  Bo P .lss 21 false true a0 (.int .i32 0) (fun v1 s => CondP v1 (Ret P (fun w => K (.int .i64 (-1)) w) s) (Bo P .leq 21 false true a0 (.int .i32 127) (fun v2 s => CondP v2 (Ret P (fun w => K (.int .i64 1) w) s) (Bo P .leq 21 false true a0 (.int .i32 2047) (fun v3 s => CondP v3 (Ret P (fun w => K (.int .i64 2) w) s) (Bo P .leq 21 true false (.int .i32 55296) a0 (fun v4 s => J1 (fun A5 => Grd v4 true (Bo P .leq 21 false true a0 (.int .i32 57343) (fun v7 s => A5 v7 s) s) (A5 undef s)) (fun x6 s => Pk P v4 x6 (.bool false) (fun v8 s => CondP v8 (Ret P (fun w => K (.int .i64 (-1)) w) s) (Bo P .leq 21 false true a0 (.int .i32 65535) (fun v9 s => CondP v9 (Ret P (fun w => K (.int .i64 3) w) s) (Bo P .leq 21 false true a0 (.int .i32 1114111) (fun v10 s => CondP v10 (Ret P (fun w => K (.int .i64 4) w) s) (Ret P (fun w => K (.int .i64 (-1)) w) s)) s)) s)) s)) s)) s)) s)) s
noncomputable def b138 : Code := Tryd.f138.body.getD .skip
theorem e138 (a0 : Value) (K : Value → World → Prop) : wpc P bmask 25 none b138 (lmOf [.tmp 2]) (ktOf P 25 [.tmp 2] K) (frOf [a0]) = D138 a0 K := by kernel_rfl
theorem c138 {a0 w : _} {K : Value → World → Prop} {R : Ending → World → Prop} (h : D138 a0 K ⟨w, []⟩) (hK : ∀ v w', K v w' → R (.returned v) w') : Calls P 138 #[a0] w R :=
  calls_of bodies_ok Tryd.func138 25 [.tmp 2] (c := b138) (args := [a0]) (K := K) (by kernel_rfl) rfl (e138 a0 K) h hK

/-- (*strings.Builder).Grow -/
def D139 (a0 a1 : Value) (K : Value → World → Prop) (s : St) : Prop :=
  Cl P 131 #[a0] (fun _ s => J0 (fun A2 => Bo P .lss 3 false true a1 (.int .i64 0) (fun v3 s => CondP v3 (Mi P 9 (.string ⟨#[115, 116, 114, 105, 110, 103, 115, 46, 66, 117, 105, 108, 100, 101, 114, 46, 71, 114, 111, 119, 58, 32, 110, 101, 103, 97, 116, 105, 118, 101, 32, 99, 111, 117, 110, 116]⟩) (fun v4 s => Pn P v4 (fun _ s => A2 s) s) s) (A2 s)) s) (fun s => Dw (fun s => Qt (Nc P a0) s fun v5 => Qt (Fa P 107 v5 1) s fun v6 => Qt (Ld P 46 v6) s fun v7 => Qt (Bi P .cap #[46] 3 #[false] #[v7]) s fun v8 => Qt (Nc P a0) s fun v9 => Qt (Fa P 107 v9 1) s fun v10 => Qt (Ld P 46 v10) s fun v11 => Qt (Bi P .len #[46] 3 #[false] #[v11]) s fun v12 => Qt (Bo P .sub 3 false false v8 v12) s fun v13 => Qt (Bo P .lss 3 false false v13 a1) s fun v14 => CondP v14 (Cl P 157 #[a0, a1] (fun _ s => Ret P (fun w => K (.tuple #[]) w) s) s) (Ret P (fun w => K (.tuple #[]) w) s)) s)) s
noncomputable def b139 : Code := Tryd.f139.body.getD .skip
theorem e139 (a0 a1 : Value) (K : Value → World → Prop) : wpc P bmask 25 none b139 (lmOf []) (ktOf P 25 [] K) (frOf [a0, a1]) = D139 a0 a1 K := by kernel_rfl
theorem c139 {a0 a1 w : _} {K : Value → World → Prop} {R : Ending → World → Prop} (h : D139 a0 a1 K ⟨w, []⟩) (hK : ∀ v w', K v w' → R (.returned v) w') : Calls P 139 #[a0, a1] w R :=
  calls_of bodies_ok Tryd.func139 25 [] (c := b139) (args := [a0, a1]) (K := K) (by kernel_rfl) rfl (e139 a0 a1 K) h hK

/-- (*strings.Builder).WriteRune -/
def D140 (a0 a1 : Value) (K : Value → World → Prop) (s : St) : Prop :=
  Cl P 131 #[a0] (fun _ s => Nc P a0 (fun v2 s => Fa P 107 v2 1 (fun v3 s => Ld P 46 v3 (fun v4 s => Bi P .len #[46] 3 #[false] #[v4] (fun v5 s => Nc P a0 (fun v6 s => Fa P 107 v6 1 (fun v7 s => Ld P 46 v7 (fun v8 s => Cl P 158 #[v8, a1] (fun v9 s => Nc P a0 (fun v10 s => Fa P 107 v10 1 (fun v11 s => Sv P 46 v11 v9 (fun _ s => Nc P a0 (fun v12 s => Fa P 107 v12 1 (fun v13 s => Ld P 46 v13 (fun v14 s => Bi P .len #[46] 3 #[false] #[v14] (fun v15 s => Bo P .sub 3 false false v15 v5 (fun v16 s => Ret P (fun w => K (.tuple #[v16, .nilIface]) w) s) s) s) s) s) s) s) s) s) s) s) s) s) s) s) s) s) s
noncomputable def b140 : Code := Tryd.f140.body.getD .skip
theorem e140 (a0 a1 : Value) (K : Value → World → Prop) : wpc P bmask 30 none b140 (lmOf [.tmp 4, .tmp 5]) (ktOf P 30 [.tmp 4, .tmp 5] K) (frOf [a0, a1]) = D140 a0 a1 K := by kernel_rfl
theorem c140 {a0 a1 w : _} {K : Value → World → Prop} {R : Ending → World → Prop} (h : D140 a0 a1 K ⟨w, []⟩) (hK : ∀ v w', K v w' → R (.returned v) w') : Calls P 140 #[a0, a1] w R :=
  calls_of bodies_ok Tryd.func140 30 [.tmp 4, .tmp 5] (c := b140) (args := [a0, a1]) (K := K) (by kernel_rfl) rfl (e140 a0 a1 K) h hK

/-- (*strings.Builder).Cap -/
def D141 (a0 : Value) (K : Value → World → Prop) (s : St) : Prop :=
  Nc P a0 (fun v1 s => Fa P 107 v1 1 (fun v2 s => Ld P 46 v2 (fun v3 s => Bi P .cap #[46] 3 #[false] #[v3] (fun v4 s => Ret P (fun w => K v4 w) s) s) s) s) s
noncomputable def b141 : Code := Tryd.f141.body.getD .skip
theorem e141 (a0 : Value) (K : Value → World → Prop) : wpc P bmask 8 none b141 (lmOf [.tmp 2]) (ktOf P 8 [.tmp 2] K) (frOf [a0]) = D141 a0 K := by kernel_rfl
theorem c141 {a0 w : _} {K : Value → World → Prop} {R : Ending → World → Prop} (h : D141 a0 K ⟨w, []⟩) (hK : ∀ v w', K v w' → R (.returned v) w') : Calls P 141 #[a0] w R :=
  calls_of bodies_ok Tryd.func141 8 [.tmp 2] (c := b141) (args := [a0]) (K := K) (by kernel_rfl) rfl (e141 a0 K) h hK

/-- rollcall/caps.All$1 -/
def D142 (a0 : Value) (K : Value → World → Prop) (s : St) : Prop :=
  Dy P a0 #[.string ⟨#[97, 119, 97, 121, 45, 110, 111, 116, 105, 102, 121]⟩, .int .i64 1] (fun v1 s => J1 (fun A2 => Grd v1 true (Dy P a0 #[.string ⟨#[101, 99, 104, 111, 45, 109, 101, 115, 115, 97, 103, 101]⟩, .int .i64 2] (fun v4 s => A2 v4 s) s) (A2 undef s)) (fun x3 s => Pk P v1 x3 (.bool false) (fun v5 s => J1 (fun A6 => Grd v5 true (Dy P a0 #[.string ⟨#[109, 117, 108, 116, 105, 45, 112, 114, 101, 102, 105, 120]⟩, .int .i64 4] (fun v8 s => A6 v8 s) s) (A6 undef s)) (fun x7 s => Pk P v5 x7 (.bool false) (fun _ s => Ret P (fun w => K (.tuple #[]) w) s) s)) s)) s
noncomputable def b142 : Code := Tryd.f142.body.getD .skip
theorem e142 (a0 : Value) (K : Value → World → Prop) : wpc P bmask 12 none b142 (lmOf []) (ktOf P 12 [] K) (frOf [a0]) = D142 a0 K := by kernel_rfl
theorem c142 {a0 w : _} {K : Value → World → Prop} {R : Ending → World → Prop} (h : D142 a0 K ⟨w, []⟩) (hK : ∀ v w', K v w' → R (.returned v) w') : Calls P 142 #[a0] w R :=
  calls_of bodies_ok Tryd.func142 12 [] (c := b142) (args := [a0]) (K := K) (by kernel_rfl) rfl (e142 a0 K) h hK

/-- strings.Count -/
def D143 (a0 a1 : Value) (K : Value → World → Prop) (s : St) : Prop :=
  Bi P .len #[9] 3 #[false] #[a1] (fun v1 s => Bo P .eql 3 false true v1 (.int .i64 0) (fun v2 s => CondP v2 (Cl P 159 #[a0] (fun v3 s => Bo P .add 3 false true v3 (.int .i64 1) (fun v4 s => Ret P (fun w => K v4 w) s) s) s) (Bi P .len #[9] 3 #[false] #[a1] (fun v5 s => Bo P .eql 3 false true v5 (.int .i64 1) (fun v6 s => CondP v6 (Ix P 9 a1 (.int .i64 0) (fun v7 s => Dy P (.func (.func 160) #[] #[]) #[a0, v7] (fun v8 s => Ret P (fun w => K v8 w) s) s) s) (L2 a0 (.int .i64 0) s (fun N9 x10 x11 s => Cl P 99 #[x10, a1] (fun v12 s => Bo P .eql 3 false true v12 (.int .i64 (-1)) (fun v13 s => CondP v13 (Ret P (fun w => K x11 w) s) (Bo P .add 3 false true x11 (.int .i64 1) (fun v14 s => Bi P .len #[9] 3 #[false] #[a1] (fun v15 s => Bo P .add 3 false false v12 v15 (fun v16 s => Sl P 9 x10 (some v16) none none (fun v17 s => N9 v17 v14 s) s) s) s) s)) s) s))) s) s)) s) s
noncomputable def b143 : Code := Tryd.f143.body.getD .skip
theorem e143 (a0 a1 : Value) (K : Value → World → Prop) : wpc P bmask 34 none b143 (lmOf [.tmp 4]) (ktOf P 34 [.tmp 4] K) (frOf [a0, a1]) = D143 a0 a1 K := by kernel_rfl
theorem c143 {a0 a1 w : _} {K : Value → World → Prop} {R : Ending → World → Prop} (h : D143 a0 a1 K ⟨w, []⟩) (hK : ∀ v w', K v w' → R (.returned v) w') : Calls P 143 #[a0, a1] w R :=
  calls_of bodies_ok Tryd.func143 34 [.tmp 4] (c := b143) (args := [a0, a1]) (K := K) (by kernel_rfl) rfl (e143 a0 a1 K) h hK

/-- (*strings.asciiSet).contains -/
def D144 (a0 a1 : Value) (K : Value → World → Prop) (s : St) : Prop :=
  Nc P a0 (fun v1 s => Ia P 126 v1 a1 (fun v2 s => Ld P 4 v2 (fun v3 s => Ret P (fun w => K v3 w) s) s) s) s
noncomputable def b144 : Code := Tryd.f144.body.getD .skip
theorem e144 (a0 a1 : Value) (K : Value → World → Prop) : wpc P bmask 10 none b144 (lmOf [.tmp 4]) (ktOf P 10 [.tmp 4] K) (frOf [a0, a1]) = D144 a0 a1 K := by kernel_rfl
theorem c144 {a0 a1 w : _} {K : Value → World → Prop} {R : Ending → World → Prop} (h : D144 a0 a1 K ⟨w, []⟩) (hK : ∀ v w', K v w' → R (.returned v) w') : Calls P 144 #[a0, a1] w R :=
  calls_of bodies_ok Tryd.func144 10 [.tmp 4] (c := b144) (args := [a0, a1]) (K := K) (by kernel_rfl) rfl (e144 a0 a1 K) h hK

/-- strings.ContainsRune -/
def D145 (a0 a1 : Value) (K : Value → World → Prop) (s : St) : Prop :=
  Cl P 147 #[a0, a1] (fun v1 s => Bo P .geq 3 false true v1 (.int .i64 0) (fun v2 s => Ret P (fun w => K v2 w) s) s) s
noncomputable def b145 : Code := Tryd.f145.body.getD .skip
theorem e145 (a0 a1 : Value) (K : Value → World → Prop) : wpc P bmask 9 none b145 (lmOf [.tmp 4]) (ktOf P 9 [.tmp 4] K) (frOf [a0, a1]) = D145 a0 a1 K := by kernel_rfl
theorem c145 {a0 a1 w : _} {K : Value → World → Prop} {R : Ending → World → Prop} (h : D145 a0 a1 K ⟨w, []⟩) (hK : ∀ v w', K v w' → R (.returned v) w') : Calls P 145 #[a0, a1] w R :=
  calls_of bodies_ok Tryd.func145 9 [.tmp 4] (c := b145) (args := [a0, a1]) (K := K) (by kernel_rfl) rfl (e145 a0 a1 K) h hK

/-- strings.explode -/
def D146 (a0 a1 : Value) (K : Value → World → Prop) (s : St) : Prop :=
  Cl P 159 #[a0] (fun v1 s => J1 (fun A2 => Bo P .lss 3 false true a1 (.int .i64 0) (fun v4 s => J1 (fun A5 => Grd v4 false (Bo P .gtr 3 false false a1 v1 (fun v7 s => A5 v7 s) s) (A5 undef s)) (fun x6 s => Pk P v4 (.bool true) x6 (fun v8 s => CondP v8 (A2 v1 s) (A2 a1 s)) s)) s) (fun x3 s => Ms P 22 x3 x3 (fun v9 s => L2 a0 (.int .i64 0) s (fun N10 x11 x12 s => Bo P .sub 3 false true x3 (.int .i64 1) (fun v13 s => Bo P .lss 3 false false x12 v13 (fun v14 s => CondP v14 (Cl P 137 #[x11] (fun v15 s => Ex P v15 0 (fun _ s => Ex P v15 1 (fun v17 s => Sl P 9 x11 none (some v17) none (fun v18 s => Ia P 22 v9 x12 (fun v19 s => Sv P 9 v19 v18 (fun _ s => Sl P 9 x11 (some v17) none none (fun v20 s => Bo P .add 3 false true x12 (.int .i64 1) (fun v21 s => N10 v20 v21 s) s) s) s) s) s) s) s) s) (J0 (fun A22 => Bo P .gtr 3 false true x3 (.int .i64 0) (fun v23 s => CondP v23 (Bo P .sub 3 false true x3 (.int .i64 1) (fun v24 s => Ia P 22 v9 v24 (fun v25 s => Sv P 9 v25 x11 (fun _ s => A22 s) s) s) s) (A22 s)) s) (fun s => Ret P (fun w => K v9 w) s))) s) s)) s)) s
noncomputable def b146 : Code := Tryd.f146.body.getD .skip
theorem e146 (a0 a1 : Value) (K : Value → World → Prop) : wpc P bmask 50 none b146 (lmOf [.tmp 4]) (ktOf P 50 [.tmp 4] K) (frOf [a0, a1]) = D146 a0 a1 K := by kernel_rfl
theorem c146 {a0 a1 w : _} {K : Value → World → Prop} {R : Ending → World → Prop} (h : D146 a0 a1 K ⟨w, []⟩) (hK : ∀ v w', K v w' → R (.returned v) w') : Calls P 146 #[a0, a1] w R :=
  calls_of bodies_ok Tryd.func146 50 [.tmp 4] (c := b146) (args := [a0, a1]) (K := K) (by kernel_rfl) rfl (e146 a0 a1 K) h hK

/-- strings.IndexRune -/
def D147 (a0 a1 : Value) (K : Value → World → Prop) (s : St) : Prop :=
  Bo P .leq 21 true false (.int .i32 0) a1 (fun v1 s => J1 (fun A2 => Grd v1 true (Bo P .lss 21 false true a1 (.int .i32 128) (fun v4 s => A2 v4 s) s) (A2 undef s)) (fun x3 s => Pk P v1 x3 (.bool false) (fun v5 s => CondP v5 (Cv P 21 5 a1 (fun v6 s => Cl P 97 #[a0, v6] (fun v7 s => Ret P (fun w => K v7 w) s) s) s) (Bo P .eql 21 false true a1 (.int .i32 65533) (fun v8 s => CondP v8 (Rg P 9 a0 (fun v9 s => L0 s (fun N10 s => Nx P v9 true 0 (fun v11 s => Ex P v11 0 (fun v12 s => CondP v12 (Ex P v11 1 (fun v13 s => Ex P v11 2 (fun v14 s => Bo P .eql 21 false true v14 (.int .i32 65533) (fun v15 s => CondP v15 (Ret P (fun w => K v13 w) s) (N10 s)) s) s) s) (Ret P (fun w => K (.int .i64 (-1)) w) s)) s) s)) s) (Cl P 161 #[a1] (fun v16 s => Uo P .not v16 (fun v17 s => CondP v17 (Ret P (fun w => K (.int .i64 (-1)) w) s) (Cv P 21 9 a1 (fun v18 s => Bi P .len #[9] 3 #[false] #[v18] (fun v19 s => Bo P .sub 3 false true v19 (.int .i64 1) (fun v20 s => L1 v20 s (fun N21 x22 s => Bi P .len #[9] 3 #[false] #[a0] (fun v23 s => Bo P .lss 3 false false x22 v23 (fun v24 s => CondP v24 (J1 (fun A25 => Dw (fun s => Qt (Ix P 9 a0 x22) s fun v27 => Qt (Ix P 9 v18 v20) s fun v28 => Qt (Bo P .neq 5 false false v27 v28) s fun v29 => CondP v29 (Dw (fun s => Qt (Bo P .add 3 false true x22 (.int .i64 1)) s fun v30 => Qt (Sl P 9 a0 (some v30) none none) s fun v31 => Qt (Ix P 9 v18 v20) s fun v32 => Cl P 97 #[v31, v32] (fun v33 s => Bo P .lss 3 false true v33 (.int .i64 0) (fun v34 s => CondP v34 (Ret P (fun w => K (.int .i64 (-1)) w) s) (Bo P .add 3 false true v33 (.int .i64 1) (fun v35 s => Bo P .add 3 false false x22 v35 (fun v36 s => A25 v36 s) s) s)) s) s) s) (A25 x22 s)) s) (fun x26 s => L1 (.int .i64 1) s (fun N37 x38 s => Bi P .len #[9] 3 #[false] #[v18] (fun v39 s => Bo P .lss 3 false false x38 v39 (fun v40 s => CondP v40 (Dw (fun s => Qt (Bo P .sub 3 false false x26 x38) s fun v41 => Qt (Ix P 9 a0 v41) s fun v42 => Qt (Bo P .sub 3 false false v20 x38) s fun v43 => Qt (Ix P 9 v18 v43) s fun v44 => Qt (Bo P .neq 5 false false v42 v44) s fun v45 => CondP v45 (False) (Bo P .add 3 false true x38 (.int .i64 1) (fun v46 s => N37 v46 s) s)) s) (Bo P .sub 3 false false x26 v20 (fun v47 s => Ret P (fun w => K v47 w) s) s)) s) s))) (Ret P (fun w => K (.int .i64 (-1)) w) s)) s) s)) s) s) s)) s) s)) s)) s)) s
noncomputable def b147 : Code := Tryd.f147.body.getD .skip
theorem e147 (a0 a1 : Value) (K : Value → World → Prop) : wpc P bmask 187 none b147 (lmOf [.tmp 4]) (ktOf P 187 [.tmp 4] K) (frOf [a0, a1]) = D147 a0 a1 K := by kernel_rfl
theorem c147 {a0 a1 w : _} {K : Value → World → Prop} {R : Ending → World → Prop} (h : D147 a0 a1 K ⟨w, []⟩) (hK : ∀ v w', K v w' → R (.returned v) w') : Calls P 147 #[a0, a1] w R :=
  calls_of bodies_ok Tryd.func147 187 [.tmp 4] (c := b147) (args := [a0, a1]) (K := K) (by kernel_rfl) rfl (e147 a0 a1 K) h hK

/-- strings.shouldUseASCIISet -/
def D148 (a0 : Value) (K : Value → World → Prop) (s : St) : Prop :=
  Bo P .gtr 3 false true a0 (.int .i64 8) (fun v1 s => Ret P (fun w => K v1 w) s) s
noncomputable def b148 : Code := Tryd.f148.body.getD .skip
theorem e148 (a0 : Value) (K : Value → World → Prop) : wpc P bmask 5 none b148 (lmOf [.tmp 2]) (ktOf P 5 [.tmp 2] K) (frOf [a0]) = D148 a0 K := by kernel_rfl
theorem c148 {a0 w : _} {K : Value → World → Prop} {R : Ending → World → Prop} (h : D148 a0 K ⟨w, []⟩) (hK : ∀ v w', K v w' → R (.returned v) w') : Calls P 148 #[a0] w R :=
  calls_of bodies_ok Tryd.func148 5 [.tmp 2] (c := b148) (args := [a0]) (K := K) (by kernel_rfl) rfl (e148 a0 K) h hK

/-- unicode/utf8.DecodeLastRuneInString -/
def D149 (a0 : Value) (K : Value → World → Prop) (s : St) : Prop :=
  Bi P .len #[9] 3 #[false] #[a0] (fun v1 s => Bo P .eql 3 false true v1 (.int .i64 0) (fun v2 s => CondP v2 (Ret P (fun w => K (.tuple #[.int .i32 65533, .int .i64 0]) w) s) (Bo P .sub 3 false true v1 (.int .i64 1) (fun v3 s => Ix P 9 a0 v3 (fun v4 s => Cv P 5 21 v4 (fun v5 s => Bo P .lss 21 false true v5 (.int .i32 128) (fun v6 s => CondP v6 (Ret P (fun w => K (.tuple #[v5, .int .i64 1]) w) s) (Bo P .sub 3 false true v1 (.int .i64 4) (fun v7 s => Bi P .max #[3, 3] 3 #[false, true] #[v7, .int .i64 0] (fun v8 s => J1 (fun A9 => Bo P .sub 3 false true v3 (.int .i64 1) (fun v11 s => L1 v11 s (fun N12 x13 s => Bo P .geq 3 false false x13 v8 (fun v14 s => CondP v14 (Ix P 9 a0 x13 (fun v15 s => Cl P 162 #[v15] (fun v16 s => CondP v16 (A9 x13 s) (Bo P .sub 3 false true x13 (.int .i64 1) (fun v17 s => N12 v17 s) s)) s) s) (A9 x13 s)) s)) s) (fun x10 s => J1 (fun A18 => Bo P .lss 3 false true x10 (.int .i64 0) (fun v20 s => CondP v20 (A18 (.int .i64 0) s) (A18 x10 s)) s) (fun x19 s => Sl P 9 a0 (some x19) (some v1) none (fun v21 s => Cl P 137 #[v21] (fun v22 s => Ex P v22 0 (fun v23 s => Ex P v22 1 (fun v24 s => Bo P .add 3 false false x19 v24 (fun v25 s => Bo P .neq 3 false false v25 v1 (fun v26 s => CondP v26 (Ret P (fun w => K (.tuple #[.int .i32 65533, .int .i64 1]) w) s) (Ret P (fun w => K (.tuple #[v23, v24]) w) s)) s) s) s) s) s) s))) s) s)) s) s) s) s)) s) s
noncomputable def b149 : Code := Tryd.f149.body.getD .skip
theorem e149 (a0 : Value) (K : Value → World → Prop) : wpc P bmask 51 none b149 (lmOf [.tmp 2, .tmp 3]) (ktOf P 51 [.tmp 2, .tmp 3] K) (frOf [a0]) = D149 a0 K := by kernel_rfl
theorem c149 {a0 w : _} {K : Value → World → Prop} {R : Ending → World → Prop} (h : D149 a0 K ⟨w, []⟩) (hK : ∀ v w', K v w' → R (.returned v) w') : Calls P 149 #[a0] w R :=
  calls_of bodies_ok Tryd.func149 51 [.tmp 2, .tmp 3] (c := b149) (args := [a0]) (K := K) (by kernel_rfl) rfl (e149 a0 K) h hK

/-- internal/bytealg.Cutover -/
def D152 (a0 : Value) (K : Value → World → Prop) (s : St) : Prop :=
  Bo P .add 3 false true a0 (.int .i64 16) (fun v1 s => Bo P .quo 3 false true v1 (.int .i64 8) (fun v2 s => Ret P (fun w => K v2 w) s) s) s
noncomputable def b152 : Code := Tryd.f152.body.getD .skip
theorem e152 (a0 : Value) (K : Value → World → Prop) : wpc P bmask 6 none b152 (lmOf [.tmp 2]) (ktOf P 6 [.tmp 2] K) (frOf [a0]) = D152 a0 K := by kernel_rfl
theorem c152 {a0 w : _} {K : Value → World → Prop} {R : Ending → World → Prop} (h : D152 a0 K ⟨w, []⟩) (hK : ∀ v w', K v w' → R (.returned v) w') : Calls P 152 #[a0] w R :=
  calls_of bodies_ok Tryd.func152 6 [.tmp 2] (c := b152) (args := [a0]) (K := K) (by kernel_rfl) rfl (e152 a0 K) h hK

/-- internal/bytealg.IndexRabinKarp[string] -/
def D153 (a0 a1 : Value) (K : Value → World → Prop) (s : St) : Prop :=
  Cl P 163 #[a1] (fun v1 s => Ex P v1 0 (fun v2 s => Ex P v1 1 (fun v3 s => Bi P .len #[9] 3 #[false] #[a1] (fun v4 s => L2 (.int .u32 0) (.int .i64 0) s (fun N5 x6 x7 s => Bo P .lss 3 false false x7 v4 (fun v8 s => CondP v8 (Bo P .mul 151 false true x6 (.int .u32 16777619) (fun v9 s => Ix P 9 a0 x7 (fun v10 s => Cv P 5 151 v10 (fun v11 s => Bo P .add 151 false false v9 v11 (fun v12 s => Bo P .add 3 false true x7 (.int .i64 1) (fun v13 s => N5 v12 v13 s) s) s) s) s) s) (Bo P .eql 151 false false x6 v2 (fun v14 s => J1 (fun A15 => Grd v14 true (Sl P 9 a0 none (some v4) none (fun v17 s => Bo P .eql 9 false false v17 a1 (fun v18 s => A15 v18 s) s) s) (A15 undef s)) (fun x16 s => Pk P v14 x16 (.bool false) (fun v19 s => CondP v19 (Ret P (fun w => K (.int .i64 0) w) s) (L2 x6 v4 s (fun N20 x21 x22 s => Bi P .len #[9] 3 #[false] #[a0] (fun v23 s => Bo P .lss 3 false false x22 v23 (fun v24 s => CondP v24 (Bo P .mul 151 false true x21 (.int .u32 16777619) (fun v25 s => Ix P 9 a0 x22 (fun v26 s => Cv P 5 151 v26 (fun v27 s => Bo P .add 151 false false v25 v27 (fun v28 s => Bo P .sub 3 false false x22 v4 (fun v29 s => Ix P 9 a0 v29 (fun v30 s => Cv P 5 151 v30 (fun v31 s => Bo P .mul 151 false false v3 v31 (fun v32 s => Bo P .sub 151 false false v28 v32 (fun v33 s => Bo P .add 3 false true x22 (.int .i64 1) (fun v34 s => Bo P .eql 151 false false v33 v2 (fun v35 s => J1 (fun A36 => Grd v35 true (Bo P .sub 3 false false v34 v4 (fun v38 s => Sl P 9 a0 (some v38) (some v34) none (fun v39 s => Bo P .eql 9 false false v39 a1 (fun v40 s => A36 v40 s) s) s) s) (A36 undef s)) (fun x37 s => Pk P v35 x37 (.bool false) (fun v41 s => CondP v41 (Bo P .sub 3 false false v34 v4 (fun v42 s => Ret P (fun w => K v42 w) s) s) (N20 v33 v34 s)) s)) s) s) s) s) s) s) s) s) s) s) s) (Ret P (fun w => K (.int .i64 (-1)) w) s)) s) s))) s)) s)) s)) s) s) s) s
noncomputable def b153 : Code := Tryd.f153.body.getD .skip
theorem e153 (a0 a1 : Value) (K : Value → World → Prop) : wpc P bmask 81 none b153 (lmOf [.tmp 4]) (ktOf P 81 [.tmp 4] K) (frOf [a0, a1]) = D153 a0 a1 K := by kernel_rfl
theorem c153 {a0 a1 w : _} {K : Value → World → Prop} {R : Ending → World → Prop} (h : D153 a0 a1 K ⟨w, []⟩) (hK : ∀ v w', K v w' → R (.returned v) w') : Calls P 153 #[a0, a1] w R :=
  calls_of bodies_ok Tryd.func153 81 [.tmp 4] (c := b153) (args := [a0, a1]) (K := K) (by kernel_rfl) rfl (e153 a0 a1 K) h hK

/-- rollcall/reply.refused -/
def D155 (a0 : Value) (K : Value → World → Prop) (s : St) : Prop :=
  Bo P .eql 3 false true a0 (.int .i64 441) (fun v1 s => CondP v1 (Ret P (fun w => K (.string ⟨#[84, 104, 101, 121, 32, 97, 114, 101, 110, 39, 116, 32, 111, 110, 32, 116, 104, 97, 116, 32, 99, 104, 97, 110, 110, 101, 108]⟩) w) s) (Bo P .eql 3 false true a0 (.int .i64 442) (fun v2 s => CondP v2 (Ret P (fun w => K (.string ⟨#[89, 111, 117, 39, 114, 101, 32, 110, 111, 116, 32, 111, 110, 32, 116, 104, 97, 116, 32, 99, 104, 97, 110, 110, 101, 108]⟩) w) s) (Bo P .eql 3 false true a0 (.int .i64 443) (fun v3 s => CondP v3 (Ret P (fun w => K (.string ⟨#[105, 115, 32, 97, 108, 114, 101, 97, 100, 121, 32, 111, 110, 32, 99, 104, 97, 110, 110, 101, 108]⟩) w) s) (Bo P .eql 3 false true a0 (.int .i64 451) (fun v4 s => CondP v4 (Ret P (fun w => K (.string ⟨#[89, 111, 117, 32, 104, 97, 118, 101, 32, 110, 111, 116, 32, 114, 101, 103, 105, 115, 116, 101, 114, 101, 100]⟩) w) s) (Bo P .eql 3 false true a0 (.int .i64 461) (fun v5 s => CondP v5 (Ret P (fun w => K (.string ⟨#[78, 111, 116, 32, 101, 110, 111, 117, 103, 104, 32, 112, 97, 114, 97, 109, 101, 116, 101, 114, 115]⟩) w) s) (Bo P .eql 3 false true a0 (.int .i64 462) (fun v6 s => CondP v6 (Ret P (fun w => K (.string ⟨#[89, 111, 117, 32, 109, 97, 121, 32, 110, 111, 116, 32, 114, 101, 114, 101, 103, 105, 115, 116, 101, 114]⟩) w) s) (Bo P .eql 3 false true a0 (.int .i64 464) (fun v7 s => CondP v7 (Ret P (fun w => K (.string ⟨#[80, 97, 115, 115, 119, 111, 114, 100, 32, 105, 110, 99, 111, 114, 114, 101, 99, 116]⟩) w) s) (Bo P .eql 3 false true a0 (.int .i64 468) (fun v8 s => CondP v8 (Ret P (fun w => K (.string ⟨#[73, 110, 118, 97, 108, 105, 100, 32, 117, 115, 101, 114, 110, 97, 109, 101]⟩) w) s) (Bo P .eql 3 false true a0 (.int .i64 472) (fun v9 s => CondP v9 (Ret P (fun w => K (.string ⟨#[105, 115, 32, 117, 110, 107, 110, 111, 119, 110, 32, 109, 111, 100, 101, 32, 99, 104, 97, 114, 32, 116, 111, 32, 109, 101]⟩) w) s) (Bo P .eql 3 false true a0 (.int .i64 476) (fun v10 s => CondP v10 (Ret P (fun w => K (.string ⟨#[66, 97, 100, 32, 67, 104, 97, 110, 110, 101, 108, 32, 77, 97, 115, 107]⟩) w) s) (Bo P .eql 3 false true a0 (.int .i64 478) (fun v11 s => CondP v11 (Ret P (fun w => K (.string ⟨#[67, 104, 97, 110, 110, 101, 108, 32, 108, 105, 115, 116, 32, 105, 115, 32, 102, 117, 108, 108]⟩) w) s) (Bo P .eql 3 false true a0 (.int .i64 481) (fun v12 s => CondP v12 (Ret P (fun w => K (.string ⟨#[80, 101, 114, 109, 105, 115, 115, 105, 111, 110, 32, 68, 101, 110, 105, 101, 100]⟩) w) s) (Bo P .eql 3 false true a0 (.int .i64 482) (fun v13 s => CondP v13 (Ret P (fun w => K (.string ⟨#[89, 111, 117, 39, 114, 101, 32, 110, 111, 116, 32, 99, 104, 97, 110, 110, 101, 108, 32, 111, 112, 101, 114, 97, 116, 111, 114]⟩) w) s) (Bo P .eql 3 false true a0 (.int .i64 491) (fun v14 s => CondP v14 (Ret P (fun w => K (.string ⟨#[78, 111, 32, 79, 45, 108, 105, 110, 101, 115, 32, 102, 111, 114, 32, 121, 111, 117, 114, 32, 104, 111, 115, 116]⟩) w) s) (Bo P .eql 3 false true a0 (.int .i64 501) (fun v15 s => CondP v15 (Ret P (fun w => K (.string ⟨#[85, 110, 107, 110, 111, 119, 110, 32, 77, 79, 68, 69, 32, 102, 108, 97, 103]⟩) w) s) (Bo P .eql 3 false true a0 (.int .i64 502) (fun v16 s => CondP v16 (Ret P (fun w => K (.string ⟨#[67, 97, 110, 116, 32, 99, 104, 97, 110, 103, 101, 32, 109, 111, 100, 101, 32, 102, 111, 114, 32, 111, 116, 104, 101, 114, 32, 117, 115, 101, 114, 115]⟩) w) s) (Bo P .eql 3 false true a0 (.int .i64 512) (fun v17 s => CondP v17 (Ret P (fun w => K (.string ⟨#[77, 97, 120, 105, 109, 117, 109, 32, 115, 105, 122, 101, 32, 102, 111, 114, 32, 87, 65, 84, 67, 72, 45, 108, 105, 115, 116]⟩) w) s) (Bo P .eql 3 false true a0 (.int .i64 734) (fun v18 s => CondP v18 (Ret P (fun w => K (.string ⟨#[77, 111, 110, 105, 116, 111, 114, 32, 108, 105, 115, 116, 32, 105, 115, 32, 102, 117, 108, 108]⟩) w) s) (Ret P (fun w => K (.string ⟨#[]⟩) w) s)) s)) s)) s)) s)) s)) s)) s)) s)) s)) s)) s)) s)) s)) s)) s)) s)) s)) s
noncomputable def b155 : Code := Tryd.f155.body.getD .skip
theorem e155 (a0 : Value) (K : Value → World → Prop) : wpc P bmask 40 none b155 (lmOf [.tmp 2]) (ktOf P 40 [.tmp 2] K) (frOf [a0]) = D155 a0 K := by kernel_rfl
theorem c155 {a0 w : _} {K : Value → World → Prop} {R : Ending → World → Prop} (h : D155 a0 K ⟨w, []⟩) (hK : ∀ v w', K v w' → R (.returned v) w') : Calls P 155 #[a0] w R :=
  calls_of bodies_ok Tryd.func155 40 [.tmp 2] (c := b155) (args := [a0]) (K := K) (by kernel_rfl) rfl (e155 a0 K) h hK

/-- unicode/utf8.decodeRuneInStringSlow -/
def D156 (a0 : Value) (K : Value → World → Prop) (s : St) : Prop :=
  Bi P .len #[9] 3 #[false] #[a0] (fun v1 s => Bo P .lss 3 false true v1 (.int .i64 1) (fun v2 s => CondP v2 (Ret P (fun w => K (.tuple #[.int .i32 65533, .int .i64 0]) w) s) (Ix P 9 a0 (.int .i64 0) (fun v3 s => Ia P 154 (.pointer (some ⟨1, 0, none⟩)) v3 (fun v4 s => Ld P 5 v4 (fun v5 s => Bo P .geq 5 false true v5 (byteV 240) (fun v6 s => CondP v6 (Cv P 5 21 v5 (fun v7 s => Bo P .shl 21 false true v7 (.int .u64 31) (fun v8 s => Bo P .shr 21 false true v8 (.int .u64 31) (fun v9 s => Ix P 9 a0 (.int .i64 0) (fun v10 s => Cv P 5 21 v10 (fun v11 s => Bo P .andNot 21 false false v11 v9 (fun v12 s => Bo P .and 21 true false (.int .i32 65533) v9 (fun v13 s => Bo P .or 21 false false v12 v13 (fun v14 s => Ret P (fun w => K (.tuple #[v14, .int .i64 1]) w) s) s) s) s) s) s) s) s) s) (Bo P .and 5 false true v5 (byteV 7) (fun v15 s => Cv P 5 3 v15 (fun v16 s => Bo P .shr 5 false true v5 (.int .u64 4) (fun v17 s => Ia P 157 (.pointer (some ⟨2, 0, none⟩)) v17 (fun v18 s => Ld P 156 v18 (fun v19 s => Al P 156 (fun v20 s => Sv P 156 v20 v19 (fun _ s => Bo P .lss 3 false false v1 v16 (fun v21 s => CondP v21 (Ret P (fun w => K (.tuple #[.int .i32 65533, .int .i64 1]) w) s) (Ix P 9 a0 (.int .i64 1) (fun v22 s => Fa P 156 v20 0 (fun v23 s => Ld P 5 v23 (fun v24 s => Bo P .lss 5 false false v22 v24 (fun v25 s => J1 (fun A26 => Grd v25 false (Fa P 156 v20 1 (fun v28 s => Ld P 5 v28 (fun v29 s => Bo P .lss 5 false false v29 v22 (fun v30 s => A26 v30 s) s) s) s) (A26 undef s)) (fun x27 s => Pk P v25 (.bool true) x27 (fun v31 s => CondP v31 (Ret P (fun w => K (.tuple #[.int .i32 65533, .int .i64 1]) w) s) (Bo P .leq 3 false true v16 (.int .i64 2) (fun v32 s => CondP v32 (Bo P .and 5 false true v3 (byteV 31) (fun v33 s => Cv P 5 21 v33 (fun v34 s => Bo P .shl 21 false true v34 (.int .u64 6) (fun v35 s => Bo P .and 5 false true v22 (byteV 63) (fun v36 s => Cv P 5 21 v36 (fun v37 s => Bo P .or 21 false false v35 v37 (fun v38 s => Ret P (fun w => K (.tuple #[v38, .int .i64 2]) w) s) s) s) s) s) s) s) (Ix P 9 a0 (.int .i64 2) (fun v39 s => Bo P .lss 5 false true v39 (byteV 128) (fun v40 s => J1 (fun A41 => Grd v40 false (Bo P .lss 5 true false (byteV 191) v39 (fun v43 s => A41 v43 s) s) (A41 undef s)) (fun x42 s => Pk P v40 (.bool true) x42 (fun v44 s => CondP v44 (Ret P (fun w => K (.tuple #[.int .i32 65533, .int .i64 1]) w) s) (Bo P .leq 3 false true v16 (.int .i64 3) (fun v45 s => CondP v45 (Bo P .and 5 false true v3 (byteV 15) (fun v46 s => Cv P 5 21 v46 (fun v47 s => Bo P .shl 21 false true v47 (.int .u64 12) (fun v48 s => Bo P .and 5 false true v22 (byteV 63) (fun v49 s => Cv P 5 21 v49 (fun v50 s => Bo P .shl 21 false true v50 (.int .u64 6) (fun v51 s => Bo P .or 21 false false v48 v51 (fun v52 s => Bo P .and 5 false true v39 (byteV 63) (fun v53 s => Cv P 5 21 v53 (fun v54 s => Bo P .or 21 false false v52 v54 (fun v55 s => Ret P (fun w => K (.tuple #[v55, .int .i64 3]) w) s) s) s) s) s) s) s) s) s) s) s) (Ix P 9 a0 (.int .i64 3) (fun v56 s => Bo P .lss 5 false true v56 (byteV 128) (fun v57 s => J1 (fun A58 => Grd v57 false (Bo P .lss 5 true false (byteV 191) v56 (fun v60 s => A58 v60 s) s) (A58 undef s)) (fun x59 s => Pk P v57 (.bool true) x59 (fun v61 s => CondP v61 (Ret P (fun w => K (.tuple #[.int .i32 65533, .int .i64 1]) w) s) (Bo P .and 5 false true v3 (byteV 7) (fun v62 s => Cv P 5 21 v62 (fun v63 s => Bo P .shl 21 false true v63 (.int .u64 18) (fun v64 s => Bo P .and 5 false true v22 (byteV 63) (fun v65 s => Cv P 5 21 v65 (fun v66 s => Bo P .shl 21 false true v66 (.int .u64 12) (fun v67 s => Bo P .or 21 false false v64 v67 (fun v68 s => Bo P .and 5 false true v39 (byteV 63) (fun v69 s => Cv P 5 21 v69 (fun v70 s => Bo P .shl 21 false true v70 (.int .u64 6) (fun v71 s => Bo P .or 21 false false v68 v71 (fun v72 s => Bo P .and 5 false true v56 (byteV 63) (fun v73 s => Cv P 5 21 v73 (fun v74 s => Bo P .or 21 false false v72 v74 (fun v75 s => Ret P (fun w => K (.tuple #[v75, .int .i64 4]) w) s) s) s) s) s) s) s) s) s) s) s) s) s) s) s)) s)) s) s)) s)) s)) s) s)) s)) s)) s) s) s) s)) s) s) s) s) s) s) s) s)) s) s) s) s)) s) s
noncomputable def b156 : Code := Tryd.f156.body.getD .skip
theorem e156 (a0 : Value) (K : Value → World → Prop) : wpc P bmask 117 none b156 (lmOf [.tmp 2, .tmp 3]) (ktOf P 117 [.tmp 2, .tmp 3] K) (frOf [a0]) = D156 a0 K := by kernel_rfl
theorem c156 {a0 w : _} {K : Value → World → Prop} {R : Ending → World → Prop} (h : D156 a0 K ⟨w, []⟩) (hK : ∀ v w', K v w' → R (.returned v) w') : Calls P 156 #[a0] w R :=
  calls_of bodies_ok Tryd.func156 117 [.tmp 2, .tmp 3] (c := b156) (args := [a0]) (K := K) (by kernel_rfl) rfl (e156 a0 K) h hK

/-- (*strings.Builder).grow -/
def D157 (a0 a1 : Value) (K : Value → World → Prop) (s : St) : Prop :=
  Dw (fun s => Qt (Nc P a0) s fun v1 => Qt (Fa P 107 v1 1) s fun v2 => Qt (Ld P 46 v2) s fun v3 => Qt (Bi P .cap #[46] 3 #[false] #[v3]) s fun v4 => Qt (Bo P .mul 3 true false (.int .i64 2) v4) s fun v5 => Qt (Bo P .add 3 false false v5 a1) s fun v6 => Qt (Nc P a0) s fun v7 => Qt (Fa P 107 v7 1) s fun v8 => Qt (Ld P 46 v8) s fun v9 => Qt (Bi P .len #[46] 3 #[false] #[v9]) s fun v10 => Dy P (.func (.func 164) #[] #[]) #[v6] (fun v11 s => Ck (Nc P a0) v7 s ∧ Ck (Fa P 107 v7 1) v8 s ∧ Ck (Ld P 46 v8) v9 s ∧ Ck (Bi P .len #[46] 3 #[false] #[v9]) v10 s ∧ (Qt (Sl P 46 v11 none (some v10) none) s fun v12 => Nc P a0 (fun v13 s => Fa P 107 v13 1 (fun v14 s => Ld P 46 v14 (fun v15 s => Bi P .copy #[46, 46] 3 #[false, false] #[v12, v15] (fun _ s => Nc P a0 (fun v17 s => Fa P 107 v17 1 (fun v18 s => Sv P 46 v18 v12 (fun _ s => Ret P (fun w => K (.tuple #[]) w) s) s) s) s) s) s) s) s)) s) s
noncomputable def b157 : Code := Tryd.f157.body.getD .skip
theorem e157 (a0 a1 : Value) (K : Value → World → Prop) : wpc P bmask 30 none b157 (lmOf []) (ktOf P 30 [] K) (frOf [a0, a1]) = D157 a0 a1 K := by kernel_rfl
theorem c157 {a0 a1 w : _} {K : Value → World → Prop} {R : Ending → World → Prop} (h : D157 a0 a1 K ⟨w, []⟩) (hK : ∀ v w', K v w' → R (.returned v) w') : Calls P 157 #[a0, a1] w R :=
  calls_of bodies_ok Tryd.func157 30 [] (c := b157) (args := [a0, a1]) (K := K) (by kernel_rfl) rfl (e157 a0 a1 K) h hK

/-- unicode/utf8.AppendRune -/
def D158 (a0 a1 : Value) (K : Value → World → Prop) (s : St) : Prop :=
  Cv P 21 151 a1 (fun v1 s => Bo P .leq 151 false true v1 (.int .u32 127) (fun v2 s => CondP v2 (Cv P 21 5 a1 (fun v3 s => Bs P 46 1 #[(0, v3)] (fun v4 s => Bi P .append #[46, 46] 46 #[false, false] #[a0, v4] (fun v5 s => Ret P (fun w => K v5 w) s) s) s) s) (Cl P 165 #[a0, a1] (fun v6 s => Ret P (fun w => K v6 w) s) s)) s) s
noncomputable def b158 : Code := Tryd.f158.body.getD .skip
theorem e158 (a0 a1 : Value) (K : Value → World → Prop) : wpc P bmask 16 none b158 (lmOf [.tmp 4]) (ktOf P 16 [.tmp 4] K) (frOf [a0, a1]) = D158 a0 a1 K := by kernel_rfl
theorem c158 {a0 a1 w : _} {K : Value → World → Prop} {R : Ending → World → Prop} (h : D158 a0 a1 K ⟨w, []⟩) (hK : ∀ v w', K v w' → R (.returned v) w') : Calls P 158 #[a0, a1] w R :=
  calls_of bodies_ok Tryd.func158 16 [.tmp 4] (c := b158) (args := [a0, a1]) (K := K) (by kernel_rfl) rfl (e158 a0 a1 K) h hK

/-- unicode/utf8.RuneCountInString -/
def D159 (a0 : Value) (K : Value → World → Prop) (s : St) : Prop :=
  Rg P 9 a0 (fun v1 s => L1 (.int .i64 0) s (fun N2 x3 s => Nx P v1 true 0 (fun v4 s => Ex P v4 0 (fun v5 s => CondP v5 (Bo P .add 3 false true x3 (.int .i64 1) (fun v6 s => N2 v6 s) s) (Ret P (fun w => K x3 w) s)) s) s)) s
noncomputable def b159 : Code := Tryd.f159.body.getD .skip
theorem e159 (a0 : Value) (K : Value → World → Prop) : wpc P bmask 10 none b159 (lmOf [.tmp 2]) (ktOf P 10 [.tmp 2] K) (frOf [a0]) = D159 a0 K := by kernel_rfl
theorem c159 {a0 w : _} {K : Value → World → Prop} {R : Ending → World → Prop} (h : D159 a0 K ⟨w, []⟩) (hK : ∀ v w', K v w' → R (.returned v) w') : Calls P 159 #[a0] w R :=
  calls_of bodies_ok Tryd.func159 10 [.tmp 2] (c := b159) (args := [a0]) (K := K) (by kernel_rfl) rfl (e159 a0 K) h hK

/-- unicode/utf8.ValidRune -/
def D161 (a0 : Value) (K : Value → World → Prop) (s : St) : Prop :=
  Bo P .leq 21 true false (.int .i32 0) a0 (fun v1 s => J1 (fun A2 => Grd v1 true (Bo P .lss 21 false true a0 (.int .i32 55296) (fun v4 s => A2 v4 s) s) (A2 undef s)) (fun x3 s => Pk P v1 x3 (.bool false) (fun v5 s => CondP v5 (Ret P (fun w => K (.bool true) w) s) (Bo P .lss 21 true false (.int .i32 57343) a0 (fun v6 s => J1 (fun A7 => Grd v6 true (Bo P .leq 21 false true a0 (.int .i32 1114111) (fun v9 s => A7 v9 s) s) (A7 undef s)) (fun x8 s => Pk P v6 x8 (.bool false) (fun v10 s => CondP v10 (Ret P (fun w => K (.bool true) w) s) (Ret P (fun w => K (.bool false) w) s)) s)) s)) s)) s
noncomputable def b161 : Code := Tryd.f161.body.getD .skip
theorem e161 (a0 : Value) (K : Value → World → Prop) : wpc P bmask 17 none b161 (lmOf [.tmp 2]) (ktOf P 17 [.tmp 2] K) (frOf [a0]) = D161 a0 K := by kernel_rfl
theorem c161 {a0 w : _} {K : Value → World → Prop} {R : Ending → World → Prop} (h : D161 a0 K ⟨w, []⟩) (hK : ∀ v w', K v w' → R (.returned v) w') : Calls P 161 #[a0] w R :=
  calls_of bodies_ok Tryd.func161 17 [.tmp 2] (c := b161) (args := [a0]) (K := K) (by kernel_rfl) rfl (e161 a0 K) h hK

/-- unicode/utf8.RuneStart -/
def D162 (a0 : Value) (K : Value → World → Prop) (s : St) : Prop :=
  Bo P .and 5 false true a0 (byteV 192) (fun v1 s => Bo P .neq 5 false true v1 (byteV 128) (fun v2 s => Ret P (fun w => K v2 w) s) s) s
noncomputable def b162 : Code := Tryd.f162.body.getD .skip
theorem e162 (a0 : Value) (K : Value → World → Prop) : wpc P bmask 6 none b162 (lmOf [.tmp 2]) (ktOf P 6 [.tmp 2] K) (frOf [a0]) = D162 a0 K := by kernel_rfl
theorem c162 {a0 w : _} {K : Value → World → Prop} {R : Ending → World → Prop} (h : D162 a0 K ⟨w, []⟩) (hK : ∀ v w', K v w' → R (.returned v) w') : Calls P 162 #[a0] w R :=
  calls_of bodies_ok Tryd.func162 6 [.tmp 2] (c := b162) (args := [a0]) (K := K) (by kernel_rfl) rfl (e162 a0 K) h hK

/-- internal/bytealg.hashStr[string] -/
def D163 (a0 : Value) (K : Value → World → Prop) (s : St) : Prop :=
  L2 (.int .u32 0) (.int .i64 0) s (fun N1 x2 x3 s => Bi P .len #[9] 3 #[false] #[a0] (fun v4 s => Bo P .lss 3 false false x3 v4 (fun v5 s => CondP v5 (Bo P .mul 151 false true x2 (.int .u32 16777619) (fun v6 s => Ix P 9 a0 x3 (fun v7 s => Cv P 5 151 v7 (fun v8 s => Bo P .add 151 false false v6 v8 (fun v9 s => Bo P .add 3 false true x3 (.int .i64 1) (fun v10 s => N1 v9 v10 s) s) s) s) s) s) (Bi P .len #[9] 3 #[false] #[a0] (fun v11 s => L3 (.int .u32 1) (.int .u32 16777619) v11 s (fun N12 x13 x14 x15 s => Bo P .gtr 3 false true x15 (.int .i64 0) (fun v16 s => CondP v16 (J1 (fun A17 => Bo P .and 3 false true x15 (.int .i64 1) (fun v19 s => Bo P .neq 3 false true v19 (.int .i64 0) (fun v20 s => CondP v20 (Bo P .mul 151 false false x13 x14 (fun v21 s => A17 v21 s) s) (A17 x13 s)) s) s) (fun x18 s => Bo P .mul 151 false false x14 x14 (fun v22 s => Bo P .shr 3 false true x15 (.int .u64 1) (fun v23 s => N12 x18 v22 v23 s) s) s)) (Ret P (fun w => K (.tuple #[x2, x13]) w) s)) s)) s)) s) s)
noncomputable def b163 : Code := Tryd.f163.body.getD .skip
theorem e163 (a0 : Value) (K : Value → World → Prop) : wpc P bmask 39 none b163 (lmOf [.tmp 2, .tmp 3]) (ktOf P 39 [.tmp 2, .tmp 3] K) (frOf [a0]) = D163 a0 K := by kernel_rfl
theorem c163 {a0 w : _} {K : Value → World → Prop} {R : Ending → World → Prop} (h : D163 a0 K ⟨w, []⟩) (hK : ∀ v w', K v w' → R (.returned v) w') : Calls P 163 #[a0] w R :=
  calls_of bodies_ok Tryd.func163 39 [.tmp 2, .tmp 3] (c := b163) (args := [a0]) (K := K) (by kernel_rfl) rfl (e163 a0 K) h hK

/-- unicode/utf8.appendRuneNonASCII -/
def D165 (a0 a1 : Value) (K : Value → World → Prop) (s : St) : Prop :=
  Cv P 21 151 a1 (fun v1 s => Bo P .leq 151 false true v1 (.int .u32 2047) (fun v2 s => CondP v2 (Bo P .shr 21 false true a1 (.int .u64 6) (fun v3 s => Cv P 21 5 v3 (fun v4 s => Bo P .or 5 true false (byteV 192) v4 (fun v5 s => Cv P 21 5 a1 (fun v6 s => Bo P .and 5 false true v6 (byteV 63) (fun v7 s => Bo P .or 5 true false (byteV 128) v7 (fun v8 s => Bs P 46 2 #[(0, v5), (1, v8)] (fun v9 s => Bi P .append #[46, 46] 46 #[false, false] #[a0, v9] (fun v10 s => Ret P (fun w => K v10 w) s) s) s) s) s) s) s) s) s) (J1 (fun A11 => Bo P .lss 151 false true v1 (.int .u32 55296) (fun v13 s => CondP v13 (A11 v13 s) (Bo P .lss 151 true false (.int .u32 57343) v1 (fun v14 s => J1 (fun A15 => Grd v14 true (Bo P .leq 151 false true v1 (.int .u32 65535) (fun v17 s => A15 v17 s) s) (A15 undef s)) (fun x16 s => Pk P v14 x16 (.bool false) (fun v18 s => A11 v18 s) s)) s)) s) (fun x12 s => CondP x12 (Bo P .shr 21 false true a1 (.int .u64 12) (fun v19 s => Cv P 21 5 v19 (fun v20 s => Bo P .or 5 true false (byteV 224) v20 (fun v21 s => Bo P .shr 21 false true a1 (.int .u64 6) (fun v22 s => Cv P 21 5 v22 (fun v23 s => Bo P .and 5 false true v23 (byteV 63) (fun v24 s => Bo P .or 5 true false (byteV 128) v24 (fun v25 s => Cv P 21 5 a1 (fun v26 s => Bo P .and 5 false true v26 (byteV 63) (fun v27 s => Bo P .or 5 true false (byteV 128) v27 (fun v28 s => Bs P 46 3 #[(0, v21), (1, v25), (2, v28)] (fun v29 s => Bi P .append #[46, 46] 46 #[false, false] #[a0, v29] (fun v30 s => Ret P (fun w => K v30 w) s) s) s) s) s) s) s) s) s) s) s) s) s) (Bo P .gtr 151 false true v1 (.int .u32 65535) (fun v31 s => J1 (fun A32 => Grd v31 true (Bo P .leq 151 false true v1 (.int .u32 1114111) (fun v34 s => A32 v34 s) s) (A32 undef s)) (fun x33 s => Pk P v31 x33 (.bool false) (fun v35 s => CondP v35 (Bo P .shr 21 false true a1 (.int .u64 18) (fun v36 s => Cv P 21 5 v36 (fun v37 s => Bo P .or 5 true false (byteV 240) v37 (fun v38 s => Bo P .shr 21 false true a1 (.int .u64 12) (fun v39 s => Cv P 21 5 v39 (fun v40 s => Bo P .and 5 false true v40 (byteV 63) (fun v41 s => Bo P .or 5 true false (byteV 128) v41 (fun v42 s => Bo P .shr 21 false true a1 (.int .u64 6) (fun v43 s => Cv P 21 5 v43 (fun v44 s => Bo P .and 5 false true v44 (byteV 63) (fun v45 s => Bo P .or 5 true false (byteV 128) v45 (fun v46 s => Cv P 21 5 a1 (fun v47 s => Bo P .and 5 false true v47 (byteV 63) (fun v48 s => Bo P .or 5 true false (byteV 128) v48 (fun v49 s => Bs P 46 4 #[(0, v38), (1, v42), (2, v46), (3, v49)] (fun v50 s => Bi P .append #[46, 46] 46 #[false, false] #[a0, v50] (fun v51 s => Ret P (fun w => K v51 w) s) s) s) s) s) s) s) s) s) s) s) s) s) s) s) s) s) (Bs P 46 3 #[(0, byteV 239), (1, byteV 191), (2, byteV 189)] (fun v52 s => Bi P .append #[46, 46] 46 #[false, false] #[a0, v52] (fun v53 s => Ret P (fun w => K v53 w) s) s) s)) s)) s)))) s) s
noncomputable def b165 : Code := Tryd.f165.body.getD .skip
theorem e165 (a0 a1 : Value) (K : Value → World → Prop) : wpc P bmask 78 none b165 (lmOf [.tmp 4]) (ktOf P 78 [.tmp 4] K) (frOf [a0, a1]) = D165 a0 a1 K := by kernel_rfl
theorem c165 {a0 a1 w : _} {K : Value → World → Prop} {R : Ending → World → Prop} (h : D165 a0 a1 K ⟨w, []⟩) (hK : ∀ v w', K v w' → R (.returned v) w') : Calls P 165 #[a0, a1] w R :=
  calls_of bodies_ok Tryd.func165 78 [.tmp 4] (c := b165) (args := [a0, a1]) (K := K) (by kernel_rfl) rfl (e165 a0 a1 K) h hK

/-- gosem.cut.vars -/
def D187 (K : Value → World → Prop) (s : St) : Prop :=
  Bd P 156 #[(0, byteV 128), (1, byteV 191)] (fun v1 s => Bd P 156 #[(0, byteV 160), (1, byteV 191)] (fun v2 s => Bd P 156 #[(0, byteV 128), (1, byteV 159)] (fun v3 s => Bd P 156 #[(0, byteV 144), (1, byteV 191)] (fun v4 s => Bd P 156 #[(0, byteV 128), (1, byteV 143)] (fun v5 s => Bd P 157 #[(0, v1), (1, v2), (2, v3), (3, v4), (4, v5)] (fun v6 s => Sv P 157 (.pointer (some ⟨2, 0, none⟩)) v6 (fun _ s => Ret P (fun w => K (.tuple #[]) w) s) s) s) s) s) s) s) s
noncomputable def b187 : Code := Tryd.f187.body.getD .skip
theorem e187 (K : Value → World → Prop) : wpc P bmask 6 none b187 (lmOf []) (ktOf P 6 [] K) (frOf []) = D187 K := by kernel_rfl
theorem c187 {w : _} {K : Value → World → Prop} {R : Ending → World → Prop} (h : D187 K ⟨w, []⟩) (hK : ∀ v w', K v w' → R (.returned v) w') : Calls P 187 #[] w R :=
  calls_of bodies_ok Tryd.func187 6 [] (c := b187) (args := []) (K := K) (by kernel_rfl) rfl (e187 K) h hK

instance : BodyOf P 59 := ⟨bodies_ok.2 59 (by kernel_rfl)⟩
instance : BodyOf P 63 := ⟨bodies_ok.2 63 (by kernel_rfl)⟩
instance : BodyOf P 64 := ⟨bodies_ok.2 64 (by kernel_rfl)⟩
instance : BodyOf P 66 := ⟨bodies_ok.2 66 (by kernel_rfl)⟩
instance : BodyOf P 72 := ⟨bodies_ok.2 72 (by kernel_rfl)⟩
instance : BodyOf P 87 := ⟨bodies_ok.2 87 (by kernel_rfl)⟩
instance : BodyOf P 110 := ⟨bodies_ok.2 110 (by kernel_rfl)⟩
instance : BodyOf P 142 := ⟨bodies_ok.2 142 (by kernel_rfl)⟩
instance : ExIdx P 150 := ⟨run_callFunc_indexByte Tryd.func150 (by kernel_rfl) (by kernel_rfl) (by kernel_rfl) (by kernel_rfl)⟩
instance : ExNoE P 154 := ⟨run_callFunc_extern Tryd.func154 (by kernel_rfl) (by kernel_rfl) (by kernel_rfl) (by kernel_rfl)⟩
instance : ExMnz P 164 46 5 := ⟨⟨#[3], run_callFunc_extern Tryd.func164 (by kernel_rfl) (by kernel_rfl) (by kernel_rfl) (by kernel_rfl)⟩, Tryd.underlying46⟩
instance : TyU P 3 (.int .i64) := ⟨Tryd.underlying3⟩
instance : TyInf P 3 1 := ⟨⟨_, inf_of Tryd.type3, by kernel_rfl⟩⟩
instance : TyAgg P 3 false := ⟨Tryd.isAgg3⟩
instance : TySize P 3 1 := ⟨Tryd.sizeOf3⟩
instance : TyZ P 3 [.int .i64 0] := ⟨fun w => ⟨_, Tryd.zeroValue3 w, rfl⟩⟩
instance : TyU P 4 (.bool) := ⟨Tryd.underlying4⟩
instance : TyInf P 4 1 := ⟨⟨_, inf_of Tryd.type4, by kernel_rfl⟩⟩
instance : TyAgg P 4 false := ⟨Tryd.isAgg4⟩
instance : TySize P 4 1 := ⟨Tryd.sizeOf4⟩
instance : TyZ P 4 [.bool false] := ⟨fun w => ⟨_, Tryd.zeroValue4 w, rfl⟩⟩
instance : TyU P 5 (.int .u8) := ⟨Tryd.underlying5⟩
instance : TyInf P 5 1 := ⟨⟨_, inf_of Tryd.type5, by kernel_rfl⟩⟩
instance : TyAgg P 5 false := ⟨Tryd.isAgg5⟩
instance : TySize P 5 1 := ⟨Tryd.sizeOf5⟩
instance : TyZ P 5 [byteV 0] := ⟨fun w => ⟨_, Tryd.zeroValue5 w, rfl⟩⟩
instance : TyU P 9 (.string) := ⟨Tryd.underlying9⟩
instance : TyInf P 9 1 := ⟨⟨_, inf_of Tryd.type9, by kernel_rfl⟩⟩
instance : TyAgg P 9 false := ⟨Tryd.isAgg9⟩
instance : TySize P 9 1 := ⟨Tryd.sizeOf9⟩
instance : TyZ P 9 [.string ⟨#[]⟩] := ⟨fun w => ⟨_, Tryd.zeroValue9 w, rfl⟩⟩
instance : TyU P 21 (.int .i32) := ⟨Tryd.underlying21⟩
instance : TyInf P 21 1 := ⟨⟨_, inf_of Tryd.type21, by kernel_rfl⟩⟩
instance : TyAgg P 21 false := ⟨Tryd.isAgg21⟩
instance : TySize P 21 1 := ⟨Tryd.sizeOf21⟩
instance : TyZ P 21 [.int .i32 0] := ⟨fun w => ⟨_, Tryd.zeroValue21 w, rfl⟩⟩
instance : TyU P 22 (.slice 9) := ⟨Tryd.underlying22⟩
instance : TyInf P 22 1 := ⟨⟨_, inf_of Tryd.type22, by kernel_rfl⟩⟩
instance : TyAgg P 22 false := ⟨Tryd.isAgg22⟩
instance : TySize P 22 1 := ⟨Tryd.sizeOf22⟩
instance : TyZ P 22 [.slice none 0 0] := ⟨fun w => ⟨_, Tryd.zeroValue22 w, rfl⟩⟩
instance : TySl P 22 9 1 := ⟨Tryd.t9, .string ⟨#[]⟩, Tryd.underlying22, inf_of Tryd.type9, by kernel_rfl, by kernel_rfl, by kernel_rfl, by decide, by decide⟩
instance : TyU P 30 (.slice 71) := ⟨Tryd.underlying30⟩
instance : TyInf P 30 1 := ⟨⟨_, inf_of Tryd.type30, by kernel_rfl⟩⟩
instance : TyAgg P 30 false := ⟨Tryd.isAgg30⟩
instance : TySize P 30 1 := ⟨Tryd.sizeOf30⟩
instance : TyZ P 30 [.slice none 0 0] := ⟨fun w => ⟨_, Tryd.zeroValue30 w, rfl⟩⟩
instance : TySl P 30 71 2 := ⟨Tryd.t71, .agg #[.string ⟨#[]⟩, .string ⟨#[]⟩], Tryd.underlying30, inf_of Tryd.type71, by kernel_rfl, by kernel_rfl, by kernel_rfl, by decide, by decide⟩
instance : TyInf P 32 4 := ⟨⟨_, inf_of Tryd.type32, by kernel_rfl⟩⟩
instance : TyAgg P 32 true := ⟨Tryd.isAgg32⟩
instance : TySize P 32 4 := ⟨Tryd.sizeOf32⟩
instance : TyZ P 32 [.slice none 0 0, .string ⟨#[]⟩, .string ⟨#[]⟩, .slice none 0 0] := ⟨fun w => ⟨_, Tryd.zeroValue32 w, rfl⟩⟩
instance : TyB P 32 [.slice none 0 0, .string ⟨#[]⟩, .string ⟨#[]⟩, .slice none 0 0] [(0, 1), (1, 1), (2, 1), (3, 1)] := ⟨fun ps => by kernel_rfl⟩
instance : TyFld P 32 0 0 := ⟨fun a w => by simp [Instr.fieldAt, Instr.sureAddr, fieldPlace, Sem.run_bind, Tryd.runUnderlying32, Tryd.sizeOf30]⟩
instance : TyFld P 32 1 1 := ⟨fun a w => by simp [Instr.fieldAt, Instr.sureAddr, fieldPlace, Sem.run_bind, Tryd.runUnderlying32, Tryd.sizeOf9]⟩
instance : TyFld P 32 2 2 := ⟨fun a w => by simp [Instr.fieldAt, Instr.sureAddr, fieldPlace, Sem.run_bind, Tryd.runUnderlying32, Tryd.sizeOf9]⟩
instance : TyFld P 32 3 3 := ⟨fun a w => by simp [Instr.fieldAt, Instr.sureAddr, fieldPlace, Sem.run_bind, Tryd.runUnderlying32, Tryd.sizeOf22]⟩
instance : TyU P 33 (.int .i64) := ⟨Tryd.underlying33⟩
instance : TyInf P 33 1 := ⟨⟨_, inf_of Tryd.type33, by kernel_rfl⟩⟩
instance : TyAgg P 33 false := ⟨Tryd.isAgg33⟩
instance : TySize P 33 1 := ⟨Tryd.sizeOf33⟩
instance : TyZ P 33 [.int .i64 0] := ⟨fun w => ⟨_, Tryd.zeroValue33 w, rfl⟩⟩
instance : TyInf P 40 1 := ⟨⟨_, inf_of Tryd.type40, by kernel_rfl⟩⟩
instance : TyFn P 40 := ⟨⟨_, _, _, Tryd.underlying40⟩⟩
instance : TyAgg P 40 false := ⟨Tryd.isAgg40⟩
instance : TySize P 40 1 := ⟨Tryd.sizeOf40⟩
instance : TyZ P 40 [.nilFunc] := ⟨fun w => ⟨_, Tryd.zeroValue40 w, rfl⟩⟩
instance : TyU P 46 (.slice 5) := ⟨Tryd.underlying46⟩
instance : TyInf P 46 1 := ⟨⟨_, inf_of Tryd.type46, by kernel_rfl⟩⟩
instance : TyAgg P 46 false := ⟨Tryd.isAgg46⟩
instance : TySize P 46 1 := ⟨Tryd.sizeOf46⟩
instance : TyZ P 46 [.slice none 0 0] := ⟨fun w => ⟨_, Tryd.zeroValue46 w, rfl⟩⟩
instance : TySl P 46 5 1 := ⟨Tryd.t5, byteV 0, Tryd.underlying46, inf_of Tryd.type5, by kernel_rfl, by kernel_rfl, by kernel_rfl, by decide, by decide⟩
instance : TyInf P 52 7 := ⟨⟨_, inf_of Tryd.type52, by kernel_rfl⟩⟩
instance : TyAgg P 52 true := ⟨Tryd.isAgg52⟩
instance : TySize P 52 7 := ⟨Tryd.sizeOf52⟩
instance : TyZ P 52 [.int .i64 0, .bool false, .string ⟨#[]⟩, .string ⟨#[]⟩, .string ⟨#[]⟩, .string ⟨#[]⟩, .bool false] := ⟨fun w => ⟨_, Tryd.zeroValue52 w, rfl⟩⟩
instance : TyEq P 52 [(3, 0), (4, 1), (9, 2), (9, 3), (9, 4), (9, 5), (4, 6)] := ⟨⟨_, Tryd.underlying52, rfl, by decide⟩, Tryd.stoodInHeld52, Tryd.eqGuardType52⟩
instance : TyB P 52 [.int .i64 0, .bool false, .string ⟨#[]⟩, .string ⟨#[]⟩, .string ⟨#[]⟩, .string ⟨#[]⟩, .bool false] [(0, 1), (1, 1), (2, 1), (3, 1), (4, 1), (5, 1), (6, 1)] := ⟨fun ps => by kernel_rfl⟩
instance : TyFld P 52 0 0 := ⟨fun a w => by simp [Instr.fieldAt, Instr.sureAddr, fieldPlace, Sem.run_bind, Tryd.runUnderlying52, Tryd.sizeOf3]⟩
instance : TyFld P 52 1 1 := ⟨fun a w => by simp [Instr.fieldAt, Instr.sureAddr, fieldPlace, Sem.run_bind, Tryd.runUnderlying52, Tryd.sizeOf4]⟩
instance : TyFld P 52 2 2 := ⟨fun a w => by simp [Instr.fieldAt, Instr.sureAddr, fieldPlace, Sem.run_bind, Tryd.runUnderlying52, Tryd.sizeOf9]⟩
instance : TyFld P 52 3 3 := ⟨fun a w => by simp [Instr.fieldAt, Instr.sureAddr, fieldPlace, Sem.run_bind, Tryd.runUnderlying52, Tryd.sizeOf9]⟩
instance : TyFld P 52 4 4 := ⟨fun a w => by simp [Instr.fieldAt, Instr.sureAddr, fieldPlace, Sem.run_bind, Tryd.runUnderlying52, Tryd.sizeOf9]⟩
instance : TyFld P 52 5 5 := ⟨fun a w => by simp [Instr.fieldAt, Instr.sureAddr, fieldPlace, Sem.run_bind, Tryd.runUnderlying52, Tryd.sizeOf9]⟩
instance : TyFld P 52 6 6 := ⟨fun a w => by simp [Instr.fieldAt, Instr.sureAddr, fieldPlace, Sem.run_bind, Tryd.runUnderlying52, Tryd.sizeOf4]⟩
instance : TyInf P 64 1 := ⟨⟨_, inf_of Tryd.type64, by kernel_rfl⟩⟩
instance : TyFn P 64 := ⟨⟨_, _, _, Tryd.underlying64⟩⟩
instance : TyAgg P 64 false := ⟨Tryd.isAgg64⟩
instance : TySize P 64 1 := ⟨Tryd.sizeOf64⟩
instance : TyZ P 64 [.nilFunc] := ⟨fun w => ⟨_, Tryd.zeroValue64 w, rfl⟩⟩
instance : TyInf P 71 2 := ⟨⟨_, inf_of Tryd.type71, by kernel_rfl⟩⟩
instance : TyAgg P 71 true := ⟨Tryd.isAgg71⟩
instance : TySize P 71 2 := ⟨Tryd.sizeOf71⟩
instance : TyZ P 71 [.string ⟨#[]⟩, .string ⟨#[]⟩] := ⟨fun w => ⟨_, Tryd.zeroValue71 w, rfl⟩⟩
instance : TyEq P 71 [(9, 0), (9, 1)] := ⟨⟨_, Tryd.underlying71, rfl, by decide⟩, Tryd.stoodInHeld71, Tryd.eqGuardType71⟩
instance : TyB P 71 [.string ⟨#[]⟩, .string ⟨#[]⟩] [(0, 1), (1, 1)] := ⟨fun ps => by kernel_rfl⟩
instance : TyFld P 71 0 0 := ⟨fun a w => by simp [Instr.fieldAt, Instr.sureAddr, fieldPlace, Sem.run_bind, Tryd.runUnderlying71, Tryd.sizeOf9]⟩
instance : TyFld P 71 1 1 := ⟨fun a w => by simp [Instr.fieldAt, Instr.sureAddr, fieldPlace, Sem.run_bind, Tryd.runUnderlying71, Tryd.sizeOf9]⟩
instance : TyInf P 77 1 := ⟨⟨_, inf_of Tryd.type77, by kernel_rfl⟩⟩
instance : TyFn P 77 := ⟨⟨_, _, _, Tryd.underlying77⟩⟩
instance : TyAgg P 77 false := ⟨Tryd.isAgg77⟩
instance : TySize P 77 1 := ⟨Tryd.sizeOf77⟩
instance : TyZ P 77 [.nilFunc] := ⟨fun w => ⟨_, Tryd.zeroValue77 w, rfl⟩⟩
instance : TyInf P 78 1 := ⟨⟨_, inf_of Tryd.type78, by kernel_rfl⟩⟩
instance : TyFn P 78 := ⟨⟨_, _, _, Tryd.underlying78⟩⟩
instance : TyAgg P 78 false := ⟨Tryd.isAgg78⟩
instance : TySize P 78 1 := ⟨Tryd.sizeOf78⟩
instance : TyZ P 78 [.nilFunc] := ⟨fun w => ⟨_, Tryd.zeroValue78 w, rfl⟩⟩
instance : TyU P 87 (.int .u16) := ⟨Tryd.underlying87⟩
instance : TyInf P 87 1 := ⟨⟨_, inf_of Tryd.type87, by kernel_rfl⟩⟩
instance : TyAgg P 87 false := ⟨Tryd.isAgg87⟩
instance : TySize P 87 1 := ⟨Tryd.sizeOf87⟩
instance : TyZ P 87 [.int .u16 0] := ⟨fun w => ⟨_, Tryd.zeroValue87 w, rfl⟩⟩
instance : TyInf P 93 1 := ⟨⟨_, inf_of Tryd.type93, by kernel_rfl⟩⟩
instance : TyFn P 93 := ⟨⟨_, _, _, Tryd.underlying93⟩⟩
instance : TyAgg P 93 false := ⟨Tryd.isAgg93⟩
instance : TySize P 93 1 := ⟨Tryd.sizeOf93⟩
instance : TyZ P 93 [.nilFunc] := ⟨fun w => ⟨_, Tryd.zeroValue93 w, rfl⟩⟩
instance : TyU P 105 (.pointer 107) := ⟨Tryd.underlying105⟩
instance : TyInf P 105 1 := ⟨⟨_, inf_of Tryd.type105, by kernel_rfl⟩⟩
instance : TyAgg P 105 false := ⟨Tryd.isAgg105⟩
instance : TySize P 105 1 := ⟨Tryd.sizeOf105⟩
instance : TyZ P 105 [.pointer none] := ⟨fun w => ⟨_, Tryd.zeroValue105 w, rfl⟩⟩
instance : TyInf P 107 2 := ⟨⟨_, inf_of Tryd.type107, by kernel_rfl⟩⟩
instance : TyLie P 107 2 := ⟨by kernel_rfl⟩
instance : TyAgg P 107 true := ⟨Tryd.isAgg107⟩
instance : TySize P 107 2 := ⟨Tryd.sizeOf107⟩
instance : TyZ P 107 [.pointer none, .slice none 0 0] := ⟨fun w => ⟨_, Tryd.zeroValue107 w, rfl⟩⟩
instance : TyB P 107 [.pointer none, .slice none 0 0] [(0, 1), (1, 1)] := ⟨fun ps => by kernel_rfl⟩
instance : TyFld P 107 0 0 := ⟨fun a w => by simp [Instr.fieldAt, Instr.sureAddr, fieldPlace, Sem.run_bind, Tryd.runUnderlying107, Tryd.sizeOf105]⟩
instance : TyFld P 107 1 1 := ⟨fun a w => by simp [Instr.fieldAt, Instr.sureAddr, fieldPlace, Sem.run_bind, Tryd.runUnderlying107, Tryd.sizeOf46]⟩
instance : TyInf P 114 256 := ⟨⟨_, inf_of Tryd.type114, by kernel_rfl⟩⟩
instance : TyAgg P 114 true := ⟨Tryd.isAgg114⟩
instance : TySize P 114 256 := ⟨Tryd.sizeOf114⟩
instance : TyZ P 114 (List.replicate 256 (.int .u16 0)) := ⟨fun w => ⟨.agg ((List.replicate 256 (.int .u16 0))).toArray, tyz_of (P := P) (t := 114) (i := Tryd.t114) (inf_of Tryd.type114) (by kernel_rfl) w, by kernel_rfl⟩⟩
instance : TyArr P 114 256 87 1 := ⟨Tryd.underlying114, Tryd.sizeOf87⟩
instance : TyInf P 118 1 := ⟨⟨_, inf_of Tryd.type118, by kernel_rfl⟩⟩
instance : TyFn P 118 := ⟨⟨_, _, _, Tryd.underlying118⟩⟩
instance : TyAgg P 118 false := ⟨Tryd.isAgg118⟩
instance : TySize P 118 1 := ⟨Tryd.sizeOf118⟩
instance : TyZ P 118 [.nilFunc] := ⟨fun w => ⟨_, Tryd.zeroValue118 w, rfl⟩⟩
instance : TyInf P 126 256 := ⟨⟨_, inf_of Tryd.type126, by kernel_rfl⟩⟩
instance : TyAgg P 126 true := ⟨Tryd.isAgg126⟩
instance : TySize P 126 256 := ⟨Tryd.sizeOf126⟩
instance : TyZ P 126 (List.replicate 256 (.bool false)) := ⟨fun w => ⟨.agg ((List.replicate 256 (.bool false))).toArray, tyz_of (P := P) (t := 126) (i := Tryd.t126) (inf_of Tryd.type126) (by kernel_rfl) w, by kernel_rfl⟩⟩
instance : TyArr P 126 256 4 1 := ⟨Tryd.underlying126, Tryd.sizeOf4⟩
instance : TyU P 130 (.pointer 126) := ⟨Tryd.underlying130⟩
instance : TyInf P 130 1 := ⟨⟨_, inf_of Tryd.type130, by kernel_rfl⟩⟩
instance : TyAgg P 130 false := ⟨Tryd.isAgg130⟩
instance : TySize P 130 1 := ⟨Tryd.sizeOf130⟩
instance : TyZ P 130 [.pointer none] := ⟨fun w => ⟨_, Tryd.zeroValue130 w, rfl⟩⟩
instance : TyU P 133 (.pointer 5) := ⟨Tryd.underlying133⟩
instance : TyInf P 133 1 := ⟨⟨_, inf_of Tryd.type133, by kernel_rfl⟩⟩
instance : TyAgg P 133 false := ⟨Tryd.isAgg133⟩
instance : TySize P 133 1 := ⟨Tryd.sizeOf133⟩
instance : TyZ P 133 [.pointer none] := ⟨fun w => ⟨_, Tryd.zeroValue133 w, rfl⟩⟩
instance : TyU P 134 (.map 3 9) := ⟨Tryd.underlying134⟩
instance : TyInf P 134 1 := ⟨⟨_, inf_of Tryd.type134, by kernel_rfl⟩⟩
instance : TyMap P 134 3 9 (.int .i64) := ⟨Tryd.underlying134, Tryd.underlying3⟩
instance : TyAgg P 134 false := ⟨Tryd.isAgg134⟩
instance : TySize P 134 1 := ⟨Tryd.sizeOf134⟩
instance : TyZ P 134 [.map none] := ⟨fun w => ⟨_, Tryd.zeroValue134 w, rfl⟩⟩
instance : TyU P 146 (.int .u64) := ⟨Tryd.underlying146⟩
instance : TyInf P 146 1 := ⟨⟨_, inf_of Tryd.type146, by kernel_rfl⟩⟩
instance : TyAgg P 146 false := ⟨Tryd.isAgg146⟩
instance : TySize P 146 1 := ⟨Tryd.sizeOf146⟩
instance : TyZ P 146 [.int .u64 0] := ⟨fun w => ⟨_, Tryd.zeroValue146 w, rfl⟩⟩
instance : TyUn P 147 := ⟨Tryd.underlying147⟩
instance : TyInf P 147 1 := ⟨⟨_, inf_of Tryd.type147, by kernel_rfl⟩⟩
instance : TyU P 151 (.int .u32) := ⟨Tryd.underlying151⟩
instance : TyInf P 151 1 := ⟨⟨_, inf_of Tryd.type151, by kernel_rfl⟩⟩
instance : TyAgg P 151 false := ⟨Tryd.isAgg151⟩
instance : TySize P 151 1 := ⟨Tryd.sizeOf151⟩
instance : TyZ P 151 [.int .u32 0] := ⟨fun w => ⟨_, Tryd.zeroValue151 w, rfl⟩⟩
instance : TyInf P 154 256 := ⟨⟨_, inf_of Tryd.type154, by kernel_rfl⟩⟩
instance : TyAgg P 154 true := ⟨Tryd.isAgg154⟩
instance : TySize P 154 256 := ⟨Tryd.sizeOf154⟩
instance : TyZ P 154 (List.replicate 256 (byteV 0)) := ⟨fun w => ⟨.agg ((List.replicate 256 (byteV 0))).toArray, tyz_of (P := P) (t := 154) (i := Tryd.t154) (inf_of Tryd.type154) (by kernel_rfl) w, by kernel_rfl⟩⟩
instance : TyArr P 154 256 5 1 := ⟨Tryd.underlying154, Tryd.sizeOf5⟩
instance : TyInf P 156 2 := ⟨⟨_, inf_of Tryd.type156, by kernel_rfl⟩⟩
instance : TyAgg P 156 true := ⟨Tryd.isAgg156⟩
instance : TySize P 156 2 := ⟨Tryd.sizeOf156⟩
instance : TyZ P 156 [byteV 0, byteV 0] := ⟨fun w => ⟨_, Tryd.zeroValue156 w, rfl⟩⟩
instance : TyEq P 156 [(5, 0), (5, 1)] := ⟨⟨_, Tryd.underlying156, rfl, by decide⟩, Tryd.stoodInHeld156, Tryd.eqGuardType156⟩
instance : TyB P 156 [byteV 0, byteV 0] [(0, 1), (1, 1)] := ⟨fun ps => by kernel_rfl⟩
instance : TyFld P 156 0 0 := ⟨fun a w => by simp [Instr.fieldAt, Instr.sureAddr, fieldPlace, Sem.run_bind, Tryd.runUnderlying156, Tryd.sizeOf5]⟩
instance : TyFld P 156 1 1 := ⟨fun a w => by simp [Instr.fieldAt, Instr.sureAddr, fieldPlace, Sem.run_bind, Tryd.runUnderlying156, Tryd.sizeOf5]⟩
instance : TyInf P 157 32 := ⟨⟨_, inf_of Tryd.type157, by kernel_rfl⟩⟩
instance : TyAgg P 157 true := ⟨Tryd.isAgg157⟩
instance : TySize P 157 32 := ⟨Tryd.sizeOf157⟩
instance : TyZ P 157 [byteV 0, byteV 0, byteV 0, byteV 0, byteV 0, byteV 0, byteV 0, byteV 0, byteV 0, byteV 0, byteV 0, byteV 0, byteV 0, byteV 0, byteV 0, byteV 0, byteV 0, byteV 0, byteV 0, byteV 0, byteV 0, byteV 0, byteV 0, byteV 0, byteV 0, byteV 0, byteV 0, byteV 0, byteV 0, byteV 0, byteV 0, byteV 0] := ⟨fun w => ⟨_, Tryd.zeroValue157 w, rfl⟩⟩
instance : TyArr P 157 16 156 2 := ⟨Tryd.underlying157, Tryd.sizeOf156⟩
instance : TyZV P 9 (.string ⟨#[]⟩) := ⟨Tryd.zeroValue9⟩
end Go.Proofs.YtapammcnagjigaaDoor

