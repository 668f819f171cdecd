import Derived.Test.YtnkpdifdjgknbaaDoorProg
import Derived.Test.YtnkpdifdjgknbaaDoorEng
set_option linter.all false
namespace Go.Proofs.YtnkpdifdjgknbaaDoor
open Go.Vx
noncomputable abbrev P := Tryd.prog
def bmask : Nat := 10384598189944072103737110424453116
theorem bodies_ok : Bodies P bmask := bodies_of 114 (by decide +kernel) (by kernel_rfl) (by kernel_rfl)

/-- gosem.cut.init -/
def D2 (K : Value → World → Prop) (s : St) : Prop :=
  Dy P (.func (.func 1) #[] #[]) #[] (fun _ s => Ret P (fun w => K (.tuple #[]) w) s) s
noncomputable def b2 : Code := Tryd.f2.body.getD .skip
theorem e2 (K : Value → World → Prop) : wpc P bmask 1 none b2 (lmOf []) (ktOf P 1 [] K) (frOf []) = D2 K := by kernel_rfl
theorem c2 {w : _} {K : Value → World → Prop} {R : Ending → World → Prop} (h : D2 K ⟨w, []⟩) (hK : ∀ v w', K v w' → R (.returned v) w') : Calls P 2 #[] w R :=
  calls_of bodies_ok Tryd.func2 1 [] (c := b2) (args := []) (K := K) (by kernel_rfl) rfl (e2 K) h hK

/-- rollcall/rollcalllaw06.TagsParses -/
def D4 (a0 : Value) (K : Value → World → Prop) (s : St) : Prop :=
  Cl P 19 #[] (fun v1 s => Uo P .not v1 (fun v2 s => CondP v2 (Ret P (fun w => K (.bool false) w) s) (Bi P .len #[9] 3 #[false] #[a0] (fun v3 s => Bo P .gtr 3 false true v3 (.int .i64 200) (fun v4 s => CondP v4 (Ret P (fun w => K (.bool true) w) s) (Cl P 20 #[a0] (fun v5 s => Ex P v5 0 (fun v6 s => Ex P v5 1 (fun v7 s => Cl P 21 #[a0] (fun v8 s => Ex P v8 0 (fun v9 s => Ex P v8 1 (fun v10 s => Cl P 22 #[v6, v9] (fun v11 s => J1 (fun A12 => Grd v11 true (Bo P .eql 3 false false v7 v10 (fun v14 s => A12 v14 s) s) (A12 undef s)) (fun x13 s => Pk P v11 x13 (.bool false) (fun v15 s => Ret P (fun w => K v15 w) s) s)) s) s) s) s) s) s) s)) s) s)) s) s
noncomputable def b4 : Code := Tryd.f4.body.getD .skip
theorem e4 (a0 : Value) (K : Value → World → Prop) : wpc P bmask 30 none b4 (lmOf [.tmp 2]) (ktOf P 30 [.tmp 2] K) (frOf [a0]) = D4 a0 K := by kernel_rfl
theorem c4 {a0 w : _} {K : Value → World → Prop} {R : Ending → World → Prop} (h : D4 a0 K ⟨w, []⟩) (hK : ∀ v w', K v w' → R (.returned v) w') : Calls P 4 #[a0] w R :=
  calls_of bodies_ok Tryd.func4 30 [.tmp 2] (c := b4) (args := [a0]) (K := K) (by kernel_rfl) rfl (e4 a0 K) h hK

/-- rollcall/rollcalllaw06.TagsJoin -/
def D5 (a0 a1 : Value) (K : Value → World → Prop) (s : St) : Prop :=
  Cl P 19 #[] (fun v1 s => Uo P .not v1 (fun v2 s => CondP v2 (Ret P (fun w => K (.bool false) w) s) (Bi P .len #[9] 3 #[false] #[a0] (fun v3 s => Bo P .gtr 3 false true v3 (.int .i64 100) (fun v4 s => J1 (fun A5 => Grd v4 false (Bi P .len #[9] 3 #[false] #[a1] (fun v7 s => Bo P .gtr 3 false true v7 (.int .i64 100) (fun v8 s => A5 v8 s) s) s) (A5 undef s)) (fun x6 s => Pk P v4 (.bool true) x6 (fun v9 s => CondP v9 (Ret P (fun w => K (.bool true) w) s) (Cl P 20 #[a0] (fun v10 s => Ex P v10 0 (fun v11 s => Ex P v10 1 (fun v12 s => Cl P 20 #[a1] (fun v13 s => Ex P v13 0 (fun v14 s => Ex P v13 1 (fun v15 s => Bo P .add 9 false true a0 (.string ⟨#[59]⟩) (fun v16 s => Bo P .add 9 false false v16 a1 (fun v17 s => Cl P 20 #[v17] (fun v18 s => Ex P v18 0 (fun v19 s => Ex P v18 1 (fun v20 s => Bo P .neq 34 false true v12 (.int .i64 0) (fun v21 s => J1 (fun A22 => Grd v21 false (Bo P .neq 34 false true v15 (.int .i64 0) (fun v24 s => A22 v24 s) s) (A22 undef s)) (fun x23 s => Pk P v21 (.bool true) x23 (fun v25 s => CondP v25 (Bo P .neq 34 false true v20 (.int .i64 0) (fun v26 s => J1 (fun A27 => Grd v26 true (Bi P .len #[33] 3 #[false] #[v19] (fun v29 s => Bo P .eql 3 false true v29 (.int .i64 0) (fun v30 s => A27 v30 s) s) s) (A27 undef s)) (fun x28 s => Pk P v26 x28 (.bool false) (fun v31 s => Ret P (fun w => K v31 w) s) s)) s) (L1 (.int .i64 0) s (fun N32 x33 s => Bi P .len #[33] 3 #[false] #[v14] (fun v34 s => Bo P .lss 3 false false x33 v34 (fun v35 s => CondP v35 (Ia P 33 v14 x33 (fun v36 s => Fa P 44 v36 0 (fun v37 s => Ld P 9 v37 (fun v38 s => Cl P 23 #[v11, v38] (fun v39 s => Ex P v39 0 (fun _ s => Ex P v39 1 (fun v41 s => CondP v41 (Ret P (fun w => K (.bool true) w) s) (Bo P .add 3 false true x33 (.int .i64 1) (fun v42 s => N32 v42 s) s)) s) s) s) s) s) s) (Bi P .len #[33] 3 #[false] #[v11] (fun v43 s => Bi P .len #[33] 3 #[false] #[v14] (fun v44 s => Bo P .add 3 false false v43 v44 (fun v45 s => Bo P .gtr 3 false true v45 (.int .i64 16) (fun v46 s => CondP v46 (Bo P .eql 34 false true v20 (.int .i64 7) (fun v47 s => Ret P (fun w => K v47 w) s) s) (Bo P .eql 34 false true v20 (.int .i64 0) (fun v48 s => J1 (fun A49 => Grd v48 true (Bs P 33 0 #[] (fun v51 s => Bi P .append #[33, 33] 33 #[false, false] #[v51, v11] (fun v52 s => Bi P .append #[33, 33] 33 #[false, false] #[v52, v14] (fun v53 s => Cl P 22 #[v19, v53] (fun v54 s => A49 v54 s) s) s) s) s) (A49 undef s)) (fun x50 s => Pk P v48 x50 (.bool false) (fun v55 s => Ret P (fun w => K v55 w) s) s)) s)) s) s) s) s)) s) s))) s)) s) s) s) s) s) s) s) s) s) s) s) s)) s)) s) s)) s) s
noncomputable def b5 : Code := Tryd.f5.body.getD .skip
theorem e5 (a0 a1 : Value) (K : Value → World → Prop) : wpc P bmask 91 none b5 (lmOf [.tmp 4]) (ktOf P 91 [.tmp 4] K) (frOf [a0, a1]) = D5 a0 a1 K := by kernel_rfl
theorem c5 {a0 a1 w : _} {K : Value → World → Prop} {R : Ending → World → Prop} (h : D5 a0 a1 K ⟨w, []⟩) (hK : ∀ v w', K v w' → R (.returned v) w') : Calls P 5 #[a0, a1] w R :=
  calls_of bodies_ok Tryd.func5 91 [.tmp 4] (c := b5) (args := [a0, a1]) (K := K) (by kernel_rfl) rfl (e5 a0 a1 K) h hK

/-- rollcall/rollcalllaw06.TagsTexts -/
def D6 (a0 a1 : Value) (K : Value → World → Prop) (s : St) : Prop :=
  Cl P 19 #[] (fun v1 s => Uo P .not v1 (fun v2 s => CondP v2 (Ret P (fun w => K (.bool false) w) s) (Bi P .len #[33] 3 #[false] #[a0] (fun v3 s => Bo P .gtr 3 false true v3 (.int .i64 20) (fun v4 s => J1 (fun A5 => Grd v4 false (Bi P .len #[9] 3 #[false] #[a1] (fun v7 s => Bo P .gtr 3 false true v7 (.int .i64 60) (fun v8 s => A5 v8 s) s) s) (A5 undef s)) (fun x6 s => Pk P v4 (.bool true) x6 (fun v9 s => CondP v9 (Ret P (fun w => K (.bool true) w) s) (Bi P .len #[33] 3 #[false] #[a0] (fun v10 s => Bo P .sub 3 false true v10 (.int .i64 1) (fun v11 s => L3 (.string ⟨#[]⟩) (.bool false) v11 s (fun N12 x13 x14 x15 s => Bo P .geq 3 false true x15 (.int .i64 0) (fun v16 s => CondP v16 (J2 (fun A17 => Dw (fun s => Qt (Ia P 33 a0 x15) s fun v20 => Qt (Fa P 44 v20 0) s fun v21 => Qt (Ld P 9 v21) s fun v22 => Qt (Bi P .len #[9] 3 #[false] #[v22]) s fun v23 => Qt (Ia P 33 a0 x15) s fun v24 => Qt (Fa P 44 v24 1) s fun v25 => Qt (Ld P 9 v25) s fun v26 => Qt (Bi P .len #[9] 3 #[false] #[v26]) s fun v27 => Qt (Bo P .add 3 false false v23 v27) s fun v28 => Qt (Bo P .gtr 3 false true v28 (.int .i64 60)) s fun v29 => CondP v29 (Ret P (fun w => K (.bool true) w) s) (Ia P 33 a0 x15 (fun v30 s => Fa P 44 v30 0 (fun v31 s => Ld P 9 v31 (fun v32 s => Bo P .eql 9 false false v32 a1 (fun v33 s => CondP v33 (Ia P 33 a0 x15 (fun v34 s => Fa P 44 v34 1 (fun v35 s => Ld P 9 v35 (fun v36 s => A17 v36 (.bool true) s) s) s) s) (A17 x13 x14 s)) s) s) s) s)) s) (fun x18 x19 s => Bo P .sub 3 false true x15 (.int .i64 1) (fun v37 s => N12 x18 x19 v37 s) s)) (Cl P 24 #[a0] (fun v38 s => Cl P 25 #[a0] (fun v39 s => Cl P 23 #[a0, a1] (fun v40 s => Ex P v40 0 (fun v41 s => Ex P v40 1 (fun v42 s => Cl P 26 #[a0] (fun v43 s => Bo P .neq 3 false false v43 v38 (fun v44 s => J1 (fun A45 => Grd v44 false (Cl P 27 #[a0] (fun v47 s => Bo P .neq 9 false false v39 v47 (fun v48 s => A45 v48 s) s) s) (A45 undef s)) (fun x46 s => Pk P v44 (.bool true) x46 (fun v49 s => J1 (fun A50 => Grd v49 false (Bo P .neq 9 false false v41 x13 (fun v52 s => A50 v52 s) s) (A50 undef s)) (fun x51 s => Pk P v49 (.bool true) x51 (fun v53 s => J1 (fun A54 => Grd v53 false (Bo P .neq 4 false false v42 x14 (fun v56 s => A54 v56 s) s) (A54 undef s)) (fun x55 s => Pk P v53 (.bool true) x55 (fun v57 s => CondP v57 (Ret P (fun w => K (.bool false) w) s) (Cl P 20 #[v39] (fun v58 s => Ex P v58 0 (fun v59 s => Ex P v58 1 (fun v60 s => Bo P .neq 3 false true v38 (.int .i64 0) (fun v61 s => J1 (fun A62 => Grd v61 false (Bo P .eql 34 false true v60 (.int .i64 0) (fun v64 s => A62 v64 s) s) (A62 undef s)) (fun x63 s => J1 (fun A65 => Grd x63 true (Cl P 22 #[v59, a0] (fun v67 s => A65 v67 s) s) (A65 undef s)) (fun x66 s => J1 (fun A68 => Grd v61 false (Pk P x63 x66 (.bool false) (fun v70 s => A68 v70 s) s) (A68 undef s)) (fun x69 s => Pk P v61 (.bool true) x69 (fun v71 s => Ret P (fun w => K v71 w) s) s)))) s) s) s) s)) s)) s)) s)) s) s) s) s) s) s) s)) s)) s) s)) s)) s) s)) s) s
noncomputable def b6 : Code := Tryd.f6.body.getD .skip
theorem e6 (a0 a1 : Value) (K : Value → World → Prop) : wpc P bmask 103 none b6 (lmOf [.tmp 4]) (ktOf P 103 [.tmp 4] K) (frOf [a0, a1]) = D6 a0 a1 K := by kernel_rfl
theorem c6 {a0 a1 w : _} {K : Value → World → Prop} {R : Ending → World → Prop} (h : D6 a0 a1 K ⟨w, []⟩) (hK : ∀ v w', K v w' → R (.returned v) w') : Calls P 6 #[a0, a1] w R :=
  calls_of bodies_ok Tryd.func6 103 [.tmp 4] (c := b6) (args := [a0, a1]) (K := K) (by kernel_rfl) rfl (e6 a0 a1 K) h hK

/-- rollcall/rollcalllaw06.TagsAgain -/
def D7 (a0 : Value) (K : Value → World → Prop) (s : St) : Prop :=
  Cl P 19 #[] (fun v1 s => Uo P .not v1 (fun v2 s => CondP v2 (Ret P (fun w => K (.bool false) w) s) (Bi P .len #[9] 3 #[false] #[a0] (fun v3 s => Bo P .gtr 3 false true v3 (.int .i64 200) (fun v4 s => CondP v4 (Ret P (fun w => K (.bool true) w) s) (Cl P 20 #[a0] (fun v5 s => Ex P v5 0 (fun v6 s => Ex P v5 1 (fun v7 s => Bo P .neq 34 false true v7 (.int .i64 0) (fun v8 s => CondP v8 (Bi P .len #[33] 3 #[false] #[v6] (fun v9 s => Bo P .eql 3 false true v9 (.int .i64 0) (fun v10 s => Ret P (fun w => K v10 w) s) s) s) (Cl P 25 #[v6] (fun v11 s => Cl P 20 #[v11] (fun v12 s => Ex P v12 0 (fun v13 s => Ex P v12 1 (fun v14 s => Bo P .eql 34 false true v14 (.int .i64 0) (fun v15 s => J1 (fun A16 => Grd v15 true (Cl P 22 #[v13, v6] (fun v18 s => A16 v18 s) s) (A16 undef s)) (fun x17 s => Pk P v15 x17 (.bool false) (fun v19 s => J1 (fun A20 => Grd v19 true (Cl P 26 #[v6] (fun v22 s => Bo P .eql 34 false true v22 (.int .i64 0) (fun v23 s => A20 v23 s) s) s) (A20 undef s)) (fun x21 s => Pk P v19 x21 (.bool false) (fun v24 s => Ret P (fun w => K v24 w) s) s)) s)) s) s) s) s) s)) s) s) s) s)) s) s)) s) s
noncomputable def b7 : Code := Tryd.f7.body.getD .skip
theorem e7 (a0 : Value) (K : Value → World → Prop) : wpc P bmask 40 none b7 (lmOf [.tmp 2]) (ktOf P 40 [.tmp 2] K) (frOf [a0]) = D7 a0 K := by kernel_rfl
theorem c7 {a0 w : _} {K : Value → World → Prop} {R : Ending → World → Prop} (h : D7 a0 K ⟨w, []⟩) (hK : ∀ v w', K v w' → R (.returned v) w') : Calls P 7 #[a0] w R :=
  calls_of bodies_ok Tryd.func7 40 [.tmp 2] (c := b7) (args := [a0]) (K := K) (by kernel_rfl) rfl (e7 a0 K) h hK

/-- rollcall/rollcalllaw06.awake -/
def D19 (K : Value → World → Prop) (s : St) : Prop :=
  Cl P 20 #[.string ⟨#[97, 61, 98, 92, 115, 99, 59, 43, 100]⟩] (fun v1 s => Ex P v1 0 (fun v2 s => Ex P v1 1 (fun v3 s => Bo P .eql 34 false true v3 (.int .i64 0) (fun v4 s => J1 (fun A5 => Grd v4 true (Bi P .len #[33] 3 #[false] #[v2] (fun v7 s => Bo P .eql 3 false true v7 (.int .i64 2) (fun v8 s => A5 v8 s) s) s) (A5 undef s)) (fun x6 s => Pk P v4 x6 (.bool false) (fun v9 s => J1 (fun A10 => Grd v9 true (Ia P 33 v2 (.int .i64 0) (fun v12 s => Fa P 44 v12 1 (fun v13 s => Ld P 9 v13 (fun v14 s => Bo P .eql 9 false true v14 (.string ⟨#[98, 32, 99]⟩) (fun v15 s => A10 v15 s) s) s) s) s) (A10 undef s)) (fun x11 s => Pk P v9 x11 (.bool false) (fun v16 s => J1 (fun A17 => Grd v16 true (Ia P 33 v2 (.int .i64 1) (fun v19 s => Fa P 44 v19 0 (fun v20 s => Ld P 9 v20 (fun v21 s => Bo P .eql 9 false true v21 (.string ⟨#[43, 100]⟩) (fun v22 s => A17 v22 s) s) s) s) s) (A17 undef s)) (fun x18 s => Pk P v16 x18 (.bool false) (fun v23 s => J1 (fun A24 => Grd v23 true (Ia P 33 v2 (.int .i64 1) (fun v26 s => Fa P 44 v26 1 (fun v27 s => Ld P 9 v27 (fun v28 s => Bo P .eql 9 false true v28 (.string ⟨#[]⟩) (fun v29 s => A24 v29 s) s) s) s) s) (A24 undef s)) (fun x25 s => Pk P v23 x25 (.bool false) (fun v30 s => Ret P (fun w => K v30 w) s) s)) s)) s)) s)) s) s) s) s
noncomputable def b19 : Code := Tryd.f19.body.getD .skip
theorem e19 (K : Value → World → Prop) : wpc P bmask 35 none b19 (lmOf [.tmp 0]) (ktOf P 35 [.tmp 0] K) (frOf []) = D19 K := by kernel_rfl
theorem c19 {w : _} {K : Value → World → Prop} {R : Ending → World → Prop} (h : D19 K ⟨w, []⟩) (hK : ∀ v w', K v w' → R (.returned v) w') : Calls P 19 #[] w R :=
  calls_of bodies_ok Tryd.func19 35 [.tmp 0] (c := b19) (args := []) (K := K) (by kernel_rfl) rfl (e19 K) h hK

/-- rollcall/tags.Parse -/
def D20 (a0 : Value) (K : Value → World → Prop) (s : St) : Prop :=
  Cl P 31 #[a0, .string ⟨#[59]⟩] (fun v1 s => Bi P .len #[51] 3 #[false] #[v1] (fun v2 s => L2 (.slice none 0 0) (.int .i64 0) s (fun N3 x4 x5 s => Bo P .lss 3 false false x5 v2 (fun v6 s => CondP v6 (J1 (fun A7 => Ia P 51 v1 x5 (fun v9 s => Ld P 9 v9 (fun v10 s => Cl P 32 #[v10, .string ⟨#[61]⟩] (fun v11 s => Ex P v11 0 (fun v12 s => Ex P v11 1 (fun v13 s => Ex P v11 2 (fun _ s => Al P 9 (fun v15 s => Sv P 9 v15 v12 (fun _ s => Ld P 9 v15 (fun v16 s => Cl P 33 #[v16] (fun v17 s => Bo P .neq 34 false true v17 (.int .i64 0) (fun v18 s => CondP v18 (Ret P (fun w => K (.tuple #[.slice none 0 0, v17]) w) s) (Cl P 34 #[v13, .string ⟨#[0, 13, 10, 32]⟩] (fun v19 s => CondP v19 (Ret P (fun w => K (.tuple #[.slice none 0 0, .int .i64 10]) w) s) (J1 (fun A20 => Dw (fun s => Qt (Ld P 9 v15) s fun v22 => (Cl P 35 #[v13] (fun v23 s => Ck (Ld P 9 v15) v22 s ∧ (Qt (Bd P 44 #[(0, v22), (1, v23)]) s fun v24 => Al P 44 (fun v25 s => Ck (Ld P 9 v15) v22 s ∧ Ck (Bd P 44 #[(0, v22), (1, v23)]) v24 s ∧ (Sv P 44 v25 v24 (fun _ s => A20 v25 s) s)) s)) s) ∧ (Al P 44 (fun v26 s => Ck (Ld P 9 v15) v22 s ∧ (Cl P 35 #[v13] (fun v27 s => Ck (Ld P 9 v15) v22 s ∧ (Qt (Bd P 44 #[(0, v22), (1, v27)]) s fun v28 => Sv P 44 v26 v28 (fun _ s => A20 v26 s) s)) s)) s)) s) (fun x21 s => Mf P (.func 37) #[] #[v15] (fun v29 s => Cl P 36 #[x4, v29] (fun v30 s => Bo P .geq 3 false true v30 (.int .i64 0) (fun v31 s => CondP v31 (Ld P 44 x21 (fun v32 s => Ia P 33 x4 v30 (fun v33 s => Sv P 44 v33 v32 (fun _ s => A7 x4 s) s) s) s) (Ld P 44 x21 (fun v34 s => Bs P 33 1 #[(0, v34)] (fun v35 s => Bi P .append #[33, 33] 33 #[false, false] #[x4, v35] (fun v36 s => A7 v36 s) s) s) s)) s) s) s))) s)) s) s) s) s) s) s) s) s) s) s) s) (fun x8 s => Bo P .add 3 false true x5 (.int .i64 1) (fun v37 s => N3 x8 v37 s) s)) (Bi P .len #[33] 3 #[false] #[x4] (fun v38 s => Bo P .gtr 3 false true v38 (.int .i64 16) (fun v39 s => CondP v39 (Ret P (fun w => K (.tuple #[.slice none 0 0, .int .i64 7]) w) s) (Ret P (fun w => K (.tuple #[x4, .int .i64 0]) w) s)) s) s)) s)) s) s
noncomputable def b20 : Code := Tryd.f20.body.getD .skip
theorem e20 (a0 : Value) (K : Value → World → Prop) : wpc P bmask 55 none b20 (lmOf [.tmp 2, .tmp 3]) (ktOf P 55 [.tmp 2, .tmp 3] K) (frOf [a0]) = D20 a0 K := by kernel_rfl
theorem c20 {a0 w : _} {K : Value → World → Prop} {R : Ending → World → Prop} (h : D20 a0 K ⟨w, []⟩) (hK : ∀ v w', K v w' → R (.returned v) w') : Calls P 20 #[a0] w R :=
  calls_of bodies_ok Tryd.func20 55 [.tmp 2, .tmp 3] (c := b20) (args := [a0]) (K := K) (by kernel_rfl) rfl (e20 a0 K) h hK

/-- rollcall/rollcallref06.Parse -/
def D21 (a0 : Value) (K : Value → World → Prop) (s : St) : Prop :=
  L2 (.slice none 0 0) (.int .i64 0) s (fun N1 x2 x3 s => Bi P .len #[9] 3 #[false] #[a0] (fun v4 s => Bo P .leq 3 false false x3 v4 (fun v5 s => CondP v5 (L1 x3 s (fun N6 x7 s => Bi P .len #[9] 3 #[false] #[a0] (fun v8 s => Bo P .lss 3 false false x7 v8 (fun v9 s => J1 (fun A10 => Grd v9 true (Ix P 9 a0 x7 (fun v12 s => Bo P .neq 5 false true v12 (byteV 59) (fun v13 s => A10 v13 s) s) s) (A10 undef s)) (fun x11 s => Pk P v9 x11 (.bool false) (fun v14 s => CondP v14 (Bo P .add 3 false true x7 (.int .i64 1) (fun v15 s => N6 v15 s) s) (L1 x3 s (fun N16 x17 s => Bo P .lss 3 false false x17 x7 (fun v18 s => J1 (fun A19 => Grd v18 true (Ix P 9 a0 x17 (fun v21 s => Bo P .neq 5 false true v21 (byteV 61) (fun v22 s => A19 v22 s) s) s) (A19 undef s)) (fun x20 s => Pk P v18 x20 (.bool false) (fun v23 s => CondP v23 (Bo P .add 3 false true x17 (.int .i64 1) (fun v24 s => N16 v24 s) s) (Sl P 9 a0 (some x3) (some x17) none (fun v25 s => Bd P 44 #[(0, v25)] (fun v26 s => Al P 44 (fun v27 s => Sv P 44 v27 v26 (fun _ s => Fa P 44 v27 0 (fun v28 s => Ld P 9 v28 (fun v29 s => Cl P 38 #[v29] (fun v30 s => Bo P .neq 3 false true v30 (.int .i64 0) (fun v31 s => CondP v31 (Ret P (fun w => K (.tuple #[.slice none 0 0, v30]) w) s) (J0 (fun A32 => Bo P .lss 3 false false x17 x7 (fun v33 s => CondP v33 (Bo P .add 3 false true x17 (.int .i64 1) (fun v34 s => L1 v34 s (fun N35 x36 s => Bo P .lss 3 false false x36 x7 (fun v37 s => CondP v37 (Ix P 9 a0 x36 (fun v38 s => Bo P .eql 5 false true v38 (byteV 0) (fun v39 s => J1 (fun A40 => Grd v39 false (Ix P 9 a0 x36 (fun v42 s => Bo P .eql 5 false true v42 (byteV 10) (fun v43 s => A40 v43 s) s) s) (A40 undef s)) (fun x41 s => Pk P v39 (.bool true) x41 (fun v44 s => J1 (fun A45 => Grd v44 false (Ix P 9 a0 x36 (fun v47 s => Bo P .eql 5 false true v47 (byteV 13) (fun v48 s => A45 v48 s) s) s) (A45 undef s)) (fun x46 s => Pk P v44 (.bool true) x46 (fun v49 s => J1 (fun A50 => Grd v49 false (Ix P 9 a0 x36 (fun v52 s => Bo P .eql 5 false true v52 (byteV 32) (fun v53 s => A50 v53 s) s) s) (A50 undef s)) (fun x51 s => Pk P v49 (.bool true) x51 (fun v54 s => CondP v54 (Ret P (fun w => K (.tuple #[.slice none 0 0, .int .i64 10]) w) s) (Bo P .add 3 false true x36 (.int .i64 1) (fun v55 s => N35 v55 s) s)) s)) s)) s)) s) s) (Bo P .add 3 false true x17 (.int .i64 1) (fun v56 s => Sl P 9 a0 (some v56) (some x7) none (fun v57 s => Cl P 39 #[v57] (fun v58 s => Fa P 44 v27 1 (fun v59 s => Sv P 9 v59 v58 (fun _ s => A32 s) s) s) s) s) s)) s)) s) (A32 s)) s) (fun s => J1 (fun A60 => Fa P 44 v27 0 (fun v62 s => Ld P 9 v62 (fun v63 s => Cl P 40 #[x2, v63] (fun v64 s => Bo P .geq 3 false true v64 (.int .i64 0) (fun v65 s => CondP v65 (Ld P 44 v27 (fun v66 s => Ia P 33 x2 v64 (fun v67 s => Sv P 44 v67 v66 (fun _ s => A60 x2 s) s) s) s) (Ld P 44 v27 (fun v68 s => Bs P 33 1 #[(0, v68)] (fun v69 s => Bi P .append #[33, 33] 33 #[false, false] #[x2, v69] (fun v70 s => A60 v70 s) s) s) s)) s) s) s) s) (fun x61 s => Bo P .add 3 false true x7 (.int .i64 1) (fun v71 s => N1 x61 v71 s) s)))) s) s) s) s) s) s) s) s)) s)) s))) s)) s) s)) (Bi P .len #[33] 3 #[false] #[x2] (fun v72 s => Bo P .gtr 3 false true v72 (.int .i64 16) (fun v73 s => CondP v73 (Ret P (fun w => K (.tuple #[.slice none 0 0, .int .i64 7]) w) s) (Ret P (fun w => K (.tuple #[x2, .int .i64 0]) w) s)) s) s)) s) s)
noncomputable def b21 : Code := Tryd.f21.body.getD .skip
theorem e21 (a0 : Value) (K : Value → World → Prop) : wpc P bmask 111 none b21 (lmOf [.tmp 2, .tmp 3]) (ktOf P 111 [.tmp 2, .tmp 3] K) (frOf [a0]) = D21 a0 K := by kernel_rfl
theorem c21 {a0 w : _} {K : Value → World → Prop} {R : Ending → World → Prop} (h : D21 a0 K ⟨w, []⟩) (hK : ∀ v w', K v w' → R (.returned v) w') : Calls P 21 #[a0] w R :=
  calls_of bodies_ok Tryd.func21 111 [.tmp 2, .tmp 3] (c := b21) (args := [a0]) (K := K) (by kernel_rfl) rfl (e21 a0 K) h hK

/-- rollcall/rollcallref06.Same -/
def D22 (a0 a1 : Value) (K : Value → World → Prop) (s : St) : Prop :=
  Bi P .len #[33] 3 #[false] #[a0] (fun v1 s => Bi P .len #[33] 3 #[false] #[a1] (fun v2 s => Bo P .neq 3 false false v1 v2 (fun v3 s => CondP v3 (Ret P (fun w => K (.bool false) w) s) (L1 (.int .i64 0) s (fun N4 x5 s => Bi P .len #[33] 3 #[false] #[a0] (fun v6 s => Bo P .lss 3 false false x5 v6 (fun v7 s => CondP v7 (Dw (fun s => Qt (Ia P 33 a0 x5) s fun v8 => Qt (Ld P 44 v8) s fun v9 => Qt (Ia P 33 a1 x5) s fun v10 => Qt (Ld P 44 v10) s fun v11 => Qt (Bo P .neq 44 false false v9 v11) s fun v12 => CondP v12 (Ret P (fun w => K (.bool false) w) s) (Bo P .add 3 false true x5 (.int .i64 1) (fun v13 s => N4 v13 s) s)) s) (Ret P (fun w => K (.bool true) w) s)) s) s))) s) s) s
noncomputable def b22 : Code := Tryd.f22.body.getD .skip
theorem e22 (a0 a1 : Value) (K : Value → World → Prop) : wpc P bmask 26 none b22 (lmOf [.tmp 4]) (ktOf P 26 [.tmp 4] K) (frOf [a0, a1]) = D22 a0 a1 K := by kernel_rfl
theorem c22 {a0 a1 w : _} {K : Value → World → Prop} {R : Ending → World → Prop} (h : D22 a0 a1 K ⟨w, []⟩) (hK : ∀ v w', K v w' → R (.returned v) w') : Calls P 22 #[a0, a1] w R :=
  calls_of bodies_ok Tryd.func22 26 [.tmp 4] (c := b22) (args := [a0, a1]) (K := K) (by kernel_rfl) rfl (e22 a0 a1 K) h hK

/-- rollcall/tags.Get -/
def D23 (a0 a1 : Value) (K : Value → World → Prop) (s : St) : Prop :=
  Bi P .len #[33] 3 #[false] #[a0] (fun v1 s => L1 (.int .i64 0) s (fun N2 x3 s => Bo P .lss 3 false false x3 v1 (fun v4 s => CondP v4 (Ia P 33 a0 x3 (fun v5 s => Ld P 44 v5 (fun v6 s => Al P 44 (fun v7 s => Sv P 44 v7 v6 (fun _ s => Fa P 44 v7 0 (fun v8 s => Ld P 9 v8 (fun v9 s => Bo P .eql 9 false false v9 a1 (fun v10 s => CondP v10 (Fa P 44 v7 1 (fun v11 s => Ld P 9 v11 (fun v12 s => Ret P (fun w => K (.tuple #[v12, .bool true]) w) s) s) s) (Bo P .add 3 false true x3 (.int .i64 1) (fun v13 s => N2 v13 s) s)) s) s) s) s) s) s) s) (Ret P (fun w => K (.tuple #[.string ⟨#[]⟩, .bool false]) w) s)) s)) s
noncomputable def b23 : Code := Tryd.f23.body.getD .skip
theorem e23 (a0 a1 : Value) (K : Value → World → Prop) : wpc P bmask 21 none b23 (lmOf [.tmp 4, .tmp 5]) (ktOf P 21 [.tmp 4, .tmp 5] K) (frOf [a0, a1]) = D23 a0 a1 K := by kernel_rfl
theorem c23 {a0 a1 w : _} {K : Value → World → Prop} {R : Ending → World → Prop} (h : D23 a0 a1 K ⟨w, []⟩) (hK : ∀ v w', K v w' → R (.returned v) w') : Calls P 23 #[a0, a1] w R :=
  calls_of bodies_ok Tryd.func23 21 [.tmp 4, .tmp 5] (c := b23) (args := [a0, a1]) (K := K) (by kernel_rfl) rfl (e23 a0 a1 K) h hK

/-- rollcall/rollcallref06.Check -/
def D24 (a0 : Value) (K : Value → World → Prop) (s : St) : Prop :=
  Bi P .len #[33] 3 #[false] #[a0] (fun v1 s => Bo P .eql 3 false true v1 (.int .i64 0) (fun v2 s => CondP v2 (Ret P (fun w => K (.int .i64 9) w) s) (L1 (.int .i64 0) s (fun N3 x4 s => Bi P .len #[33] 3 #[false] #[a0] (fun v5 s => Bo P .lss 3 false false x4 v5 (fun v6 s => CondP v6 (Ia P 33 a0 x4 (fun v7 s => Fa P 44 v7 0 (fun v8 s => Ld P 9 v8 (fun v9 s => Cl P 38 #[v9] (fun v10 s => Bo P .neq 3 false true v10 (.int .i64 0) (fun v11 s => CondP v11 (Ret P (fun w => K v10 w) s) (L1 (.int .i64 0) s (fun N12 x13 s => Ia P 33 a0 x4 (fun v14 s => Fa P 44 v14 1 (fun v15 s => Ld P 9 v15 (fun v16 s => Bi P .len #[9] 3 #[false] #[v16] (fun v17 s => Bo P .lss 3 false false x13 v17 (fun v18 s => CondP v18 (Ia P 33 a0 x4 (fun v19 s => Fa P 44 v19 1 (fun v20 s => Ld P 9 v20 (fun v21 s => Ix P 9 v21 x13 (fun v22 s => Bo P .eql 5 false true v22 (byteV 0) (fun v23 s => CondP v23 (Ret P (fun w => K (.int .i64 10) w) s) (Bo P .add 3 false true x13 (.int .i64 1) (fun v24 s => N12 v24 s) s)) s) s) s) s) s) (Dw (fun s => Qt (Sl P 33 a0 none (some x4) none) s fun v25 => Qt (Ia P 33 a0 x4) s fun v26 => Qt (Fa P 44 v26 0) s fun v27 => Qt (Ld P 9 v27) s fun v28 => Cl P 40 #[v25, v28] (fun v29 s => Qt (Bo P .geq 3 false true v29 (.int .i64 0)) s fun v30 => CondP v30 (Ret P (fun w => K (.int .i64 6) w) s) (Bo P .add 3 false true x4 (.int .i64 1) (fun v31 s => N3 v31 s) s)) s) s)) s) s) s) s) s))) s) s) s) s) s) (Bi P .len #[33] 3 #[false] #[a0] (fun v32 s => Bo P .gtr 3 false true v32 (.int .i64 16) (fun v33 s => CondP v33 (Ret P (fun w => K (.int .i64 7) w) s) (Ret P (fun w => K (.int .i64 0) w) s)) s) s)) s) s))) s) s
noncomputable def b24 : Code := Tryd.f24.body.getD .skip
theorem e24 (a0 : Value) (K : Value → World → Prop) : wpc P bmask 55 none b24 (lmOf [.tmp 2]) (ktOf P 55 [.tmp 2] K) (frOf [a0]) = D24 a0 K := by kernel_rfl
theorem c24 {a0 w : _} {K : Value → World → Prop} {R : Ending → World → Prop} (h : D24 a0 K ⟨w, []⟩) (hK : ∀ v w', K v w' → R (.returned v) w') : Calls P 24 #[a0] w R :=
  calls_of bodies_ok Tryd.func24 55 [.tmp 2] (c := b24) (args := [a0]) (K := K) (by kernel_rfl) rfl (e24 a0 K) h hK

/-- rollcall/tags.Text -/
def D25 (a0 : Value) (K : Value → World → Prop) (s : St) : Prop :=
  Cl P 26 #[a0] (fun v1 s => Bo P .neq 34 false true v1 (.int .i64 0) (fun v2 s => CondP v2 (Ret P (fun w => K (.string ⟨#[]⟩) w) s) (Bi P .len #[33] 3 #[false] #[a0] (fun v3 s => L2 (.slice none 0 0) (.int .i64 0) s (fun N4 x5 x6 s => Bo P .lss 3 false false x6 v3 (fun v7 s => CondP v7 (Ia P 33 a0 x6 (fun v8 s => Ld P 44 v8 (fun v9 s => Al P 44 (fun v10 s => Sv P 44 v10 v9 (fun _ s => Fa P 44 v10 0 (fun v11 s => Ld P 9 v11 (fun v12 s => J1 (fun A13 => Fa P 44 v10 1 (fun v15 s => Ld P 9 v15 (fun v16 s => Bo P .neq 9 false true v16 (.string ⟨#[]⟩) (fun v17 s => CondP v17 (Fa P 44 v10 1 (fun v18 s => Ld P 9 v18 (fun v19 s => Cl P 41 #[v19] (fun v20 s => Bo P .add 9 true false (.string ⟨#[61]⟩) v20 (fun v21 s => Bo P .add 9 false false v12 v21 (fun v22 s => A13 v22 s) s) s) s) s) s) (A13 v12 s)) s) s) s) (fun x14 s => Bs P 51 1 #[(0, x14)] (fun v23 s => Bi P .append #[51, 51] 51 #[false, false] #[x5, v23] (fun v24 s => Bo P .add 3 false true x6 (.int .i64 1) (fun v25 s => N4 v24 v25 s) s) s) s)) s) s) s) s) s) s) (Cl P 42 #[x5, .string ⟨#[59]⟩] (fun v26 s => Ret P (fun w => K v26 w) s) s)) s)) s)) s) s
noncomputable def b25 : Code := Tryd.f25.body.getD .skip
theorem e25 (a0 : Value) (K : Value → World → Prop) : wpc P bmask 34 none b25 (lmOf [.tmp 2]) (ktOf P 34 [.tmp 2] K) (frOf [a0]) = D25 a0 K := by kernel_rfl
theorem c25 {a0 w : _} {K : Value → World → Prop} {R : Ending → World → Prop} (h : D25 a0 K ⟨w, []⟩) (hK : ∀ v w', K v w' → R (.returned v) w') : Calls P 25 #[a0] w R :=
  calls_of bodies_ok Tryd.func25 34 [.tmp 2] (c := b25) (args := [a0]) (K := K) (by kernel_rfl) rfl (e25 a0 K) h hK

/-- rollcall/tags.Check -/
def D26 (a0 : Value) (K : Value → World → Prop) (s : St) : Prop :=
  Bi P .len #[33] 3 #[false] #[a0] (fun v1 s => Bo P .eql 3 false true v1 (.int .i64 0) (fun v2 s => CondP v2 (Ret P (fun w => K (.int .i64 9) w) s) (Bi P .len #[33] 3 #[false] #[a0] (fun v3 s => L1 (.int .i64 0) s (fun N4 x5 s => Bo P .lss 3 false false x5 v3 (fun v6 s => CondP v6 (Ia P 33 a0 x5 (fun v7 s => Ld P 44 v7 (fun v8 s => Al P 44 (fun v9 s => Sv P 44 v9 v8 (fun _ s => Fa P 44 v9 0 (fun v10 s => Ld P 9 v10 (fun v11 s => Cl P 33 #[v11] (fun v12 s => Bo P .neq 34 false true v12 (.int .i64 0) (fun v13 s => CondP v13 (Ret P (fun w => K v12 w) s) (Fa P 44 v9 1 (fun v14 s => Ld P 9 v14 (fun v15 s => Cl P 43 #[v15, byteV 0] (fun v16 s => Bo P .geq 3 false true v16 (.int .i64 0) (fun v17 s => CondP v17 (Ret P (fun w => K (.int .i64 10) w) s) (Dw (fun s => Qt (Sl P 33 a0 none (some x5) none) s fun v18 => Qt (Fa P 44 v9 0) s fun v19 => Qt (Ld P 9 v19) s fun v20 => Cl P 23 #[v18, v20] (fun v21 s => Qt (Ex P v21 0) s fun v22 => Qt (Ex P v21 1) s fun v23 => CondP v23 (Ret P (fun w => K (.int .i64 6) w) s) (Bo P .add 3 false true x5 (.int .i64 1) (fun v24 s => N4 v24 s) s)) s) s)) s) s) s) s)) s) s) s) s) s) s) s) s) (Bi P .len #[33] 3 #[false] #[a0] (fun v25 s => Bo P .gtr 3 false true v25 (.int .i64 16) (fun v26 s => CondP v26 (Ret P (fun w => K (.int .i64 7) w) s) (Ret P (fun w => K (.int .i64 0) w) s)) s) s)) s)) s)) s) s
noncomputable def b26 : Code := Tryd.f26.body.getD .skip
theorem e26 (a0 : Value) (K : Value → World → Prop) : wpc P bmask 42 none b26 (lmOf [.tmp 2]) (ktOf P 42 [.tmp 2] K) (frOf [a0]) = D26 a0 K := by kernel_rfl
theorem c26 {a0 w : _} {K : Value → World → Prop} {R : Ending → World → Prop} (h : D26 a0 K ⟨w, []⟩) (hK : ∀ v w', K v w' → R (.returned v) w') : Calls P 26 #[a0] w R :=
  calls_of bodies_ok Tryd.func26 42 [.tmp 2] (c := b26) (args := [a0]) (K := K) (by kernel_rfl) rfl (e26 a0 K) h hK

/-- rollcall/rollcallref06.Text -/
def D27 (a0 : Value) (K : Value → World → Prop) (s : St) : Prop :=
  Cl P 24 #[a0] (fun v1 s => Bo P .neq 3 false true v1 (.int .i64 0) (fun v2 s => CondP v2 (Ret P (fun w => K (.string ⟨#[]⟩) w) s) (L2 (.string ⟨#[]⟩) (.int .i64 0) s (fun N3 x4 x5 s => Bi P .len #[33] 3 #[false] #[a0] (fun v6 s => Bo P .lss 3 false false x5 v6 (fun v7 s => CondP v7 (J1 (fun A8 => J1 (fun A10 => Bo P .gtr 3 false true x5 (.int .i64 0) (fun v12 s => CondP v12 (Bo P .add 9 false true x4 (.string ⟨#[59]⟩) (fun v13 s => A10 v13 s) s) (A10 x4 s)) s) (fun x11 s => Ia P 33 a0 x5 (fun v14 s => Fa P 44 v14 0 (fun v15 s => Ld P 9 v15 (fun v16 s => Bo P .add 9 false false x11 v16 (fun v17 s => Ia P 33 a0 x5 (fun v18 s => Fa P 44 v18 1 (fun v19 s => Ld P 9 v19 (fun v20 s => Bo P .neq 9 false true v20 (.string ⟨#[]⟩) (fun v21 s => CondP v21 (Bo P .add 9 false true v17 (.string ⟨#[61]⟩) (fun v22 s => Ia P 33 a0 x5 (fun v23 s => Fa P 44 v23 1 (fun v24 s => Ld P 9 v24 (fun v25 s => Cl P 44 #[v25] (fun v26 s => Bo P .add 9 false false v22 v26 (fun v27 s => A8 v27 s) s) s) s) s) s) s) (A8 v17 s)) s) s) s) s) s) s) s) s)) (fun x9 s => Bo P .add 3 false true x5 (.int .i64 1) (fun v28 s => N3 x9 v28 s) s)) (Ret P (fun w => K x4 w) s)) s) s))) s) s
noncomputable def b27 : Code := Tryd.f27.body.getD .skip
theorem e27 (a0 : Value) (K : Value → World → Prop) : wpc P bmask 41 none b27 (lmOf [.tmp 2]) (ktOf P 41 [.tmp 2] K) (frOf [a0]) = D27 a0 K := by kernel_rfl
theorem c27 {a0 w : _} {K : Value → World → Prop} {R : Ending → World → Prop} (h : D27 a0 K ⟨w, []⟩) (hK : ∀ v w', K v w' → R (.returned v) w') : Calls P 27 #[a0] w R :=
  calls_of bodies_ok Tryd.func27 41 [.tmp 2] (c := b27) (args := [a0]) (K := K) (by kernel_rfl) rfl (e27 a0 K) h hK

/-- rollcall/reply.Who -/
def D28 (a0 a1 a2 : Value) (K : Value → World → Prop) (s : St) : Prop :=
  Bo P .add 9 false true a0 (.string ⟨#[33]⟩) (fun v1 s => Bo P .add 9 false false v1 a1 (fun v2 s => Bo P .add 9 false true v2 (.string ⟨#[64]⟩) (fun v3 s => Bo P .add 9 false false v3 a2 (fun v4 s => Ret P (fun w => K v4 w) s) s) s) s) s
noncomputable def b28 : Code := Tryd.f28.body.getD .skip
theorem e28 (a0 a1 a2 : Value) (K : Value → World → Prop) : wpc P bmask 14 none b28 (lmOf [.tmp 6]) (ktOf P 14 [.tmp 6] K) (frOf [a0, a1, a2]) = D28 a0 a1 a2 K := by kernel_rfl
theorem c28 {a0 a1 a2 w : _} {K : Value → World → Prop} {R : Ending → World → Prop} (h : D28 a0 a1 a2 K ⟨w, []⟩) (hK : ∀ v w', K v w' → R (.returned v) w') : Calls P 28 #[a0, a1, a2] w R :=
  calls_of bodies_ok Tryd.func28 14 [.tmp 6] (c := b28) (args := [a0, a1, a2]) (K := K) (by kernel_rfl) rfl (e28 a0 a1 a2 K) h hK

/-- strings.Split -/
def D31 (a0 a1 : Value) (K : Value → World → Prop) (s : St) : Prop :=
  Cl P 48 #[a0, a1, .int .i64 0, .int .i64 (-1)] (fun v1 s => Ret P (fun w => K v1 w) s) s
noncomputable def b31 : Code := Tryd.f31.body.getD .skip
theorem e31 (a0 a1 : Value) (K : Value → World → Prop) : wpc P bmask 8 none b31 (lmOf [.tmp 4]) (ktOf P 8 [.tmp 4] K) (frOf [a0, a1]) = D31 a0 a1 K := by kernel_rfl
theorem c31 {a0 a1 w : _} {K : Value → World → Prop} {R : Ending → World → Prop} (h : D31 a0 a1 K ⟨w, []⟩) (hK : ∀ v w', K v w' → R (.returned v) w') : Calls P 31 #[a0, a1] w R :=
  calls_of bodies_ok Tryd.func31 8 [.tmp 4] (c := b31) (args := [a0, a1]) (K := K) (by kernel_rfl) rfl (e31 a0 a1 K) h hK

/-- strings.Cut -/
def D32 (a0 a1 : Value) (K : Value → World → Prop) (s : St) : Prop :=
  Cl P 49 #[a0, a1] (fun v1 s => Ex P v1 0 (fun v2 s => Ex P v1 1 (fun v3 s => Ex P v1 2 (fun v4 s => Ret P (fun w => K (.tuple #[v2, v3, v4]) w) s) s) s) s) s
noncomputable def b32 : Code := Tryd.f32.body.getD .skip
theorem e32 (a0 a1 : Value) (K : Value → World → Prop) : wpc P bmask 13 none b32 (lmOf [.tmp 4, .tmp 5, .tmp 6]) (ktOf P 13 [.tmp 4, .tmp 5, .tmp 6] K) (frOf [a0, a1]) = D32 a0 a1 K := by kernel_rfl
theorem c32 {a0 a1 w : _} {K : Value → World → Prop} {R : Ending → World → Prop} (h : D32 a0 a1 K ⟨w, []⟩) (hK : ∀ v w', K v w' → R (.returned v) w') : Calls P 32 #[a0, a1] w R :=
  calls_of bodies_ok Tryd.func32 13 [.tmp 4, .tmp 5, .tmp 6] (c := b32) (args := [a0, a1]) (K := K) (by kernel_rfl) rfl (e32 a0 a1 K) h hK

/-- rollcall/tags.named -/
def D33 (a0 : Value) (K : Value → World → Prop) (s : St) : Prop :=
  Bo P .eql 9 false true a0 (.string ⟨#[]⟩) (fun v1 s => CondP v1 (Ret P (fun w => K (.int .i64 9) w) s) (Bi P .len #[9] 3 #[false] #[a0] (fun v2 s => L1 (.int .i64 0) s (fun N3 x4 s => Bo P .lss 3 false false x4 v2 (fun v5 s => CondP v5 (Ix P 9 a0 x4 (fun v6 s => Bo P .lss 5 false true v6 (byteV 97) (fun v7 s => J1 (fun A8 => Grd v7 false (Bo P .gtr 5 false true v6 (byteV 122) (fun v10 s => A8 v10 s) s) (A8 undef s)) (fun x9 s => Pk P v7 (.bool true) x9 (fun v11 s => J1 (fun A12 => Grd v11 true (Bo P .lss 5 false true v6 (byteV 65) (fun v14 s => A12 v14 s) s) (A12 undef s)) (fun x13 s => J1 (fun A15 => Grd x13 false (Bo P .gtr 5 false true v6 (byteV 90) (fun v17 s => A15 v17 s) s) (A15 undef s)) (fun x16 s => J1 (fun A18 => Grd v11 true (Pk P x13 (.bool true) x16 (fun v20 s => A18 v20 s) s) (A18 undef s)) (fun x19 s => Pk P v11 x19 (.bool false) (fun v21 s => J1 (fun A22 => Grd v21 true (Bo P .lss 5 false true v6 (byteV 48) (fun v24 s => A22 v24 s) s) (A22 undef s)) (fun x23 s => J1 (fun A25 => Grd x23 false (Bo P .gtr 5 false true v6 (byteV 57) (fun v27 s => A25 v27 s) s) (A25 undef s)) (fun x26 s => J1 (fun A28 => Grd v21 true (Pk P x23 (.bool true) x26 (fun v30 s => A28 v30 s) s) (A28 undef s)) (fun x29 s => Pk P v21 x29 (.bool false) (fun v31 s => J1 (fun A32 => Grd v31 true (Cl P 43 #[.string ⟨#[45, 47, 43, 46]⟩, v6] (fun v34 s => Bo P .lss 3 false true v34 (.int .i64 0) (fun v35 s => A32 v35 s) s) s) (A32 undef s)) (fun x33 s => Pk P v31 x33 (.bool false) (fun v36 s => CondP v36 (Ret P (fun w => K (.int .i64 10) w) s) (Bo P .add 3 false true x4 (.int .i64 1) (fun v37 s => N3 v37 s) s)) s)) s)))) s)))) s)) s) s) (Ret P (fun w => K (.int .i64 0) w) s)) s)) s)) s
noncomputable def b33 : Code := Tryd.f33.body.getD .skip
theorem e33 (a0 : Value) (K : Value → World → Prop) : wpc P bmask 43 none b33 (lmOf [.tmp 2]) (ktOf P 43 [.tmp 2] K) (frOf [a0]) = D33 a0 K := by kernel_rfl
theorem c33 {a0 w : _} {K : Value → World → Prop} {R : Ending → World → Prop} (h : D33 a0 K ⟨w, []⟩) (hK : ∀ v w', K v w' → R (.returned v) w') : Calls P 33 #[a0] w R :=
  calls_of bodies_ok Tryd.func33 43 [.tmp 2] (c := b33) (args := [a0]) (K := K) (by kernel_rfl) rfl (e33 a0 K) h hK

/-- strings.ContainsAny -/
def D34 (a0 a1 : Value) (K : Value → World → Prop) (s : St) : Prop :=
  Cl P 50 #[a0, a1] (fun v1 s => Bo P .geq 3 false true v1 (.int .i64 0) (fun v2 s => Ret P (fun w => K v2 w) s) s) s
noncomputable def b34 : Code := Tryd.f34.body.getD .skip
theorem e34 (a0 a1 : Value) (K : Value → World → Prop) : wpc P bmask 9 none b34 (lmOf [.tmp 4]) (ktOf P 9 [.tmp 4] K) (frOf [a0, a1]) = D34 a0 a1 K := by kernel_rfl
theorem c34 {a0 a1 w : _} {K : Value → World → Prop} {R : Ending → World → Prop} (h : D34 a0 a1 K ⟨w, []⟩) (hK : ∀ v w', K v w' → R (.returned v) w') : Calls P 34 #[a0, a1] w R :=
  calls_of bodies_ok Tryd.func34 9 [.tmp 4] (c := b34) (args := [a0, a1]) (K := K) (by kernel_rfl) rfl (e34 a0 a1 K) h hK

/-- rollcall/tags.Unescape -/
def D35 (a0 : Value) (K : Value → World → Prop) (s : St) : Prop :=
  Al P 72 (fun v1 s => Bi P .len #[9] 3 #[false] #[a0] (fun v2 s => L2 (.bool false) (.int .i64 0) s (fun N3 x4 x5 s => Bo P .lss 3 false false x5 v2 (fun v6 s => CondP v6 (J1 (fun A7 => CondP x4 (Ix P 9 a0 x5 (fun v9 s => Cl P 52 #[v9] (fun v10 s => Cl P 51 #[v1, v10] (fun _ s => A7 (.bool false) s) s) s) s) (Ix P 9 a0 x5 (fun v12 s => Bo P .eql 5 false true v12 (byteV 92) (fun v13 s => CondP v13 (A7 (.bool true) s) (Ix P 9 a0 x5 (fun v14 s => Cl P 51 #[v1, v14] (fun _ s => A7 x4 s) s) s)) s) s)) (fun x8 s => Bo P .add 3 false true x5 (.int .i64 1) (fun v16 s => N3 x8 v16 s) s)) (Cl P 53 #[v1] (fun v17 s => Ret P (fun w => K v17 w) s) s)) s)) s) s
noncomputable def b35 : Code := Tryd.f35.body.getD .skip
theorem e35 (a0 : Value) (K : Value → World → Prop) : wpc P bmask 29 none b35 (lmOf [.tmp 2]) (ktOf P 29 [.tmp 2] K) (frOf [a0]) = D35 a0 K := by kernel_rfl
theorem c35 {a0 w : _} {K : Value → World → Prop} {R : Ending → World → Prop} (h : D35 a0 K ⟨w, []⟩) (hK : ∀ v w', K v w' → R (.returned v) w') : Calls P 35 #[a0] w R :=
  calls_of bodies_ok Tryd.func35 29 [.tmp 2] (c := b35) (args := [a0]) (K := K) (by kernel_rfl) rfl (e35 a0 K) h hK

/-- slices.IndexFunc[[]rollcall/api.Tag,rollcall/api.Tag] -/
def D36 (a0 a1 : Value) (K : Value → World → Prop) (s : St) : Prop :=
  Bi P .len #[33] 3 #[false] #[a0] (fun v1 s => L1 (.int .i64 0) s (fun N2 x3 s => Bo P .lss 3 false false x3 v1 (fun v4 s => CondP v4 (Ia P 33 a0 x3 (fun v5 s => Ld P 44 v5 (fun v6 s => Dy P a1 #[v6] (fun v7 s => CondP v7 (Ret P (fun w => K x3 w) s) (Bo P .add 3 false true x3 (.int .i64 1) (fun v8 s => N2 v8 s) s)) s) s) s) (Ret P (fun w => K (.int .i64 (-1)) w) s)) s)) s
noncomputable def b36 : Code := Tryd.f36.body.getD .skip
theorem e36 (a0 a1 : Value) (K : Value → World → Prop) : wpc P bmask 19 none b36 (lmOf [.tmp 4]) (ktOf P 19 [.tmp 4] K) (frOf [a0, a1]) = D36 a0 a1 K := by kernel_rfl
theorem c36 {a0 a1 w : _} {K : Value → World → Prop} {R : Ending → World → Prop} (h : D36 a0 a1 K ⟨w, []⟩) (hK : ∀ v w', K v w' → R (.returned v) w') : Calls P 36 #[a0, a1] w R :=
  calls_of bodies_ok Tryd.func36 19 [.tmp 4] (c := b36) (args := [a0, a1]) (K := K) (by kernel_rfl) rfl (e36 a0 a1 K) h hK

/-- rollcall/tags.Parse$1 -/
def D37 (a0 a1 : Value) (K : Value → World → Prop) (s : St) : Prop :=
  Bx P 44 a0 (fun v1 s => Fa P 44 v1 0 (fun v2 s => Ld P 9 v2 (fun v3 s => Ld P 9 a1 (fun v4 s => Bo P .eql 9 false false v3 v4 (fun v5 s => Ret P (fun w => K v5 w) s) s) s) s) s) s
noncomputable def b37 : Code := Tryd.f37.body.getD .skip
theorem e37 (a0 a1 : Value) (K : Value → World → Prop) : wpc P bmask 8 none b37 (lmOf [.tmp 3]) (ktOf P 8 [.tmp 3] K) (frOf [a0, a1]) = D37 a0 a1 K := by kernel_rfl
theorem c37 {a0 a1 w : _} {K : Value → World → Prop} {R : Ending → World → Prop} (h : D37 a0 a1 K ⟨w, []⟩) (hK : ∀ v w', K v w' → R (.returned v) w') : Calls P 37 #[a0, a1] w R :=
  calls_of bodies_ok Tryd.func37 8 [.tmp 3] (c := b37) (args := [a0, a1]) (K := K) (by kernel_rfl) rfl (e37 a0 a1 K) h hK

/-- rollcall/rollcallref06.Name -/
def D38 (a0 : Value) (K : Value → World → Prop) (s : St) : Prop :=
  Bo P .eql 9 false true a0 (.string ⟨#[]⟩) (fun v1 s => CondP v1 (Ret P (fun w => K (.int .i64 9) w) s) (L1 (.int .i64 0) s (fun N2 x3 s => Bi P .len #[9] 3 #[false] #[a0] (fun v4 s => Bo P .lss 3 false false x3 v4 (fun v5 s => CondP v5 (Ix P 9 a0 x3 (fun v6 s => Cl P 54 #[v6] (fun v7 s => Uo P .not v7 (fun v8 s => J1 (fun A9 => Grd v8 true (Cl P 55 #[v6] (fun v11 s => Uo P .not v11 (fun v12 s => A9 v12 s) s) s) (A9 undef s)) (fun x10 s => Pk P v8 x10 (.bool false) (fun v13 s => J1 (fun A14 => Grd v13 true (Bo P .neq 5 false true v6 (byteV 45) (fun v16 s => A14 v16 s) s) (A14 undef s)) (fun x15 s => Pk P v13 x15 (.bool false) (fun v17 s => J1 (fun A18 => Grd v17 true (Bo P .neq 5 false true v6 (byteV 47) (fun v20 s => A18 v20 s) s) (A18 undef s)) (fun x19 s => Pk P v17 x19 (.bool false) (fun v21 s => J1 (fun A22 => Grd v21 true (Bo P .neq 5 false true v6 (byteV 43) (fun v24 s => A22 v24 s) s) (A22 undef s)) (fun x23 s => Pk P v21 x23 (.bool false) (fun v25 s => J1 (fun A26 => Grd v25 true (Bo P .neq 5 false true v6 (byteV 46) (fun v28 s => A26 v28 s) s) (A26 undef s)) (fun x27 s => Pk P v25 x27 (.bool false) (fun v29 s => CondP v29 (Ret P (fun w => K (.int .i64 10) w) s) (Bo P .add 3 false true x3 (.int .i64 1) (fun v30 s => N2 v30 s) s)) s)) s)) s)) s)) s)) s) s) s) (Ret P (fun w => K (.int .i64 0) w) s)) s) s))) s
noncomputable def b38 : Code := Tryd.f38.body.getD .skip
theorem e38 (a0 : Value) (K : Value → World → Prop) : wpc P bmask 40 none b38 (lmOf [.tmp 2]) (ktOf P 40 [.tmp 2] K) (frOf [a0]) = D38 a0 K := by kernel_rfl
theorem c38 {a0 w : _} {K : Value → World → Prop} {R : Ending → World → Prop} (h : D38 a0 K ⟨w, []⟩) (hK : ∀ v w', K v w' → R (.returned v) w') : Calls P 38 #[a0] w R :=
  calls_of bodies_ok Tryd.func38 40 [.tmp 2] (c := b38) (args := [a0]) (K := K) (by kernel_rfl) rfl (e38 a0 K) h hK

/-- rollcall/rollcallref06.Unescape -/
def D39 (a0 : Value) (K : Value → World → Prop) (s : St) : Prop :=
  L2 (.string ⟨#[]⟩) (.int .i64 0) s (fun N1 x2 x3 s => Bi P .len #[9] 3 #[false] #[a0] (fun v4 s => Bo P .lss 3 false false x3 v4 (fun v5 s => CondP v5 (J2 (fun A6 => Ix P 9 a0 x3 (fun v9 s => Bo P .neq 5 false true v9 (byteV 92) (fun v10 s => CondP v10 (Bo P .add 3 false true x3 (.int .i64 1) (fun v11 s => Sl P 9 a0 (some x3) (some v11) none (fun v12 s => Bo P .add 9 false false x2 v12 (fun v13 s => A6 v13 x3 s) s) s) s) (Bo P .add 3 false true x3 (.int .i64 1) (fun v14 s => Bi P .len #[9] 3 #[false] #[a0] (fun v15 s => Bo P .eql 3 false false v14 v15 (fun v16 s => CondP v16 (Ret P (fun w => K x2 w) s) (Ix P 9 a0 v14 (fun v17 s => L2 v17 (.int .i64 0) s (fun N18 x19 x20 s => Bo P .lss 3 false true x20 (.int .i64 256) (fun v21 s => CondP v21 (J1 (fun A22 => Dw (fun s => Qt (Cv P 3 5 x20) s fun v24 => Qt (Ix P 9 a0 v14) s fun v25 => Cl P 56 #[v24] (fun v26 s => Ck (Ix P 9 a0 v14) v25 s ∧ (Qt (Bo P .eql 5 false false v26 v25) s fun v27 => CondP v27 (Cv P 3 5 x20 (fun v28 s => A22 v28 s) s) (A22 x19 s))) s) s) (fun x23 s => Bo P .add 3 false true x20 (.int .i64 1) (fun v29 s => N18 x23 v29 s) s)) (Bs P 70 1 #[(0, x19)] (fun v30 s => Cv P 70 9 v30 (fun v31 s => Bo P .add 9 false false x2 v31 (fun v32 s => A6 v32 v14 s) s) s) s)) s)) s)) s) s) s)) s) s) (fun x7 x8 s => Bo P .add 3 false true x8 (.int .i64 1) (fun v33 s => N1 x7 v33 s) s)) (Ret P (fun w => K x2 w) s)) s) s)
noncomputable def b39 : Code := Tryd.f39.body.getD .skip
theorem e39 (a0 : Value) (K : Value → World → Prop) : wpc P bmask 53 none b39 (lmOf [.tmp 2]) (ktOf P 53 [.tmp 2] K) (frOf [a0]) = D39 a0 K := by kernel_rfl
theorem c39 {a0 w : _} {K : Value → World → Prop} {R : Ending → World → Prop} (h : D39 a0 K ⟨w, []⟩) (hK : ∀ v w', K v w' → R (.returned v) w') : Calls P 39 #[a0] w R :=
  calls_of bodies_ok Tryd.func39 53 [.tmp 2] (c := b39) (args := [a0]) (K := K) (by kernel_rfl) rfl (e39 a0 K) h hK

/-- rollcall/rollcallref06.at -/
def D40 (a0 a1 : Value) (K : Value → World → Prop) (s : St) : Prop :=
  L1 (.int .i64 0) s (fun N1 x2 s => Bi P .len #[33] 3 #[false] #[a0] (fun v3 s => Bo P .lss 3 false false x2 v3 (fun v4 s => CondP v4 (Ia P 33 a0 x2 (fun v5 s => Fa P 44 v5 0 (fun v6 s => Ld P 9 v6 (fun v7 s => Bo P .eql 9 false false v7 a1 (fun v8 s => CondP v8 (Ret P (fun w => K x2 w) s) (Bo P .add 3 false true x2 (.int .i64 1) (fun v9 s => N1 v9 s) s)) s) s) s) s) (Ret P (fun w => K (.int .i64 (-1)) w) s)) s) s)
noncomputable def b40 : Code := Tryd.f40.body.getD .skip
theorem e40 (a0 a1 : Value) (K : Value → World → Prop) : wpc P bmask 20 none b40 (lmOf [.tmp 4]) (ktOf P 20 [.tmp 4] K) (frOf [a0, a1]) = D40 a0 a1 K := by kernel_rfl
theorem c40 {a0 a1 w : _} {K : Value → World → Prop} {R : Ending → World → Prop} (h : D40 a0 a1 K ⟨w, []⟩) (hK : ∀ v w', K v w' → R (.returned v) w') : Calls P 40 #[a0, a1] w R :=
  calls_of bodies_ok Tryd.func40 20 [.tmp 4] (c := b40) (args := [a0, a1]) (K := K) (by kernel_rfl) rfl (e40 a0 a1 K) h hK

/-- rollcall/tags.Escape -/
def D41 (a0 : Value) (K : Value → World → Prop) (s : St) : Prop :=
  Al P 72 (fun v1 s => Bi P .len #[9] 3 #[false] #[a0] (fun v2 s => L1 (.int .i64 0) s (fun N3 x4 s => Bo P .lss 3 false false x4 v2 (fun v5 s => CondP v5 (J0 (fun A6 => Ix P 9 a0 x4 (fun v7 s => J0 (fun A8 => Bo P .eql 5 false true v7 (byteV 59) (fun v9 s => CondP v9 (Cl P 57 #[v1, .string ⟨#[92, 58]⟩] (fun _ s => A6 s) s) (Bo P .eql 5 false true v7 (byteV 32) (fun v11 s => CondP v11 (Cl P 57 #[v1, .string ⟨#[92, 115]⟩] (fun _ s => A6 s) s) (Bo P .eql 5 false true v7 (byteV 13) (fun v13 s => CondP v13 (Cl P 57 #[v1, .string ⟨#[92, 114]⟩] (fun _ s => A6 s) s) (Bo P .eql 5 false true v7 (byteV 10) (fun v15 s => CondP v15 (Cl P 57 #[v1, .string ⟨#[92, 110]⟩] (fun _ s => A6 s) s) (Bo P .eql 5 false true v7 (byteV 92) (fun v17 s => CondP v17 (Cl P 51 #[v1, byteV 92] (fun _ s => A8 s) s) (A8 s)) s)) s)) s)) s)) s) (fun s => Cl P 51 #[v1, v7] (fun _ s => A6 s) s)) s) (fun s => Bo P .add 3 false true x4 (.int .i64 1) (fun v20 s => N3 v20 s) s)) (Cl P 53 #[v1] (fun v21 s => Ret P (fun w => K v21 w) s) s)) s)) s) s
noncomputable def b41 : Code := Tryd.f41.body.getD .skip
theorem e41 (a0 : Value) (K : Value → World → Prop) : wpc P bmask 34 none b41 (lmOf [.tmp 2]) (ktOf P 34 [.tmp 2] K) (frOf [a0]) = D41 a0 K := by kernel_rfl
theorem c41 {a0 w : _} {K : Value → World → Prop} {R : Ending → World → Prop} (h : D41 a0 K ⟨w, []⟩) (hK : ∀ v w', K v w' → R (.returned v) w') : Calls P 41 #[a0] w R :=
  calls_of bodies_ok Tryd.func41 34 [.tmp 2] (c := b41) (args := [a0]) (K := K) (by kernel_rfl) rfl (e41 a0 K) h hK

/-- strings.Join -/
def D42 (a0 a1 : Value) (K : Value → World → Prop) (s : St) : Prop :=
  Bi P .len #[51] 3 #[false] #[a0] (fun v1 s => Bo P .eql 3 false true v1 (.int .i64 0) (fun v2 s => CondP v2 (Ret P (fun w => K (.string ⟨#[]⟩) w) s) (Bo P .eql 3 false true v1 (.int .i64 1) (fun v3 s => CondP v3 (Ia P 51 a0 (.int .i64 0) (fun v4 s => Ld P 9 v4 (fun v5 s => Ret P (fun w => K v5 w) s) s) s) (J1 (fun A6 => Bi P .len #[9] 3 #[false] #[a1] (fun v8 s => Bo P .gtr 3 false true v8 (.int .i64 0) (fun v9 s => CondP v9 (J0 (fun A10 => Bi P .len #[9] 3 #[false] #[a1] (fun v11 s => Bi P .len #[51] 3 #[false] #[a0] (fun v12 s => Bo P .sub 3 false true v12 (.int .i64 1) (fun v13 s => Bo P .quo 3 true false (.int .i64 9223372036854775807) v13 (fun v14 s => Bo P .geq 3 false false v11 v14 (fun v15 s => CondP v15 (Mi P 9 (.string ⟨#[115, 116, 114, 105, 110, 103, 115, 58, 32, 74, 111, 105, 110, 32, 111, 117, 116, 112, 117, 116, 32, 108, 101, 110, 103, 116, 104, 32, 111, 118, 101, 114, 102, 108, 111, 119]⟩) (fun v16 s => Pn P v16 (fun _ s => A10 s) s) s) (A10 s)) s) s) s) s) s) (fun s => Bi P .len #[9] 3 #[false] #[a1] (fun v17 s => Bi P .len #[51] 3 #[false] #[a0] (fun v18 s => Bo P .sub 3 false true v18 (.int .i64 1) (fun v19 s => Bo P .mul 3 false false v17 v19 (fun v20 s => Bo P .add 3 false false (.int .i64 0) v20 (fun v21 s => A6 v21 s) s) s) s) s) s)) (A6 (.int .i64 0) s)) s) s) (fun x7 s => Bi P .len #[51] 3 #[false] #[a0] (fun v22 s => L2 x7 (.int .i64 0) s (fun N23 x24 x25 s => Bo P .lss 3 false false x25 v22 (fun v26 s => CondP v26 (Ia P 51 a0 x25 (fun v27 s => Ld P 9 v27 (fun v28 s => J0 (fun A29 => Bi P .len #[9] 3 #[false] #[v28] (fun v30 s => Bo P .sub 3 true false (.int .i64 9223372036854775807) x24 (fun v31 s => Bo P .gtr 3 false false v30 v31 (fun v32 s => CondP v32 (Mi P 9 (.string ⟨#[115, 116, 114, 105, 110, 103, 115, 58, 32, 74, 111, 105, 110, 32, 111, 117, 116, 112, 117, 116, 32, 108, 101, 110, 103, 116, 104, 32, 111, 118, 101, 114, 102, 108, 111, 119]⟩) (fun v33 s => Pn P v33 (fun _ s => A29 s) s) s) (A29 s)) s) s) s) (fun s => Bi P .len #[9] 3 #[false] #[v28] (fun v34 s => Bo P .add 3 false false x24 v34 (fun v35 s => Bo P .add 3 false true x25 (.int .i64 1) (fun v36 s => N23 v35 v36 s) s) s) s)) s) s) (Al P 72 (fun v37 s => Cl P 58 #[v37, x24] (fun _ s => Ia P 51 a0 (.int .i64 0) (fun v39 s => Ld P 9 v39 (fun v40 s => Cl P 57 #[v37, v40] (fun _ s => Sl P 51 a0 (some (.int .i64 1)) none none (fun v42 s => Bi P .len #[51] 3 #[false] #[v42] (fun v43 s => L1 (.int .i64 0) s (fun N44 x45 s => Bo P .lss 3 false false x45 v43 (fun v46 s => CondP v46 (Ia P 51 v42 x45 (fun v47 s => Ld P 9 v47 (fun v48 s => Cl P 57 #[v37, a1] (fun _ s => Cl P 57 #[v37, v48] (fun _ s => Bo P .add 3 false true x45 (.int .i64 1) (fun v51 s => N44 v51 s) s) s) s) s) s) (Cl P 53 #[v37] (fun v52 s => Ret P (fun w => K v52 w) s) s)) s)) s) s) s) s) s) s) s)) s)) s))) s)) s) s
noncomputable def b42 : Code := Tryd.f42.body.getD .skip
theorem e42 (a0 a1 : Value) (K : Value → World → Prop) : wpc P bmask 75 none b42 (lmOf [.tmp 4]) (ktOf P 75 [.tmp 4] K) (frOf [a0, a1]) = D42 a0 a1 K := by kernel_rfl
theorem c42 {a0 a1 w : _} {K : Value → World → Prop} {R : Ending → World → Prop} (h : D42 a0 a1 K ⟨w, []⟩) (hK : ∀ v w', K v w' → R (.returned v) w') : Calls P 42 #[a0, a1] w R :=
  calls_of bodies_ok Tryd.func42 75 [.tmp 4] (c := b42) (args := [a0, a1]) (K := K) (by kernel_rfl) rfl (e42 a0 a1 K) h hK

/-- strings.IndexByte -/
def D43 (a0 a1 : Value) (K : Value → World → Prop) (s : St) : Prop :=
  Cl P 59 #[a0, a1] (fun v1 s => Ret P (fun w => K v1 w) s) s
noncomputable def b43 : Code := Tryd.f43.body.getD .skip
theorem e43 (a0 a1 : Value) (K : Value → World → Prop) : wpc P bmask 8 none b43 (lmOf [.tmp 4]) (ktOf P 8 [.tmp 4] K) (frOf [a0, a1]) = D43 a0 a1 K := by kernel_rfl
theorem c43 {a0 a1 w : _} {K : Value → World → Prop} {R : Ending → World → Prop} (h : D43 a0 a1 K ⟨w, []⟩) (hK : ∀ v w', K v w' → R (.returned v) w') : Calls P 43 #[a0, a1] w R :=
  calls_of bodies_ok Tryd.func43 8 [.tmp 4] (c := b43) (args := [a0, a1]) (K := K) (by kernel_rfl) rfl (e43 a0 a1 K) h hK

/-- rollcall/rollcallref06.Escape -/
def D44 (a0 : Value) (K : Value → World → Prop) (s : St) : Prop :=
  L2 (.string ⟨#[]⟩) (.int .i64 0) s (fun N1 x2 x3 s => Bi P .len #[9] 3 #[false] #[a0] (fun v4 s => Bo P .lss 3 false false x3 v4 (fun v5 s => CondP v5 (J1 (fun A6 => Ix P 9 a0 x3 (fun v8 s => Cl P 56 #[v8] (fun v9 s => Bo P .neq 5 false true v9 (byteV 0) (fun v10 s => CondP v10 (Bs P 70 2 #[(0, byteV 92), (1, v9)] (fun v11 s => Cv P 70 9 v11 (fun v12 s => Bo P .add 9 false false x2 v12 (fun v13 s => A6 v13 s) s) s) s) (Bo P .add 3 false true x3 (.int .i64 1) (fun v14 s => Sl P 9 a0 (some x3) (some v14) none (fun v15 s => Bo P .add 9 false false x2 v15 (fun v16 s => A6 v16 s) s) s) s)) s) s) s) (fun x7 s => Bo P .add 3 false true x3 (.int .i64 1) (fun v17 s => N1 x7 v17 s) s)) (Ret P (fun w => K x2 w) s)) s) s)
noncomputable def b44 : Code := Tryd.f44.body.getD .skip
theorem e44 (a0 : Value) (K : Value → World → Prop) : wpc P bmask 31 none b44 (lmOf [.tmp 2]) (ktOf P 31 [.tmp 2] K) (frOf [a0]) = D44 a0 K := by kernel_rfl
theorem c44 {a0 w : _} {K : Value → World → Prop} {R : Ending → World → Prop} (h : D44 a0 K ⟨w, []⟩) (hK : ∀ v w', K v w' → R (.returned v) w') : Calls P 44 #[a0] w R :=
  calls_of bodies_ok Tryd.func44 31 [.tmp 2] (c := b44) (args := [a0]) (K := K) (by kernel_rfl) rfl (e44 a0 K) h hK

/-- strings.Trim -/
def D46 (a0 a1 : Value) (K : Value → World → Prop) (s : St) : Prop :=
  Bo P .eql 9 false true a0 (.string ⟨#[]⟩) (fun v1 s => J1 (fun A2 => Grd v1 false (Bo P .eql 9 false true a1 (.string ⟨#[]⟩) (fun v4 s => A2 v4 s) s) (A2 undef s)) (fun x3 s => Pk P v1 (.bool true) x3 (fun v5 s => CondP v5 (Ret P (fun w => K a0 w) s) (Bi P .len #[9] 3 #[false] #[a1] (fun v6 s => Bo P .eql 3 false true v6 (.int .i64 1) (fun v7 s => J1 (fun A8 => Grd v7 true (Ix P 9 a1 (.int .i64 0) (fun v10 s => Bo P .lss 5 false true v10 (byteV 128) (fun v11 s => A8 v11 s) s) s) (A8 undef s)) (fun x9 s => Pk P v7 x9 (.bool false) (fun v12 s => CondP v12 (Dw (fun s => Qt (Ix P 9 a1 (.int .i64 0)) s fun v13 => Qt (Ix P 9 a1 (.int .i64 0)) s fun v14 => Cl P 62 #[a0, v13] (fun v15 s => Ck (Ix P 9 a1 (.int .i64 0)) v14 s ∧ (Cl P 61 #[v15, v14] (fun v16 s => Ret P (fun w => K v16 w) s) s)) s) s) (Cl P 63 #[a1] (fun v17 s => Ex P v17 0 (fun v18 s => Ex P v17 1 (fun v19 s => Al P 83 (fun v20 s => Sv P 83 v20 v18 (fun _ s => CondP v19 (Cl P 65 #[a0, v20] (fun v21 s => Cl P 64 #[v21, v20] (fun v22 s => Ret P (fun w => K v22 w) s) s) s) (Cl P 67 #[a0, a1] (fun v23 s => Cl P 66 #[v23, a1] (fun v24 s => Ret P (fun w => K v24 w) s) s) s)) s) s) s) s) s)) s)) s) s)) s)) s
noncomputable def b46 : Code := Tryd.f46.body.getD .skip
theorem e46 (a0 a1 : Value) (K : Value → World → Prop) : wpc P bmask 43 none b46 (lmOf [.tmp 4]) (ktOf P 43 [.tmp 4] K) (frOf [a0, a1]) = D46 a0 a1 K := by kernel_rfl
theorem c46 {a0 a1 w : _} {K : Value → World → Prop} {R : Ending → World → Prop} (h : D46 a0 a1 K ⟨w, []⟩) (hK : ∀ v w', K v w' → R (.returned v) w') : Calls P 46 #[a0, a1] w R :=
  calls_of bodies_ok Tryd.func46 43 [.tmp 4] (c := b46) (args := [a0, a1]) (K := K) (by kernel_rfl) rfl (e46 a0 a1 K) h hK

/-- strings.genSplit -/
def D48 (a0 a1 a2 a3 : Value) (K : Value → World → Prop) (s : St) : Prop :=
  Bo P .eql 3 false true a3 (.int .i64 0) (fun v1 s => CondP v1 (Ret P (fun w => K (.slice none 0 0) w) s) (Bo P .eql 9 false true a1 (.string ⟨#[]⟩) (fun v2 s => CondP v2 (Cl P 68 #[a0, a3] (fun v3 s => Ret P (fun w => K v3 w) s) s) (J1 (fun A4 => Bo P .lss 3 false true a3 (.int .i64 0) (fun v6 s => CondP v6 (Cl P 69 #[a0, a1] (fun v7 s => Bo P .add 3 false true v7 (.int .i64 1) (fun v8 s => A4 v8 s) s) s) (A4 a3 s)) s) (fun x5 s => Bi P .len #[9] 3 #[false] #[a0] (fun v9 s => Bo P .add 3 false true v9 (.int .i64 1) (fun v10 s => Bi P .min #[3, 3] 3 #[false, false] #[x5, v10] (fun v11 s => Ms P 51 v11 v11 (fun v12 s => Bo P .sub 3 false true v11 (.int .i64 1) (fun v13 s => J2 (fun A14 => L2 a0 (.int .i64 0) s (fun N17 x18 x19 s => Bo P .lss 3 false false x19 v13 (fun v20 s => CondP v20 (Cl P 70 #[x18, a1] (fun v21 s => Bo P .lss 3 false true v21 (.int .i64 0) (fun v22 s => CondP v22 (A14 x18 x19 s) (Bo P .add 3 false false v21 a2 (fun v23 s => Sl P 9 x18 none (some v23) none (fun v24 s => Ia P 51 v12 x19 (fun v25 s => Sv P 9 v25 v24 (fun _ s => Bi P .len #[9] 3 #[false] #[a1] (fun v26 s => Bo P .add 3 false false v21 v26 (fun v27 s => Sl P 9 x18 (some v27) none none (fun v28 s => Bo P .add 3 false true x19 (.int .i64 1) (fun v29 s => N17 v28 v29 s) s) s) s) s) s) s) s) s)) s) s) (A14 x18 x19 s)) s)) (fun x15 x16 s => Ia P 51 v12 x16 (fun v30 s => Sv P 9 v30 x15 (fun _ s => Bo P .add 3 false true x16 (.int .i64 1) (fun v31 s => Sl P 51 v12 none (some v31) none (fun v32 s => Ret P (fun w => K v32 w) s) s) s) s) s)) s) s) s) s) s))) s)) s
noncomputable def b48 : Code := Tryd.f48.body.getD .skip
theorem e48 (a0 a1 a2 a3 : Value) (K : Value → World → Prop) : wpc P bmask 66 none b48 (lmOf [.tmp 8]) (ktOf P 66 [.tmp 8] K) (frOf [a0, a1, a2, a3]) = D48 a0 a1 a2 a3 K := by kernel_rfl
theorem c48 {a0 a1 a2 a3 w : _} {K : Value → World → Prop} {R : Ending → World → Prop} (h : D48 a0 a1 a2 a3 K ⟨w, []⟩) (hK : ∀ v w', K v w' → R (.returned v) w') : Calls P 48 #[a0, a1, a2, a3] w R :=
  calls_of bodies_ok Tryd.func48 66 [.tmp 8] (c := b48) (args := [a0, a1, a2, a3]) (K := K) (by kernel_rfl) rfl (e48 a0 a1 a2 a3 K) h hK

/-- internal/stringslite.Cut -/
def D49 (a0 a1 : Value) (K : Value → World → Prop) (s : St) : Prop :=
  Cl P 71 #[a0, a1] (fun v1 s => Bo P .geq 3 false true v1 (.int .i64 0) (fun v2 s => CondP v2 (Dw (fun s => Qt (Sl P 9 a0 none (some v1) none) s fun v3 => Qt (Bi P .len #[9] 3 #[false] #[a1]) s fun v4 => Qt (Bo P .add 3 false false v1 v4) s fun v5 => Qt (Sl P 9 a0 (some v5) none none) s fun v6 => Ret P (fun w => K (.tuple #[v3, v6, .bool true]) w) s) s) (Ret P (fun w => K (.tuple #[a0, .string ⟨#[]⟩, .bool false]) w) s)) s) s
noncomputable def b49 : Code := Tryd.f49.body.getD .skip
theorem e49 (a0 a1 : Value) (K : Value → World → Prop) : wpc P bmask 23 none b49 (lmOf [.tmp 4, .tmp 5, .tmp 6]) (ktOf P 23 [.tmp 4, .tmp 5, .tmp 6] K) (frOf [a0, a1]) = D49 a0 a1 K := by kernel_rfl
theorem c49 {a0 a1 w : _} {K : Value → World → Prop} {R : Ending → World → Prop} (h : D49 a0 a1 K ⟨w, []⟩) (hK : ∀ v w', K v w' → R (.returned v) w') : Calls P 49 #[a0, a1] w R :=
  calls_of bodies_ok Tryd.func49 23 [.tmp 4, .tmp 5, .tmp 6] (c := b49) (args := [a0, a1]) (K := K) (by kernel_rfl) rfl (e49 a0 a1 K) h hK

/-- strings.IndexAny -/
def D50 (a0 a1 : Value) (K : Value → World → Prop) (s : St) : Prop :=
  Bo P .eql 9 false true a1 (.string ⟨#[]⟩) (fun v1 s => CondP v1 (Ret P (fun w => K (.int .i64 (-1)) w) s) (Bi P .len #[9] 3 #[false] #[a1] (fun v2 s => Bo P .eql 3 false true v2 (.int .i64 1) (fun v3 s => CondP v3 (Ix P 9 a1 (.int .i64 0) (fun v4 s => Cv P 5 21 v4 (fun v5 s => J1 (fun A6 => Bo P .geq 21 false true v5 (.int .i32 128) (fun v8 s => CondP v8 (A6 (.int .i32 65533) s) (A6 v5 s)) s) (fun x7 s => Cl P 72 #[a0, x7] (fun v9 s => Ret P (fun w => K v9 w) s) s)) s) s) (J0 (fun A10 => Bi P .len #[9] 3 #[false] #[a0] (fun v11 s => Cl P 73 #[v11] (fun v12 s => CondP v12 (Cl P 63 #[a1] (fun v13 s => Ex P v13 0 (fun v14 s => Ex P v13 1 (fun v15 s => Al P 83 (fun v16 s => Sv P 83 v16 v14 (fun _ s => CondP v15 (L1 (.int .i64 0) s (fun N17 x18 s => Bi P .len #[9] 3 #[false] #[a0] (fun v19 s => Bo P .lss 3 false false x18 v19 (fun v20 s => CondP v20 (Ix P 9 a0 x18 (fun v21 s => Cl P 74 #[v16, v21] (fun v22 s => CondP v22 (Ret P (fun w => K x18 w) s) (Bo P .add 3 false true x18 (.int .i64 1) (fun v23 s => N17 v23 s) s)) s) s) (Ret P (fun w => K (.int .i64 (-1)) w) s)) s) s)) (A10 s)) s) s) s) s) s) (A10 s)) s) s) (fun s => Rg P 9 a0 (fun v24 s => L0 s (fun N25 s => Nx P v24 true 0 (fun v26 s => Ex P v26 0 (fun v27 s => CondP v27 (Ex P v26 1 (fun v28 s => Ex P v26 2 (fun v29 s => Cl P 72 #[a1, v29] (fun v30 s => Bo P .geq 3 false true v30 (.int .i64 0) (fun v31 s => CondP v31 (Ret P (fun w => K v28 w) s) (N25 s)) s) s) s) s) (Ret P (fun w => K (.int .i64 (-1)) w) s)) s) s)) s))) s) s)) s
noncomputable def b50 : Code := Tryd.f50.body.getD .skip
theorem e50 (a0 a1 : Value) (K : Value → World → Prop) : wpc P bmask 55 none b50 (lmOf [.tmp 4]) (ktOf P 55 [.tmp 4] K) (frOf [a0, a1]) = D50 a0 a1 K := by kernel_rfl
theorem c50 {a0 a1 w : _} {K : Value → World → Prop} {R : Ending → World → Prop} (h : D50 a0 a1 K ⟨w, []⟩) (hK : ∀ v w', K v w' → R (.returned v) w') : Calls P 50 #[a0, a1] w R :=
  calls_of bodies_ok Tryd.func50 55 [.tmp 4] (c := b50) (args := [a0, a1]) (K := K) (by kernel_rfl) rfl (e50 a0 a1 K) h hK

/-- (*strings.Builder).WriteByte -/
def D51 (a0 a1 : Value) (K : Value → World → Prop) (s : St) : Prop :=
  Cl P 75 #[a0] (fun _ s => Nc P a0 (fun v2 s => Fa P 72 v2 1 (fun v3 s => Ld P 70 v3 (fun v4 s => Bs P 70 1 #[(0, a1)] (fun v5 s => Bi P .append #[70, 70] 70 #[false, false] #[v4, v5] (fun v6 s => Nc P a0 (fun v7 s => Fa P 72 v7 1 (fun v8 s => Sv P 70 v8 v6 (fun _ s => Ret P (fun w => K (.nilIface) w) s) s) s) s) s) s) s) s) s) s
noncomputable def b51 : Code := Tryd.f51.body.getD .skip
theorem e51 (a0 a1 : Value) (K : Value → World → Prop) : wpc P bmask 17 none b51 (lmOf [.tmp 4]) (ktOf P 17 [.tmp 4] K) (frOf [a0, a1]) = D51 a0 a1 K := by kernel_rfl
theorem c51 {a0 a1 w : _} {K : Value → World → Prop} {R : Ending → World → Prop} (h : D51 a0 a1 K ⟨w, []⟩) (hK : ∀ v w', K v w' → R (.returned v) w') : Calls P 51 #[a0, a1] w R :=
  calls_of bodies_ok Tryd.func51 17 [.tmp 4] (c := b51) (args := [a0, a1]) (K := K) (by kernel_rfl) rfl (e51 a0 a1 K) h hK

/-- rollcall/tags.plain -/
def D52 (a0 : Value) (K : Value → World → Prop) (s : St) : Prop :=
  Bo P .eql 5 false true a0 (byteV 58) (fun v1 s => CondP v1 (Ret P (fun w => K (byteV 59) w) s) (Bo P .eql 5 false true a0 (byteV 115) (fun v2 s => CondP v2 (Ret P (fun w => K (byteV 32) w) s) (Bo P .eql 5 false true a0 (byteV 114) (fun v3 s => CondP v3 (Ret P (fun w => K (byteV 13) w) s) (Bo P .eql 5 false true a0 (byteV 110) (fun v4 s => CondP v4 (Ret P (fun w => K (byteV 10) w) s) (Ret P (fun w => K a0 w) s)) s)) s)) s)) s
noncomputable def b52 : Code := Tryd.f52.body.getD .skip
theorem e52 (a0 : Value) (K : Value → World → Prop) : wpc P bmask 13 none b52 (lmOf [.tmp 2]) (ktOf P 13 [.tmp 2] K) (frOf [a0]) = D52 a0 K := by kernel_rfl
theorem c52 {a0 w : _} {K : Value → World → Prop} {R : Ending → World → Prop} (h : D52 a0 K ⟨w, []⟩) (hK : ∀ v w', K v w' → R (.returned v) w') : Calls P 52 #[a0] w R :=
  calls_of bodies_ok Tryd.func52 13 [.tmp 2] (c := b52) (args := [a0]) (K := K) (by kernel_rfl) rfl (e52 a0 K) h hK

/-- (*strings.Builder).String -/
def D53 (a0 : Value) (K : Value → World → Prop) (s : St) : Prop :=
  Dw (fun s => Qt (Nc P a0) s fun v1 => Qt (Fa P 72 v1 1) s fun v2 => Qt (Ld P 70 v2) s fun v3 => Qt (Nc P a0) s fun v4 => Qt (Fa P 72 v4 1) s fun v5 => Qt (Ld P 70 v5) s fun v6 => Qt (Bi P .len #[70] 3 #[false] #[v6]) s fun v7 => Bi P .unsafeSliceData #[70] 91 #[false] #[v3] (fun v8 s => Ck (Nc P a0) v4 s ∧ Ck (Fa P 72 v4 1) v5 s ∧ Ck (Ld P 70 v5) v6 s ∧ Ck (Bi P .len #[70] 3 #[false] #[v6]) v7 s ∧ (Bi P .unsafeString #[91, 3] 9 #[false, false] #[v8, v7] (fun v9 s => Ret P (fun w => K v9 w) s) s)) s) s
noncomputable def b53 : Code := Tryd.f53.body.getD .skip
theorem e53 (a0 : Value) (K : Value → World → Prop) : wpc P bmask 14 none b53 (lmOf [.tmp 2]) (ktOf P 14 [.tmp 2] K) (frOf [a0]) = D53 a0 K := by kernel_rfl
theorem c53 {a0 w : _} {K : Value → World → Prop} {R : Ending → World → Prop} (h : D53 a0 K ⟨w, []⟩) (hK : ∀ v w', K v w' → R (.returned v) w') : Calls P 53 #[a0] w R :=
  calls_of bodies_ok Tryd.func53 14 [.tmp 2] (c := b53) (args := [a0]) (K := K) (by kernel_rfl) rfl (e53 a0 K) h hK

/-- rollcall/rollcallref03.Letter -/
def D54 (a0 : Value) (K : Value → World → Prop) (s : St) : Prop :=
  Bo P .geq 5 false true a0 (byteV 65) (fun v1 s => J1 (fun A2 => Grd v1 true (Bo P .leq 5 false true a0 (byteV 90) (fun v4 s => A2 v4 s) s) (A2 undef s)) (fun x3 s => Pk P v1 x3 (.bool false) (fun v5 s => J1 (fun A6 => Grd v5 false (Bo P .geq 5 false true a0 (byteV 97) (fun v8 s => A6 v8 s) s) (A6 undef s)) (fun x7 s => J1 (fun A9 => Grd x7 true (Bo P .leq 5 false true a0 (byteV 122) (fun v11 s => A9 v11 s) s) (A9 undef s)) (fun x10 s => J1 (fun A12 => Grd v5 false (Pk P x7 x10 (.bool false) (fun v14 s => A12 v14 s) s) (A12 undef s)) (fun x13 s => Pk P v5 (.bool true) x13 (fun v15 s => Ret P (fun w => K v15 w) s) s)))) s)) s
noncomputable def b54 : Code := Tryd.f54.body.getD .skip
theorem e54 (a0 : Value) (K : Value → World → Prop) : wpc P bmask 17 none b54 (lmOf [.tmp 2]) (ktOf P 17 [.tmp 2] K) (frOf [a0]) = D54 a0 K := by kernel_rfl
theorem c54 {a0 w : _} {K : Value → World → Prop} {R : Ending → World → Prop} (h : D54 a0 K ⟨w, []⟩) (hK : ∀ v w', K v w' → R (.returned v) w') : Calls P 54 #[a0] w R :=
  calls_of bodies_ok Tryd.func54 17 [.tmp 2] (c := b54) (args := [a0]) (K := K) (by kernel_rfl) rfl (e54 a0 K) h hK

/-- rollcall/rollcallref03.Digit -/
def D55 (a0 : Value) (K : Value → World → Prop) (s : St) : Prop :=
  Bo P .geq 5 false true a0 (byteV 48) (fun v1 s => J1 (fun A2 => Grd v1 true (Bo P .leq 5 false true a0 (byteV 57) (fun v4 s => A2 v4 s) s) (A2 undef s)) (fun x3 s => Pk P v1 x3 (.bool false) (fun v5 s => Ret P (fun w => K v5 w) s) s)) s
noncomputable def b55 : Code := Tryd.f55.body.getD .skip
theorem e55 (a0 : Value) (K : Value → World → Prop) : wpc P bmask 9 none b55 (lmOf [.tmp 2]) (ktOf P 9 [.tmp 2] K) (frOf [a0]) = D55 a0 K := by kernel_rfl
theorem c55 {a0 w : _} {K : Value → World → Prop} {R : Ending → World → Prop} (h : D55 a0 K ⟨w, []⟩) (hK : ∀ v w', K v w' → R (.returned v) w') : Calls P 55 #[a0] w R :=
  calls_of bodies_ok Tryd.func55 9 [.tmp 2] (c := b55) (args := [a0]) (K := K) (by kernel_rfl) rfl (e55 a0 K) h hK

/-- rollcall/rollcallref06.sign -/
def D56 (a0 : Value) (K : Value → World → Prop) (s : St) : Prop :=
  Bo P .eql 5 false true a0 (byteV 59) (fun v1 s => CondP v1 (Ret P (fun w => K (byteV 58) w) s) (Bo P .eql 5 false true a0 (byteV 32) (fun v2 s => CondP v2 (Ret P (fun w => K (byteV 115) w) s) (Bo P .eql 5 false true a0 (byteV 92) (fun v3 s => CondP v3 (Ret P (fun w => K (byteV 92) w) s) (Bo P .eql 5 false true a0 (byteV 13) (fun v4 s => CondP v4 (Ret P (fun w => K (byteV 114) w) s) (Bo P .eql 5 false true a0 (byteV 10) (fun v5 s => CondP v5 (Ret P (fun w => K (byteV 110) w) s) (Ret P (fun w => K (byteV 0) w) s)) s)) s)) s)) s)) s
noncomputable def b56 : Code := Tryd.f56.body.getD .skip
theorem e56 (a0 : Value) (K : Value → World → Prop) : wpc P bmask 14 none b56 (lmOf [.tmp 2]) (ktOf P 14 [.tmp 2] K) (frOf [a0]) = D56 a0 K := by kernel_rfl
theorem c56 {a0 w : _} {K : Value → World → Prop} {R : Ending → World → Prop} (h : D56 a0 K ⟨w, []⟩) (hK : ∀ v w', K v w' → R (.returned v) w') : Calls P 56 #[a0] w R :=
  calls_of bodies_ok Tryd.func56 14 [.tmp 2] (c := b56) (args := [a0]) (K := K) (by kernel_rfl) rfl (e56 a0 K) h hK

/-- (*strings.Builder).WriteString -/
def D57 (a0 a1 : Value) (K : Value → World → Prop) (s : St) : Prop :=
  Cl P 75 #[a0] (fun _ s => Nc P a0 (fun v2 s => Fa P 72 v2 1 (fun v3 s => Ld P 70 v3 (fun v4 s => Bi P .append #[70, 9] 70 #[false, false] #[v4, a1] (fun v5 s => Nc P a0 (fun v6 s => Fa P 72 v6 1 (fun v7 s => Sv P 70 v7 v5 (fun _ s => Bi P .len #[9] 3 #[false] #[a1] (fun v8 s => Ret P (fun w => K (.tuple #[v8, .nilIface]) w) s) s) s) s) s) s) s) s) s) s
noncomputable def b57 : Code := Tryd.f57.body.getD .skip
theorem e57 (a0 a1 : Value) (K : Value → World → Prop) : wpc P bmask 19 none b57 (lmOf [.tmp 4, .tmp 5]) (ktOf P 19 [.tmp 4, .tmp 5] K) (frOf [a0, a1]) = D57 a0 a1 K := by kernel_rfl
theorem c57 {a0 a1 w : _} {K : Value → World → Prop} {R : Ending → World → Prop} (h : D57 a0 a1 K ⟨w, []⟩) (hK : ∀ v w', K v w' → R (.returned v) w') : Calls P 57 #[a0, a1] w R :=
  calls_of bodies_ok Tryd.func57 19 [.tmp 4, .tmp 5] (c := b57) (args := [a0, a1]) (K := K) (by kernel_rfl) rfl (e57 a0 a1 K) h hK

/-- (*strings.Builder).Grow -/
def D58 (a0 a1 : Value) (K : Value → World → Prop) (s : St) : Prop :=
  Cl P 75 #[a0] (fun _ s => J0 (fun A2 => Bo P .lss 3 false true a1 (.int .i64 0) (fun v3 s => CondP v3 (Mi P 9 (.string ⟨#[115, 116, 114, 105, 110, 103, 115, 46, 66, 117, 105, 108, 100, 101, 114, 46, 71, 114, 111, 119, 58, 32, 110, 101, 103, 97, 116, 105, 118, 101, 32, 99, 111, 117, 110, 116]⟩) (fun v4 s => Pn P v4 (fun _ s => A2 s) s) s) (A2 s)) s) (fun s => Dw (fun s => Qt (Nc P a0) s fun v5 => Qt (Fa P 72 v5 1) s fun v6 => Qt (Ld P 70 v6) s fun v7 => Qt (Bi P .cap #[70] 3 #[false] #[v7]) s fun v8 => Qt (Nc P a0) s fun v9 => Qt (Fa P 72 v9 1) s fun v10 => Qt (Ld P 70 v10) s fun v11 => Qt (Bi P .len #[70] 3 #[false] #[v11]) s fun v12 => Qt (Bo P .sub 3 false false v8 v12) s fun v13 => Qt (Bo P .lss 3 false false v13 a1) s fun v14 => CondP v14 (Cl P 76 #[a0, a1] (fun _ s => Ret P (fun w => K (.tuple #[]) w) s) s) (Ret P (fun w => K (.tuple #[]) w) s)) s)) s
noncomputable def b58 : Code := Tryd.f58.body.getD .skip
theorem e58 (a0 a1 : Value) (K : Value → World → Prop) : wpc P bmask 25 none b58 (lmOf []) (ktOf P 25 [] K) (frOf [a0, a1]) = D58 a0 a1 K := by kernel_rfl
theorem c58 {a0 a1 w : _} {K : Value → World → Prop} {R : Ending → World → Prop} (h : D58 a0 a1 K ⟨w, []⟩) (hK : ∀ v w', K v w' → R (.returned v) w') : Calls P 58 #[a0, a1] w R :=
  calls_of bodies_ok Tryd.func58 25 [] (c := b58) (args := [a0, a1]) (K := K) (by kernel_rfl) rfl (e58 a0 a1 K) h hK

/-- internal/stringslite.IndexByte -/
def D59 (a0 a1 : Value) (K : Value → World → Prop) (s : St) : Prop :=
  Dy P (.func (.func 77) #[] #[]) #[a0, a1] (fun v1 s => Ret P (fun w => K v1 w) s) s
noncomputable def b59 : Code := Tryd.f59.body.getD .skip
theorem e59 (a0 a1 : Value) (K : Value → World → Prop) : wpc P bmask 8 none b59 (lmOf [.tmp 4]) (ktOf P 8 [.tmp 4] K) (frOf [a0, a1]) = D59 a0 a1 K := by kernel_rfl
theorem c59 {a0 a1 w : _} {K : Value → World → Prop} {R : Ending → World → Prop} (h : D59 a0 a1 K ⟨w, []⟩) (hK : ∀ v w', K v w' → R (.returned v) w') : Calls P 59 #[a0, a1] w R :=
  calls_of bodies_ok Tryd.func59 8 [.tmp 4] (c := b59) (args := [a0, a1]) (K := K) (by kernel_rfl) rfl (e59 a0 a1 K) h hK

/-- strings.trimLeftByte -/
def D61 (a0 a1 : Value) (K : Value → World → Prop) (s : St) : Prop :=
  L1 a0 s (fun N1 x2 s => Bi P .len #[9] 3 #[false] #[x2] (fun v3 s => Bo P .gtr 3 false true v3 (.int .i64 0) (fun v4 s => J1 (fun A5 => Grd v4 true (Ix P 9 x2 (.int .i64 0) (fun v7 s => Bo P .eql 5 false false v7 a1 (fun v8 s => A5 v8 s) s) s) (A5 undef s)) (fun x6 s => Pk P v4 x6 (.bool false) (fun v9 s => CondP v9 (Sl P 9 x2 (some (.int .i64 1)) none none (fun v10 s => N1 v10 s) s) (Ret P (fun w => K x2 w) s)) s)) s) s)
noncomputable def b61 : Code := Tryd.f61.body.getD .skip
theorem e61 (a0 a1 : Value) (K : Value → World → Prop) : wpc P bmask 17 none b61 (lmOf [.tmp 4]) (ktOf P 17 [.tmp 4] K) (frOf [a0, a1]) = D61 a0 a1 K := by kernel_rfl
theorem c61 {a0 a1 w : _} {K : Value → World → Prop} {R : Ending → World → Prop} (h : D61 a0 a1 K ⟨w, []⟩) (hK : ∀ v w', K v w' → R (.returned v) w') : Calls P 61 #[a0, a1] w R :=
  calls_of bodies_ok Tryd.func61 17 [.tmp 4] (c := b61) (args := [a0, a1]) (K := K) (by kernel_rfl) rfl (e61 a0 a1 K) h hK

/-- strings.trimRightByte -/
def D62 (a0 a1 : Value) (K : Value → World → Prop) (s : St) : Prop :=
  L1 a0 s (fun N1 x2 s => Bi P .len #[9] 3 #[false] #[x2] (fun v3 s => Bo P .gtr 3 false true v3 (.int .i64 0) (fun v4 s => J1 (fun A5 => Grd v4 true (Bi P .len #[9] 3 #[false] #[x2] (fun v7 s => Bo P .sub 3 false true v7 (.int .i64 1) (fun v8 s => Ix P 9 x2 v8 (fun v9 s => Bo P .eql 5 false false v9 a1 (fun v10 s => A5 v10 s) s) s) s) s) (A5 undef s)) (fun x6 s => Pk P v4 x6 (.bool false) (fun v11 s => CondP v11 (Bi P .len #[9] 3 #[false] #[x2] (fun v12 s => Bo P .sub 3 false true v12 (.int .i64 1) (fun v13 s => Sl P 9 x2 none (some v13) none (fun v14 s => N1 v14 s) s) s) s) (Ret P (fun w => K x2 w) s)) s)) s) s)
noncomputable def b62 : Code := Tryd.f62.body.getD .skip
theorem e62 (a0 a1 : Value) (K : Value → World → Prop) : wpc P bmask 23 none b62 (lmOf [.tmp 4]) (ktOf P 23 [.tmp 4] K) (frOf [a0, a1]) = D62 a0 a1 K := by kernel_rfl
theorem c62 {a0 a1 w : _} {K : Value → World → Prop} {R : Ending → World → Prop} (h : D62 a0 a1 K ⟨w, []⟩) (hK : ∀ v w', K v w' → R (.returned v) w') : Calls P 62 #[a0, a1] w R :=
  calls_of bodies_ok Tryd.func62 23 [.tmp 4] (c := b62) (args := [a0, a1]) (K := K) (by kernel_rfl) rfl (e62 a0 a1 K) h hK

/-- strings.makeASCIISet -/
def D63 (a0 : Value) (K : Value → World → Prop) (s : St) : Prop :=
  Al P 83 (fun v1 s => L1 (.int .i64 0) s (fun N2 x3 s => Bi P .len #[9] 3 #[false] #[a0] (fun v4 s => Bo P .lss 3 false false x3 v4 (fun v5 s => CondP v5 (Ix P 9 a0 x3 (fun v6 s => Bo P .geq 5 false true v6 (byteV 128) (fun v7 s => CondP v7 (Ld P 83 v1 (fun v8 s => Sv P 83 v1 v8 (fun _ s => Ret P (fun w => LdR P 83 v1 w fun v9 => K (.tuple #[v9, .bool false]) w) s) s) s) (Ia P 83 v1 v6 (fun v10 s => Sv P 4 v10 (.bool true) (fun _ s => Bo P .add 3 false true x3 (.int .i64 1) (fun v11 s => N2 v11 s) s) s) s)) s) s) (Ld P 83 v1 (fun v12 s => Sv P 83 v1 v12 (fun _ s => Ret P (fun w => LdR P 83 v1 w fun v13 => K (.tuple #[v13, .bool true]) w) s) s) s)) s) s)) s
noncomputable def b63 : Code := Tryd.f63.body.getD .skip
theorem e63 (a0 : Value) (K : Value → World → Prop) : wpc P bmask 21 none b63 (lmOf [.cell 2 83, .tmp 3]) (ktOf P 21 [.cell 2 83, .tmp 3] K) (frOf [a0]) = D63 a0 K := by kernel_rfl
theorem c63 {a0 w : _} {K : Value → World → Prop} {R : Ending → World → Prop} (h : D63 a0 K ⟨w, []⟩) (hK : ∀ v w', K v w' → R (.returned v) w') : Calls P 63 #[a0] w R :=
  calls_of bodies_ok Tryd.func63 21 [.cell 2 83, .tmp 3] (c := b63) (args := [a0]) (K := K) (by kernel_rfl) rfl (e63 a0 K) h hK

/-- strings.trimLeftASCII -/
def D64 (a0 a1 : Value) (K : Value → World → Prop) (s : St) : Prop :=
  J1 (fun A1 => L1 a0 s (fun N3 x4 s => Bi P .len #[9] 3 #[false] #[x4] (fun v5 s => Bo P .gtr 3 false true v5 (.int .i64 0) (fun v6 s => CondP v6 (Ix P 9 x4 (.int .i64 0) (fun v7 s => Cl P 74 #[a1, v7] (fun v8 s => Uo P .not v8 (fun v9 s => CondP v9 (A1 x4 s) (Sl P 9 x4 (some (.int .i64 1)) none none (fun v10 s => N3 v10 s) s)) s) s) s) (A1 x4 s)) s) s)) (fun x2 s => Ret P (fun w => K x2 w) s)
noncomputable def b64 : Code := Tryd.f64.body.getD .skip
theorem e64 (a0 a1 : Value) (K : Value → World → Prop) : wpc P bmask 16 none b64 (lmOf [.tmp 4]) (ktOf P 16 [.tmp 4] K) (frOf [a0, a1]) = D64 a0 a1 K := by kernel_rfl
theorem c64 {a0 a1 w : _} {K : Value → World → Prop} {R : Ending → World → Prop} (h : D64 a0 a1 K ⟨w, []⟩) (hK : ∀ v w', K v w' → R (.returned v) w') : Calls P 64 #[a0, a1] w R :=
  calls_of bodies_ok Tryd.func64 16 [.tmp 4] (c := b64) (args := [a0, a1]) (K := K) (by kernel_rfl) rfl (e64 a0 a1 K) h hK

/-- strings.trimRightASCII -/
def D65 (a0 a1 : Value) (K : Value → World → Prop) (s : St) : Prop :=
  J1 (fun A1 => L1 a0 s (fun N3 x4 s => Bi P .len #[9] 3 #[false] #[x4] (fun v5 s => Bo P .gtr 3 false true v5 (.int .i64 0) (fun v6 s => CondP v6 (Bi P .len #[9] 3 #[false] #[x4] (fun v7 s => Bo P .sub 3 false true v7 (.int .i64 1) (fun v8 s => Ix P 9 x4 v8 (fun v9 s => Cl P 74 #[a1, v9] (fun v10 s => Uo P .not v10 (fun v11 s => CondP v11 (A1 x4 s) (Bi P .len #[9] 3 #[false] #[x4] (fun v12 s => Bo P .sub 3 false true v12 (.int .i64 1) (fun v13 s => Sl P 9 x4 none (some v13) none (fun v14 s => N3 v14 s) s) s) s)) s) s) s) s) s) (A1 x4 s)) s) s)) (fun x2 s => Ret P (fun w => K x2 w) s)
noncomputable def b65 : Code := Tryd.f65.body.getD .skip
theorem e65 (a0 a1 : Value) (K : Value → World → Prop) : wpc P bmask 22 none b65 (lmOf [.tmp 4]) (ktOf P 22 [.tmp 4] K) (frOf [a0, a1]) = D65 a0 a1 K := by kernel_rfl
theorem c65 {a0 a1 w : _} {K : Value → World → Prop} {R : Ending → World → Prop} (h : D65 a0 a1 K ⟨w, []⟩) (hK : ∀ v w', K v w' → R (.returned v) w') : Calls P 65 #[a0, a1] w R :=
  calls_of bodies_ok Tryd.func65 22 [.tmp 4] (c := b65) (args := [a0, a1]) (K := K) (by kernel_rfl) rfl (e65 a0 a1 K) h hK

/-- strings.trimLeftUnicode -/
def D66 (a0 a1 : Value) (K : Value → World → Prop) (s : St) : Prop :=
  J1 (fun A1 => L1 a0 s (fun N3 x4 s => Bi P .len #[9] 3 #[false] #[x4] (fun v5 s => Bo P .gtr 3 false true v5 (.int .i64 0) (fun v6 s => CondP v6 (Cl P 78 #[x4] (fun v7 s => Ex P v7 0 (fun v8 s => Ex P v7 1 (fun v9 s => Cl P 79 #[a1, v8] (fun v10 s => Uo P .not v10 (fun v11 s => CondP v11 (A1 x4 s) (Sl P 9 x4 (some v9) none none (fun v12 s => N3 v12 s) s)) s) s) s) s) s) (A1 x4 s)) s) s)) (fun x2 s => Ret P (fun w => K x2 w) s)
noncomputable def b66 : Code := Tryd.f66.body.getD .skip
theorem e66 (a0 a1 : Value) (K : Value → World → Prop) : wpc P bmask 23 none b66 (lmOf [.tmp 4]) (ktOf P 23 [.tmp 4] K) (frOf [a0, a1]) = D66 a0 a1 K := by kernel_rfl
theorem c66 {a0 a1 w : _} {K : Value → World → Prop} {R : Ending → World → Prop} (h : D66 a0 a1 K ⟨w, []⟩) (hK : ∀ v w', K v w' → R (.returned v) w') : Calls P 66 #[a0, a1] w R :=
  calls_of bodies_ok Tryd.func66 23 [.tmp 4] (c := b66) (args := [a0, a1]) (K := K) (by kernel_rfl) rfl (e66 a0 a1 K) h hK

/-- strings.trimRightUnicode -/
def D67 (a0 a1 : Value) (K : Value → World → Prop) (s : St) : Prop :=
  J1 (fun A1 => L1 a0 s (fun N3 x4 s => Bi P .len #[9] 3 #[false] #[x4] (fun v5 s => Bo P .gtr 3 false true v5 (.int .i64 0) (fun v6 s => CondP v6 (Bi P .len #[9] 3 #[false] #[x4] (fun v7 s => Bo P .sub 3 false true v7 (.int .i64 1) (fun v8 s => Ix P 9 x4 v8 (fun v9 s => Cv P 5 21 v9 (fun v10 s => J2 (fun A11 => Bo P .geq 21 false true v10 (.int .i32 128) (fun v14 s => CondP v14 (Cl P 80 #[x4] (fun v15 s => Ex P v15 0 (fun v16 s => Ex P v15 1 (fun v17 s => A11 v16 v17 s) s) s) s) (A11 v10 (.int .i64 1) s)) s) (fun x12 x13 s => Cl P 79 #[a1, x12] (fun v18 s => Uo P .not v18 (fun v19 s => CondP v19 (A1 x4 s) (Bi P .len #[9] 3 #[false] #[x4] (fun v20 s => Bo P .sub 3 false false v20 x13 (fun v21 s => Sl P 9 x4 none (some v21) none (fun v22 s => N3 v22 s) s) s) s)) s) s)) s) s) s) s) (A1 x4 s)) s) s)) (fun x2 s => Ret P (fun w => K x2 w) s)
noncomputable def b67 : Code := Tryd.f67.body.getD .skip
theorem e67 (a0 a1 : Value) (K : Value → World → Prop) : wpc P bmask 34 none b67 (lmOf [.tmp 4]) (ktOf P 34 [.tmp 4] K) (frOf [a0, a1]) = D67 a0 a1 K := by kernel_rfl
theorem c67 {a0 a1 w : _} {K : Value → World → Prop} {R : Ending → World → Prop} (h : D67 a0 a1 K ⟨w, []⟩) (hK : ∀ v w', K v w' → R (.returned v) w') : Calls P 67 #[a0, a1] w R :=
  calls_of bodies_ok Tryd.func67 34 [.tmp 4] (c := b67) (args := [a0, a1]) (K := K) (by kernel_rfl) rfl (e67 a0 a1 K) h hK

/-- strings.explode -/
def D68 (a0 a1 : Value) (K : Value → World → Prop) (s : St) : Prop :=
  Cl P 81 #[a0] (fun v1 s => J1 (fun A2 => Bo P .lss 3 false true a1 (.int .i64 0) (fun v4 s => J1 (fun A5 => Grd v4 false (Bo P .gtr 3 false false a1 v1 (fun v7 s => A5 v7 s) s) (A5 undef s)) (fun x6 s => Pk P v4 (.bool true) x6 (fun v8 s => CondP v8 (A2 v1 s) (A2 a1 s)) s)) s) (fun x3 s => Ms P 51 x3 x3 (fun v9 s => L2 a0 (.int .i64 0) s (fun N10 x11 x12 s => Bo P .sub 3 false true x3 (.int .i64 1) (fun v13 s => Bo P .lss 3 false false x12 v13 (fun v14 s => CondP v14 (Cl P 78 #[x11] (fun v15 s => Ex P v15 0 (fun _ s => Ex P v15 1 (fun v17 s => Sl P 9 x11 none (some v17) none (fun v18 s => Ia P 51 v9 x12 (fun v19 s => Sv P 9 v19 v18 (fun _ s => Sl P 9 x11 (some v17) none none (fun v20 s => Bo P .add 3 false true x12 (.int .i64 1) (fun v21 s => N10 v20 v21 s) s) s) s) s) s) s) s) s) (J0 (fun A22 => Bo P .gtr 3 false true x3 (.int .i64 0) (fun v23 s => CondP v23 (Bo P .sub 3 false true x3 (.int .i64 1) (fun v24 s => Ia P 51 v9 v24 (fun v25 s => Sv P 9 v25 x11 (fun _ s => A22 s) s) s) s) (A22 s)) s) (fun s => Ret P (fun w => K v9 w) s))) s) s)) s)) s
noncomputable def b68 : Code := Tryd.f68.body.getD .skip
theorem e68 (a0 a1 : Value) (K : Value → World → Prop) : wpc P bmask 50 none b68 (lmOf [.tmp 4]) (ktOf P 50 [.tmp 4] K) (frOf [a0, a1]) = D68 a0 a1 K := by kernel_rfl
theorem c68 {a0 a1 w : _} {K : Value → World → Prop} {R : Ending → World → Prop} (h : D68 a0 a1 K ⟨w, []⟩) (hK : ∀ v w', K v w' → R (.returned v) w') : Calls P 68 #[a0, a1] w R :=
  calls_of bodies_ok Tryd.func68 50 [.tmp 4] (c := b68) (args := [a0, a1]) (K := K) (by kernel_rfl) rfl (e68 a0 a1 K) h hK

/-- strings.Count -/
def D69 (a0 a1 : Value) (K : Value → World → Prop) (s : St) : Prop :=
  Bi P .len #[9] 3 #[false] #[a1] (fun v1 s => Bo P .eql 3 false true v1 (.int .i64 0) (fun v2 s => CondP v2 (Cl P 81 #[a0] (fun v3 s => Bo P .add 3 false true v3 (.int .i64 1) (fun v4 s => Ret P (fun w => K v4 w) s) s) s) (Bi P .len #[9] 3 #[false] #[a1] (fun v5 s => Bo P .eql 3 false true v5 (.int .i64 1) (fun v6 s => CondP v6 (Ix P 9 a1 (.int .i64 0) (fun v7 s => Dy P (.func (.func 82) #[] #[]) #[a0, v7] (fun v8 s => Ret P (fun w => K v8 w) s) s) s) (L2 a0 (.int .i64 0) s (fun N9 x10 x11 s => Cl P 70 #[x10, a1] (fun v12 s => Bo P .eql 3 false true v12 (.int .i64 (-1)) (fun v13 s => CondP v13 (Ret P (fun w => K x11 w) s) (Bo P .add 3 false true x11 (.int .i64 1) (fun v14 s => Bi P .len #[9] 3 #[false] #[a1] (fun v15 s => Bo P .add 3 false false v12 v15 (fun v16 s => Sl P 9 x10 (some v16) none none (fun v17 s => N9 v17 v14 s) s) s) s) s)) s) s))) s) s)) s) s
noncomputable def b69 : Code := Tryd.f69.body.getD .skip
theorem e69 (a0 a1 : Value) (K : Value → World → Prop) : wpc P bmask 34 none b69 (lmOf [.tmp 4]) (ktOf P 34 [.tmp 4] K) (frOf [a0, a1]) = D69 a0 a1 K := by kernel_rfl
theorem c69 {a0 a1 w : _} {K : Value → World → Prop} {R : Ending → World → Prop} (h : D69 a0 a1 K ⟨w, []⟩) (hK : ∀ v w', K v w' → R (.returned v) w') : Calls P 69 #[a0, a1] w R :=
  calls_of bodies_ok Tryd.func69 34 [.tmp 4] (c := b69) (args := [a0, a1]) (K := K) (by kernel_rfl) rfl (e69 a0 a1 K) h hK

/-- strings.Index -/
def D70 (a0 a1 : Value) (K : Value → World → Prop) (s : St) : Prop :=
  Cl P 71 #[a0, a1] (fun v1 s => Ret P (fun w => K v1 w) s) s
noncomputable def b70 : Code := Tryd.f70.body.getD .skip
theorem e70 (a0 a1 : Value) (K : Value → World → Prop) : wpc P bmask 8 none b70 (lmOf [.tmp 4]) (ktOf P 8 [.tmp 4] K) (frOf [a0, a1]) = D70 a0 a1 K := by kernel_rfl
theorem c70 {a0 a1 w : _} {K : Value → World → Prop} {R : Ending → World → Prop} (h : D70 a0 a1 K ⟨w, []⟩) (hK : ∀ v w', K v w' → R (.returned v) w') : Calls P 70 #[a0, a1] w R :=
  calls_of bodies_ok Tryd.func70 8 [.tmp 4] (c := b70) (args := [a0, a1]) (K := K) (by kernel_rfl) rfl (e70 a0 a1 K) h hK

/-- internal/stringslite.Index -/
def D71 (a0 a1 : Value) (K : Value → World → Prop) (s : St) : Prop :=
  Bi P .len #[9] 3 #[false] #[a1] (fun v1 s => Bo P .eql 3 false true v1 (.int .i64 0) (fun v2 s => J1 (fun A3 => Grd v2 false (Bo P .eql 9 false false a1 a0 (fun v5 s => A3 v5 s) s) (A3 undef s)) (fun x4 s => Pk P v2 (.bool true) x4 (fun v6 s => CondP v6 (Ret P (fun w => K (.int .i64 0) w) s) (Bo P .eql 3 false true v1 (.int .i64 1) (fun v7 s => CondP v7 (Ix P 9 a1 (.int .i64 0) (fun v8 s => Cl P 59 #[a0, v8] (fun v9 s => Ret P (fun w => K v9 w) s) s) s) (Bi P .len #[9] 3 #[false] #[a0] (fun v10 s => Bo P .geq 3 false false v1 v10 (fun v11 s => CondP v11 (Ret P (fun w => K (.int .i64 (-1)) w) s) (Ld P 3 (.pointer (some ⟨0, 0, none⟩)) (fun v12 s => Bo P .leq 3 false false v1 v12 (fun v13 s => J1 (fun A14 => Grd v13 true (Bi P .len #[9] 3 #[false] #[a0] (fun v16 s => Bo P .leq 3 false true v16 (.int .i64 64) (fun v17 s => A14 v17 s) s) s) (A14 undef s)) (fun x15 s => Pk P v13 x15 (.bool false) (fun v18 s => CondP v18 (Dy P (.func (.func 83) #[] #[]) #[a0, a1] (fun v19 s => Ret P (fun w => K v19 w) s) s) (Ix P 9 a1 (.int .i64 0) (fun v20 s => Ix P 9 a1 (.int .i64 1) (fun v21 s => Bi P .len #[9] 3 #[false] #[a0] (fun v22 s => Bo P .sub 3 false false v22 v1 (fun v23 s => Bo P .add 3 false true v23 (.int .i64 1) (fun v24 s => L2 (.int .i64 0) (.int .i64 0) s (fun N25 x26 x27 s => Bo P .lss 3 false false x26 v24 (fun v28 s => CondP v28 (J1 (fun A29 => Ix P 9 a0 x26 (fun v31 s => Bo P .neq 5 false false v31 v20 (fun v32 s => CondP v32 (Bo P .add 3 false true x26 (.int .i64 1) (fun v33 s => Sl P 9 a0 (some v33) (some v24) none (fun v34 s => Cl P 59 #[v34, v20] (fun v35 s => Bo P .lss 3 false true v35 (.int .i64 0) (fun v36 s => CondP v36 (Ret P (fun w => K (.int .i64 (-1)) w) s) (Bo P .add 3 false true v35 (.int .i64 1) (fun v37 s => Bo P .add 3 false false x26 v37 (fun v38 s => A29 v38 s) s) s)) s) s) s) s) (A29 x26 s)) s) s) (fun x30 s => Bo P .add 3 false true x30 (.int .i64 1) (fun v39 s => Ix P 9 a0 v39 (fun v40 s => Bo P .eql 5 false false v40 v21 (fun v41 s => J1 (fun A42 => Grd v41 true (Bo P .add 3 false false x30 v1 (fun v44 s => Sl P 9 a0 (some x30) (some v44) none (fun v45 s => Bo P .eql 9 false false v45 a1 (fun v46 s => A42 v46 s) s) s) s) (A42 undef s)) (fun x43 s => Pk P v41 x43 (.bool false) (fun v47 s => CondP v47 (Ret P (fun w => K x30 w) s) (Bo P .add 3 false true x30 (.int .i64 1) (fun v48 s => Bo P .add 3 false true x27 (.int .i64 1) (fun v49 s => Ld P 3 (.pointer (some ⟨0, 0, none⟩)) (fun v50 s => Bo P .leq 3 false false v1 v50 (fun v51 s => J1 (fun A52 => Grd v51 true (Cl P 84 #[v48] (fun v54 s => Bo P .gtr 3 false false v49 v54 (fun v55 s => A52 v55 s) s) s) (A52 undef s)) (fun x53 s => Pk P v51 x53 (.bool false) (fun v56 s => CondP v56 (Sl P 9 a0 (some v48) none none (fun v57 s => Dy P (.func (.func 83) #[] #[]) #[v57, a1] (fun v58 s => Bo P .geq 3 false true v58 (.int .i64 0) (fun v59 s => CondP v59 (Bo P .add 3 false false v58 v48 (fun v60 s => Ret P (fun w => K v60 w) s) s) (Ret P (fun w => K (.int .i64 (-1)) w) s)) s) s) s) (Ld P 3 (.pointer (some ⟨0, 0, none⟩)) (fun v61 s => Bo P .gtr 3 false false v1 v61 (fun v62 s => J1 (fun A63 => Grd v62 true (Bo P .shr 3 false true v48 (.int .u64 4) (fun v65 s => Bo P .add 3 true false (.int .i64 4) v65 (fun v66 s => Bo P .geq 3 false false v49 v66 (fun v67 s => A63 v67 s) s) s) s) (A63 undef s)) (fun x64 s => Pk P v62 x64 (.bool false) (fun v68 s => J1 (fun A69 => Grd v68 true (Bo P .lss 3 false false v48 v24 (fun v71 s => A69 v71 s) s) (A69 undef s)) (fun x70 s => Pk P v68 x70 (.bool false) (fun v72 s => CondP v72 (Sl P 9 a0 (some v48) none none (fun v73 s => Cl P 85 #[v73, a1] (fun v74 s => Bo P .lss 3 false true v74 (.int .i64 0) (fun v75 s => CondP v75 (Ret P (fun w => K (.int .i64 (-1)) w) s) (Bo P .add 3 false false v48 v74 (fun v76 s => Ret P (fun w => K v76 w) s) s)) s) s) s) (N25 v48 v49 s)) s)) s)) s) s)) s)) s) s) s) s)) s)) s) s) s)) (Ret P (fun w => K (.int .i64 (-1)) w) s)) s)) s) s) s) s) s)) s)) s) s)) s) s)) s)) s)) s) s
noncomputable def b71 : Code := Tryd.f71.body.getD .skip
theorem e71 (a0 a1 : Value) (K : Value → World → Prop) : wpc P bmask 143 none b71 (lmOf [.tmp 4]) (ktOf P 143 [.tmp 4] K) (frOf [a0, a1]) = D71 a0 a1 K := by kernel_rfl
theorem c71 {a0 a1 w : _} {K : Value → World → Prop} {R : Ending → World → Prop} (h : D71 a0 a1 K ⟨w, []⟩) (hK : ∀ v w', K v w' → R (.returned v) w') : Calls P 71 #[a0, a1] w R :=
  calls_of bodies_ok Tryd.func71 143 [.tmp 4] (c := b71) (args := [a0, a1]) (K := K) (by kernel_rfl) rfl (e71 a0 a1 K) h hK

/-- strings.IndexRune -/
def D72 (a0 a1 : Value) (K : Value → World → Prop) (s : St) : Prop :=
  Bo P .leq 21 true false (.int .i32 0) a1 (fun v1 s => J1 (fun A2 => Grd v1 true (Bo P .lss 21 false true a1 (.int .i32 128) (fun v4 s => A2 v4 s) s) (A2 undef s)) (fun x3 s => Pk P v1 x3 (.bool false) (fun v5 s => CondP v5 (Cv P 21 5 a1 (fun v6 s => Cl P 43 #[a0, v6] (fun v7 s => Ret P (fun w => K v7 w) s) s) s) (Bo P .eql 21 false true a1 (.int .i32 65533) (fun v8 s => CondP v8 (Rg P 9 a0 (fun v9 s => L0 s (fun N10 s => Nx P v9 true 0 (fun v11 s => Ex P v11 0 (fun v12 s => CondP v12 (Ex P v11 1 (fun v13 s => Ex P v11 2 (fun v14 s => Bo P .eql 21 false true v14 (.int .i32 65533) (fun v15 s => CondP v15 (Ret P (fun w => K v13 w) s) (N10 s)) s) s) s) (Ret P (fun w => K (.int .i64 (-1)) w) s)) s) s)) s) (Cl P 86 #[a1] (fun v16 s => Uo P .not v16 (fun v17 s => CondP v17 (Ret P (fun w => K (.int .i64 (-1)) w) s) (Cv P 21 9 a1 (fun v18 s => Bi P .len #[9] 3 #[false] #[v18] (fun v19 s => Bo P .sub 3 false true v19 (.int .i64 1) (fun v20 s => L1 v20 s (fun N21 x22 s => Bi P .len #[9] 3 #[false] #[a0] (fun v23 s => Bo P .lss 3 false false x22 v23 (fun v24 s => CondP v24 (J1 (fun A25 => Dw (fun s => Qt (Ix P 9 a0 x22) s fun v27 => Qt (Ix P 9 v18 v20) s fun v28 => Qt (Bo P .neq 5 false false v27 v28) s fun v29 => CondP v29 (Dw (fun s => Qt (Bo P .add 3 false true x22 (.int .i64 1)) s fun v30 => Qt (Sl P 9 a0 (some v30) none none) s fun v31 => Qt (Ix P 9 v18 v20) s fun v32 => Cl P 43 #[v31, v32] (fun v33 s => Bo P .lss 3 false true v33 (.int .i64 0) (fun v34 s => CondP v34 (Ret P (fun w => K (.int .i64 (-1)) w) s) (Bo P .add 3 false true v33 (.int .i64 1) (fun v35 s => Bo P .add 3 false false x22 v35 (fun v36 s => A25 v36 s) s) s)) s) s) s) (A25 x22 s)) s) (fun x26 s => L1 (.int .i64 1) s (fun N37 x38 s => Bi P .len #[9] 3 #[false] #[v18] (fun v39 s => Bo P .lss 3 false false x38 v39 (fun v40 s => CondP v40 (Dw (fun s => Qt (Bo P .sub 3 false false x26 x38) s fun v41 => Qt (Ix P 9 a0 v41) s fun v42 => Qt (Bo P .sub 3 false false v20 x38) s fun v43 => Qt (Ix P 9 v18 v43) s fun v44 => Qt (Bo P .neq 5 false false v42 v44) s fun v45 => CondP v45 (False) (Bo P .add 3 false true x38 (.int .i64 1) (fun v46 s => N37 v46 s) s)) s) (Bo P .sub 3 false false x26 v20 (fun v47 s => Ret P (fun w => K v47 w) s) s)) s) s))) (Ret P (fun w => K (.int .i64 (-1)) w) s)) s) s)) s) s) s)) s) s)) s)) s)) s
noncomputable def b72 : Code := Tryd.f72.body.getD .skip
theorem e72 (a0 a1 : Value) (K : Value → World → Prop) : wpc P bmask 187 none b72 (lmOf [.tmp 4]) (ktOf P 187 [.tmp 4] K) (frOf [a0, a1]) = D72 a0 a1 K := by kernel_rfl
theorem c72 {a0 a1 w : _} {K : Value → World → Prop} {R : Ending → World → Prop} (h : D72 a0 a1 K ⟨w, []⟩) (hK : ∀ v w', K v w' → R (.returned v) w') : Calls P 72 #[a0, a1] w R :=
  calls_of bodies_ok Tryd.func72 187 [.tmp 4] (c := b72) (args := [a0, a1]) (K := K) (by kernel_rfl) rfl (e72 a0 a1 K) h hK

/-- strings.shouldUseASCIISet -/
def D73 (a0 : Value) (K : Value → World → Prop) (s : St) : Prop :=
  Bo P .gtr 3 false true a0 (.int .i64 8) (fun v1 s => Ret P (fun w => K v1 w) s) s
noncomputable def b73 : Code := Tryd.f73.body.getD .skip
theorem e73 (a0 : Value) (K : Value → World → Prop) : wpc P bmask 5 none b73 (lmOf [.tmp 2]) (ktOf P 5 [.tmp 2] K) (frOf [a0]) = D73 a0 K := by kernel_rfl
theorem c73 {a0 w : _} {K : Value → World → Prop} {R : Ending → World → Prop} (h : D73 a0 K ⟨w, []⟩) (hK : ∀ v w', K v w' → R (.returned v) w') : Calls P 73 #[a0] w R :=
  calls_of bodies_ok Tryd.func73 5 [.tmp 2] (c := b73) (args := [a0]) (K := K) (by kernel_rfl) rfl (e73 a0 K) h hK

/-- (*strings.asciiSet).contains -/
def D74 (a0 a1 : Value) (K : Value → World → Prop) (s : St) : Prop :=
  Nc P a0 (fun v1 s => Ia P 83 v1 a1 (fun v2 s => Ld P 4 v2 (fun v3 s => Ret P (fun w => K v3 w) s) s) s) s
noncomputable def b74 : Code := Tryd.f74.body.getD .skip
theorem e74 (a0 a1 : Value) (K : Value → World → Prop) : wpc P bmask 10 none b74 (lmOf [.tmp 4]) (ktOf P 10 [.tmp 4] K) (frOf [a0, a1]) = D74 a0 a1 K := by kernel_rfl
theorem c74 {a0 a1 w : _} {K : Value → World → Prop} {R : Ending → World → Prop} (h : D74 a0 a1 K ⟨w, []⟩) (hK : ∀ v w', K v w' → R (.returned v) w') : Calls P 74 #[a0, a1] w R :=
  calls_of bodies_ok Tryd.func74 10 [.tmp 4] (c := b74) (args := [a0, a1]) (K := K) (by kernel_rfl) rfl (e74 a0 a1 K) h hK

/-- (*strings.Builder).copyCheck -/
def D75 (a0 : Value) (K : Value → World → Prop) (s : St) : Prop :=
  Nc P a0 (fun v1 s => Fa P 72 v1 0 (fun v2 s => Ld P 69 v2 (fun v3 s => Bo P .eql 69 false true v3 (.pointer none) (fun v4 s => CondP v4 (Cv P 69 98 a0 (fun v5 s => Dy P (.func (.func 87) #[] #[]) #[v5] (fun v6 s => Cv P 98 69 v6 (fun v7 s => Nc P a0 (fun v8 s => Fa P 72 v8 0 (fun v9 s => Sv P 69 v9 v7 (fun _ s => Ret P (fun w => K (.tuple #[]) w) s) s) s) s) s) s) s) (Nc P a0 (fun v10 s => Fa P 72 v10 0 (fun v11 s => Ld P 69 v11 (fun v12 s => Bo P .neq 69 false false v12 a0 (fun v13 s => CondP v13 (False) (Ret P (fun w => K (.tuple #[]) w) s)) s) s) s) s)) s) s) s) s
noncomputable def b75 : Code := Tryd.f75.body.getD .skip
theorem e75 (a0 : Value) (K : Value → World → Prop) : wpc P bmask 20 none b75 (lmOf []) (ktOf P 20 [] K) (frOf [a0]) = D75 a0 K := by kernel_rfl
theorem c75 {a0 w : _} {K : Value → World → Prop} {R : Ending → World → Prop} (h : D75 a0 K ⟨w, []⟩) (hK : ∀ v w', K v w' → R (.returned v) w') : Calls P 75 #[a0] w R :=
  calls_of bodies_ok Tryd.func75 20 [] (c := b75) (args := [a0]) (K := K) (by kernel_rfl) rfl (e75 a0 K) h hK

/-- (*strings.Builder).grow -/
def D76 (a0 a1 : Value) (K : Value → World → Prop) (s : St) : Prop :=
  Dw (fun s => Qt (Nc P a0) s fun v1 => Qt (Fa P 72 v1 1) s fun v2 => Qt (Ld P 70 v2) s fun v3 => Qt (Bi P .cap #[70] 3 #[false] #[v3]) s fun v4 => Qt (Bo P .mul 3 true false (.int .i64 2) v4) s fun v5 => Qt (Bo P .add 3 false false v5 a1) s fun v6 => Qt (Nc P a0) s fun v7 => Qt (Fa P 72 v7 1) s fun v8 => Qt (Ld P 70 v8) s fun v9 => Qt (Bi P .len #[70] 3 #[false] #[v9]) s fun v10 => Dy P (.func (.func 88) #[] #[]) #[v6] (fun v11 s => Ck (Nc P a0) v7 s ∧ Ck (Fa P 72 v7 1) v8 s ∧ Ck (Ld P 70 v8) v9 s ∧ Ck (Bi P .len #[70] 3 #[false] #[v9]) v10 s ∧ (Qt (Sl P 70 v11 none (some v10) none) s fun v12 => Nc P a0 (fun v13 s => Fa P 72 v13 1 (fun v14 s => Ld P 70 v14 (fun v15 s => Bi P .copy #[70, 70] 3 #[false, false] #[v12, v15] (fun _ s => Nc P a0 (fun v17 s => Fa P 72 v17 1 (fun v18 s => Sv P 70 v18 v12 (fun _ s => Ret P (fun w => K (.tuple #[]) w) s) s) s) s) s) s) s) s)) s) s
noncomputable def b76 : Code := Tryd.f76.body.getD .skip
theorem e76 (a0 a1 : Value) (K : Value → World → Prop) : wpc P bmask 30 none b76 (lmOf []) (ktOf P 30 [] K) (frOf [a0, a1]) = D76 a0 a1 K := by kernel_rfl
theorem c76 {a0 a1 w : _} {K : Value → World → Prop} {R : Ending → World → Prop} (h : D76 a0 a1 K ⟨w, []⟩) (hK : ∀ v w', K v w' → R (.returned v) w') : Calls P 76 #[a0, a1] w R :=
  calls_of bodies_ok Tryd.func76 30 [] (c := b76) (args := [a0, a1]) (K := K) (by kernel_rfl) rfl (e76 a0 a1 K) h hK

/-- unicode/utf8.DecodeRuneInString -/
def D78 (a0 : Value) (K : Value → World → Prop) (s : St) : Prop :=
  Bo P .neq 9 false true a0 (.string ⟨#[]⟩) (fun v1 s => J1 (fun A2 => Grd v1 true (Ix P 9 a0 (.int .i64 0) (fun v4 s => Bo P .lss 5 false true v4 (byteV 128) (fun v5 s => A2 v5 s) s) s) (A2 undef s)) (fun x3 s => Pk P v1 x3 (.bool false) (fun v6 s => CondP v6 (Ix P 9 a0 (.int .i64 0) (fun v7 s => Cv P 5 21 v7 (fun v8 s => Ret P (fun w => K (.tuple #[v8, .int .i64 1]) w) s) s) s) (Cl P 89 #[a0] (fun v9 s => Ex P v9 0 (fun v10 s => Ex P v9 1 (fun v11 s => Ret P (fun w => K (.tuple #[v10, v11]) w) s) s) s) s)) s)) s
noncomputable def b78 : Code := Tryd.f78.body.getD .skip
theorem e78 (a0 : Value) (K : Value → World → Prop) : wpc P bmask 19 none b78 (lmOf [.tmp 2, .tmp 3]) (ktOf P 19 [.tmp 2, .tmp 3] K) (frOf [a0]) = D78 a0 K := by kernel_rfl
theorem c78 {a0 w : _} {K : Value → World → Prop} {R : Ending → World → Prop} (h : D78 a0 K ⟨w, []⟩) (hK : ∀ v w', K v w' → R (.returned v) w') : Calls P 78 #[a0] w R :=
  calls_of bodies_ok Tryd.func78 19 [.tmp 2, .tmp 3] (c := b78) (args := [a0]) (K := K) (by kernel_rfl) rfl (e78 a0 K) h hK

/-- strings.ContainsRune -/
def D79 (a0 a1 : Value) (K : Value → World → Prop) (s : St) : Prop :=
  Cl P 72 #[a0, a1] (fun v1 s => Bo P .geq 3 false true v1 (.int .i64 0) (fun v2 s => Ret P (fun w => K v2 w) s) s) s
noncomputable def b79 : Code := Tryd.f79.body.getD .skip
theorem e79 (a0 a1 : Value) (K : Value → World → Prop) : wpc P bmask 9 none b79 (lmOf [.tmp 4]) (ktOf P 9 [.tmp 4] K) (frOf [a0, a1]) = D79 a0 a1 K := by kernel_rfl
theorem c79 {a0 a1 w : _} {K : Value → World → Prop} {R : Ending → World → Prop} (h : D79 a0 a1 K ⟨w, []⟩) (hK : ∀ v w', K v w' → R (.returned v) w') : Calls P 79 #[a0, a1] w R :=
  calls_of bodies_ok Tryd.func79 9 [.tmp 4] (c := b79) (args := [a0, a1]) (K := K) (by kernel_rfl) rfl (e79 a0 a1 K) h hK

/-- unicode/utf8.DecodeLastRuneInString -/
def D80 (a0 : Value) (K : Value → World → Prop) (s : St) : Prop :=
  Bi P .len #[9] 3 #[false] #[a0] (fun v1 s => Bo P .eql 3 false true v1 (.int .i64 0) (fun v2 s => CondP v2 (Ret P (fun w => K (.tuple #[.int .i32 65533, .int .i64 0]) w) s) (Bo P .sub 3 false true v1 (.int .i64 1) (fun v3 s => Ix P 9 a0 v3 (fun v4 s => Cv P 5 21 v4 (fun v5 s => Bo P .lss 21 false true v5 (.int .i32 128) (fun v6 s => CondP v6 (Ret P (fun w => K (.tuple #[v5, .int .i64 1]) w) s) (Bo P .sub 3 false true v1 (.int .i64 4) (fun v7 s => Bi P .max #[3, 3] 3 #[false, true] #[v7, .int .i64 0] (fun v8 s => J1 (fun A9 => Bo P .sub 3 false true v3 (.int .i64 1) (fun v11 s => L1 v11 s (fun N12 x13 s => Bo P .geq 3 false false x13 v8 (fun v14 s => CondP v14 (Ix P 9 a0 x13 (fun v15 s => Cl P 90 #[v15] (fun v16 s => CondP v16 (A9 x13 s) (Bo P .sub 3 false true x13 (.int .i64 1) (fun v17 s => N12 v17 s) s)) s) s) (A9 x13 s)) s)) s) (fun x10 s => J1 (fun A18 => Bo P .lss 3 false true x10 (.int .i64 0) (fun v20 s => CondP v20 (A18 (.int .i64 0) s) (A18 x10 s)) s) (fun x19 s => Sl P 9 a0 (some x19) (some v1) none (fun v21 s => Cl P 78 #[v21] (fun v22 s => Ex P v22 0 (fun v23 s => Ex P v22 1 (fun v24 s => Bo P .add 3 false false x19 v24 (fun v25 s => Bo P .neq 3 false false v25 v1 (fun v26 s => CondP v26 (Ret P (fun w => K (.tuple #[.int .i32 65533, .int .i64 1]) w) s) (Ret P (fun w => K (.tuple #[v23, v24]) w) s)) s) s) s) s) s) s))) s) s)) s) s) s) s)) s) s
noncomputable def b80 : Code := Tryd.f80.body.getD .skip
theorem e80 (a0 : Value) (K : Value → World → Prop) : wpc P bmask 51 none b80 (lmOf [.tmp 2, .tmp 3]) (ktOf P 51 [.tmp 2, .tmp 3] K) (frOf [a0]) = D80 a0 K := by kernel_rfl
theorem c80 {a0 w : _} {K : Value → World → Prop} {R : Ending → World → Prop} (h : D80 a0 K ⟨w, []⟩) (hK : ∀ v w', K v w' → R (.returned v) w') : Calls P 80 #[a0] w R :=
  calls_of bodies_ok Tryd.func80 51 [.tmp 2, .tmp 3] (c := b80) (args := [a0]) (K := K) (by kernel_rfl) rfl (e80 a0 K) h hK

/-- unicode/utf8.RuneCountInString -/
def D81 (a0 : Value) (K : Value → World → Prop) (s : St) : Prop :=
  Rg P 9 a0 (fun v1 s => L1 (.int .i64 0) s (fun N2 x3 s => Nx P v1 true 0 (fun v4 s => Ex P v4 0 (fun v5 s => CondP v5 (Bo P .add 3 false true x3 (.int .i64 1) (fun v6 s => N2 v6 s) s) (Ret P (fun w => K x3 w) s)) s) s)) s
noncomputable def b81 : Code := Tryd.f81.body.getD .skip
theorem e81 (a0 : Value) (K : Value → World → Prop) : wpc P bmask 10 none b81 (lmOf [.tmp 2]) (ktOf P 10 [.tmp 2] K) (frOf [a0]) = D81 a0 K := by kernel_rfl
theorem c81 {a0 w : _} {K : Value → World → Prop} {R : Ending → World → Prop} (h : D81 a0 K ⟨w, []⟩) (hK : ∀ v w', K v w' → R (.returned v) w') : Calls P 81 #[a0] w R :=
  calls_of bodies_ok Tryd.func81 10 [.tmp 2] (c := b81) (args := [a0]) (K := K) (by kernel_rfl) rfl (e81 a0 K) h hK

/-- internal/bytealg.Cutover -/
def D84 (a0 : Value) (K : Value → World → Prop) (s : St) : Prop :=
  Bo P .add 3 false true a0 (.int .i64 16) (fun v1 s => Bo P .quo 3 false true v1 (.int .i64 8) (fun v2 s => Ret P (fun w => K v2 w) s) s) s
noncomputable def b84 : Code := Tryd.f84.body.getD .skip
theorem e84 (a0 : Value) (K : Value → World → Prop) : wpc P bmask 6 none b84 (lmOf [.tmp 2]) (ktOf P 6 [.tmp 2] K) (frOf [a0]) = D84 a0 K := by kernel_rfl
theorem c84 {a0 w : _} {K : Value → World → Prop} {R : Ending → World → Prop} (h : D84 a0 K ⟨w, []⟩) (hK : ∀ v w', K v w' → R (.returned v) w') : Calls P 84 #[a0] w R :=
  calls_of bodies_ok Tryd.func84 6 [.tmp 2] (c := b84) (args := [a0]) (K := K) (by kernel_rfl) rfl (e84 a0 K) h hK

/-- internal/bytealg.IndexRabinKarp[string] -/
def D85 (a0 a1 : Value) (K : Value → World → Prop) (s : St) : Prop :=
  Cl P 91 #[a1] (fun v1 s => Ex P v1 0 (fun v2 s => Ex P v1 1 (fun v3 s => Bi P .len #[9] 3 #[false] #[a1] (fun v4 s => L2 (.int .u32 0) (.int .i64 0) s (fun N5 x6 x7 s => Bo P .lss 3 false false x7 v4 (fun v8 s => CondP v8 (Bo P .mul 101 false true x6 (.int .u32 16777619) (fun v9 s => Ix P 9 a0 x7 (fun v10 s => Cv P 5 101 v10 (fun v11 s => Bo P .add 101 false false v9 v11 (fun v12 s => Bo P .add 3 false true x7 (.int .i64 1) (fun v13 s => N5 v12 v13 s) s) s) s) s) s) (Bo P .eql 101 false false x6 v2 (fun v14 s => J1 (fun A15 => Grd v14 true (Sl P 9 a0 none (some v4) none (fun v17 s => Bo P .eql 9 false false v17 a1 (fun v18 s => A15 v18 s) s) s) (A15 undef s)) (fun x16 s => Pk P v14 x16 (.bool false) (fun v19 s => CondP v19 (Ret P (fun w => K (.int .i64 0) w) s) (L2 x6 v4 s (fun N20 x21 x22 s => Bi P .len #[9] 3 #[false] #[a0] (fun v23 s => Bo P .lss 3 false false x22 v23 (fun v24 s => CondP v24 (Bo P .mul 101 false true x21 (.int .u32 16777619) (fun v25 s => Ix P 9 a0 x22 (fun v26 s => Cv P 5 101 v26 (fun v27 s => Bo P .add 101 false false v25 v27 (fun v28 s => Bo P .sub 3 false false x22 v4 (fun v29 s => Ix P 9 a0 v29 (fun v30 s => Cv P 5 101 v30 (fun v31 s => Bo P .mul 101 false false v3 v31 (fun v32 s => Bo P .sub 101 false false v28 v32 (fun v33 s => Bo P .add 3 false true x22 (.int .i64 1) (fun v34 s => Bo P .eql 101 false false v33 v2 (fun v35 s => J1 (fun A36 => Grd v35 true (Bo P .sub 3 false false v34 v4 (fun v38 s => Sl P 9 a0 (some v38) (some v34) none (fun v39 s => Bo P .eql 9 false false v39 a1 (fun v40 s => A36 v40 s) s) s) s) (A36 undef s)) (fun x37 s => Pk P v35 x37 (.bool false) (fun v41 s => CondP v41 (Bo P .sub 3 false false v34 v4 (fun v42 s => Ret P (fun w => K v42 w) s) s) (N20 v33 v34 s)) s)) s) s) s) s) s) s) s) s) s) s) s) (Ret P (fun w => K (.int .i64 (-1)) w) s)) s) s))) s)) s)) s)) s) s) s) s
noncomputable def b85 : Code := Tryd.f85.body.getD .skip
theorem e85 (a0 a1 : Value) (K : Value → World → Prop) : wpc P bmask 81 none b85 (lmOf [.tmp 4]) (ktOf P 81 [.tmp 4] K) (frOf [a0, a1]) = D85 a0 a1 K := by kernel_rfl
theorem c85 {a0 a1 w : _} {K : Value → World → Prop} {R : Ending → World → Prop} (h : D85 a0 a1 K ⟨w, []⟩) (hK : ∀ v w', K v w' → R (.returned v) w') : Calls P 85 #[a0, a1] w R :=
  calls_of bodies_ok Tryd.func85 81 [.tmp 4] (c := b85) (args := [a0, a1]) (K := K) (by kernel_rfl) rfl (e85 a0 a1 K) h hK

/-- unicode/utf8.ValidRune -/
def D86 (a0 : Value) (K : Value → World → Prop) (s : St) : Prop :=
  Bo P .leq 21 true false (.int .i32 0) a0 (fun v1 s => J1 (fun A2 => Grd v1 true (Bo P .lss 21 false true a0 (.int .i32 55296) (fun v4 s => A2 v4 s) s) (A2 undef s)) (fun x3 s => Pk P v1 x3 (.bool false) (fun v5 s => CondP v5 (Ret P (fun w => K (.bool true) w) s) (Bo P .lss 21 true false (.int .i32 57343) a0 (fun v6 s => J1 (fun A7 => Grd v6 true (Bo P .leq 21 false true a0 (.int .i32 1114111) (fun v9 s => A7 v9 s) s) (A7 undef s)) (fun x8 s => Pk P v6 x8 (.bool false) (fun v10 s => CondP v10 (Ret P (fun w => K (.bool true) w) s) (Ret P (fun w => K (.bool false) w) s)) s)) s)) s)) s
noncomputable def b86 : Code := Tryd.f86.body.getD .skip
theorem e86 (a0 : Value) (K : Value → World → Prop) : wpc P bmask 17 none b86 (lmOf [.tmp 2]) (ktOf P 17 [.tmp 2] K) (frOf [a0]) = D86 a0 K := by kernel_rfl
theorem c86 {a0 w : _} {K : Value → World → Prop} {R : Ending → World → Prop} (h : D86 a0 K ⟨w, []⟩) (hK : ∀ v w', K v w' → R (.returned v) w') : Calls P 86 #[a0] w R :=
  calls_of bodies_ok Tryd.func86 17 [.tmp 2] (c := b86) (args := [a0]) (K := K) (by kernel_rfl) rfl (e86 a0 K) h hK

/-- unicode/utf8.decodeRuneInStringSlow -/
def D89 (a0 : Value) (K : Value → World → Prop) (s : St) : Prop :=
  Bi P .len #[9] 3 #[false] #[a0] (fun v1 s => Bo P .lss 3 false true v1 (.int .i64 1) (fun v2 s => CondP v2 (Ret P (fun w => K (.tuple #[.int .i32 65533, .int .i64 0]) w) s) (Ix P 9 a0 (.int .i64 0) (fun v3 s => Ia P 104 (.pointer (some ⟨1, 0, none⟩)) v3 (fun v4 s => Ld P 5 v4 (fun v5 s => Bo P .geq 5 false true v5 (byteV 240) (fun v6 s => CondP v6 (Cv P 5 21 v5 (fun v7 s => Bo P .shl 21 false true v7 (.int .u64 31) (fun v8 s => Bo P .shr 21 false true v8 (.int .u64 31) (fun v9 s => Ix P 9 a0 (.int .i64 0) (fun v10 s => Cv P 5 21 v10 (fun v11 s => Bo P .andNot 21 false false v11 v9 (fun v12 s => Bo P .and 21 true false (.int .i32 65533) v9 (fun v13 s => Bo P .or 21 false false v12 v13 (fun v14 s => Ret P (fun w => K (.tuple #[v14, .int .i64 1]) w) s) s) s) s) s) s) s) s) s) (Bo P .and 5 false true v5 (byteV 7) (fun v15 s => Cv P 5 3 v15 (fun v16 s => Bo P .shr 5 false true v5 (.int .u64 4) (fun v17 s => Ia P 107 (.pointer (some ⟨2, 0, none⟩)) v17 (fun v18 s => Ld P 106 v18 (fun v19 s => Al P 106 (fun v20 s => Sv P 106 v20 v19 (fun _ s => Bo P .lss 3 false false v1 v16 (fun v21 s => CondP v21 (Ret P (fun w => K (.tuple #[.int .i32 65533, .int .i64 1]) w) s) (Ix P 9 a0 (.int .i64 1) (fun v22 s => Fa P 106 v20 0 (fun v23 s => Ld P 5 v23 (fun v24 s => Bo P .lss 5 false false v22 v24 (fun v25 s => J1 (fun A26 => Grd v25 false (Fa P 106 v20 1 (fun v28 s => Ld P 5 v28 (fun v29 s => Bo P .lss 5 false false v29 v22 (fun v30 s => A26 v30 s) s) s) s) (A26 undef s)) (fun x27 s => Pk P v25 (.bool true) x27 (fun v31 s => CondP v31 (Ret P (fun w => K (.tuple #[.int .i32 65533, .int .i64 1]) w) s) (Bo P .leq 3 false true v16 (.int .i64 2) (fun v32 s => CondP v32 (Bo P .and 5 false true v3 (byteV 31) (fun v33 s => Cv P 5 21 v33 (fun v34 s => Bo P .shl 21 false true v34 (.int .u64 6) (fun v35 s => Bo P .and 5 false true v22 (byteV 63) (fun v36 s => Cv P 5 21 v36 (fun v37 s => Bo P .or 21 false false v35 v37 (fun v38 s => Ret P (fun w => K (.tuple #[v38, .int .i64 2]) w) s) s) s) s) s) s) s) (Ix P 9 a0 (.int .i64 2) (fun v39 s => Bo P .lss 5 false true v39 (byteV 128) (fun v40 s => J1 (fun A41 => Grd v40 false (Bo P .lss 5 true false (byteV 191) v39 (fun v43 s => A41 v43 s) s) (A41 undef s)) (fun x42 s => Pk P v40 (.bool true) x42 (fun v44 s => CondP v44 (Ret P (fun w => K (.tuple #[.int .i32 65533, .int .i64 1]) w) s) (Bo P .leq 3 false true v16 (.int .i64 3) (fun v45 s => CondP v45 (Bo P .and 5 false true v3 (byteV 15) (fun v46 s => Cv P 5 21 v46 (fun v47 s => Bo P .shl 21 false true v47 (.int .u64 12) (fun v48 s => Bo P .and 5 false true v22 (byteV 63) (fun v49 s => Cv P 5 21 v49 (fun v50 s => Bo P .shl 21 false true v50 (.int .u64 6) (fun v51 s => Bo P .or 21 false false v48 v51 (fun v52 s => Bo P .and 5 false true v39 (byteV 63) (fun v53 s => Cv P 5 21 v53 (fun v54 s => Bo P .or 21 false false v52 v54 (fun v55 s => Ret P (fun w => K (.tuple #[v55, .int .i64 3]) w) s) s) s) s) s) s) s) s) s) s) s) (Ix P 9 a0 (.int .i64 3) (fun v56 s => Bo P .lss 5 false true v56 (byteV 128) (fun v57 s => J1 (fun A58 => Grd v57 false (Bo P .lss 5 true false (byteV 191) v56 (fun v60 s => A58 v60 s) s) (A58 undef s)) (fun x59 s => Pk P v57 (.bool true) x59 (fun v61 s => CondP v61 (Ret P (fun w => K (.tuple #[.int .i32 65533, .int .i64 1]) w) s) (Bo P .and 5 false true v3 (byteV 7) (fun v62 s => Cv P 5 21 v62 (fun v63 s => Bo P .shl 21 false true v63 (.int .u64 18) (fun v64 s => Bo P .and 5 false true v22 (byteV 63) (fun v65 s => Cv P 5 21 v65 (fun v66 s => Bo P .shl 21 false true v66 (.int .u64 12) (fun v67 s => Bo P .or 21 false false v64 v67 (fun v68 s => Bo P .and 5 false true v39 (byteV 63) (fun v69 s => Cv P 5 21 v69 (fun v70 s => Bo P .shl 21 false true v70 (.int .u64 6) (fun v71 s => Bo P .or 21 false false v68 v71 (fun v72 s => Bo P .and 5 false true v56 (byteV 63) (fun v73 s => Cv P 5 21 v73 (fun v74 s => Bo P .or 21 false false v72 v74 (fun v75 s => Ret P (fun w => K (.tuple #[v75, .int .i64 4]) w) s) s) s) s) s) s) s) s) s) s) s) s) s) s) s)) s)) s) s)) s)) s)) s) s)) s)) s)) s) s) s) s)) s) s) s) s) s) s) s) s)) s) s) s) s)) s) s
noncomputable def b89 : Code := Tryd.f89.body.getD .skip
theorem e89 (a0 : Value) (K : Value → World → Prop) : wpc P bmask 117 none b89 (lmOf [.tmp 2, .tmp 3]) (ktOf P 117 [.tmp 2, .tmp 3] K) (frOf [a0]) = D89 a0 K := by kernel_rfl
theorem c89 {a0 w : _} {K : Value → World → Prop} {R : Ending → World → Prop} (h : D89 a0 K ⟨w, []⟩) (hK : ∀ v w', K v w' → R (.returned v) w') : Calls P 89 #[a0] w R :=
  calls_of bodies_ok Tryd.func89 117 [.tmp 2, .tmp 3] (c := b89) (args := [a0]) (K := K) (by kernel_rfl) rfl (e89 a0 K) h hK

/-- unicode/utf8.RuneStart -/
def D90 (a0 : Value) (K : Value → World → Prop) (s : St) : Prop :=
  Bo P .and 5 false true a0 (byteV 192) (fun v1 s => Bo P .neq 5 false true v1 (byteV 128) (fun v2 s => Ret P (fun w => K v2 w) s) s) s
noncomputable def b90 : Code := Tryd.f90.body.getD .skip
theorem e90 (a0 : Value) (K : Value → World → Prop) : wpc P bmask 6 none b90 (lmOf [.tmp 2]) (ktOf P 6 [.tmp 2] K) (frOf [a0]) = D90 a0 K := by kernel_rfl
theorem c90 {a0 w : _} {K : Value → World → Prop} {R : Ending → World → Prop} (h : D90 a0 K ⟨w, []⟩) (hK : ∀ v w', K v w' → R (.returned v) w') : Calls P 90 #[a0] w R :=
  calls_of bodies_ok Tryd.func90 6 [.tmp 2] (c := b90) (args := [a0]) (K := K) (by kernel_rfl) rfl (e90 a0 K) h hK

/-- internal/bytealg.hashStr[string] -/
def D91 (a0 : Value) (K : Value → World → Prop) (s : St) : Prop :=
  L2 (.int .u32 0) (.int .i64 0) s (fun N1 x2 x3 s => Bi P .len #[9] 3 #[false] #[a0] (fun v4 s => Bo P .lss 3 false false x3 v4 (fun v5 s => CondP v5 (Bo P .mul 101 false true x2 (.int .u32 16777619) (fun v6 s => Ix P 9 a0 x3 (fun v7 s => Cv P 5 101 v7 (fun v8 s => Bo P .add 101 false false v6 v8 (fun v9 s => Bo P .add 3 false true x3 (.int .i64 1) (fun v10 s => N1 v9 v10 s) s) s) s) s) s) (Bi P .len #[9] 3 #[false] #[a0] (fun v11 s => L3 (.int .u32 1) (.int .u32 16777619) v11 s (fun N12 x13 x14 x15 s => Bo P .gtr 3 false true x15 (.int .i64 0) (fun v16 s => CondP v16 (J1 (fun A17 => Bo P .and 3 false true x15 (.int .i64 1) (fun v19 s => Bo P .neq 3 false true v19 (.int .i64 0) (fun v20 s => CondP v20 (Bo P .mul 101 false false x13 x14 (fun v21 s => A17 v21 s) s) (A17 x13 s)) s) s) (fun x18 s => Bo P .mul 101 false false x14 x14 (fun v22 s => Bo P .shr 3 false true x15 (.int .u64 1) (fun v23 s => N12 x18 v22 v23 s) s) s)) (Ret P (fun w => K (.tuple #[x2, x13]) w) s)) s)) s)) s) s)
noncomputable def b91 : Code := Tryd.f91.body.getD .skip
theorem e91 (a0 : Value) (K : Value → World → Prop) : wpc P bmask 39 none b91 (lmOf [.tmp 2, .tmp 3]) (ktOf P 39 [.tmp 2, .tmp 3] K) (frOf [a0]) = D91 a0 K := by kernel_rfl
theorem c91 {a0 w : _} {K : Value → World → Prop} {R : Ending → World → Prop} (h : D91 a0 K ⟨w, []⟩) (hK : ∀ v w', K v w' → R (.returned v) w') : Calls P 91 #[a0] w R :=
  calls_of bodies_ok Tryd.func91 39 [.tmp 2, .tmp 3] (c := b91) (args := [a0]) (K := K) (by kernel_rfl) rfl (e91 a0 K) h hK

/-- gosem.cut.vars -/
def D113 (K : Value → World → Prop) (s : St) : Prop :=
  Bd P 106 #[(0, byteV 128), (1, byteV 191)] (fun v1 s => Bd P 106 #[(0, byteV 160), (1, byteV 191)] (fun v2 s => Bd P 106 #[(0, byteV 128), (1, byteV 159)] (fun v3 s => Bd P 106 #[(0, byteV 144), (1, byteV 191)] (fun v4 s => Bd P 106 #[(0, byteV 128), (1, byteV 143)] (fun v5 s => Bd P 107 #[(0, v1), (1, v2), (2, v3), (3, v4), (4, v5)] (fun v6 s => Sv P 107 (.pointer (some ⟨2, 0, none⟩)) v6 (fun _ s => Ret P (fun w => K (.tuple #[]) w) s) s) s) s) s) s) s) s
noncomputable def b113 : Code := Tryd.f113.body.getD .skip
theorem e113 (K : Value → World → Prop) : wpc P bmask 6 none b113 (lmOf []) (ktOf P 6 [] K) (frOf []) = D113 K := by kernel_rfl
theorem c113 {w : _} {K : Value → World → Prop} {R : Ending → World → Prop} (h : D113 K ⟨w, []⟩) (hK : ∀ v w', K v w' → R (.returned v) w') : Calls P 113 #[] w R :=
  calls_of bodies_ok Tryd.func113 6 [] (c := b113) (args := []) (K := K) (by kernel_rfl) rfl (e113 K) h hK

instance : BodyOf P 37 := ⟨bodies_ok.2 37 (by kernel_rfl)⟩
instance : ExIdx P 77 := ⟨run_callFunc_indexByte Tryd.func77 (by kernel_rfl) (by kernel_rfl) (by kernel_rfl) (by kernel_rfl)⟩
instance : ExNoE P 87 := ⟨run_callFunc_extern Tryd.func87 (by kernel_rfl) (by kernel_rfl) (by kernel_rfl) (by kernel_rfl)⟩
instance : ExMnz P 88 70 5 := ⟨⟨#[3], run_callFunc_extern Tryd.func88 (by kernel_rfl) (by kernel_rfl) (by kernel_rfl) (by kernel_rfl)⟩, Tryd.underlying70⟩
instance : TyU P 3 (.int .i64) := ⟨Tryd.underlying3⟩
instance : TyInf P 3 1 := ⟨⟨_, inf_of Tryd.type3, by kernel_rfl⟩⟩
instance : TyAgg P 3 false := ⟨Tryd.isAgg3⟩
instance : TySize P 3 1 := ⟨Tryd.sizeOf3⟩
instance : TyZ P 3 [.int .i64 0] := ⟨fun w => ⟨_, Tryd.zeroValue3 w, rfl⟩⟩
instance : TyU P 4 (.bool) := ⟨Tryd.underlying4⟩
instance : TyInf P 4 1 := ⟨⟨_, inf_of Tryd.type4, by kernel_rfl⟩⟩
instance : TyAgg P 4 false := ⟨Tryd.isAgg4⟩
instance : TySize P 4 1 := ⟨Tryd.sizeOf4⟩
instance : TyZ P 4 [.bool false] := ⟨fun w => ⟨_, Tryd.zeroValue4 w, rfl⟩⟩
instance : TyU P 5 (.int .u8) := ⟨Tryd.underlying5⟩
instance : TyInf P 5 1 := ⟨⟨_, inf_of Tryd.type5, by kernel_rfl⟩⟩
instance : TyAgg P 5 false := ⟨Tryd.isAgg5⟩
instance : TySize P 5 1 := ⟨Tryd.sizeOf5⟩
instance : TyZ P 5 [byteV 0] := ⟨fun w => ⟨_, Tryd.zeroValue5 w, rfl⟩⟩
instance : TyU P 9 (.string) := ⟨Tryd.underlying9⟩
instance : TyInf P 9 1 := ⟨⟨_, inf_of Tryd.type9, by kernel_rfl⟩⟩
instance : TyAgg P 9 false := ⟨Tryd.isAgg9⟩
instance : TySize P 9 1 := ⟨Tryd.sizeOf9⟩
instance : TyZ P 9 [.string ⟨#[]⟩] := ⟨fun w => ⟨_, Tryd.zeroValue9 w, rfl⟩⟩
instance : TyU P 21 (.int .i32) := ⟨Tryd.underlying21⟩
instance : TyInf P 21 1 := ⟨⟨_, inf_of Tryd.type21, by kernel_rfl⟩⟩
instance : TyAgg P 21 false := ⟨Tryd.isAgg21⟩
instance : TySize P 21 1 := ⟨Tryd.sizeOf21⟩
instance : TyZ P 21 [.int .i32 0] := ⟨fun w => ⟨_, Tryd.zeroValue21 w, rfl⟩⟩
instance : TyU P 33 (.slice 44) := ⟨Tryd.underlying33⟩
instance : TyInf P 33 1 := ⟨⟨_, inf_of Tryd.type33, by kernel_rfl⟩⟩
instance : TyAgg P 33 false := ⟨Tryd.isAgg33⟩
instance : TySize P 33 1 := ⟨Tryd.sizeOf33⟩
instance : TyZ P 33 [.slice none 0 0] := ⟨fun w => ⟨_, Tryd.zeroValue33 w, rfl⟩⟩
instance : TySl P 33 44 2 := ⟨Tryd.t44, .agg #[.string ⟨#[]⟩, .string ⟨#[]⟩], Tryd.underlying33, inf_of Tryd.type44, by kernel_rfl, by kernel_rfl, by kernel_rfl, by decide, by decide⟩
instance : TyU P 34 (.int .i64) := ⟨Tryd.underlying34⟩
instance : TyInf P 34 1 := ⟨⟨_, inf_of Tryd.type34, by kernel_rfl⟩⟩
instance : TyAgg P 34 false := ⟨Tryd.isAgg34⟩
instance : TySize P 34 1 := ⟨Tryd.sizeOf34⟩
instance : TyZ P 34 [.int .i64 0] := ⟨fun w => ⟨_, Tryd.zeroValue34 w, rfl⟩⟩
instance : TyInf P 44 2 := ⟨⟨_, inf_of Tryd.type44, by kernel_rfl⟩⟩
instance : TyAgg P 44 true := ⟨Tryd.isAgg44⟩
instance : TySize P 44 2 := ⟨Tryd.sizeOf44⟩
instance : TyZ P 44 [.string ⟨#[]⟩, .string ⟨#[]⟩] := ⟨fun w => ⟨_, Tryd.zeroValue44 w, rfl⟩⟩
instance : TyEq P 44 [(9, 0), (9, 1)] := ⟨⟨_, Tryd.underlying44, rfl, by decide⟩, Tryd.stoodInHeld44, Tryd.eqGuardType44⟩
instance : TyB P 44 [.string ⟨#[]⟩, .string ⟨#[]⟩] [(0, 1), (1, 1)] := ⟨fun ps => by kernel_rfl⟩
instance : TyFld P 44 0 0 := ⟨fun a w => by simp [Instr.fieldAt, Instr.sureAddr, fieldPlace, Sem.run_bind, Tryd.runUnderlying44, Tryd.sizeOf9]⟩
instance : TyFld P 44 1 1 := ⟨fun a w => by simp [Instr.fieldAt, Instr.sureAddr, fieldPlace, Sem.run_bind, Tryd.runUnderlying44, Tryd.sizeOf9]⟩
instance : TyU P 51 (.slice 9) := ⟨Tryd.underlying51⟩
instance : TyInf P 51 1 := ⟨⟨_, inf_of Tryd.type51, by kernel_rfl⟩⟩
instance : TyAgg P 51 false := ⟨Tryd.isAgg51⟩
instance : TySize P 51 1 := ⟨Tryd.sizeOf51⟩
instance : TyZ P 51 [.slice none 0 0] := ⟨fun w => ⟨_, Tryd.zeroValue51 w, rfl⟩⟩
instance : TySl P 51 9 1 := ⟨Tryd.t9, .string ⟨#[]⟩, Tryd.underlying51, inf_of Tryd.type9, by kernel_rfl, by kernel_rfl, by kernel_rfl, by decide, by decide⟩
instance : TyInf P 58 1 := ⟨⟨_, inf_of Tryd.type58, by kernel_rfl⟩⟩
instance : TyFn P 58 := ⟨⟨_, _, _, Tryd.underlying58⟩⟩
instance : TyAgg P 58 false := ⟨Tryd.isAgg58⟩
instance : TySize P 58 1 := ⟨Tryd.sizeOf58⟩
instance : TyZ P 58 [.nilFunc] := ⟨fun w => ⟨_, Tryd.zeroValue58 w, rfl⟩⟩
instance : TyU P 69 (.pointer 72) := ⟨Tryd.underlying69⟩
instance : TyInf P 69 1 := ⟨⟨_, inf_of Tryd.type69, by kernel_rfl⟩⟩
instance : TyAgg P 69 false := ⟨Tryd.isAgg69⟩
instance : TySize P 69 1 := ⟨Tryd.sizeOf69⟩
instance : TyZ P 69 [.pointer none] := ⟨fun w => ⟨_, Tryd.zeroValue69 w, rfl⟩⟩
instance : TyU P 70 (.slice 5) := ⟨Tryd.underlying70⟩
instance : TyInf P 70 1 := ⟨⟨_, inf_of Tryd.type70, by kernel_rfl⟩⟩
instance : TyAgg P 70 false := ⟨Tryd.isAgg70⟩
instance : TySize P 70 1 := ⟨Tryd.sizeOf70⟩
instance : TyZ P 70 [.slice none 0 0] := ⟨fun w => ⟨_, Tryd.zeroValue70 w, rfl⟩⟩
instance : TySl P 70 5 1 := ⟨Tryd.t5, byteV 0, Tryd.underlying70, inf_of Tryd.type5, by kernel_rfl, by kernel_rfl, by kernel_rfl, by decide, by decide⟩
instance : TyInf P 72 2 := ⟨⟨_, inf_of Tryd.type72, by kernel_rfl⟩⟩
instance : TyLie P 72 2 := ⟨by kernel_rfl⟩
instance : TyAgg P 72 true := ⟨Tryd.isAgg72⟩
instance : TySize P 72 2 := ⟨Tryd.sizeOf72⟩
instance : TyZ P 72 [.pointer none, .slice none 0 0] := ⟨fun w => ⟨_, Tryd.zeroValue72 w, rfl⟩⟩
instance : TyB P 72 [.pointer none, .slice none 0 0] [(0, 1), (1, 1)] := ⟨fun ps => by kernel_rfl⟩
instance : TyFld P 72 0 0 := ⟨fun a w => by simp [Instr.fieldAt, Instr.sureAddr, fieldPlace, Sem.run_bind, Tryd.runUnderlying72, Tryd.sizeOf69]⟩
instance : TyFld P 72 1 1 := ⟨fun a w => by simp [Instr.fieldAt, Instr.sureAddr, fieldPlace, Sem.run_bind, Tryd.runUnderlying72, Tryd.sizeOf70]⟩
instance : TyInf P 83 256 := ⟨⟨_, inf_of Tryd.type83, by kernel_rfl⟩⟩
instance : TyAgg P 83 true := ⟨Tryd.isAgg83⟩
instance : TySize P 83 256 := ⟨Tryd.sizeOf83⟩
instance : TyZ P 83 (List.replicate 256 (.bool false)) := ⟨fun w => ⟨.agg ((List.replicate 256 (.bool false))).toArray, tyz_of (P := P) (t := 83) (i := Tryd.t83) (inf_of Tryd.type83) (by kernel_rfl) w, by kernel_rfl⟩⟩
instance : TyArr P 83 256 4 1 := ⟨Tryd.underlying83, Tryd.sizeOf4⟩
instance : TyU P 87 (.pointer 83) := ⟨Tryd.underlying87⟩
instance : TyInf P 87 1 := ⟨⟨_, inf_of Tryd.type87, by kernel_rfl⟩⟩
instance : TyAgg P 87 false := ⟨Tryd.isAgg87⟩
instance : TySize P 87 1 := ⟨Tryd.sizeOf87⟩
instance : TyZ P 87 [.pointer none] := ⟨fun w => ⟨_, Tryd.zeroValue87 w, rfl⟩⟩
instance : TyU P 91 (.pointer 5) := ⟨Tryd.underlying91⟩
instance : TyInf P 91 1 := ⟨⟨_, inf_of Tryd.type91, by kernel_rfl⟩⟩
instance : TyAgg P 91 false := ⟨Tryd.isAgg91⟩
instance : TySize P 91 1 := ⟨Tryd.sizeOf91⟩
instance : TyZ P 91 [.pointer none] := ⟨fun w => ⟨_, Tryd.zeroValue91 w, rfl⟩⟩
instance : TyU P 96 (.int .u64) := ⟨Tryd.underlying96⟩
instance : TyInf P 96 1 := ⟨⟨_, inf_of Tryd.type96, by kernel_rfl⟩⟩
instance : TyAgg P 96 false := ⟨Tryd.isAgg96⟩
instance : TySize P 96 1 := ⟨Tryd.sizeOf96⟩
instance : TyZ P 96 [.int .u64 0] := ⟨fun w => ⟨_, Tryd.zeroValue96 w, rfl⟩⟩
instance : TyUn P 98 := ⟨Tryd.underlying98⟩
instance : TyInf P 98 1 := ⟨⟨_, inf_of Tryd.type98, by kernel_rfl⟩⟩
instance : TyU P 101 (.int .u32) := ⟨Tryd.underlying101⟩
instance : TyInf P 101 1 := ⟨⟨_, inf_of Tryd.type101, by kernel_rfl⟩⟩
instance : TyAgg P 101 false := ⟨Tryd.isAgg101⟩
instance : TySize P 101 1 := ⟨Tryd.sizeOf101⟩
instance : TyZ P 101 [.int .u32 0] := ⟨fun w => ⟨_, Tryd.zeroValue101 w, rfl⟩⟩
instance : TyInf P 104 256 := ⟨⟨_, inf_of Tryd.type104, by kernel_rfl⟩⟩
instance : TyAgg P 104 true := ⟨Tryd.isAgg104⟩
instance : TySize P 104 256 := ⟨Tryd.sizeOf104⟩
instance : TyZ P 104 (List.replicate 256 (byteV 0)) := ⟨fun w => ⟨.agg ((List.replicate 256 (byteV 0))).toArray, tyz_of (P := P) (t := 104) (i := Tryd.t104) (inf_of Tryd.type104) (by kernel_rfl) w, by kernel_rfl⟩⟩
instance : TyArr P 104 256 5 1 := ⟨Tryd.underlying104, Tryd.sizeOf5⟩
instance : TyInf P 106 2 := ⟨⟨_, inf_of Tryd.type106, by kernel_rfl⟩⟩
instance : TyAgg P 106 true := ⟨Tryd.isAgg106⟩
instance : TySize P 106 2 := ⟨Tryd.sizeOf106⟩
instance : TyZ P 106 [byteV 0, byteV 0] := ⟨fun w => ⟨_, Tryd.zeroValue106 w, rfl⟩⟩
instance : TyEq P 106 [(5, 0), (5, 1)] := ⟨⟨_, Tryd.underlying106, rfl, by decide⟩, Tryd.stoodInHeld106, Tryd.eqGuardType106⟩
instance : TyB P 106 [byteV 0, byteV 0] [(0, 1), (1, 1)] := ⟨fun ps => by kernel_rfl⟩
instance : TyFld P 106 0 0 := ⟨fun a w => by simp [Instr.fieldAt, Instr.sureAddr, fieldPlace, Sem.run_bind, Tryd.runUnderlying106, Tryd.sizeOf5]⟩
instance : TyFld P 106 1 1 := ⟨fun a w => by simp [Instr.fieldAt, Instr.sureAddr, fieldPlace, Sem.run_bind, Tryd.runUnderlying106, Tryd.sizeOf5]⟩
instance : TyInf P 107 32 := ⟨⟨_, inf_of Tryd.type107, by kernel_rfl⟩⟩
instance : TyAgg P 107 true := ⟨Tryd.isAgg107⟩
instance : TySize P 107 32 := ⟨Tryd.sizeOf107⟩
instance : TyZ P 107 [byteV 0, byteV 0, byteV 0, byteV 0, byteV 0, byteV 0, byteV 0, byteV 0, byteV 0, byteV 0, byteV 0, byteV 0, byteV 0, byteV 0, byteV 0, byteV 0, byteV 0, byteV 0, byteV 0, byteV 0, byteV 0, byteV 0, byteV 0, byteV 0, byteV 0, byteV 0, byteV 0, byteV 0, byteV 0, byteV 0, byteV 0, byteV 0] := ⟨fun w => ⟨_, Tryd.zeroValue107 w, rfl⟩⟩
instance : TyArr P 107 16 106 2 := ⟨Tryd.underlying107, Tryd.sizeOf106⟩
end Go.Proofs.YtnkpdifdjgknbaaDoor

