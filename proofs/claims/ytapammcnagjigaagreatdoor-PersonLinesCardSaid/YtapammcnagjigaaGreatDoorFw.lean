import Derived.Test.YtapammcnagjigaaGreatDoorProg
import Derived.Test.YtapammcnagjigaaGreatDoorEng
set_option linter.all false
namespace Go.Proofs.YtapammcnagjigaaGreatDoor
open Go.Vx
noncomputable abbrev P := Tryz.prog
def bmask : Nat := 49039860219115330232585530490245887427061653395648544764
theorem bodies_ok : Bodies P bmask := bodies_of 186 (by decide +kernel) (by kernel_rfl) (by kernel_rfl)

/-- gosem.cut.init -/
def D2 (K : Value → World → Prop) (s : St) : Prop :=
  Dy P (.func (.func 1) #[] #[]) #[] (fun _ s => Ret P (fun w => K (.tuple #[]) w) s) s
noncomputable def b2 : Code := Tryz.f2.body.getD .skip
theorem e2 (K : Value → World → Prop) : wpc P bmask 1 none b2 (lmOf []) (ktOf P 1 [] K) (frOf []) = D2 K := by kernel_rfl
theorem c2 {w : _} {K : Value → World → Prop} {R : Ending → World → Prop} (h : D2 K ⟨w, []⟩) (hK : ∀ v w', K v w' → R (.returned v) w') : Calls P 2 #[] w R :=
  calls_of bodies_ok Tryz.func2 1 [] (c := b2) (args := []) (K := K) (by kernel_rfl) rfl (e2 K) h hK

/-- rollcall/rollcalllaw07.MessageTexts -/
def D3 (a0 : Value) (K : Value → World → Prop) (s : St) : Prop :=
  Bx P 25 a0 (fun v1 s => Cl P 5 #[] (fun v2 s => Uo P .not v2 (fun v3 s => CondP v3 (Ret P (fun w => K (.bool false) w) s) (Ld P 25 v1 (fun v4 s => Cl P 6 #[v4] (fun v5 s => CondP v5 (Ret P (fun w => K (.bool true) w) s) (Ld P 25 v1 (fun v6 s => Cl P 7 #[v6] (fun v7 s => Ld P 25 v1 (fun v8 s => Cl P 8 #[v8] (fun v9 s => Ld P 25 v1 (fun v10 s => Cl P 9 #[v10] (fun v11 s => Bo P .neq 3 false false v11 v7 (fun v12 s => J1 (fun A13 => Grd v12 false (Ld P 25 v1 (fun v15 s => Cl P 10 #[v15] (fun v16 s => Bo P .neq 9 false false v9 v16 (fun v17 s => A13 v17 s) s) s) s) (A13 undef s)) (fun x14 s => Pk P v12 (.bool true) x14 (fun v18 s => J1 (fun A19 => Grd v18 false (Ld P 25 v1 (fun v21 s => Ld P 25 v1 (fun v22 s => Cl P 11 #[v21, v22] (fun v23 s => Uo P .not v23 (fun v24 s => A19 v24 s) s) s) s) s) (A19 undef s)) (fun x20 s => Pk P v18 (.bool true) x20 (fun v25 s => CondP v25 (Ret P (fun w => K (.bool false) w) s) (Cl P 12 #[v9] (fun v26 s => Ex P v26 0 (fun v27 s => Ex P v26 1 (fun v28 s => Al P 25 (fun v29 s => Sv P 25 v29 v27 (fun _ s => Bo P .neq 3 false true v7 (.int .i64 0) (fun v30 s => J1 (fun A31 => Grd v30 false (Bo P .eql 30 false true v28 (.int .i64 0) (fun v33 s => A31 v33 s) s) (A31 undef s)) (fun x32 s => J1 (fun A34 => Grd x32 true (Ld P 25 v29 (fun v36 s => Ld P 25 v1 (fun v37 s => Cl P 13 #[v36, v37] (fun v38 s => A34 v38 s) s) s) s) (A34 undef s)) (fun x35 s => J1 (fun A39 => Grd v30 false (Pk P x32 x35 (.bool false) (fun v41 s => A39 v41 s) s) (A39 undef s)) (fun x40 s => Pk P v30 (.bool true) x40 (fun v42 s => Ret P (fun w => K v42 w) s) s)))) s) s) s) s) s) s)) s)) s)) s) s) s) s) s) s) s)) s) s)) s) s) s
noncomputable def b3 : Code := Tryz.f3.body.getD .skip
theorem e3 (a0 : Value) (K : Value → World → Prop) : wpc P bmask 47 none b3 (lmOf [.tmp 2]) (ktOf P 47 [.tmp 2] K) (frOf [a0]) = D3 a0 K := by kernel_rfl
theorem c3 {a0 w : _} {K : Value → World → Prop} {R : Ending → World → Prop} (h : D3 a0 K ⟨w, []⟩) (hK : ∀ v w', K v w' → R (.returned v) w') : Calls P 3 #[a0] w R :=
  calls_of bodies_ok Tryz.func3 47 [.tmp 2] (c := b3) (args := [a0]) (K := K) (by kernel_rfl) rfl (e3 a0 K) h hK

/-- rollcall/rollcalllaw22.PersonLines -/
def D4 (a0 a1 a2 a3 : Value) (K : Value → World → Prop) (s : St) : Prop :=
  Bx P 36 a0 (fun v1 s => Bx P 38 a1 (fun v2 s => Cl P 14 #[] (fun v3 s => Uo P .not v3 (fun v4 s => CondP v4 (Ret P (fun w => K (.bool false) w) s) (Ld P 36 v1 (fun v5 s => Cl P 15 #[v5] (fun v6 s => J1 (fun A7 => Grd v6 false (Bi P .len #[23] 3 #[false] #[a2] (fun v9 s => Bo P .gtr 3 false true v9 (.int .i64 40) (fun v10 s => A7 v10 s) s) s) (A7 undef s)) (fun x8 s => Pk P v6 (.bool true) x8 (fun v11 s => J1 (fun A12 => Grd v11 false (Bo P .gtr 3 false true a3 (.int .i64 1099511627776) (fun v14 s => A12 v14 s) s) (A12 undef s)) (fun x13 s => Pk P v11 (.bool true) x13 (fun v15 s => J1 (fun A16 => Grd v15 false (Bo P .lss 3 false true a3 (.int .i64 (-1099511627776)) (fun v18 s => A16 v18 s) s) (A16 undef s)) (fun x17 s => Pk P v15 (.bool true) x17 (fun v19 s => J1 (fun A20 => Grd v19 false (Fa P 36 v1 9 (fun v22 s => Ld P 3 v22 (fun v23 s => Bo P .gtr 3 false true v23 (.int .i64 1099511627776) (fun v24 s => A20 v24 s) s) s) s) (A20 undef s)) (fun x21 s => Pk P v19 (.bool true) x21 (fun v25 s => J1 (fun A26 => Grd v25 false (Fa P 36 v1 9 (fun v28 s => Ld P 3 v28 (fun v29 s => Bo P .lss 3 false true v29 (.int .i64 (-1099511627776)) (fun v30 s => A26 v30 s) s) s) s) (A26 undef s)) (fun x27 s => Pk P v25 (.bool true) x27 (fun v31 s => CondP v31 (Ret P (fun w => K (.bool true) w) s) (L1 (.int .i64 0) s (fun N32 x33 s => Bi P .len #[23] 3 #[false] #[a2] (fun v34 s => Bo P .lss 3 false false x33 v34 (fun v35 s => CondP v35 (Ia P 23 a2 x33 (fun v36 s => Ld P 9 v36 (fun v37 s => Bi P .len #[9] 3 #[false] #[v37] (fun v38 s => Bo P .gtr 3 false true v38 (.int .i64 60) (fun v39 s => CondP v39 (Ret P (fun w => K (.bool true) w) s) (Bo P .add 3 false true x33 (.int .i64 1) (fun v40 s => N32 v40 s) s)) s) s) s) s) (J1 (fun A41 => Bi P .len #[23] 3 #[false] #[a2] (fun v43 s => Bo P .gtr 3 false true v43 (.int .i64 0) (fun v44 s => CondP v44 (Ia P 23 a2 (.int .i64 0) (fun v45 s => Ld P 9 v45 (fun v46 s => A41 v46 s) s) s) (A41 (.string ⟨#[]⟩) s)) s) s) (fun x42 s => L1 (.int .i64 0) s (fun N47 x48 s => Bo P .lss 3 false true x48 (.int .i64 2) (fun v49 s => CondP v49 (Dw (fun s => Qt (Ld P 36 v1) s fun v50 => Qt (Ld P 38 v2) s fun v51 => Qt (Bo P .eql 3 false true x48 (.int .i64 1)) s fun v52 => Qt (Ld P 36 v1) s fun v53 => Qt (Ld P 38 v2) s fun v54 => Qt (Bo P .eql 3 false true x48 (.int .i64 1)) s fun v55 => Cl P 16 #[.string ⟨#[105, 114, 99, 46, 120]⟩, .string ⟨#[97, 110, 110]⟩, x42, v50, v51, v52] (fun v56 s => Ck (Ld P 36 v1) v53 s ∧ Ck (Ld P 38 v2) v54 s ∧ Ck (Bo P .eql 3 false true x48 (.int .i64 1)) v55 s ∧ (Cl P 17 #[.string ⟨#[105, 114, 99, 46, 120]⟩, .string ⟨#[97, 110, 110]⟩, x42, v53, v54, v55] (fun v57 s => Qt (Bo P .neq 9 false false v56 v57) s fun v58 => CondP v58 (Ret P (fun w => K (.bool false) w) s) (Bo P .add 3 false true x48 (.int .i64 1) (fun v59 s => N47 v59 s) s)) s)) s) s) (J1 (fun A60 => Dw (fun s => Qt (Ld P 36 v1) s fun v62 => Qt (Ld P 36 v1) s fun v63 => Cl P 20 #[a2] (fun v64 s => Ck (Ld P 36 v1) v62 s ∧ Ck (Ld P 36 v1) v63 s ∧ (Cl P 19 #[.string ⟨#[105, 114, 99, 46, 120]⟩, .string ⟨#[97, 110, 110]⟩, v62, v64, a3] (fun v65 s => Ck (Ld P 36 v1) v63 s ∧ (Cl P 21 #[.string ⟨#[105, 114, 99, 46, 120]⟩, .string ⟨#[97, 110, 110]⟩, v63, a2, a3] (fun v66 s => Cl P 18 #[v65, v66] (fun v67 s => Grd v67 true (Qt (Ld P 36 v1) s fun v68 => Qt (Ld P 36 v1) s fun v69 => Cl P 19 #[.string ⟨#[105, 114, 99, 46, 120]⟩, .string ⟨#[97, 110, 110]⟩, v68, .nilFunc, a3] (fun v70 s => Ck (Ld P 36 v1) v69 s ∧ (Cl P 21 #[.string ⟨#[105, 114, 99, 46, 120]⟩, .string ⟨#[97, 110, 110]⟩, v69, .slice none 0 0, a3] (fun v71 s => Cl P 18 #[v70, v71] (fun v72 s => Qt (Pk P v67 v72 (.bool false)) s fun v73 => Grd v73 true (Qt (Ld P 36 v1) s fun v74 => Qt (Ld P 36 v1) s fun v75 => Cl P 22 #[.string ⟨#[105, 114, 99, 46, 120]⟩, .string ⟨#[97, 110, 110]⟩, v74] (fun v76 s => Ck (Ld P 36 v1) v75 s ∧ (Cl P 23 #[.string ⟨#[105, 114, 99, 46, 120]⟩, .string ⟨#[97, 110, 110]⟩, v75] (fun v77 s => Cl P 18 #[v76, v77] (fun v78 s => Qt (Pk P v73 v78 (.bool false)) s fun v79 => A60 v79 s) s) s)) s) (Qt (Pk P v73 undef (.bool false)) s fun v80 => A60 v80 s)) s) s)) s) (Qt (Pk P v67 undef (.bool false)) s fun v81 => Grd v81 true (Qt (Ld P 36 v1) s fun v82 => Qt (Ld P 36 v1) s fun v83 => Cl P 22 #[.string ⟨#[105, 114, 99, 46, 120]⟩, .string ⟨#[97, 110, 110]⟩, v82] (fun v84 s => Ck (Ld P 36 v1) v83 s ∧ (Cl P 23 #[.string ⟨#[105, 114, 99, 46, 120]⟩, .string ⟨#[97, 110, 110]⟩, v83] (fun v85 s => Cl P 18 #[v84, v85] (fun v86 s => Qt (Pk P v81 v86 (.bool false)) s fun v87 => A60 v87 s) s) s)) s) (Qt (Pk P v81 undef (.bool false)) s fun v88 => A60 v88 s))) s) s)) s)) s) s) (fun x61 s => Ret P (fun w => K x61 w) s))) s)))) s) s))) s)) s)) s)) s)) s)) s) s)) s) s) s) s
noncomputable def b4 : Code := Tryz.f4.body.getD .skip
theorem e4 (a0 a1 a2 a3 : Value) (K : Value → World → Prop) : wpc P bmask 100 none b4 (lmOf [.tmp 8]) (ktOf P 100 [.tmp 8] K) (frOf [a0, a1, a2, a3]) = D4 a0 a1 a2 a3 K := by kernel_rfl
theorem c4 {a0 a1 a2 a3 w : _} {K : Value → World → Prop} {R : Ending → World → Prop} (h : D4 a0 a1 a2 a3 K ⟨w, []⟩) (hK : ∀ v w', K v w' → R (.returned v) w') : Calls P 4 #[a0, a1, a2, a3] w R :=
  calls_of bodies_ok Tryz.func4 100 [.tmp 8] (c := b4) (args := [a0, a1, a2, a3]) (K := K) (by kernel_rfl) rfl (e4 a0 a1 a2 a3 K) h hK










/-- rollcall/rollcalllaw22.awake -/
def D14 (K : Value → World → Prop) (s : St) : Prop :=
  Bd P 36 #[(1, .string ⟨#[97, 110, 110]⟩), (2, .string ⟨#[117]⟩), (3, .string ⟨#[104]⟩), (5, .string ⟨#[120]⟩)] (fun v1 s => Cl P 47 #[v1] (fun v2 s => Bo P .eql 9 false true v2 (.string ⟨#[97, 110, 110, 61, 45, 117, 64, 104]⟩) (fun v3 s => Ret P (fun w => K v3 w) s) s) s) s
noncomputable def b14 : Code := Tryz.f14.body.getD .skip
theorem e14 (K : Value → World → Prop) : wpc P bmask 4 none b14 (lmOf [.tmp 0]) (ktOf P 4 [.tmp 0] K) (frOf []) = D14 K := by kernel_rfl
theorem c14 {w : _} {K : Value → World → Prop} {R : Ending → World → Prop} (h : D14 K ⟨w, []⟩) (hK : ∀ v w', K v w' → R (.returned v) w') : Calls P 14 #[] w R :=
  calls_of bodies_ok Tryz.func14 4 [.tmp 0] (c := b14) (args := []) (K := K) (by kernel_rfl) rfl (e14 K) h hK

/-- rollcall/rollcalllaw22.great -/
def D15 (a0 : Value) (K : Value → World → Prop) (s : St) : Prop :=
  Bx P 36 a0 (fun v1 s => Fa P 36 v1 1 (fun v2 s => Ld P 9 v2 (fun v3 s => Bi P .len #[9] 3 #[false] #[v3] (fun v4 s => Bo P .gtr 3 false true v4 (.int .i64 200) (fun v5 s => J1 (fun A6 => Grd v5 false (Fa P 36 v1 2 (fun v8 s => Ld P 9 v8 (fun v9 s => Bi P .len #[9] 3 #[false] #[v9] (fun v10 s => Bo P .gtr 3 false true v10 (.int .i64 200) (fun v11 s => A6 v11 s) s) s) s) s) (A6 undef s)) (fun x7 s => Pk P v5 (.bool true) x7 (fun v12 s => J1 (fun A13 => Grd v12 false (Fa P 36 v1 3 (fun v15 s => Ld P 9 v15 (fun v16 s => Bi P .len #[9] 3 #[false] #[v16] (fun v17 s => Bo P .gtr 3 false true v17 (.int .i64 200) (fun v18 s => A13 v18 s) s) s) s) s) (A13 undef s)) (fun x14 s => Pk P v12 (.bool true) x14 (fun v19 s => J1 (fun A20 => Grd v19 false (Fa P 36 v1 4 (fun v22 s => Ld P 9 v22 (fun v23 s => Bi P .len #[9] 3 #[false] #[v23] (fun v24 s => Bo P .gtr 3 false true v24 (.int .i64 200) (fun v25 s => A20 v25 s) s) s) s) s) (A20 undef s)) (fun x21 s => Pk P v19 (.bool true) x21 (fun v26 s => J1 (fun A27 => Grd v26 false (Fa P 36 v1 5 (fun v29 s => Ld P 9 v29 (fun v30 s => Bi P .len #[9] 3 #[false] #[v30] (fun v31 s => Bo P .gtr 3 false true v31 (.int .i64 200) (fun v32 s => A27 v32 s) s) s) s) s) (A27 undef s)) (fun x28 s => Pk P v26 (.bool true) x28 (fun v33 s => Ret P (fun w => K v33 w) s) s)) s)) s)) s)) s) s) s) s) s
noncomputable def b15 : Code := Tryz.f15.body.getD .skip
theorem e15 (a0 : Value) (K : Value → World → Prop) : wpc P bmask 31 none b15 (lmOf [.tmp 2]) (ktOf P 31 [.tmp 2] K) (frOf [a0]) = D15 a0 K := by kernel_rfl
theorem c15 {a0 w : _} {K : Value → World → Prop} {R : Ending → World → Prop} (h : D15 a0 K ⟨w, []⟩) (hK : ∀ v w', K v w' → R (.returned v) w') : Calls P 15 #[a0] w R :=
  calls_of bodies_ok Tryz.func15 31 [.tmp 2] (c := b15) (args := [a0]) (K := K) (by kernel_rfl) rfl (e15 a0 K) h hK

/-- rollcall/person.WhoLine -/
def D16 (a0 a1 a2 a3 a4 a5 : Value) (K : Value → World → Prop) (s : St) : Prop :=
  Bx P 36 a3 (fun v1 s => Bx P 38 a4 (fun v2 s => J1 (fun A3 => Fa P 36 v1 5 (fun v5 s => Ld P 9 v5 (fun v6 s => Bo P .neq 9 false true v6 (.string ⟨#[]⟩) (fun v7 s => CondP v7 (A3 (.string ⟨#[71]⟩) s) (A3 (.string ⟨#[72]⟩) s)) s) s) s) (fun x4 s => J1 (fun A8 => Fa P 36 v1 6 (fun v10 s => Ld P 4 v10 (fun v11 s => CondP v11 (Bo P .add 9 false true x4 (.string ⟨#[42]⟩) (fun v12 s => A8 v12 s) s) (A8 x4 s)) s) s) (fun x9 s => Dw (fun s => Qt (Fa P 36 v1 2) s fun v13 => Qt (Ld P 9 v13) s fun v14 => Qt (Fa P 36 v1 3) s fun v15 => Qt (Ld P 9 v15) s fun v16 => Qt (Fa P 36 v1 1) s fun v17 => Qt (Ld P 9 v17) s fun v18 => Qt (Ld P 38 v2) s fun v19 => Qt (Fa P 36 v1 4) s fun v20 => Qt (Ld P 9 v20) s fun v21 => Qt (Bo P .add 9 true false (.string ⟨#[48, 32]⟩) v21) s fun v22 => Cl P 49 #[v19, a5] (fun v23 s => Ck (Fa P 36 v1 2) v13 s ∧ Ck (Ld P 9 v13) v14 s ∧ Ck (Fa P 36 v1 3) v15 s ∧ Ck (Ld P 9 v15) v16 s ∧ Ck (Fa P 36 v1 1) v17 s ∧ Ck (Ld P 9 v17) v18 s ∧ Ck (Fa P 36 v1 4) v20 s ∧ Ck (Ld P 9 v20) v21 s ∧ Ck (Bo P .add 9 true false (.string ⟨#[48, 32]⟩) v21) v22 s ∧ (Qt (Bo P .add 9 false false x9 v23) s fun v24 => Bs P 23 7 #[(0, a2), (1, v14), (2, v16), (3, a0), (4, v18), (5, v24), (6, v22)] (fun v25 s => Cl P 48 #[a0, .int .i64 352, a1, v25] (fun v26 s => Ret P (fun w => K v26 w) s) s) s)) s) s))) s) s
noncomputable def b16 : Code := Tryz.f16.body.getD .skip
theorem e16 (a0 a1 a2 a3 a4 a5 : Value) (K : Value → World → Prop) : wpc P bmask 41 none b16 (lmOf [.tmp 12]) (ktOf P 41 [.tmp 12] K) (frOf [a0, a1, a2, a3, a4, a5]) = D16 a0 a1 a2 a3 a4 a5 K := by kernel_rfl
theorem c16 {a0 a1 a2 a3 a4 a5 w : _} {K : Value → World → Prop} {R : Ending → World → Prop} (h : D16 a0 a1 a2 a3 a4 a5 K ⟨w, []⟩) (hK : ∀ v w', K v w' → R (.returned v) w') : Calls P 16 #[a0, a1, a2, a3, a4, a5] w R :=
  calls_of bodies_ok Tryz.func16 41 [.tmp 12] (c := b16) (args := [a0, a1, a2, a3, a4, a5]) (K := K) (by kernel_rfl) rfl (e16 a0 a1 a2 a3 a4 a5 K) h hK

/-- rollcall/rollcallref22.WhoLine -/
def D17 (a0 a1 a2 a3 a4 a5 : Value) (K : Value → World → Prop) (s : St) : Prop :=
  Bx P 36 a3 (fun v1 s => Bx P 38 a4 (fun v2 s => J1 (fun A3 => Fa P 36 v1 5 (fun v5 s => Ld P 9 v5 (fun v6 s => Bo P .neq 9 false true v6 (.string ⟨#[]⟩) (fun v7 s => CondP v7 (A3 (.string ⟨#[71]⟩) s) (A3 (.string ⟨#[72]⟩) s)) s) s) s) (fun x4 s => J1 (fun A8 => Fa P 36 v1 6 (fun v10 s => Ld P 4 v10 (fun v11 s => CondP v11 (Bo P .add 9 false true x4 (.string ⟨#[42]⟩) (fun v12 s => A8 v12 s) s) (A8 x4 s)) s) s) (fun x9 s => Dw (fun s => Qt (Fa P 36 v1 2) s fun v13 => Qt (Ld P 9 v13) s fun v14 => Qt (Fa P 36 v1 3) s fun v15 => Qt (Ld P 9 v15) s fun v16 => Qt (Fa P 36 v1 1) s fun v17 => Qt (Ld P 9 v17) s fun v18 => Qt (Ld P 38 v2) s fun v19 => Qt (Fa P 36 v1 4) s fun v20 => Qt (Ld P 9 v20) s fun v21 => Qt (Bo P .add 9 true false (.string ⟨#[48, 32]⟩) v21) s fun v22 => Cl P 51 #[v19, a5] (fun v23 s => Ck (Fa P 36 v1 2) v13 s ∧ Ck (Ld P 9 v13) v14 s ∧ Ck (Fa P 36 v1 3) v15 s ∧ Ck (Ld P 9 v15) v16 s ∧ Ck (Fa P 36 v1 1) v17 s ∧ Ck (Ld P 9 v17) v18 s ∧ Ck (Fa P 36 v1 4) v20 s ∧ Ck (Ld P 9 v20) v21 s ∧ Ck (Bo P .add 9 true false (.string ⟨#[48, 32]⟩) v21) v22 s ∧ (Qt (Bo P .add 9 false false x9 v23) s fun v24 => Bs P 23 7 #[(0, a2), (1, v14), (2, v16), (3, a0), (4, v18), (5, v24), (6, v22)] (fun v25 s => Cl P 50 #[a0, .int .i64 352, a1, v25] (fun v26 s => Ret P (fun w => K v26 w) s) s) s)) s) s))) s) s
noncomputable def b17 : Code := Tryz.f17.body.getD .skip
theorem e17 (a0 a1 a2 a3 a4 a5 : Value) (K : Value → World → Prop) : wpc P bmask 41 none b17 (lmOf [.tmp 12]) (ktOf P 41 [.tmp 12] K) (frOf [a0, a1, a2, a3, a4, a5]) = D17 a0 a1 a2 a3 a4 a5 K := by kernel_rfl
theorem c17 {a0 a1 a2 a3 a4 a5 w : _} {K : Value → World → Prop} {R : Ending → World → Prop} (h : D17 a0 a1 a2 a3 a4 a5 K ⟨w, []⟩) (hK : ∀ v w', K v w' → R (.returned v) w') : Calls P 17 #[a0, a1, a2, a3, a4, a5] w R :=
  calls_of bodies_ok Tryz.func17 41 [.tmp 12] (c := b17) (args := [a0, a1, a2, a3, a4, a5]) (K := K) (by kernel_rfl) rfl (e17 a0 a1 a2 a3 a4 a5 K) h hK

/-- rollcall/rollcallref01.Texts -/
def D18 (a0 a1 : Value) (K : Value → World → Prop) (s : St) : Prop :=
  Bi P .len #[23] 3 #[false] #[a0] (fun v1 s => Bi P .len #[23] 3 #[false] #[a1] (fun v2 s => Bo P .neq 3 false false v1 v2 (fun v3 s => CondP v3 (Ret P (fun w => K (.bool false) w) s) (L1 (.int .i64 0) s (fun N4 x5 s => Bi P .len #[23] 3 #[false] #[a0] (fun v6 s => Bo P .lss 3 false false x5 v6 (fun v7 s => CondP v7 (Dw (fun s => Qt (Ia P 23 a0 x5) s fun v8 => Qt (Ld P 9 v8) s fun v9 => Qt (Ia P 23 a1 x5) s fun v10 => Qt (Ld P 9 v10) s fun v11 => Qt (Bo P .neq 9 false false v9 v11) s fun v12 => CondP v12 (Ret P (fun w => K (.bool false) w) s) (Bo P .add 3 false true x5 (.int .i64 1) (fun v13 s => N4 v13 s) s)) s) (Ret P (fun w => K (.bool true) w) s)) s) s))) s) s) s
noncomputable def b18 : Code := Tryz.f18.body.getD .skip
theorem e18 (a0 a1 : Value) (K : Value → World → Prop) : wpc P bmask 26 none b18 (lmOf [.tmp 4]) (ktOf P 26 [.tmp 4] K) (frOf [a0, a1]) = D18 a0 a1 K := by kernel_rfl
theorem c18 {a0 a1 w : _} {K : Value → World → Prop} {R : Ending → World → Prop} (h : D18 a0 a1 K ⟨w, []⟩) (hK : ∀ v w', K v w' → R (.returned v) w') : Calls P 18 #[a0, a1] w R :=
  calls_of bodies_ok Tryz.func18 26 [.tmp 4] (c := b18) (args := [a0, a1]) (K := K) (by kernel_rfl) rfl (e18 a0 a1 K) h hK

/-- rollcall/person.Whois -/
def D19 (a0 a1 a2 a3 a4 : Value) (K : Value → World → Prop) (s : St) : Prop :=
  Bx P 36 a2 (fun v1 s => Fa P 36 v1 1 (fun v2 s => Ld P 9 v2 (fun v3 s => Fa P 36 v1 2 (fun v4 s => Ld P 9 v4 (fun v5 s => Fa P 36 v1 3 (fun v6 s => Ld P 9 v6 (fun v7 s => Fa P 36 v1 4 (fun v8 s => Ld P 9 v8 (fun v9 s => Bs P 23 5 #[(0, v3), (1, v5), (2, v7), (3, .string ⟨#[42]⟩), (4, v9)] (fun v10 s => Cl P 48 #[a0, .int .i64 311, a1, v10] (fun v11 s => Bs P 23 1 #[(0, v11)] (fun v12 s => Al P 23 (fun v13 s => J0 (fun A14 => Bo P .neq 68 false true a3 (.nilFunc) (fun v15 s => CondP v15 (Rf P none 1 a3 (fun l16 as17 R18 s => Bg P l16 (fun s => Ld P 23 v13 (fun v20 s => Bs P 23 1 #[(0, as17.headD undef)] (fun v21 s => Bi P .append #[23, 23] 23 #[false, false] #[v20, v21] (fun v22 s => Sv P 23 v13 v22 (fun _ s => Er P l16 none R18 s) s) s) s) s) s) (fun s => A14 s) (fun s => Ret P (fun w => K (.slice none 0 0) w) s) (fun i19 s => False) s) (A14 s)) s) (fun s => J1 (fun A23 => Ld P 23 v13 (fun v25 s => Bi P .len #[23] 3 #[false] #[v25] (fun v26 s => Bo P .gtr 3 false true v26 (.int .i64 0) (fun v27 s => CondP v27 (J1 (fun A28 => Dw (fun s => Qt (Fa P 36 v1 1) s fun v30 => Qt (Ld P 9 v30) s fun v31 => Qt (Ld P 23 v13) s fun v32 => (Bs P 23 1 #[(0, v31)] (fun v33 s => Ck (Ld P 23 v13) v32 s ∧ (Cl P 53 #[v32] (fun v34 s => Cl P 52 #[a0, .int .i64 319, a1, v33, v34] (fun v35 s => Bi P .append #[23, 23] 23 #[false, false] #[v12, v35] (fun v36 s => A28 v36 s) s) s) s)) s) ∧ (Cl P 53 #[v32] (fun v37 s => Ck (Fa P 36 v1 1) v30 s ∧ Ck (Ld P 9 v30) v31 s ∧ (Bs P 23 1 #[(0, v31)] (fun v38 s => Cl P 52 #[a0, .int .i64 319, a1, v38, v37] (fun v39 s => Bi P .append #[23, 23] 23 #[false, false] #[v12, v39] (fun v40 s => A28 v40 s) s) s) s)) s)) s) (fun x29 s => A23 x29 s)) (A23 v12 s)) s) s) s) (fun x24 s => Fa P 36 v1 1 (fun v41 s => Ld P 9 v41 (fun v42 s => Bs P 23 3 #[(0, v42), (1, a0), (2, .string ⟨#[114, 111, 108, 108, 99, 97, 108, 108]⟩)] (fun v43 s => Cl P 48 #[a0, .int .i64 312, a1, v43] (fun v44 s => Bs P 23 1 #[(0, v44)] (fun v45 s => Bi P .append #[23, 23] 23 #[false, false] #[x24, v45] (fun v46 s => J1 (fun A47 => Fa P 36 v1 5 (fun v49 s => Ld P 9 v49 (fun v50 s => Bo P .neq 9 false true v50 (.string ⟨#[]⟩) (fun v51 s => CondP v51 (Fa P 36 v1 1 (fun v52 s => Ld P 9 v52 (fun v53 s => Fa P 36 v1 5 (fun v54 s => Ld P 9 v54 (fun v55 s => Bs P 23 2 #[(0, v53), (1, v55)] (fun v56 s => Cl P 48 #[a0, .int .i64 301, a1, v56] (fun v57 s => Bs P 23 1 #[(0, v57)] (fun v58 s => Bi P .append #[23, 23] 23 #[false, false] #[v46, v58] (fun v59 s => A47 v59 s) s) s) s) s) s) s) s) s) (A47 v46 s)) s) s) s) (fun x48 s => J1 (fun A60 => Fa P 36 v1 6 (fun v62 s => Ld P 4 v62 (fun v63 s => CondP v63 (Fa P 36 v1 1 (fun v64 s => Ld P 9 v64 (fun v65 s => Bs P 23 2 #[(0, v65), (1, .string ⟨#[105, 115, 32, 97, 110, 32, 73, 82, 67, 32, 111, 112, 101, 114, 97, 116, 111, 114]⟩)] (fun v66 s => Cl P 48 #[a0, .int .i64 313, a1, v66] (fun v67 s => Bs P 23 1 #[(0, v67)] (fun v68 s => Bi P .append #[23, 23] 23 #[false, false] #[x48, v68] (fun v69 s => A60 v69 s) s) s) s) s) s) s) (A60 x48 s)) s) s) (fun x61 s => Dw (fun s => Qt (Fa P 36 v1 1) s fun v70 => Qt (Ld P 9 v70) s fun v71 => Qt (Fa P 36 v1 9) s fun v72 => Qt (Ld P 3 v72) s fun v73 => Qt (Bo P .sub 3 false false a4 v73) s fun v74 => Qt (Fa P 36 v1 8) s fun v75 => Qt (Ld P 3 v75) s fun v76 => Cl P 54 #[v74] (fun v77 s => Ck (Fa P 36 v1 1) v70 s ∧ Ck (Ld P 9 v70) v71 s ∧ Ck (Fa P 36 v1 8) v75 s ∧ Ck (Ld P 3 v75) v76 s ∧ (Cl P 54 #[v76] (fun v78 s => Ck (Fa P 36 v1 1) v70 s ∧ Ck (Ld P 9 v70) v71 s ∧ (Bs P 23 4 #[(0, v71), (1, v77), (2, v78), (3, .string ⟨#[115, 101, 99, 111, 110, 100, 115, 32, 105, 100, 108, 101, 44, 32, 115, 105, 103, 110, 111, 110, 32, 116, 105, 109, 101]⟩)] (fun v79 s => Cl P 48 #[a0, .int .i64 317, a1, v79] (fun v80 s => Bs P 23 1 #[(0, v80)] (fun v81 s => Bi P .append #[23, 23] 23 #[false, false] #[x61, v81] (fun v82 s => Ret P (fun w => K v82 w) s) s) s) s) s)) s)) s) s))) s) s) s) s) s) s))) s) s) s) s) s) s) s) s) s) s) s) s) s
noncomputable def b19 : Code := Tryz.f19.body.getD .skip
theorem e19 (a0 a1 a2 a3 a4 : Value) (K : Value → World → Prop) : wpc P bmask 100 none b19 (lmOf [.tmp 10]) (ktOf P 100 [.tmp 10] K) (frOf [a0, a1, a2, a3, a4]) = D19 a0 a1 a2 a3 a4 K := by kernel_rfl
theorem c19 {a0 a1 a2 a3 a4 w : _} {K : Value → World → Prop} {R : Ending → World → Prop} (h : D19 a0 a1 a2 a3 a4 K ⟨w, []⟩) (hK : ∀ v w', K v w' → R (.returned v) w') : Calls P 19 #[a0, a1, a2, a3, a4] w R :=
  calls_of bodies_ok Tryz.func19 100 [.tmp 10] (c := b19) (args := [a0, a1, a2, a3, a4]) (K := K) (by kernel_rfl) rfl (e19 a0 a1 a2 a3 a4 K) h hK

/-- rollcall/rollcalllaw22.listed -/
def D20 (a0 : Value) (K : Value → World → Prop) (s : St) : Prop :=
  Bx P 23 a0 (fun v1 s => Mf P (.func 55) #[] #[v1] (fun v2 s => Ret P (fun w => K v2 w) s) s) s
noncomputable def b20 : Code := Tryz.f20.body.getD .skip
theorem e20 (a0 : Value) (K : Value → World → Prop) : wpc P bmask 4 none b20 (lmOf [.tmp 2]) (ktOf P 4 [.tmp 2] K) (frOf [a0]) = D20 a0 K := by kernel_rfl
theorem c20 {a0 w : _} {K : Value → World → Prop} {R : Ending → World → Prop} (h : D20 a0 K ⟨w, []⟩) (hK : ∀ v w', K v w' → R (.returned v) w') : Calls P 20 #[a0] w R :=
  calls_of bodies_ok Tryz.func20 4 [.tmp 2] (c := b20) (args := [a0]) (K := K) (by kernel_rfl) rfl (e20 a0 K) h hK

/-- rollcall/rollcallref22.Whois -/
def D21 (a0 a1 a2 a3 a4 : Value) (K : Value → World → Prop) (s : St) : Prop :=
  Bx P 36 a2 (fun v1 s => Fa P 36 v1 1 (fun v2 s => Ld P 9 v2 (fun v3 s => Fa P 36 v1 2 (fun v4 s => Ld P 9 v4 (fun v5 s => Fa P 36 v1 3 (fun v6 s => Ld P 9 v6 (fun v7 s => Fa P 36 v1 4 (fun v8 s => Ld P 9 v8 (fun v9 s => Bs P 23 5 #[(0, v3), (1, v5), (2, v7), (3, .string ⟨#[42]⟩), (4, v9)] (fun v10 s => Cl P 50 #[a0, .int .i64 311, a1, v10] (fun v11 s => Bs P 23 1 #[(0, v11)] (fun v12 s => J1 (fun A13 => Bi P .len #[23] 3 #[false] #[a3] (fun v15 s => Bo P .gtr 3 false true v15 (.int .i64 0) (fun v16 s => CondP v16 (Fa P 36 v1 1 (fun v17 s => Ld P 9 v17 (fun v18 s => Bs P 23 1 #[(0, v18)] (fun v19 s => Cl P 56 #[a0, .int .i64 319, a1, v19, a3] (fun v20 s => Bi P .append #[23, 23] 23 #[false, false] #[v12, v20] (fun v21 s => A13 v21 s) s) s) s) s) s) (A13 v12 s)) s) s) (fun x14 s => Fa P 36 v1 1 (fun v22 s => Ld P 9 v22 (fun v23 s => Bs P 23 3 #[(0, v23), (1, a0), (2, .string ⟨#[114, 111, 108, 108, 99, 97, 108, 108]⟩)] (fun v24 s => Cl P 50 #[a0, .int .i64 312, a1, v24] (fun v25 s => Bs P 23 1 #[(0, v25)] (fun v26 s => Bi P .append #[23, 23] 23 #[false, false] #[x14, v26] (fun v27 s => J1 (fun A28 => Fa P 36 v1 5 (fun v30 s => Ld P 9 v30 (fun v31 s => Bo P .neq 9 false true v31 (.string ⟨#[]⟩) (fun v32 s => CondP v32 (Fa P 36 v1 1 (fun v33 s => Ld P 9 v33 (fun v34 s => Fa P 36 v1 5 (fun v35 s => Ld P 9 v35 (fun v36 s => Bs P 23 2 #[(0, v34), (1, v36)] (fun v37 s => Cl P 50 #[a0, .int .i64 301, a1, v37] (fun v38 s => Bs P 23 1 #[(0, v38)] (fun v39 s => Bi P .append #[23, 23] 23 #[false, false] #[v27, v39] (fun v40 s => A28 v40 s) s) s) s) s) s) s) s) s) (A28 v27 s)) s) s) s) (fun x29 s => J1 (fun A41 => Fa P 36 v1 6 (fun v43 s => Ld P 4 v43 (fun v44 s => CondP v44 (Fa P 36 v1 1 (fun v45 s => Ld P 9 v45 (fun v46 s => Bs P 23 2 #[(0, v46), (1, .string ⟨#[105, 115, 32, 97, 110, 32, 73, 82, 67, 32, 111, 112, 101, 114, 97, 116, 111, 114]⟩)] (fun v47 s => Cl P 50 #[a0, .int .i64 313, a1, v47] (fun v48 s => Bs P 23 1 #[(0, v48)] (fun v49 s => Bi P .append #[23, 23] 23 #[false, false] #[x29, v49] (fun v50 s => A41 v50 s) s) s) s) s) s) s) (A41 x29 s)) s) s) (fun x42 s => Dw (fun s => Qt (Fa P 36 v1 1) s fun v51 => Qt (Ld P 9 v51) s fun v52 => Qt (Fa P 36 v1 9) s fun v53 => Qt (Ld P 3 v53) s fun v54 => Qt (Bo P .sub 3 false false a4 v54) s fun v55 => Qt (Fa P 36 v1 8) s fun v56 => Qt (Ld P 3 v56) s fun v57 => Cl P 57 #[v55] (fun v58 s => Ck (Fa P 36 v1 1) v51 s ∧ Ck (Ld P 9 v51) v52 s ∧ Ck (Fa P 36 v1 8) v56 s ∧ Ck (Ld P 3 v56) v57 s ∧ (Cl P 57 #[v57] (fun v59 s => Ck (Fa P 36 v1 1) v51 s ∧ Ck (Ld P 9 v51) v52 s ∧ (Bs P 23 4 #[(0, v52), (1, v58), (2, v59), (3, .string ⟨#[115, 101, 99, 111, 110, 100, 115, 32, 105, 100, 108, 101, 44, 32, 115, 105, 103, 110, 111, 110, 32, 116, 105, 109, 101]⟩)] (fun v60 s => Cl P 50 #[a0, .int .i64 317, a1, v60] (fun v61 s => Bs P 23 1 #[(0, v61)] (fun v62 s => Bi P .append #[23, 23] 23 #[false, false] #[x42, v62] (fun v63 s => Ret P (fun w => K v63 w) s) s) s) s) s)) s)) s) s))) s) s) s) s) s) s)) s) s) s) s) s) s) s) s) s) s) s) s
noncomputable def b21 : Code := Tryz.f21.body.getD .skip
theorem e21 (a0 a1 a2 a3 a4 : Value) (K : Value → World → Prop) : wpc P bmask 89 none b21 (lmOf [.tmp 10]) (ktOf P 89 [.tmp 10] K) (frOf [a0, a1, a2, a3, a4]) = D21 a0 a1 a2 a3 a4 K := by kernel_rfl
theorem c21 {a0 a1 a2 a3 a4 w : _} {K : Value → World → Prop} {R : Ending → World → Prop} (h : D21 a0 a1 a2 a3 a4 K ⟨w, []⟩) (hK : ∀ v w', K v w' → R (.returned v) w') : Calls P 21 #[a0, a1, a2, a3, a4] w R :=
  calls_of bodies_ok Tryz.func21 89 [.tmp 10] (c := b21) (args := [a0, a1, a2, a3, a4]) (K := K) (by kernel_rfl) rfl (e21 a0 a1 a2 a3 a4 K) h hK

/-- rollcall/person.Whowas -/
def D22 (a0 a1 a2 : Value) (K : Value → World → Prop) (s : St) : Prop :=
  Bx P 36 a2 (fun v1 s => J1 (fun A2 => Dw (fun s => Qt (Fa P 36 v1 1) s fun v4 => Qt (Ld P 9 v4) s fun v5 => Qt (Fa P 36 v1 2) s fun v6 => Qt (Ld P 9 v6) s fun v7 => Qt (Fa P 36 v1 3) s fun v8 => Qt (Ld P 9 v8) s fun v9 => Qt (Fa P 36 v1 4) s fun v10 => Qt (Ld P 9 v10) s fun v11 => Qt (Fa P 36 v1 1) s fun v12 => Qt (Ld P 9 v12) s fun v13 => (Bs P 23 5 #[(0, v5), (1, v7), (2, v9), (3, .string ⟨#[42]⟩), (4, v11)] (fun v14 s => Ck (Fa P 36 v1 1) v12 s ∧ Ck (Ld P 9 v12) v13 s ∧ ((Cl P 48 #[a0, .int .i64 314, a1, v14] (fun v15 s => Ck (Fa P 36 v1 1) v12 s ∧ Ck (Ld P 9 v12) v13 s ∧ (Bs P 23 3 #[(0, v13), (1, a0), (2, .string ⟨#[114, 111, 108, 108, 99, 97, 108, 108]⟩)] (fun v16 s => Cl P 48 #[a0, .int .i64 312, a1, v16] (fun v17 s => Bs P 23 2 #[(0, v15), (1, v17)] (fun v18 s => A2 v18 s) s) s) s)) s) ∧ (Bs P 23 3 #[(0, v13), (1, a0), (2, .string ⟨#[114, 111, 108, 108, 99, 97, 108, 108]⟩)] (fun v19 s => Cl P 48 #[a0, .int .i64 314, a1, v14] (fun v20 s => Cl P 48 #[a0, .int .i64 312, a1, v19] (fun v21 s => Bs P 23 2 #[(0, v20), (1, v21)] (fun v22 s => A2 v22 s) s) s) s) s))) s) ∧ (Bs P 23 3 #[(0, v13), (1, a0), (2, .string ⟨#[114, 111, 108, 108, 99, 97, 108, 108]⟩)] (fun v23 s => Ck (Fa P 36 v1 1) v4 s ∧ Ck (Ld P 9 v4) v5 s ∧ Ck (Fa P 36 v1 2) v6 s ∧ Ck (Ld P 9 v6) v7 s ∧ Ck (Fa P 36 v1 3) v8 s ∧ Ck (Ld P 9 v8) v9 s ∧ Ck (Fa P 36 v1 4) v10 s ∧ Ck (Ld P 9 v10) v11 s ∧ (Bs P 23 5 #[(0, v5), (1, v7), (2, v9), (3, .string ⟨#[42]⟩), (4, v11)] (fun v24 s => Cl P 48 #[a0, .int .i64 314, a1, v24] (fun v25 s => Cl P 48 #[a0, .int .i64 312, a1, v23] (fun v26 s => Bs P 23 2 #[(0, v25), (1, v26)] (fun v27 s => A2 v27 s) s) s) s) s)) s)) s) (fun x3 s => Ret P (fun w => K x3 w) s)) s
noncomputable def b22 : Code := Tryz.f22.body.getD .skip
theorem e22 (a0 a1 a2 : Value) (K : Value → World → Prop) : wpc P bmask 27 none b22 (lmOf [.tmp 6]) (ktOf P 27 [.tmp 6] K) (frOf [a0, a1, a2]) = D22 a0 a1 a2 K := by kernel_rfl
theorem c22 {a0 a1 a2 w : _} {K : Value → World → Prop} {R : Ending → World → Prop} (h : D22 a0 a1 a2 K ⟨w, []⟩) (hK : ∀ v w', K v w' → R (.returned v) w') : Calls P 22 #[a0, a1, a2] w R :=
  calls_of bodies_ok Tryz.func22 27 [.tmp 6] (c := b22) (args := [a0, a1, a2]) (K := K) (by kernel_rfl) rfl (e22 a0 a1 a2 K) h hK

/-- rollcall/rollcallref22.Whowas -/
def D23 (a0 a1 a2 : Value) (K : Value → World → Prop) (s : St) : Prop :=
  Bx P 36 a2 (fun v1 s => J1 (fun A2 => Dw (fun s => Qt (Fa P 36 v1 1) s fun v4 => Qt (Ld P 9 v4) s fun v5 => Qt (Fa P 36 v1 2) s fun v6 => Qt (Ld P 9 v6) s fun v7 => Qt (Fa P 36 v1 3) s fun v8 => Qt (Ld P 9 v8) s fun v9 => Qt (Fa P 36 v1 4) s fun v10 => Qt (Ld P 9 v10) s fun v11 => Qt (Fa P 36 v1 1) s fun v12 => Qt (Ld P 9 v12) s fun v13 => (Bs P 23 5 #[(0, v5), (1, v7), (2, v9), (3, .string ⟨#[42]⟩), (4, v11)] (fun v14 s => Ck (Fa P 36 v1 1) v12 s ∧ Ck (Ld P 9 v12) v13 s ∧ ((Cl P 50 #[a0, .int .i64 314, a1, v14] (fun v15 s => Ck (Fa P 36 v1 1) v12 s ∧ Ck (Ld P 9 v12) v13 s ∧ (Bs P 23 3 #[(0, v13), (1, a0), (2, .string ⟨#[114, 111, 108, 108, 99, 97, 108, 108]⟩)] (fun v16 s => Cl P 50 #[a0, .int .i64 312, a1, v16] (fun v17 s => Bs P 23 2 #[(0, v15), (1, v17)] (fun v18 s => A2 v18 s) s) s) s)) s) ∧ (Bs P 23 3 #[(0, v13), (1, a0), (2, .string ⟨#[114, 111, 108, 108, 99, 97, 108, 108]⟩)] (fun v19 s => Cl P 50 #[a0, .int .i64 314, a1, v14] (fun v20 s => Cl P 50 #[a0, .int .i64 312, a1, v19] (fun v21 s => Bs P 23 2 #[(0, v20), (1, v21)] (fun v22 s => A2 v22 s) s) s) s) s))) s) ∧ (Bs P 23 3 #[(0, v13), (1, a0), (2, .string ⟨#[114, 111, 108, 108, 99, 97, 108, 108]⟩)] (fun v23 s => Ck (Fa P 36 v1 1) v4 s ∧ Ck (Ld P 9 v4) v5 s ∧ Ck (Fa P 36 v1 2) v6 s ∧ Ck (Ld P 9 v6) v7 s ∧ Ck (Fa P 36 v1 3) v8 s ∧ Ck (Ld P 9 v8) v9 s ∧ Ck (Fa P 36 v1 4) v10 s ∧ Ck (Ld P 9 v10) v11 s ∧ (Bs P 23 5 #[(0, v5), (1, v7), (2, v9), (3, .string ⟨#[42]⟩), (4, v11)] (fun v24 s => Cl P 50 #[a0, .int .i64 314, a1, v24] (fun v25 s => Cl P 50 #[a0, .int .i64 312, a1, v23] (fun v26 s => Bs P 23 2 #[(0, v25), (1, v26)] (fun v27 s => A2 v27 s) s) s) s) s)) s)) s) (fun x3 s => Ret P (fun w => K x3 w) s)) s
noncomputable def b23 : Code := Tryz.f23.body.getD .skip
theorem e23 (a0 a1 a2 : Value) (K : Value → World → Prop) : wpc P bmask 27 none b23 (lmOf [.tmp 6]) (ktOf P 27 [.tmp 6] K) (frOf [a0, a1, a2]) = D23 a0 a1 a2 K := by kernel_rfl
theorem c23 {a0 a1 a2 w : _} {K : Value → World → Prop} {R : Ending → World → Prop} (h : D23 a0 a1 a2 K ⟨w, []⟩) (hK : ∀ v w', K v w' → R (.returned v) w') : Calls P 23 #[a0, a1, a2] w R :=
  calls_of bodies_ok Tryz.func23 27 [.tmp 6] (c := b23) (args := [a0, a1, a2]) (K := K) (by kernel_rfl) rfl (e23 a0 a1 a2 K) h hK

/-- rollcall/rollcallref06.Check -/
def D24 (a0 : Value) (K : Value → World → Prop) (s : St) : Prop :=
  Bi P .len #[22] 3 #[false] #[a0] (fun v1 s => Bo P .eql 3 false true v1 (.int .i64 0) (fun v2 s => CondP v2 (Ret P (fun w => K (.int .i64 9) w) s) (L1 (.int .i64 0) s (fun N3 x4 s => Bi P .len #[22] 3 #[false] #[a0] (fun v5 s => Bo P .lss 3 false false x4 v5 (fun v6 s => CondP v6 (Ia P 22 a0 x4 (fun v7 s => Fa P 49 v7 0 (fun v8 s => Ld P 9 v8 (fun v9 s => Cl P 58 #[v9] (fun v10 s => Bo P .neq 3 false true v10 (.int .i64 0) (fun v11 s => CondP v11 (Ret P (fun w => K v10 w) s) (L1 (.int .i64 0) s (fun N12 x13 s => Ia P 22 a0 x4 (fun v14 s => Fa P 49 v14 1 (fun v15 s => Ld P 9 v15 (fun v16 s => Bi P .len #[9] 3 #[false] #[v16] (fun v17 s => Bo P .lss 3 false false x13 v17 (fun v18 s => CondP v18 (Ia P 22 a0 x4 (fun v19 s => Fa P 49 v19 1 (fun v20 s => Ld P 9 v20 (fun v21 s => Ix P 9 v21 x13 (fun v22 s => Bo P .eql 5 false true v22 (byteV 0) (fun v23 s => CondP v23 (Ret P (fun w => K (.int .i64 10) w) s) (Bo P .add 3 false true x13 (.int .i64 1) (fun v24 s => N12 v24 s) s)) s) s) s) s) s) (Dw (fun s => Qt (Sl P 22 a0 none (some x4) none) s fun v25 => Qt (Ia P 22 a0 x4) s fun v26 => Qt (Fa P 49 v26 0) s fun v27 => Qt (Ld P 9 v27) s fun v28 => Cl P 59 #[v25, v28] (fun v29 s => Qt (Bo P .geq 3 false true v29 (.int .i64 0)) s fun v30 => CondP v30 (Ret P (fun w => K (.int .i64 6) w) s) (Bo P .add 3 false true x4 (.int .i64 1) (fun v31 s => N3 v31 s) s)) s) s)) s) s) s) s) s))) s) s) s) s) s) (Bi P .len #[22] 3 #[false] #[a0] (fun v32 s => Bo P .gtr 3 false true v32 (.int .i64 16) (fun v33 s => CondP v33 (Ret P (fun w => K (.int .i64 7) w) s) (Ret P (fun w => K (.int .i64 0) w) s)) s) s)) s) s))) s) s
noncomputable def b24 : Code := Tryz.f24.body.getD .skip
theorem e24 (a0 : Value) (K : Value → World → Prop) : wpc P bmask 55 none b24 (lmOf [.tmp 2]) (ktOf P 55 [.tmp 2] K) (frOf [a0]) = D24 a0 K := by kernel_rfl
theorem c24 {a0 w : _} {K : Value → World → Prop} {R : Ending → World → Prop} (h : D24 a0 K ⟨w, []⟩) (hK : ∀ v w', K v w' → R (.returned v) w') : Calls P 24 #[a0] w R :=
  calls_of bodies_ok Tryz.func24 55 [.tmp 2] (c := b24) (args := [a0]) (K := K) (by kernel_rfl) rfl (e24 a0 K) h hK


/-- rollcall/rollcallref07.has -/
def D26 (a0 a1 : Value) (K : Value → World → Prop) (s : St) : Prop :=
  L1 (.int .i64 0) s (fun N1 x2 s => Bi P .len #[9] 3 #[false] #[a0] (fun v3 s => Bo P .lss 3 false false x2 v3 (fun v4 s => CondP v4 (Ix P 9 a0 x2 (fun v5 s => Bo P .eql 5 false false v5 a1 (fun v6 s => CondP v6 (Ret P (fun w => K (.bool true) w) s) (Bo P .add 3 false true x2 (.int .i64 1) (fun v7 s => N1 v7 s) s)) s) s) (Ret P (fun w => K (.bool false) w) s)) s) s)
noncomputable def b26 : Code := Tryz.f26.body.getD .skip
theorem e26 (a0 a1 : Value) (K : Value → World → Prop) : wpc P bmask 17 none b26 (lmOf [.tmp 4]) (ktOf P 17 [.tmp 4] K) (frOf [a0, a1]) = D26 a0 a1 K := by kernel_rfl
theorem c26 {a0 a1 w : _} {K : Value → World → Prop} {R : Ending → World → Prop} (h : D26 a0 a1 K ⟨w, []⟩) (hK : ∀ v w', K v w' → R (.returned v) w') : Calls P 26 #[a0, a1] w R :=
  calls_of bodies_ok Tryz.func26 17 [.tmp 4] (c := b26) (args := [a0, a1]) (K := K) (by kernel_rfl) rfl (e26 a0 a1 K) h hK

/-- rollcall/rollcallref07.Command -/
def D27 (a0 : Value) (K : Value → World → Prop) (s : St) : Prop :=
  Bi P .len #[9] 3 #[false] #[a0] (fun v1 s => Bo P .gtr 3 false true v1 (.int .i64 0) (fun v2 s => Bi P .len #[9] 3 #[false] #[a0] (fun v3 s => Bo P .eql 3 false true v3 (.int .i64 3) (fun v4 s => L3 v2 v4 (.int .i64 0) s (fun N5 x6 x7 x8 s => Bi P .len #[9] 3 #[false] #[a0] (fun v9 s => Bo P .lss 3 false false x8 v9 (fun v10 s => CondP v10 (J1 (fun A11 => Grd x6 true (Ix P 9 a0 x8 (fun v13 s => Cl P 61 #[v13] (fun v14 s => A11 v14 s) s) s) (A11 undef s)) (fun x12 s => Pk P x6 x12 (.bool false) (fun v15 s => J1 (fun A16 => Grd x7 true (Ix P 9 a0 x8 (fun v18 s => Cl P 62 #[v18] (fun v19 s => A16 v19 s) s) s) (A16 undef s)) (fun x17 s => Pk P x7 x17 (.bool false) (fun v20 s => Bo P .add 3 false true x8 (.int .i64 1) (fun v21 s => N5 v15 v20 v21 s) s) s)) s)) (J1 (fun A22 => Grd x6 false (A22 x7 s) (A22 undef s)) (fun x23 s => Pk P x6 (.bool true) x23 (fun v24 s => Ret P (fun w => K v24 w) s) s))) s) s)) s) s) s) s
noncomputable def b27 : Code := Tryz.f27.body.getD .skip
theorem e27 (a0 : Value) (K : Value → World → Prop) : wpc P bmask 36 none b27 (lmOf [.tmp 2]) (ktOf P 36 [.tmp 2] K) (frOf [a0]) = D27 a0 K := by kernel_rfl
theorem c27 {a0 w : _} {K : Value → World → Prop} {R : Ending → World → Prop} (h : D27 a0 K ⟨w, []⟩) (hK : ∀ v w', K v w' → R (.returned v) w') : Calls P 27 #[a0] w R :=
  calls_of bodies_ok Tryz.func27 36 [.tmp 2] (c := b27) (args := [a0]) (K := K) (by kernel_rfl) rfl (e27 a0 K) h hK

/-- rollcall/rollcallref07.Capitals -/
def D28 (a0 : Value) (K : Value → World → Prop) (s : St) : Prop :=
  L2 (.string ⟨#[]⟩) (.int .i64 0) s (fun N1 x2 x3 s => Bi P .len #[9] 3 #[false] #[a0] (fun v4 s => Bo P .lss 3 false false x3 v4 (fun v5 s => CondP v5 (Ix P 9 a0 x3 (fun v6 s => J1 (fun A7 => Bo P .geq 5 false true v6 (byteV 97) (fun v9 s => J1 (fun A10 => Grd v9 true (Bo P .leq 5 false true v6 (byteV 122) (fun v12 s => A10 v12 s) s) (A10 undef s)) (fun x11 s => Pk P v9 x11 (.bool false) (fun v13 s => CondP v13 (Bo P .sub 5 false true v6 (byteV 32) (fun v14 s => A7 v14 s) s) (A7 v6 s)) s)) s) (fun x8 s => Bs P 76 1 #[(0, x8)] (fun v15 s => Cv P 76 9 v15 (fun v16 s => Bo P .add 9 false false x2 v16 (fun v17 s => Bo P .add 3 false true x3 (.int .i64 1) (fun v18 s => N1 v17 v18 s) s) s) s) s)) s) (Ret P (fun w => K x2 w) s)) s) s)
noncomputable def b28 : Code := Tryz.f28.body.getD .skip
theorem e28 (a0 : Value) (K : Value → World → Prop) : wpc P bmask 29 none b28 (lmOf [.tmp 2]) (ktOf P 29 [.tmp 2] K) (frOf [a0]) = D28 a0 K := by kernel_rfl
theorem c28 {a0 w : _} {K : Value → World → Prop} {R : Ending → World → Prop} (h : D28 a0 K ⟨w, []⟩) (hK : ∀ v w', K v w' → R (.returned v) w') : Calls P 28 #[a0] w R :=
  calls_of bodies_ok Tryz.func28 29 [.tmp 2] (c := b28) (args := [a0]) (K := K) (by kernel_rfl) rfl (e28 a0 K) h hK

/-- rollcall/rollcallref07.plain -/
def D29 (a0 : Value) (K : Value → World → Prop) (s : St) : Prop :=
  Bx P 25 a0 (fun v1 s => J1 (fun A2 => Fa P 25 v1 0 (fun v4 s => Ld P 22 v4 (fun v5 s => Bi P .len #[22] 3 #[false] #[v5] (fun v6 s => Bo P .gtr 3 false true v6 (.int .i64 0) (fun v7 s => CondP v7 (Fa P 25 v1 0 (fun v8 s => Ld P 22 v8 (fun v9 s => Cl P 63 #[v9] (fun v10 s => Bo P .add 9 true false (.string ⟨#[64]⟩) v10 (fun v11 s => Bo P .add 9 false true v11 (.string ⟨#[32]⟩) (fun v12 s => A2 v12 s) s) s) s) s) s) (A2 (.string ⟨#[]⟩) s)) s) s) s) s) (fun x3 s => J1 (fun A13 => Fa P 25 v1 1 (fun v15 s => Ld P 9 v15 (fun v16 s => Bo P .neq 9 false true v16 (.string ⟨#[]⟩) (fun v17 s => CondP v17 (Bo P .add 9 false true x3 (.string ⟨#[58]⟩) (fun v18 s => Fa P 25 v1 1 (fun v19 s => Ld P 9 v19 (fun v20 s => Bo P .add 9 false false v18 v20 (fun v21 s => Bo P .add 9 false true v21 (.string ⟨#[32]⟩) (fun v22 s => A13 v22 s) s) s) s) s) s) (A13 x3 s)) s) s) s) (fun x14 s => Fa P 25 v1 2 (fun v23 s => Ld P 9 v23 (fun v24 s => Bo P .add 9 false false x14 v24 (fun v25 s => L2 v25 (.int .i64 0) s (fun N26 x27 x28 s => Fa P 25 v1 3 (fun v29 s => Ld P 23 v29 (fun v30 s => Bi P .len #[23] 3 #[false] #[v30] (fun v31 s => Bo P .lss 3 false false x28 v31 (fun v32 s => CondP v32 (Fa P 25 v1 3 (fun v33 s => Ld P 23 v33 (fun v34 s => Ia P 23 v34 x28 (fun v35 s => Ld P 9 v35 (fun v36 s => J1 (fun A37 => Fa P 25 v1 3 (fun v39 s => Ld P 23 v39 (fun v40 s => Bi P .len #[23] 3 #[false] #[v40] (fun v41 s => Bo P .sub 3 false true v41 (.int .i64 1) (fun v42 s => Bo P .eql 3 false false x28 v42 (fun v43 s => J1 (fun A44 => Grd v43 true (Bo P .eql 9 false true v36 (.string ⟨#[]⟩) (fun v46 s => A44 v46 s) s) (A44 undef s)) (fun x45 s => J1 (fun A47 => Grd x45 false (Ix P 9 v36 (.int .i64 0) (fun v49 s => Bo P .eql 5 false true v49 (byteV 58) (fun v50 s => A47 v50 s) s) s) (A47 undef s)) (fun x48 s => J1 (fun A51 => Grd v43 true (Pk P x45 (.bool true) x48 (fun v53 s => A51 v53 s) s) (A51 undef s)) (fun x52 s => J1 (fun A54 => Grd x52 false (Cl P 26 #[v36, byteV 32] (fun v56 s => A54 v56 s) s) (A54 undef s)) (fun x55 s => J1 (fun A57 => Grd v43 true (Pk P x52 (.bool true) x55 (fun v59 s => A57 v59 s) s) (A57 undef s)) (fun x58 s => Pk P v43 x58 (.bool false) (fun v60 s => CondP v60 (Bo P .add 9 true false (.string ⟨#[58]⟩) v36 (fun v61 s => A37 v61 s) s) (A37 v36 s)) s)))))) s) s) s) s) s) (fun x38 s => Bo P .add 9 false true x27 (.string ⟨#[32]⟩) (fun v62 s => Bo P .add 9 false false v62 x38 (fun v63 s => Bo P .add 3 false true x28 (.int .i64 1) (fun v64 s => N26 v63 v64 s) s) s) s)) s) s) s) s) (Ret P (fun w => K x27 w) s)) s) s) s) s)) s) s) s))) s
noncomputable def b29 : Code := Tryz.f29.body.getD .skip
theorem e29 (a0 : Value) (K : Value → World → Prop) : wpc P bmask 66 none b29 (lmOf [.tmp 2]) (ktOf P 66 [.tmp 2] K) (frOf [a0]) = D29 a0 K := by kernel_rfl
theorem c29 {a0 w : _} {K : Value → World → Prop} {R : Ending → World → Prop} (h : D29 a0 K ⟨w, []⟩) (hK : ∀ v w', K v w' → R (.returned v) w') : Calls P 29 #[a0] w R :=
  calls_of bodies_ok Tryz.func29 66 [.tmp 2] (c := b29) (args := [a0]) (K := K) (by kernel_rfl) rfl (e29 a0 K) h hK

/-- rollcall/message.text -/
def D30 (a0 : Value) (K : Value → World → Prop) (s : St) : Prop :=
  Bx P 25 a0 (fun v1 s => Al P 80 (fun v2 s => J0 (fun A3 => Fa P 25 v1 0 (fun v4 s => Ld P 22 v4 (fun v5 s => Bi P .len #[22] 3 #[false] #[v5] (fun v6 s => Bo P .gtr 3 false true v6 (.int .i64 0) (fun v7 s => CondP v7 (Fa P 25 v1 0 (fun v8 s => Ld P 22 v8 (fun v9 s => Cl P 65 #[v9] (fun v10 s => Bo P .add 9 true false (.string ⟨#[64]⟩) v10 (fun v11 s => Bo P .add 9 false true v11 (.string ⟨#[32]⟩) (fun v12 s => Cl P 64 #[v2, v12] (fun _ s => A3 s) s) s) s) s) s) s) (A3 s)) s) s) s) s) (fun s => J0 (fun A14 => Fa P 25 v1 1 (fun v15 s => Ld P 9 v15 (fun v16 s => Bo P .neq 9 false true v16 (.string ⟨#[]⟩) (fun v17 s => CondP v17 (Fa P 25 v1 1 (fun v18 s => Ld P 9 v18 (fun v19 s => Bo P .add 9 true false (.string ⟨#[58]⟩) v19 (fun v20 s => Bo P .add 9 false true v20 (.string ⟨#[32]⟩) (fun v21 s => Cl P 64 #[v2, v21] (fun _ s => A14 s) s) s) s) s) s) (A14 s)) s) s) s) (fun s => Fa P 25 v1 2 (fun v23 s => Ld P 9 v23 (fun v24 s => Cl P 64 #[v2, v24] (fun _ s => Fa P 25 v1 3 (fun v26 s => Ld P 23 v26 (fun v27 s => Bi P .len #[23] 3 #[false] #[v27] (fun v28 s => L1 (.int .i64 0) s (fun N29 x30 s => Bo P .lss 3 false false x30 v28 (fun v31 s => CondP v31 (Ia P 23 v27 x30 (fun v32 s => Ld P 9 v32 (fun v33 s => Cl P 66 #[v2, byteV 32] (fun _ s => J0 (fun A35 => Fa P 25 v1 3 (fun v36 s => Ld P 23 v36 (fun v37 s => Bi P .len #[23] 3 #[false] #[v37] (fun v38 s => Bo P .sub 3 false true v38 (.int .i64 1) (fun v39 s => Bo P .eql 3 false false x30 v39 (fun v40 s => J1 (fun A41 => Grd v40 true (Cl P 39 #[v33] (fun v43 s => A41 v43 s) s) (A41 undef s)) (fun x42 s => Pk P v40 x42 (.bool false) (fun v44 s => CondP v44 (Cl P 66 #[v2, byteV 58] (fun _ s => A35 s) s) (A35 s)) s)) s) s) s) s) s) (fun s => Cl P 64 #[v2, v33] (fun _ s => Bo P .add 3 false true x30 (.int .i64 1) (fun v47 s => N29 v47 s) s) s)) s) s) s) (Cl P 67 #[v2] (fun v48 s => Ret P (fun w => K v48 w) s) s)) s)) s) s) s) s) s) s))) s) s
noncomputable def b30 : Code := Tryz.f30.body.getD .skip
theorem e30 (a0 : Value) (K : Value → World → Prop) : wpc P bmask 51 none b30 (lmOf [.tmp 2]) (ktOf P 51 [.tmp 2] K) (frOf [a0]) = D30 a0 K := by kernel_rfl
theorem c30 {a0 w : _} {K : Value → World → Prop} {R : Ending → World → Prop} (h : D30 a0 K ⟨w, []⟩) (hK : ∀ v w', K v w' → R (.returned v) w') : Calls P 30 #[a0] w R :=
  calls_of bodies_ok Tryz.func30 51 [.tmp 2] (c := b30) (args := [a0]) (K := K) (by kernel_rfl) rfl (e30 a0 K) h hK

/-- rollcall/tags.Check -/
def D31 (a0 : Value) (K : Value → World → Prop) (s : St) : Prop :=
  Bi P .len #[22] 3 #[false] #[a0] (fun v1 s => Bo P .eql 3 false true v1 (.int .i64 0) (fun v2 s => CondP v2 (Ret P (fun w => K (.int .i64 9) w) s) (Bi P .len #[22] 3 #[false] #[a0] (fun v3 s => L1 (.int .i64 0) s (fun N4 x5 s => Bo P .lss 3 false false x5 v3 (fun v6 s => CondP v6 (Ia P 22 a0 x5 (fun v7 s => Ld P 49 v7 (fun v8 s => Al P 49 (fun v9 s => Sv P 49 v9 v8 (fun _ s => Fa P 49 v9 0 (fun v10 s => Ld P 9 v10 (fun v11 s => Cl P 68 #[v11] (fun v12 s => Bo P .neq 30 false true v12 (.int .i64 0) (fun v13 s => CondP v13 (Ret P (fun w => K v12 w) s) (Fa P 49 v9 1 (fun v14 s => Ld P 9 v14 (fun v15 s => Cl P 69 #[v15, byteV 0] (fun v16 s => Bo P .geq 3 false true v16 (.int .i64 0) (fun v17 s => CondP v17 (Ret P (fun w => K (.int .i64 10) w) s) (Dw (fun s => Qt (Sl P 22 a0 none (some x5) none) s fun v18 => Qt (Fa P 49 v9 0) s fun v19 => Qt (Ld P 9 v19) s fun v20 => Cl P 70 #[v18, v20] (fun v21 s => Qt (Ex P v21 0) s fun v22 => Qt (Ex P v21 1) s fun v23 => CondP v23 (Ret P (fun w => K (.int .i64 6) w) s) (Bo P .add 3 false true x5 (.int .i64 1) (fun v24 s => N4 v24 s) s)) s) s)) s) s) s) s)) s) s) s) s) s) s) s) s) (Bi P .len #[22] 3 #[false] #[a0] (fun v25 s => Bo P .gtr 3 false true v25 (.int .i64 16) (fun v26 s => CondP v26 (Ret P (fun w => K (.int .i64 7) w) s) (Ret P (fun w => K (.int .i64 0) w) s)) s) s)) s)) s)) s) s
noncomputable def b31 : Code := Tryz.f31.body.getD .skip
theorem e31 (a0 : Value) (K : Value → World → Prop) : wpc P bmask 42 none b31 (lmOf [.tmp 2]) (ktOf P 42 [.tmp 2] K) (frOf [a0]) = D31 a0 K := by kernel_rfl
theorem c31 {a0 w : _} {K : Value → World → Prop} {R : Ending → World → Prop} (h : D31 a0 K ⟨w, []⟩) (hK : ∀ v w', K v w' → R (.returned v) w') : Calls P 31 #[a0] w R :=
  calls_of bodies_ok Tryz.func31 42 [.tmp 2] (c := b31) (args := [a0]) (K := K) (by kernel_rfl) rfl (e31 a0 K) h hK


/-- strings.Contains -/
def D33 (a0 a1 : Value) (K : Value → World → Prop) (s : St) : Prop :=
  Cl P 72 #[a0, a1] (fun v1 s => Bo P .geq 3 false true v1 (.int .i64 0) (fun v2 s => Ret P (fun w => K v2 w) s) s) s
noncomputable def b33 : Code := Tryz.f33.body.getD .skip
theorem e33 (a0 a1 : Value) (K : Value → World → Prop) : wpc P bmask 9 none b33 (lmOf [.tmp 4]) (ktOf P 9 [.tmp 4] K) (frOf [a0, a1]) = D33 a0 a1 K := by kernel_rfl
theorem c33 {a0 a1 w : _} {K : Value → World → Prop} {R : Ending → World → Prop} (h : D33 a0 a1 K ⟨w, []⟩) (hK : ∀ v w', K v w' → R (.returned v) w') : Calls P 33 #[a0, a1] w R :=
  calls_of bodies_ok Tryz.func33 9 [.tmp 4] (c := b33) (args := [a0, a1]) (K := K) (by kernel_rfl) rfl (e33 a0 a1 K) h hK


/-- rollcall/message.Check$1 -/
def D35 (a0 : Value) (K : Value → World → Prop) (s : St) : Prop :=
  Cl P 32 #[a0] (fun v1 s => Uo P .not v1 (fun v2 s => Ret P (fun w => K v2 w) s) s) s
noncomputable def b35 : Code := Tryz.f35.body.getD .skip
theorem e35 (a0 : Value) (K : Value → World → Prop) : wpc P bmask 6 none b35 (lmOf [.tmp 2]) (ktOf P 6 [.tmp 2] K) (frOf [a0]) = D35 a0 K := by kernel_rfl
theorem c35 {a0 w : _} {K : Value → World → Prop} {R : Ending → World → Prop} (h : D35 a0 K ⟨w, []⟩) (hK : ∀ v w', K v w' → R (.returned v) w') : Calls P 35 #[a0] w R :=
  calls_of bodies_ok Tryz.func35 6 [.tmp 2] (c := b35) (args := [a0]) (K := K) (by kernel_rfl) rfl (e35 a0 K) h hK

/-- rollcall/message.command -/
def D36 (a0 : Value) (K : Value → World → Prop) (s : St) : Prop :=
  Cl P 74 #[a0, .string ⟨#[65, 66, 67, 68, 69, 70, 71, 72, 73, 74, 75, 76, 77, 78, 79, 80, 81, 82, 83, 84, 85, 86, 87, 88, 89, 90, 97, 98, 99, 100, 101, 102, 103, 104, 105, 106, 107, 108, 109, 110, 111, 112, 113, 114, 115, 116, 117, 118, 119, 120, 121, 122]⟩] (fun v1 s => Bo P .eql 9 false true v1 (.string ⟨#[]⟩) (fun v2 s => Bo P .neq 9 false true a0 (.string ⟨#[]⟩) (fun v3 s => J1 (fun A4 => Grd v3 true (A4 v2 s) (A4 undef s)) (fun x5 s => Pk P v3 x5 (.bool false) (fun v6 s => J1 (fun A7 => Grd v6 false (Bi P .len #[9] 3 #[false] #[a0] (fun v9 s => Bo P .eql 3 false true v9 (.int .i64 3) (fun v10 s => A7 v10 s) s) s) (A7 undef s)) (fun x8 s => J1 (fun A11 => Grd x8 true (Cl P 74 #[a0, .string ⟨#[48, 49, 50, 51, 52, 53, 54, 55, 56, 57]⟩] (fun v13 s => Bo P .eql 9 false true v13 (.string ⟨#[]⟩) (fun v14 s => A11 v14 s) s) s) (A11 undef s)) (fun x12 s => J1 (fun A15 => Grd v6 false (Pk P x8 x12 (.bool false) (fun v17 s => A15 v17 s) s) (A15 undef s)) (fun x16 s => Pk P v6 (.bool true) x16 (fun v18 s => Ret P (fun w => K v18 w) s) s)))) s)) s) s) s
noncomputable def b36 : Code := Tryz.f36.body.getD .skip
theorem e36 (a0 : Value) (K : Value → World → Prop) : wpc P bmask 22 none b36 (lmOf [.tmp 2]) (ktOf P 22 [.tmp 2] K) (frOf [a0]) = D36 a0 K := by kernel_rfl
theorem c36 {a0 w : _} {K : Value → World → Prop} {R : Ending → World → Prop} (h : D36 a0 K ⟨w, []⟩) (hK : ∀ v w', K v w' → R (.returned v) w') : Calls P 36 #[a0] w R :=
  calls_of bodies_ok Tryz.func36 22 [.tmp 2] (c := b36) (args := [a0]) (K := K) (by kernel_rfl) rfl (e36 a0 K) h hK

/-- rollcall/message.capitals -/
def D37 (a0 : Value) (K : Value → World → Prop) (s : St) : Prop :=
  Cv P 9 76 a0 (fun v1 s => Bi P .len #[76] 3 #[false] #[v1] (fun v2 s => L1 (.int .i64 0) s (fun N3 x4 s => Bo P .lss 3 false false x4 v2 (fun v5 s => CondP v5 (J0 (fun A6 => Ia P 76 v1 x4 (fun v7 s => Ld P 5 v7 (fun v8 s => Bo P .geq 5 false true v8 (byteV 97) (fun v9 s => J1 (fun A10 => Grd v9 true (Bo P .leq 5 false true v8 (byteV 122) (fun v12 s => A10 v12 s) s) (A10 undef s)) (fun x11 s => Pk P v9 x11 (.bool false) (fun v13 s => CondP v13 (Bo P .sub 5 false true v8 (byteV 32) (fun v14 s => Ia P 76 v1 x4 (fun v15 s => Sv P 5 v15 v14 (fun _ s => A6 s) s) s) s) (A6 s)) s)) s) s) s) (fun s => Bo P .add 3 false true x4 (.int .i64 1) (fun v16 s => N3 v16 s) s)) (Cv P 76 9 v1 (fun v17 s => Ret P (fun w => K v17 w) s) s)) s)) s) s
noncomputable def b37 : Code := Tryz.f37.body.getD .skip
theorem e37 (a0 : Value) (K : Value → World → Prop) : wpc P bmask 29 none b37 (lmOf [.tmp 2]) (ktOf P 29 [.tmp 2] K) (frOf [a0]) = D37 a0 K := by kernel_rfl
theorem c37 {a0 w : _} {K : Value → World → Prop} {R : Ending → World → Prop} (h : D37 a0 K ⟨w, []⟩) (hK : ∀ v w', K v w' → R (.returned v) w') : Calls P 37 #[a0] w R :=
  calls_of bodies_ok Tryz.func37 29 [.tmp 2] (c := b37) (args := [a0]) (K := K) (by kernel_rfl) rfl (e37 a0 K) h hK


/-- rollcall/message.spare -/
def D39 (a0 : Value) (K : Value → World → Prop) (s : St) : Prop :=
  Bo P .eql 9 false true a0 (.string ⟨#[]⟩) (fun v1 s => J1 (fun A2 => Grd v1 false (Ix P 9 a0 (.int .i64 0) (fun v4 s => Bo P .eql 5 false true v4 (byteV 58) (fun v5 s => A2 v5 s) s) s) (A2 undef s)) (fun x3 s => Pk P v1 (.bool true) x3 (fun v6 s => J1 (fun A7 => Grd v6 false (Cl P 33 #[a0, .string ⟨#[32]⟩] (fun v9 s => A7 v9 s) s) (A7 undef s)) (fun x8 s => Pk P v6 (.bool true) x8 (fun v10 s => Ret P (fun w => K v10 w) s) s)) s)) s
noncomputable def b39 : Code := Tryz.f39.body.getD .skip
theorem e39 (a0 : Value) (K : Value → World → Prop) : wpc P bmask 14 none b39 (lmOf [.tmp 2]) (ktOf P 14 [.tmp 2] K) (frOf [a0]) = D39 a0 K := by kernel_rfl
theorem c39 {a0 w : _} {K : Value → World → Prop} {R : Ending → World → Prop} (h : D39 a0 K ⟨w, []⟩) (hK : ∀ v w', K v w' → R (.returned v) w') : Calls P 39 #[a0] w R :=
  calls_of bodies_ok Tryz.func39 14 [.tmp 2] (c := b39) (args := [a0]) (K := K) (by kernel_rfl) rfl (e39 a0 K) h hK








/-- rollcall/person.Userhost -/
def D47 (a0 : Value) (K : Value → World → Prop) (s : St) : Prop :=
  Bx P 36 a0 (fun v1 s => J1 (fun A2 => Fa P 36 v1 6 (fun v4 s => Ld P 4 v4 (fun v5 s => CondP v5 (A2 (.string ⟨#[42]⟩) s) (A2 (.string ⟨#[]⟩) s)) s) s) (fun x3 s => J1 (fun A6 => Fa P 36 v1 5 (fun v8 s => Ld P 9 v8 (fun v9 s => Bo P .neq 9 false true v9 (.string ⟨#[]⟩) (fun v10 s => CondP v10 (A6 (.string ⟨#[45]⟩) s) (A6 (.string ⟨#[43]⟩) s)) s) s) s) (fun x7 s => Fa P 36 v1 1 (fun v11 s => Ld P 9 v11 (fun v12 s => Bo P .add 9 false false v12 x3 (fun v13 s => Bo P .add 9 false true v13 (.string ⟨#[61]⟩) (fun v14 s => Bo P .add 9 false false v14 x7 (fun v15 s => Fa P 36 v1 2 (fun v16 s => Ld P 9 v16 (fun v17 s => Bo P .add 9 false false v15 v17 (fun v18 s => Bo P .add 9 false true v18 (.string ⟨#[64]⟩) (fun v19 s => Fa P 36 v1 3 (fun v20 s => Ld P 9 v20 (fun v21 s => Bo P .add 9 false false v19 v21 (fun v22 s => Ret P (fun w => K v22 w) s) s) s) s) s) s) s) s) s) s) s) s) s))) s
noncomputable def b47 : Code := Tryz.f47.body.getD .skip
theorem e47 (a0 : Value) (K : Value → World → Prop) : wpc P bmask 24 none b47 (lmOf [.tmp 2]) (ktOf P 24 [.tmp 2] K) (frOf [a0]) = D47 a0 K := by kernel_rfl
theorem c47 {a0 w : _} {K : Value → World → Prop} {R : Ending → World → Prop} (h : D47 a0 K ⟨w, []⟩) (hK : ∀ v w', K v w' → R (.returned v) w') : Calls P 47 #[a0] w R :=
  calls_of bodies_ok Tryz.func47 24 [.tmp 2] (c := b47) (args := [a0]) (K := K) (by kernel_rfl) rfl (e47 a0 K) h hK

/-- rollcall/reply.Numeric -/
def D48 (a0 a1 a2 a3 : Value) (K : Value → World → Prop) (s : St) : Prop :=
  Bo P .lss 3 false true a1 (.int .i64 1) (fun v1 s => J1 (fun A2 => Grd v1 false (Bo P .gtr 3 false true a1 (.int .i64 999) (fun v4 s => A2 v4 s) s) (A2 undef s)) (fun x3 s => Pk P v1 (.bool true) x3 (fun v5 s => J1 (fun A6 => Grd v5 false (Bi P .len #[23] 3 #[false] #[a3] (fun v8 s => Bo P .gtr 3 false true v8 (.int .i64 14) (fun v9 s => A6 v9 s) s) s) (A6 undef s)) (fun x7 s => Pk P v5 (.bool true) x7 (fun v10 s => CondP v10 (Ret P (fun w => K (.string ⟨#[]⟩) w) s) (J1 (fun A11 => Bo P .eql 9 false true a2 (.string ⟨#[]⟩) (fun v13 s => CondP v13 (A11 (.string ⟨#[42]⟩) s) (A11 a2 s)) s) (fun x12 s => Cl P 86 #[a1] (fun v14 s => Bs P 23 1 #[(0, x12)] (fun v15 s => Bi P .append #[23, 23] 23 #[false, false] #[v15, a3] (fun v16 s => Cl P 85 #[a0, v14, v16] (fun v17 s => Ret P (fun w => K v17 w) s) s) s) s) s))) s)) s)) s
noncomputable def b48 : Code := Tryz.f48.body.getD .skip
theorem e48 (a0 a1 a2 a3 : Value) (K : Value → World → Prop) : wpc P bmask 30 none b48 (lmOf [.tmp 8]) (ktOf P 30 [.tmp 8] K) (frOf [a0, a1, a2, a3]) = D48 a0 a1 a2 a3 K := by kernel_rfl
theorem c48 {a0 a1 a2 a3 w : _} {K : Value → World → Prop} {R : Ending → World → Prop} (h : D48 a0 a1 a2 a3 K ⟨w, []⟩) (hK : ∀ v w', K v w' → R (.returned v) w') : Calls P 48 #[a0, a1, a2, a3] w R :=
  calls_of bodies_ok Tryz.func48 30 [.tmp 8] (c := b48) (args := [a0, a1, a2, a3]) (K := K) (by kernel_rfl) rfl (e48 a0 a1 a2 a3 K) h hK

/-- rollcall/person.Marks -/
def D49 (a0 a1 : Value) (K : Value → World → Prop) (s : St) : Prop :=
  Bx P 38 a0 (fun v1 s => Fa P 38 v1 1 (fun v2 s => Ld P 4 v2 (fun v3 s => J1 (fun A4 => Grd v3 true (Fa P 38 v1 2 (fun v6 s => Ld P 4 v6 (fun v7 s => A4 v7 s) s) s) (A4 undef s)) (fun x5 s => Pk P v3 x5 (.bool false) (fun v8 s => J1 (fun A9 => Grd v8 true (A9 a1 s) (A9 undef s)) (fun x10 s => Pk P v8 x10 (.bool false) (fun v11 s => CondP v11 (Ret P (fun w => K (.string ⟨#[64, 43]⟩) w) s) (Fa P 38 v1 1 (fun v12 s => Ld P 4 v12 (fun v13 s => CondP v13 (Ret P (fun w => K (.string ⟨#[64]⟩) w) s) (Fa P 38 v1 2 (fun v14 s => Ld P 4 v14 (fun v15 s => CondP v15 (Ret P (fun w => K (.string ⟨#[43]⟩) w) s) (Ret P (fun w => K (.string ⟨#[]⟩) w) s)) s) s)) s) s)) s)) s)) s) s) s
noncomputable def b49 : Code := Tryz.f49.body.getD .skip
theorem e49 (a0 a1 : Value) (K : Value → World → Prop) : wpc P bmask 21 none b49 (lmOf [.tmp 4]) (ktOf P 21 [.tmp 4] K) (frOf [a0, a1]) = D49 a0 a1 K := by kernel_rfl
theorem c49 {a0 a1 w : _} {K : Value → World → Prop} {R : Ending → World → Prop} (h : D49 a0 a1 K ⟨w, []⟩) (hK : ∀ v w', K v w' → R (.returned v) w') : Calls P 49 #[a0, a1] w R :=
  calls_of bodies_ok Tryz.func49 21 [.tmp 4] (c := b49) (args := [a0, a1]) (K := K) (by kernel_rfl) rfl (e49 a0 a1 K) h hK

/-- rollcall/rollcallref14.Numeric -/
def D50 (a0 a1 a2 a3 : Value) (K : Value → World → Prop) (s : St) : Prop :=
  Bo P .lss 3 false true a1 (.int .i64 1) (fun v1 s => J1 (fun A2 => Grd v1 false (Bo P .gtr 3 false true a1 (.int .i64 999) (fun v4 s => A2 v4 s) s) (A2 undef s)) (fun x3 s => Pk P v1 (.bool true) x3 (fun v5 s => J1 (fun A6 => Grd v5 false (Bi P .len #[23] 3 #[false] #[a3] (fun v8 s => Bo P .gtr 3 false true v8 (.int .i64 14) (fun v9 s => A6 v9 s) s) s) (A6 undef s)) (fun x7 s => Pk P v5 (.bool true) x7 (fun v10 s => CondP v10 (Ret P (fun w => K (.string ⟨#[]⟩) w) s) (J1 (fun A11 => Bo P .eql 9 false true a2 (.string ⟨#[]⟩) (fun v13 s => CondP v13 (A11 (.string ⟨#[42]⟩) s) (A11 a2 s)) s) (fun x12 s => Cl P 88 #[a1] (fun v14 s => Bs P 23 1 #[(0, x12)] (fun v15 s => Bi P .append #[23, 23] 23 #[false, false] #[v15, a3] (fun v16 s => Cl P 87 #[a0, v14, v16] (fun v17 s => Ret P (fun w => K v17 w) s) s) s) s) s))) s)) s)) s
noncomputable def b50 : Code := Tryz.f50.body.getD .skip
theorem e50 (a0 a1 a2 a3 : Value) (K : Value → World → Prop) : wpc P bmask 30 none b50 (lmOf [.tmp 8]) (ktOf P 30 [.tmp 8] K) (frOf [a0, a1, a2, a3]) = D50 a0 a1 a2 a3 K := by kernel_rfl
theorem c50 {a0 a1 a2 a3 w : _} {K : Value → World → Prop} {R : Ending → World → Prop} (h : D50 a0 a1 a2 a3 K ⟨w, []⟩) (hK : ∀ v w', K v w' → R (.returned v) w') : Calls P 50 #[a0, a1, a2, a3] w R :=
  calls_of bodies_ok Tryz.func50 30 [.tmp 8] (c := b50) (args := [a0, a1, a2, a3]) (K := K) (by kernel_rfl) rfl (e50 a0 a1 a2 a3 K) h hK

/-- rollcall/rollcallref22.Marks -/
def D51 (a0 a1 : Value) (K : Value → World → Prop) (s : St) : Prop :=
  Bx P 38 a0 (fun v1 s => J1 (fun A2 => Fa P 38 v1 1 (fun v4 s => Ld P 4 v4 (fun v5 s => CondP v5 (A2 (.string ⟨#[64]⟩) s) (A2 (.string ⟨#[]⟩) s)) s) s) (fun x3 s => J1 (fun A6 => Fa P 38 v1 2 (fun v8 s => Ld P 4 v8 (fun v9 s => J1 (fun A10 => Grd v9 true (A10 a1 s) (A10 undef s)) (fun x11 s => J1 (fun A12 => Grd x11 false (Bo P .eql 9 false true x3 (.string ⟨#[]⟩) (fun v14 s => A12 v14 s) s) (A12 undef s)) (fun x13 s => J1 (fun A15 => Grd v9 true (Pk P x11 (.bool true) x13 (fun v17 s => A15 v17 s) s) (A15 undef s)) (fun x16 s => Pk P v9 x16 (.bool false) (fun v18 s => CondP v18 (Bo P .add 9 false true x3 (.string ⟨#[43]⟩) (fun v19 s => A6 v19 s) s) (A6 x3 s)) s)))) s) s) (fun x7 s => Ret P (fun w => K x7 w) s))) s
noncomputable def b51 : Code := Tryz.f51.body.getD .skip
theorem e51 (a0 a1 : Value) (K : Value → World → Prop) : wpc P bmask 20 none b51 (lmOf [.tmp 4]) (ktOf P 20 [.tmp 4] K) (frOf [a0, a1]) = D51 a0 a1 K := by kernel_rfl
theorem c51 {a0 a1 w : _} {K : Value → World → Prop} {R : Ending → World → Prop} (h : D51 a0 a1 K ⟨w, []⟩) (hK : ∀ v w', K v w' → R (.returned v) w') : Calls P 51 #[a0, a1] w R :=
  calls_of bodies_ok Tryz.func51 20 [.tmp 4] (c := b51) (args := [a0, a1]) (K := K) (by kernel_rfl) rfl (e51 a0 a1 K) h hK

/-- rollcall/reply.Pack -/
def D52 (a0 a1 a2 a3 a4 : Value) (K : Value → World → Prop) (s : St) : Prop :=
  Bx P 9 a0 (fun v1 s => Bx P 3 a1 (fun v2 s => Bx P 9 a2 (fun v3 s => Bx P 23 a3 (fun v4 s => Ld P 3 v2 (fun v5 s => Bo P .lss 3 false true v5 (.int .i64 1) (fun v6 s => J1 (fun A7 => Grd v6 false (Ld P 3 v2 (fun v9 s => Bo P .gtr 3 false true v9 (.int .i64 999) (fun v10 s => A7 v10 s) s) s) (A7 undef s)) (fun x8 s => Pk P v6 (.bool true) x8 (fun v11 s => J1 (fun A12 => Grd v11 false (Ld P 23 v4 (fun v14 s => Bi P .len #[23] 3 #[false] #[v14] (fun v15 s => Bo P .gtr 3 false true v15 (.int .i64 13) (fun v16 s => A12 v16 s) s) s) s) (A12 undef s)) (fun x13 s => Pk P v11 (.bool true) x13 (fun v17 s => CondP v17 (Ret P (fun w => K (.slice none 0 0) w) s) (Mf P (.func 89) #[] #[v1, v2, v3, v4] (fun v18 s => Al P 53 (fun v19 s => Sv P 53 v19 v18 (fun _ s => Ld P 53 v19 (fun v20 s => Dy P v20 #[.string ⟨#[58]⟩] (fun v21 s => Bi P .len #[9] 3 #[false] #[v21] (fun v22 s => Bo P .sub 3 false true v22 (.int .i64 2) (fun v23 s => Al P 3 (fun v24 s => Sv P 3 v24 v23 (fun _ s => Al P 23 (fun v25 s => Al P 9 (fun v26 s => Sv P 9 v26 (.string ⟨#[]⟩) (fun _ s => Mf P (.func 90) #[] #[v26, v24, v25, v19] (fun v27 s => Al P 106 (fun v28 s => Sv P 106 v28 v27 (fun _ s => J0 (fun A29 => Bo P .neq 68 false true a4 (.nilFunc) (fun v30 s => CondP v30 (Rf P none 1 a4 (fun l31 as32 R33 s => Bg P l31 (fun s => Cl P 91 #[as32.headD undef] (fun v35 s => Bo P .neq 9 false true v35 (.string ⟨#[]⟩) (fun v36 s => CondP v36 (Ld P 106 v28 (fun v37 s => Dy P v37 #[v35] (fun _ s => Er P l31 none R33 s) s) s) (Er P l31 none R33 s)) s) s) s) (fun s => A29 s) (fun s => Ret P (fun w => K (.slice none 0 0) w) s) (fun i34 s => False) s) (A29 s)) s) (fun s => J0 (fun A39 => Ld P 9 v26 (fun v40 s => Bo P .neq 9 false true v40 (.string ⟨#[]⟩) (fun v41 s => J1 (fun A42 => Grd v41 false (Ld P 23 v25 (fun v44 s => Bi P .len #[23] 3 #[false] #[v44] (fun v45 s => Bo P .eql 3 false true v45 (.int .i64 0) (fun v46 s => A42 v46 s) s) s) s) (A42 undef s)) (fun x43 s => Pk P v41 (.bool true) x43 (fun v47 s => CondP v47 (Dw (fun s => Qt (Ld P 23 v25) s fun v48 => Qt (Ld P 53 v19) s fun v49 => Qt (Ld P 9 v26) s fun v50 => Dy P v49 #[v50] (fun v51 s => Ck (Ld P 23 v25) v48 s ∧ (Bs P 23 1 #[(0, v51)] (fun v52 s => Ck (Ld P 23 v25) v48 s ∧ (Bi P .append #[23, 23] 23 #[false, false] #[v48, v52] (fun v53 s => Sv P 23 v25 v53 (fun _ s => A39 s) s) s)) s)) s) s) (A39 s)) s)) s) s) (fun s => Ld P 23 v25 (fun v54 s => Ret P (fun w => K v54 w) s) s))) s) s) s) s) s) s) s) s) s) s) s) s) s) s) s)) s)) s)) s) s) s) s) s) s
noncomputable def b52 : Code := Tryz.f52.body.getD .skip
theorem e52 (a0 a1 a2 a3 a4 : Value) (K : Value → World → Prop) : wpc P bmask 60 none b52 (lmOf [.tmp 10]) (ktOf P 60 [.tmp 10] K) (frOf [a0, a1, a2, a3, a4]) = D52 a0 a1 a2 a3 a4 K := by kernel_rfl
theorem c52 {a0 a1 a2 a3 a4 w : _} {K : Value → World → Prop} {R : Ending → World → Prop} (h : D52 a0 a1 a2 a3 a4 K ⟨w, []⟩) (hK : ∀ v w', K v w' → R (.returned v) w') : Calls P 52 #[a0, a1, a2, a3, a4] w R :=
  calls_of bodies_ok Tryz.func52 60 [.tmp 10] (c := b52) (args := [a0, a1, a2, a3, a4]) (K := K) (by kernel_rfl) rfl (e52 a0 a1 a2 a3 a4 K) h hK

/-- slices.Values[[]string,string] -/
def D53 (a0 : Value) (K : Value → World → Prop) (s : St) : Prop :=
  Bx P 23 a0 (fun v1 s => Mf P (.func 92) #[] #[v1] (fun v2 s => Ret P (fun w => K v2 w) s) s) s
noncomputable def b53 : Code := Tryz.f53.body.getD .skip
theorem e53 (a0 : Value) (K : Value → World → Prop) : wpc P bmask 4 none b53 (lmOf [.tmp 2]) (ktOf P 4 [.tmp 2] K) (frOf [a0]) = D53 a0 K := by kernel_rfl
theorem c53 {a0 w : _} {K : Value → World → Prop} {R : Ending → World → Prop} (h : D53 a0 K ⟨w, []⟩) (hK : ∀ v w', K v w' → R (.returned v) w') : Calls P 53 #[a0] w R :=
  calls_of bodies_ok Tryz.func53 4 [.tmp 2] (c := b53) (args := [a0]) (K := K) (by kernel_rfl) rfl (e53 a0 K) h hK

/-- rollcall/person.count -/
def D54 (a0 : Value) (K : Value → World → Prop) (s : St) : Prop :=
  Bi P .max #[3, 3] 3 #[false, true] #[a0, .int .i64 0] (fun v1 s => Cl P 93 #[v1] (fun v2 s => Ret P (fun w => K v2 w) s) s) s
noncomputable def b54 : Code := Tryz.f54.body.getD .skip
theorem e54 (a0 : Value) (K : Value → World → Prop) : wpc P bmask 6 none b54 (lmOf [.tmp 2]) (ktOf P 6 [.tmp 2] K) (frOf [a0]) = D54 a0 K := by kernel_rfl
theorem c54 {a0 w : _} {K : Value → World → Prop} {R : Ending → World → Prop} (h : D54 a0 K ⟨w, []⟩) (hK : ∀ v w', K v w' → R (.returned v) w') : Calls P 54 #[a0] w R :=
  calls_of bodies_ok Tryz.func54 6 [.tmp 2] (c := b54) (args := [a0]) (K := K) (by kernel_rfl) rfl (e54 a0 K) h hK

/-- rollcall/rollcalllaw22.listed$1 -/
def D55 (a0 a1 : Value) (K : Value → World → Prop) (s : St) : Prop :=
  L1 (.int .i64 0) s (fun N1 x2 s => Ld P 23 a1 (fun v3 s => Bi P .len #[23] 3 #[false] #[v3] (fun v4 s => Bo P .lss 3 false false x2 v4 (fun v5 s => CondP v5 (Ld P 23 a1 (fun v6 s => Ia P 23 v6 x2 (fun v7 s => Ld P 9 v7 (fun v8 s => Dy P a0 #[v8] (fun v9 s => Uo P .not v9 (fun v10 s => CondP v10 (Ret P (fun w => K (.tuple #[]) w) s) (Bo P .add 3 false true x2 (.int .i64 1) (fun v11 s => N1 v11 s) s)) s) s) s) s) s) (Ret P (fun w => K (.tuple #[]) w) s)) s) s) s)
noncomputable def b55 : Code := Tryz.f55.body.getD .skip
theorem e55 (a0 a1 : Value) (K : Value → World → Prop) : wpc P bmask 17 none b55 (lmOf []) (ktOf P 17 [] K) (frOf [a0, a1]) = D55 a0 a1 K := by kernel_rfl
theorem c55 {a0 a1 w : _} {K : Value → World → Prop} {R : Ending → World → Prop} (h : D55 a0 a1 K ⟨w, []⟩) (hK : ∀ v w', K v w' → R (.returned v) w') : Calls P 55 #[a0, a1] w R :=
  calls_of bodies_ok Tryz.func55 17 [] (c := b55) (args := [a0, a1]) (K := K) (by kernel_rfl) rfl (e55 a0 a1 K) h hK

/-- rollcall/rollcallref14.Pack -/
def D56 (a0 a1 a2 a3 a4 : Value) (K : Value → World → Prop) (s : St) : Prop :=
  Bo P .lss 3 false true a1 (.int .i64 1) (fun v1 s => J1 (fun A2 => Grd v1 false (Bo P .gtr 3 false true a1 (.int .i64 999) (fun v4 s => A2 v4 s) s) (A2 undef s)) (fun x3 s => Pk P v1 (.bool true) x3 (fun v5 s => J1 (fun A6 => Grd v5 false (Bi P .len #[23] 3 #[false] #[a3] (fun v8 s => Bo P .gtr 3 false true v8 (.int .i64 13) (fun v9 s => A6 v9 s) s) s) (A6 undef s)) (fun x7 s => Pk P v5 (.bool true) x7 (fun v10 s => CondP v10 (Ret P (fun w => K (.slice none 0 0) w) s) (L2 (.slice none 0 0) (.int .i64 0) s (fun N11 x12 x13 s => Bi P .len #[23] 3 #[false] #[a4] (fun v14 s => Bo P .lss 3 false false x13 v14 (fun v15 s => CondP v15 (J1 (fun A16 => Ia P 23 a4 x13 (fun v18 s => Ld P 9 v18 (fun v19 s => Cl P 94 #[v19] (fun v20 s => Bo P .eql 9 false true v20 (.string ⟨#[]⟩) (fun v21 s => CondP v21 (A16 x12 s) (Bi P .len #[23] 3 #[false] #[x12] (fun v22 s => Bo P .sub 3 false true v22 (.int .i64 1) (fun v23 s => Bo P .geq 3 false true v23 (.int .i64 0) (fun v24 s => J1 (fun A25 => Grd v24 true (Ia P 23 x12 v23 (fun v27 s => Ld P 9 v27 (fun v28 s => Bo P .add 9 false true v28 (.string ⟨#[32]⟩) (fun v29 s => Bo P .add 9 false false v29 v20 (fun v30 s => Cl P 95 #[a0, a1, a2, a3, v30] (fun v31 s => Bo P .leq 3 false true v31 (.int .i64 510) (fun v32 s => A25 v32 s) s) s) s) s) s) s) (A25 undef s)) (fun x26 s => Pk P v24 x26 (.bool false) (fun v33 s => CondP v33 (Ia P 23 x12 v23 (fun v34 s => Ld P 9 v34 (fun v35 s => Bo P .add 9 false true v35 (.string ⟨#[32]⟩) (fun v36 s => Bo P .add 9 false false v36 v20 (fun v37 s => Ia P 23 x12 v23 (fun v38 s => Sv P 9 v38 v37 (fun _ s => A16 x12 s) s) s) s) s) s) s) (Bs P 23 1 #[(0, v20)] (fun v39 s => Bi P .append #[23, 23] 23 #[false, false] #[x12, v39] (fun v40 s => A16 v40 s) s) s)) s)) s) s) s)) s) s) s) s) (fun x17 s => Bo P .add 3 false true x13 (.int .i64 1) (fun v41 s => N11 x17 v41 s) s)) (J1 (fun A42 => Bi P .len #[23] 3 #[false] #[x12] (fun v44 s => Bo P .eql 3 false true v44 (.int .i64 0) (fun v45 s => CondP v45 (Bs P 23 1 #[(0, .string ⟨#[]⟩)] (fun v46 s => A42 v46 s) s) (A42 x12 s)) s) s) (fun x43 s => L1 (.int .i64 0) s (fun N47 x48 s => Bi P .len #[23] 3 #[false] #[x43] (fun v49 s => Bo P .lss 3 false false x48 v49 (fun v50 s => CondP v50 (J0 (fun A51 => Dw (fun s => Qt (Ia P 23 x43 x48) s fun v52 => Qt (Ld P 9 v52) s fun v53 => (Bs P 23 0 #[] (fun v54 s => Ck (Ia P 23 x43 x48) v52 s ∧ Ck (Ld P 9 v52) v53 s ∧ ((Bi P .append #[23, 23] 23 #[false, false] #[v54, a3] (fun v55 s => Ck (Ia P 23 x43 x48) v52 s ∧ Ck (Ld P 9 v52) v53 s ∧ (Bs P 23 1 #[(0, v53)] (fun v56 s => Bi P .append #[23, 23] 23 #[false, false] #[v55, v56] (fun v57 s => Cl P 50 #[a0, a1, a2, v57] (fun v58 s => Qt (Ia P 23 x43 x48) s fun v59 => Sv P 9 v59 v58 (fun _ s => A51 s) s) s) s) s)) s) ∧ (Bs P 23 1 #[(0, v53)] (fun v60 s => Bi P .append #[23, 23] 23 #[false, false] #[v54, a3] (fun v61 s => Bi P .append #[23, 23] 23 #[false, false] #[v61, v60] (fun v62 s => Cl P 50 #[a0, a1, a2, v62] (fun v63 s => Qt (Ia P 23 x43 x48) s fun v64 => Sv P 9 v64 v63 (fun _ s => A51 s) s) s) s) s) s))) s) ∧ (Bs P 23 1 #[(0, v53)] (fun v65 s => Bs P 23 0 #[] (fun v66 s => Bi P .append #[23, 23] 23 #[false, false] #[v66, a3] (fun v67 s => Bi P .append #[23, 23] 23 #[false, false] #[v67, v65] (fun v68 s => Cl P 50 #[a0, a1, a2, v68] (fun v69 s => Qt (Ia P 23 x43 x48) s fun v70 => Sv P 9 v70 v69 (fun _ s => A51 s) s) s) s) s) s) s)) s) (fun s => Bo P .add 3 false true x48 (.int .i64 1) (fun v71 s => N47 v71 s) s)) (Ret P (fun w => K x43 w) s)) s) s)))) s) s))) s)) s)) s
noncomputable def b56 : Code := Tryz.f56.body.getD .skip
theorem e56 (a0 a1 a2 a3 a4 : Value) (K : Value → World → Prop) : wpc P bmask 101 none b56 (lmOf [.tmp 10]) (ktOf P 101 [.tmp 10] K) (frOf [a0, a1, a2, a3, a4]) = D56 a0 a1 a2 a3 a4 K := by kernel_rfl
theorem c56 {a0 a1 a2 a3 a4 w : _} {K : Value → World → Prop} {R : Ending → World → Prop} (h : D56 a0 a1 a2 a3 a4 K ⟨w, []⟩) (hK : ∀ v w', K v w' → R (.returned v) w') : Calls P 56 #[a0, a1, a2, a3, a4] w R :=
  calls_of bodies_ok Tryz.func56 101 [.tmp 10] (c := b56) (args := [a0, a1, a2, a3, a4]) (K := K) (by kernel_rfl) rfl (e56 a0 a1 a2 a3 a4 K) h hK

/-- rollcall/rollcallref22.number -/
def D57 (a0 : Value) (K : Value → World → Prop) (s : St) : Prop :=
  J1 (fun A1 => Bo P .lss 3 false true a0 (.int .i64 0) (fun v3 s => CondP v3 (A1 (.int .i64 0) s) (A1 a0 s)) s) (fun x2 s => Cl P 96 #[x2] (fun v4 s => Ret P (fun w => K v4 w) s) s)
noncomputable def b57 : Code := Tryz.f57.body.getD .skip
theorem e57 (a0 : Value) (K : Value → World → Prop) : wpc P bmask 7 none b57 (lmOf [.tmp 2]) (ktOf P 7 [.tmp 2] K) (frOf [a0]) = D57 a0 K := by kernel_rfl
theorem c57 {a0 w : _} {K : Value → World → Prop} {R : Ending → World → Prop} (h : D57 a0 K ⟨w, []⟩) (hK : ∀ v w', K v w' → R (.returned v) w') : Calls P 57 #[a0] w R :=
  calls_of bodies_ok Tryz.func57 7 [.tmp 2] (c := b57) (args := [a0]) (K := K) (by kernel_rfl) rfl (e57 a0 K) h hK

/-- rollcall/rollcallref06.Name -/
def D58 (a0 : Value) (K : Value → World → Prop) (s : St) : Prop :=
  Bo P .eql 9 false true a0 (.string ⟨#[]⟩) (fun v1 s => CondP v1 (Ret P (fun w => K (.int .i64 9) w) s) (L1 (.int .i64 0) s (fun N2 x3 s => Bi P .len #[9] 3 #[false] #[a0] (fun v4 s => Bo P .lss 3 false false x3 v4 (fun v5 s => CondP v5 (Ix P 9 a0 x3 (fun v6 s => Cl P 61 #[v6] (fun v7 s => Uo P .not v7 (fun v8 s => J1 (fun A9 => Grd v8 true (Cl P 62 #[v6] (fun v11 s => Uo P .not v11 (fun v12 s => A9 v12 s) s) s) (A9 undef s)) (fun x10 s => Pk P v8 x10 (.bool false) (fun v13 s => J1 (fun A14 => Grd v13 true (Bo P .neq 5 false true v6 (byteV 45) (fun v16 s => A14 v16 s) s) (A14 undef s)) (fun x15 s => Pk P v13 x15 (.bool false) (fun v17 s => J1 (fun A18 => Grd v17 true (Bo P .neq 5 false true v6 (byteV 47) (fun v20 s => A18 v20 s) s) (A18 undef s)) (fun x19 s => Pk P v17 x19 (.bool false) (fun v21 s => J1 (fun A22 => Grd v21 true (Bo P .neq 5 false true v6 (byteV 43) (fun v24 s => A22 v24 s) s) (A22 undef s)) (fun x23 s => Pk P v21 x23 (.bool false) (fun v25 s => J1 (fun A26 => Grd v25 true (Bo P .neq 5 false true v6 (byteV 46) (fun v28 s => A26 v28 s) s) (A26 undef s)) (fun x27 s => Pk P v25 x27 (.bool false) (fun v29 s => CondP v29 (Ret P (fun w => K (.int .i64 10) w) s) (Bo P .add 3 false true x3 (.int .i64 1) (fun v30 s => N2 v30 s) s)) s)) s)) s)) s)) s)) s) s) s) (Ret P (fun w => K (.int .i64 0) w) s)) s) s))) s
noncomputable def b58 : Code := Tryz.f58.body.getD .skip
theorem e58 (a0 : Value) (K : Value → World → Prop) : wpc P bmask 40 none b58 (lmOf [.tmp 2]) (ktOf P 40 [.tmp 2] K) (frOf [a0]) = D58 a0 K := by kernel_rfl
theorem c58 {a0 w : _} {K : Value → World → Prop} {R : Ending → World → Prop} (h : D58 a0 K ⟨w, []⟩) (hK : ∀ v w', K v w' → R (.returned v) w') : Calls P 58 #[a0] w R :=
  calls_of bodies_ok Tryz.func58 40 [.tmp 2] (c := b58) (args := [a0]) (K := K) (by kernel_rfl) rfl (e58 a0 K) h hK

/-- rollcall/rollcallref06.at -/
def D59 (a0 a1 : Value) (K : Value → World → Prop) (s : St) : Prop :=
  L1 (.int .i64 0) s (fun N1 x2 s => Bi P .len #[22] 3 #[false] #[a0] (fun v3 s => Bo P .lss 3 false false x2 v3 (fun v4 s => CondP v4 (Ia P 22 a0 x2 (fun v5 s => Fa P 49 v5 0 (fun v6 s => Ld P 9 v6 (fun v7 s => Bo P .eql 9 false false v7 a1 (fun v8 s => CondP v8 (Ret P (fun w => K x2 w) s) (Bo P .add 3 false true x2 (.int .i64 1) (fun v9 s => N1 v9 s) s)) s) s) s) s) (Ret P (fun w => K (.int .i64 (-1)) w) s)) s) s)
noncomputable def b59 : Code := Tryz.f59.body.getD .skip
theorem e59 (a0 a1 : Value) (K : Value → World → Prop) : wpc P bmask 20 none b59 (lmOf [.tmp 4]) (ktOf P 20 [.tmp 4] K) (frOf [a0, a1]) = D59 a0 a1 K := by kernel_rfl
theorem c59 {a0 a1 w : _} {K : Value → World → Prop} {R : Ending → World → Prop} (h : D59 a0 a1 K ⟨w, []⟩) (hK : ∀ v w', K v w' → R (.returned v) w') : Calls P 59 #[a0, a1] w R :=
  calls_of bodies_ok Tryz.func59 20 [.tmp 4] (c := b59) (args := [a0, a1]) (K := K) (by kernel_rfl) rfl (e59 a0 a1 K) h hK

/-- rollcall/rollcallref03.in -/
def D60 (a0 a1 : Value) (K : Value → World → Prop) (s : St) : Prop :=
  L1 (.int .i64 0) s (fun N1 x2 s => Bi P .len #[9] 3 #[false] #[a0] (fun v3 s => Bo P .lss 3 false false x2 v3 (fun v4 s => CondP v4 (Ix P 9 a0 x2 (fun v5 s => Bo P .eql 5 false false v5 a1 (fun v6 s => CondP v6 (Ret P (fun w => K (.bool true) w) s) (Bo P .add 3 false true x2 (.int .i64 1) (fun v7 s => N1 v7 s) s)) s) s) (Ret P (fun w => K (.bool false) w) s)) s) s)
noncomputable def b60 : Code := Tryz.f60.body.getD .skip
theorem e60 (a0 a1 : Value) (K : Value → World → Prop) : wpc P bmask 17 none b60 (lmOf [.tmp 4]) (ktOf P 17 [.tmp 4] K) (frOf [a0, a1]) = D60 a0 a1 K := by kernel_rfl
theorem c60 {a0 a1 w : _} {K : Value → World → Prop} {R : Ending → World → Prop} (h : D60 a0 a1 K ⟨w, []⟩) (hK : ∀ v w', K v w' → R (.returned v) w') : Calls P 60 #[a0, a1] w R :=
  calls_of bodies_ok Tryz.func60 17 [.tmp 4] (c := b60) (args := [a0, a1]) (K := K) (by kernel_rfl) rfl (e60 a0 a1 K) h hK

/-- rollcall/rollcallref03.Letter -/
def D61 (a0 : Value) (K : Value → World → Prop) (s : St) : Prop :=
  Bo P .geq 5 false true a0 (byteV 65) (fun v1 s => J1 (fun A2 => Grd v1 true (Bo P .leq 5 false true a0 (byteV 90) (fun v4 s => A2 v4 s) s) (A2 undef s)) (fun x3 s => Pk P v1 x3 (.bool false) (fun v5 s => J1 (fun A6 => Grd v5 false (Bo P .geq 5 false true a0 (byteV 97) (fun v8 s => A6 v8 s) s) (A6 undef s)) (fun x7 s => J1 (fun A9 => Grd x7 true (Bo P .leq 5 false true a0 (byteV 122) (fun v11 s => A9 v11 s) s) (A9 undef s)) (fun x10 s => J1 (fun A12 => Grd v5 false (Pk P x7 x10 (.bool false) (fun v14 s => A12 v14 s) s) (A12 undef s)) (fun x13 s => Pk P v5 (.bool true) x13 (fun v15 s => Ret P (fun w => K v15 w) s) s)))) s)) s
noncomputable def b61 : Code := Tryz.f61.body.getD .skip
theorem e61 (a0 : Value) (K : Value → World → Prop) : wpc P bmask 17 none b61 (lmOf [.tmp 2]) (ktOf P 17 [.tmp 2] K) (frOf [a0]) = D61 a0 K := by kernel_rfl
theorem c61 {a0 w : _} {K : Value → World → Prop} {R : Ending → World → Prop} (h : D61 a0 K ⟨w, []⟩) (hK : ∀ v w', K v w' → R (.returned v) w') : Calls P 61 #[a0] w R :=
  calls_of bodies_ok Tryz.func61 17 [.tmp 2] (c := b61) (args := [a0]) (K := K) (by kernel_rfl) rfl (e61 a0 K) h hK

/-- rollcall/rollcallref03.Digit -/
def D62 (a0 : Value) (K : Value → World → Prop) (s : St) : Prop :=
  Bo P .geq 5 false true a0 (byteV 48) (fun v1 s => J1 (fun A2 => Grd v1 true (Bo P .leq 5 false true a0 (byteV 57) (fun v4 s => A2 v4 s) s) (A2 undef s)) (fun x3 s => Pk P v1 x3 (.bool false) (fun v5 s => Ret P (fun w => K v5 w) s) s)) s
noncomputable def b62 : Code := Tryz.f62.body.getD .skip
theorem e62 (a0 : Value) (K : Value → World → Prop) : wpc P bmask 9 none b62 (lmOf [.tmp 2]) (ktOf P 9 [.tmp 2] K) (frOf [a0]) = D62 a0 K := by kernel_rfl
theorem c62 {a0 w : _} {K : Value → World → Prop} {R : Ending → World → Prop} (h : D62 a0 K ⟨w, []⟩) (hK : ∀ v w', K v w' → R (.returned v) w') : Calls P 62 #[a0] w R :=
  calls_of bodies_ok Tryz.func62 9 [.tmp 2] (c := b62) (args := [a0]) (K := K) (by kernel_rfl) rfl (e62 a0 K) h hK

/-- rollcall/rollcallref06.Text -/
def D63 (a0 : Value) (K : Value → World → Prop) (s : St) : Prop :=
  Cl P 24 #[a0] (fun v1 s => Bo P .neq 3 false true v1 (.int .i64 0) (fun v2 s => CondP v2 (Ret P (fun w => K (.string ⟨#[]⟩) w) s) (L2 (.string ⟨#[]⟩) (.int .i64 0) s (fun N3 x4 x5 s => Bi P .len #[22] 3 #[false] #[a0] (fun v6 s => Bo P .lss 3 false false x5 v6 (fun v7 s => CondP v7 (J1 (fun A8 => J1 (fun A10 => Bo P .gtr 3 false true x5 (.int .i64 0) (fun v12 s => CondP v12 (Bo P .add 9 false true x4 (.string ⟨#[59]⟩) (fun v13 s => A10 v13 s) s) (A10 x4 s)) s) (fun x11 s => Ia P 22 a0 x5 (fun v14 s => Fa P 49 v14 0 (fun v15 s => Ld P 9 v15 (fun v16 s => Bo P .add 9 false false x11 v16 (fun v17 s => Ia P 22 a0 x5 (fun v18 s => Fa P 49 v18 1 (fun v19 s => Ld P 9 v19 (fun v20 s => Bo P .neq 9 false true v20 (.string ⟨#[]⟩) (fun v21 s => CondP v21 (Bo P .add 9 false true v17 (.string ⟨#[61]⟩) (fun v22 s => Ia P 22 a0 x5 (fun v23 s => Fa P 49 v23 1 (fun v24 s => Ld P 9 v24 (fun v25 s => Cl P 97 #[v25] (fun v26 s => Bo P .add 9 false false v22 v26 (fun v27 s => A8 v27 s) s) s) s) s) s) s) (A8 v17 s)) s) s) s) s) s) s) s) s)) (fun x9 s => Bo P .add 3 false true x5 (.int .i64 1) (fun v28 s => N3 x9 v28 s) s)) (Ret P (fun w => K x4 w) s)) s) s))) s) s
noncomputable def b63 : Code := Tryz.f63.body.getD .skip
theorem e63 (a0 : Value) (K : Value → World → Prop) : wpc P bmask 41 none b63 (lmOf [.tmp 2]) (ktOf P 41 [.tmp 2] K) (frOf [a0]) = D63 a0 K := by kernel_rfl
theorem c63 {a0 w : _} {K : Value → World → Prop} {R : Ending → World → Prop} (h : D63 a0 K ⟨w, []⟩) (hK : ∀ v w', K v w' → R (.returned v) w') : Calls P 63 #[a0] w R :=
  calls_of bodies_ok Tryz.func63 41 [.tmp 2] (c := b63) (args := [a0]) (K := K) (by kernel_rfl) rfl (e63 a0 K) h hK

/-- (*strings.Builder).WriteString -/
def D64 (a0 a1 : Value) (K : Value → World → Prop) (s : St) : Prop :=
  Cl P 98 #[a0] (fun _ s => Nc P a0 (fun v2 s => Fa P 80 v2 1 (fun v3 s => Ld P 76 v3 (fun v4 s => Bi P .append #[76, 9] 76 #[false, false] #[v4, a1] (fun v5 s => Nc P a0 (fun v6 s => Fa P 80 v6 1 (fun v7 s => Sv P 76 v7 v5 (fun _ s => Bi P .len #[9] 3 #[false] #[a1] (fun v8 s => Ret P (fun w => K (.tuple #[v8, .nilIface]) w) s) s) s) s) s) s) s) s) s) s
noncomputable def b64 : Code := Tryz.f64.body.getD .skip
theorem e64 (a0 a1 : Value) (K : Value → World → Prop) : wpc P bmask 19 none b64 (lmOf [.tmp 4, .tmp 5]) (ktOf P 19 [.tmp 4, .tmp 5] K) (frOf [a0, a1]) = D64 a0 a1 K := by kernel_rfl
theorem c64 {a0 a1 w : _} {K : Value → World → Prop} {R : Ending → World → Prop} (h : D64 a0 a1 K ⟨w, []⟩) (hK : ∀ v w', K v w' → R (.returned v) w') : Calls P 64 #[a0, a1] w R :=
  calls_of bodies_ok Tryz.func64 19 [.tmp 4, .tmp 5] (c := b64) (args := [a0, a1]) (K := K) (by kernel_rfl) rfl (e64 a0 a1 K) h hK

/-- rollcall/tags.Text -/
def D65 (a0 : Value) (K : Value → World → Prop) (s : St) : Prop :=
  Cl P 31 #[a0] (fun v1 s => Bo P .neq 30 false true v1 (.int .i64 0) (fun v2 s => CondP v2 (Ret P (fun w => K (.string ⟨#[]⟩) w) s) (Bi P .len #[22] 3 #[false] #[a0] (fun v3 s => L2 (.slice none 0 0) (.int .i64 0) s (fun N4 x5 x6 s => Bo P .lss 3 false false x6 v3 (fun v7 s => CondP v7 (Ia P 22 a0 x6 (fun v8 s => Ld P 49 v8 (fun v9 s => Al P 49 (fun v10 s => Sv P 49 v10 v9 (fun _ s => Fa P 49 v10 0 (fun v11 s => Ld P 9 v11 (fun v12 s => J1 (fun A13 => Fa P 49 v10 1 (fun v15 s => Ld P 9 v15 (fun v16 s => Bo P .neq 9 false true v16 (.string ⟨#[]⟩) (fun v17 s => CondP v17 (Fa P 49 v10 1 (fun v18 s => Ld P 9 v18 (fun v19 s => Cl P 99 #[v19] (fun v20 s => Bo P .add 9 true false (.string ⟨#[61]⟩) v20 (fun v21 s => Bo P .add 9 false false v12 v21 (fun v22 s => A13 v22 s) s) s) s) s) s) (A13 v12 s)) s) s) s) (fun x14 s => Bs P 23 1 #[(0, x14)] (fun v23 s => Bi P .append #[23, 23] 23 #[false, false] #[x5, v23] (fun v24 s => Bo P .add 3 false true x6 (.int .i64 1) (fun v25 s => N4 v24 v25 s) s) s) s)) s) s) s) s) s) s) (Cl P 100 #[x5, .string ⟨#[59]⟩] (fun v26 s => Ret P (fun w => K v26 w) s) s)) s)) s)) s) s
noncomputable def b65 : Code := Tryz.f65.body.getD .skip
theorem e65 (a0 : Value) (K : Value → World → Prop) : wpc P bmask 34 none b65 (lmOf [.tmp 2]) (ktOf P 34 [.tmp 2] K) (frOf [a0]) = D65 a0 K := by kernel_rfl
theorem c65 {a0 w : _} {K : Value → World → Prop} {R : Ending → World → Prop} (h : D65 a0 K ⟨w, []⟩) (hK : ∀ v w', K v w' → R (.returned v) w') : Calls P 65 #[a0] w R :=
  calls_of bodies_ok Tryz.func65 34 [.tmp 2] (c := b65) (args := [a0]) (K := K) (by kernel_rfl) rfl (e65 a0 K) h hK

/-- (*strings.Builder).WriteByte -/
def D66 (a0 a1 : Value) (K : Value → World → Prop) (s : St) : Prop :=
  Cl P 98 #[a0] (fun _ s => Nc P a0 (fun v2 s => Fa P 80 v2 1 (fun v3 s => Ld P 76 v3 (fun v4 s => Bs P 76 1 #[(0, a1)] (fun v5 s => Bi P .append #[76, 76] 76 #[false, false] #[v4, v5] (fun v6 s => Nc P a0 (fun v7 s => Fa P 80 v7 1 (fun v8 s => Sv P 76 v8 v6 (fun _ s => Ret P (fun w => K (.nilIface) w) s) s) s) s) s) s) s) s) s) s
noncomputable def b66 : Code := Tryz.f66.body.getD .skip
theorem e66 (a0 a1 : Value) (K : Value → World → Prop) : wpc P bmask 17 none b66 (lmOf [.tmp 4]) (ktOf P 17 [.tmp 4] K) (frOf [a0, a1]) = D66 a0 a1 K := by kernel_rfl
theorem c66 {a0 a1 w : _} {K : Value → World → Prop} {R : Ending → World → Prop} (h : D66 a0 a1 K ⟨w, []⟩) (hK : ∀ v w', K v w' → R (.returned v) w') : Calls P 66 #[a0, a1] w R :=
  calls_of bodies_ok Tryz.func66 17 [.tmp 4] (c := b66) (args := [a0, a1]) (K := K) (by kernel_rfl) rfl (e66 a0 a1 K) h hK

/-- (*strings.Builder).String -/
def D67 (a0 : Value) (K : Value → World → Prop) (s : St) : Prop :=
  Dw (fun s => Qt (Nc P a0) s fun v1 => Qt (Fa P 80 v1 1) s fun v2 => Qt (Ld P 76 v2) s fun v3 => Qt (Nc P a0) s fun v4 => Qt (Fa P 80 v4 1) s fun v5 => Qt (Ld P 76 v5) s fun v6 => Qt (Bi P .len #[76] 3 #[false] #[v6]) s fun v7 => Bi P .unsafeSliceData #[76] 109 #[false] #[v3] (fun v8 s => Ck (Nc P a0) v4 s ∧ Ck (Fa P 80 v4 1) v5 s ∧ Ck (Ld P 76 v5) v6 s ∧ Ck (Bi P .len #[76] 3 #[false] #[v6]) v7 s ∧ (Bi P .unsafeString #[109, 3] 9 #[false, false] #[v8, v7] (fun v9 s => Ret P (fun w => K v9 w) s) s)) s) s
noncomputable def b67 : Code := Tryz.f67.body.getD .skip
theorem e67 (a0 : Value) (K : Value → World → Prop) : wpc P bmask 14 none b67 (lmOf [.tmp 2]) (ktOf P 14 [.tmp 2] K) (frOf [a0]) = D67 a0 K := by kernel_rfl
theorem c67 {a0 w : _} {K : Value → World → Prop} {R : Ending → World → Prop} (h : D67 a0 K ⟨w, []⟩) (hK : ∀ v w', K v w' → R (.returned v) w') : Calls P 67 #[a0] w R :=
  calls_of bodies_ok Tryz.func67 14 [.tmp 2] (c := b67) (args := [a0]) (K := K) (by kernel_rfl) rfl (e67 a0 K) h hK

/-- rollcall/tags.named -/
def D68 (a0 : Value) (K : Value → World → Prop) (s : St) : Prop :=
  Bo P .eql 9 false true a0 (.string ⟨#[]⟩) (fun v1 s => CondP v1 (Ret P (fun w => K (.int .i64 9) w) s) (Bi P .len #[9] 3 #[false] #[a0] (fun v2 s => L1 (.int .i64 0) s (fun N3 x4 s => Bo P .lss 3 false false x4 v2 (fun v5 s => CondP v5 (Ix P 9 a0 x4 (fun v6 s => Bo P .lss 5 false true v6 (byteV 97) (fun v7 s => J1 (fun A8 => Grd v7 false (Bo P .gtr 5 false true v6 (byteV 122) (fun v10 s => A8 v10 s) s) (A8 undef s)) (fun x9 s => Pk P v7 (.bool true) x9 (fun v11 s => J1 (fun A12 => Grd v11 true (Bo P .lss 5 false true v6 (byteV 65) (fun v14 s => A12 v14 s) s) (A12 undef s)) (fun x13 s => J1 (fun A15 => Grd x13 false (Bo P .gtr 5 false true v6 (byteV 90) (fun v17 s => A15 v17 s) s) (A15 undef s)) (fun x16 s => J1 (fun A18 => Grd v11 true (Pk P x13 (.bool true) x16 (fun v20 s => A18 v20 s) s) (A18 undef s)) (fun x19 s => Pk P v11 x19 (.bool false) (fun v21 s => J1 (fun A22 => Grd v21 true (Bo P .lss 5 false true v6 (byteV 48) (fun v24 s => A22 v24 s) s) (A22 undef s)) (fun x23 s => J1 (fun A25 => Grd x23 false (Bo P .gtr 5 false true v6 (byteV 57) (fun v27 s => A25 v27 s) s) (A25 undef s)) (fun x26 s => J1 (fun A28 => Grd v21 true (Pk P x23 (.bool true) x26 (fun v30 s => A28 v30 s) s) (A28 undef s)) (fun x29 s => Pk P v21 x29 (.bool false) (fun v31 s => J1 (fun A32 => Grd v31 true (Cl P 69 #[.string ⟨#[45, 47, 43, 46]⟩, v6] (fun v34 s => Bo P .lss 3 false true v34 (.int .i64 0) (fun v35 s => A32 v35 s) s) s) (A32 undef s)) (fun x33 s => Pk P v31 x33 (.bool false) (fun v36 s => CondP v36 (Ret P (fun w => K (.int .i64 10) w) s) (Bo P .add 3 false true x4 (.int .i64 1) (fun v37 s => N3 v37 s) s)) s)) s)))) s)))) s)) s) s) (Ret P (fun w => K (.int .i64 0) w) s)) s)) s)) s
noncomputable def b68 : Code := Tryz.f68.body.getD .skip
theorem e68 (a0 : Value) (K : Value → World → Prop) : wpc P bmask 43 none b68 (lmOf [.tmp 2]) (ktOf P 43 [.tmp 2] K) (frOf [a0]) = D68 a0 K := by kernel_rfl
theorem c68 {a0 w : _} {K : Value → World → Prop} {R : Ending → World → Prop} (h : D68 a0 K ⟨w, []⟩) (hK : ∀ v w', K v w' → R (.returned v) w') : Calls P 68 #[a0] w R :=
  calls_of bodies_ok Tryz.func68 43 [.tmp 2] (c := b68) (args := [a0]) (K := K) (by kernel_rfl) rfl (e68 a0 K) h hK

/-- strings.IndexByte -/
def D69 (a0 a1 : Value) (K : Value → World → Prop) (s : St) : Prop :=
  Cl P 101 #[a0, a1] (fun v1 s => Ret P (fun w => K v1 w) s) s
noncomputable def b69 : Code := Tryz.f69.body.getD .skip
theorem e69 (a0 a1 : Value) (K : Value → World → Prop) : wpc P bmask 8 none b69 (lmOf [.tmp 4]) (ktOf P 8 [.tmp 4] K) (frOf [a0, a1]) = D69 a0 a1 K := by kernel_rfl
theorem c69 {a0 a1 w : _} {K : Value → World → Prop} {R : Ending → World → Prop} (h : D69 a0 a1 K ⟨w, []⟩) (hK : ∀ v w', K v w' → R (.returned v) w') : Calls P 69 #[a0, a1] w R :=
  calls_of bodies_ok Tryz.func69 8 [.tmp 4] (c := b69) (args := [a0, a1]) (K := K) (by kernel_rfl) rfl (e69 a0 a1 K) h hK

/-- rollcall/tags.Get -/
def D70 (a0 a1 : Value) (K : Value → World → Prop) (s : St) : Prop :=
  Bi P .len #[22] 3 #[false] #[a0] (fun v1 s => L1 (.int .i64 0) s (fun N2 x3 s => Bo P .lss 3 false false x3 v1 (fun v4 s => CondP v4 (Ia P 22 a0 x3 (fun v5 s => Ld P 49 v5 (fun v6 s => Al P 49 (fun v7 s => Sv P 49 v7 v6 (fun _ s => Fa P 49 v7 0 (fun v8 s => Ld P 9 v8 (fun v9 s => Bo P .eql 9 false false v9 a1 (fun v10 s => CondP v10 (Fa P 49 v7 1 (fun v11 s => Ld P 9 v11 (fun v12 s => Ret P (fun w => K (.tuple #[v12, .bool true]) w) s) s) s) (Bo P .add 3 false true x3 (.int .i64 1) (fun v13 s => N2 v13 s) s)) s) s) s) s) s) s) s) (Ret P (fun w => K (.tuple #[.string ⟨#[]⟩, .bool false]) w) s)) s)) s
noncomputable def b70 : Code := Tryz.f70.body.getD .skip
theorem e70 (a0 a1 : Value) (K : Value → World → Prop) : wpc P bmask 21 none b70 (lmOf [.tmp 4, .tmp 5]) (ktOf P 21 [.tmp 4, .tmp 5] K) (frOf [a0, a1]) = D70 a0 a1 K := by kernel_rfl
theorem c70 {a0 a1 w : _} {K : Value → World → Prop} {R : Ending → World → Prop} (h : D70 a0 a1 K ⟨w, []⟩) (hK : ∀ v w', K v w' → R (.returned v) w') : Calls P 70 #[a0, a1] w R :=
  calls_of bodies_ok Tryz.func70 21 [.tmp 4, .tmp 5] (c := b70) (args := [a0, a1]) (K := K) (by kernel_rfl) rfl (e70 a0 a1 K) h hK

/-- rollcall/valid.all -/
def D71 (a0 a1 a2 a3 : Value) (K : Value → World → Prop) (s : St) : Prop :=
  Bi P .len #[9] 3 #[false] #[a0] (fun v1 s => Bo P .lss 3 false false v1 a1 (fun v2 s => J1 (fun A3 => Grd v2 false (Bi P .len #[9] 3 #[false] #[a0] (fun v5 s => Bo P .gtr 3 false false v5 a2 (fun v6 s => A3 v6 s) s) s) (A3 undef s)) (fun x4 s => Pk P v2 (.bool true) x4 (fun v7 s => CondP v7 (Ret P (fun w => K (.bool false) w) s) (Cl P 102 #[] (fun v8 s => Al P 110 (fun v9 s => Sv P 110 v9 v8 (fun _ s => Bi P .len #[9] 3 #[false] #[a0] (fun v10 s => L1 (.int .i64 0) s (fun N11 x12 s => Bo P .lss 3 false false x12 v10 (fun v13 s => CondP v13 (Ix P 9 a0 x12 (fun v14 s => Ia P 110 v9 v14 (fun v15 s => Ld P 93 v15 (fun v16 s => Bo P .and 93 false false v16 a3 (fun v17 s => Bo P .eql 93 false true v17 (.int .u16 0) (fun v18 s => CondP v18 (Ret P (fun w => K (.bool false) w) s) (Bo P .add 3 false true x12 (.int .i64 1) (fun v19 s => N11 v19 s) s)) s) s) s) s) s) (Ret P (fun w => K (.bool true) w) s)) s)) s) s) s) s)) s)) s) s
noncomputable def b71 : Code := Tryz.f71.body.getD .skip
theorem e71 (a0 a1 a2 a3 : Value) (K : Value → World → Prop) : wpc P bmask 36 none b71 (lmOf [.tmp 8]) (ktOf P 36 [.tmp 8] K) (frOf [a0, a1, a2, a3]) = D71 a0 a1 a2 a3 K := by kernel_rfl
theorem c71 {a0 a1 a2 a3 w : _} {K : Value → World → Prop} {R : Ending → World → Prop} (h : D71 a0 a1 a2 a3 K ⟨w, []⟩) (hK : ∀ v w', K v w' → R (.returned v) w') : Calls P 71 #[a0, a1, a2, a3] w R :=
  calls_of bodies_ok Tryz.func71 36 [.tmp 8] (c := b71) (args := [a0, a1, a2, a3]) (K := K) (by kernel_rfl) rfl (e71 a0 a1 a2 a3 K) h hK



/-- strings.Trim -/
def D74 (a0 a1 : Value) (K : Value → World → Prop) (s : St) : Prop :=
  Bo P .eql 9 false true a0 (.string ⟨#[]⟩) (fun v1 s => J1 (fun A2 => Grd v1 false (Bo P .eql 9 false true a1 (.string ⟨#[]⟩) (fun v4 s => A2 v4 s) s) (A2 undef s)) (fun x3 s => Pk P v1 (.bool true) x3 (fun v5 s => CondP v5 (Ret P (fun w => K a0 w) s) (Bi P .len #[9] 3 #[false] #[a1] (fun v6 s => Bo P .eql 3 false true v6 (.int .i64 1) (fun v7 s => J1 (fun A8 => Grd v7 true (Ix P 9 a1 (.int .i64 0) (fun v10 s => Bo P .lss 5 false true v10 (byteV 128) (fun v11 s => A8 v11 s) s) s) (A8 undef s)) (fun x9 s => Pk P v7 x9 (.bool false) (fun v12 s => CondP v12 (Dw (fun s => Qt (Ix P 9 a1 (.int .i64 0)) s fun v13 => Qt (Ix P 9 a1 (.int .i64 0)) s fun v14 => Cl P 105 #[a0, v13] (fun v15 s => Ck (Ix P 9 a1 (.int .i64 0)) v14 s ∧ (Cl P 104 #[v15, v14] (fun v16 s => Ret P (fun w => K v16 w) s) s)) s) s) (Cl P 106 #[a1] (fun v17 s => Ex P v17 0 (fun v18 s => Ex P v17 1 (fun v19 s => Al P 114 (fun v20 s => Sv P 114 v20 v18 (fun _ s => CondP v19 (Cl P 108 #[a0, v20] (fun v21 s => Cl P 107 #[v21, v20] (fun v22 s => Ret P (fun w => K v22 w) s) s) s) (Cl P 110 #[a0, a1] (fun v23 s => Cl P 109 #[v23, a1] (fun v24 s => Ret P (fun w => K v24 w) s) s) s)) s) s) s) s) s)) s)) s) s)) s)) s
noncomputable def b74 : Code := Tryz.f74.body.getD .skip
theorem e74 (a0 a1 : Value) (K : Value → World → Prop) : wpc P bmask 43 none b74 (lmOf [.tmp 4]) (ktOf P 43 [.tmp 4] K) (frOf [a0, a1]) = D74 a0 a1 K := by kernel_rfl
theorem c74 {a0 a1 w : _} {K : Value → World → Prop} {R : Ending → World → Prop} (h : D74 a0 a1 K ⟨w, []⟩) (hK : ∀ v w', K v w' → R (.returned v) w') : Calls P 74 #[a0, a1] w R :=
  calls_of bodies_ok Tryz.func74 43 [.tmp 4] (c := b74) (args := [a0, a1]) (K := K) (by kernel_rfl) rfl (e74 a0 a1 K) h hK



/-- strings.Cut -/
def D77 (a0 a1 : Value) (K : Value → World → Prop) (s : St) : Prop :=
  Cl P 111 #[a0, a1] (fun v1 s => Ex P v1 0 (fun v2 s => Ex P v1 1 (fun v3 s => Ex P v1 2 (fun v4 s => Ret P (fun w => K (.tuple #[v2, v3, v4]) w) s) s) s) s) s
noncomputable def b77 : Code := Tryz.f77.body.getD .skip
theorem e77 (a0 a1 : Value) (K : Value → World → Prop) : wpc P bmask 13 none b77 (lmOf [.tmp 4, .tmp 5, .tmp 6]) (ktOf P 13 [.tmp 4, .tmp 5, .tmp 6] K) (frOf [a0, a1]) = D77 a0 a1 K := by kernel_rfl
theorem c77 {a0 a1 w : _} {K : Value → World → Prop} {R : Ending → World → Prop} (h : D77 a0 a1 K ⟨w, []⟩) (hK : ∀ v w', K v w' → R (.returned v) w') : Calls P 77 #[a0, a1] w R :=
  calls_of bodies_ok Tryz.func77 13 [.tmp 4, .tmp 5, .tmp 6] (c := b77) (args := [a0, a1]) (K := K) (by kernel_rfl) rfl (e77 a0 a1 K) h hK


/-- strings.Split -/
def D79 (a0 a1 : Value) (K : Value → World → Prop) (s : St) : Prop :=
  Cl P 112 #[a0, a1, .int .i64 0, .int .i64 (-1)] (fun v1 s => Ret P (fun w => K v1 w) s) s
noncomputable def b79 : Code := Tryz.f79.body.getD .skip
theorem e79 (a0 a1 : Value) (K : Value → World → Prop) : wpc P bmask 8 none b79 (lmOf [.tmp 4]) (ktOf P 8 [.tmp 4] K) (frOf [a0, a1]) = D79 a0 a1 K := by kernel_rfl
theorem c79 {a0 a1 w : _} {K : Value → World → Prop} {R : Ending → World → Prop} (h : D79 a0 a1 K ⟨w, []⟩) (hK : ∀ v w', K v w' → R (.returned v) w') : Calls P 79 #[a0, a1] w R :=
  calls_of bodies_ok Tryz.func79 8 [.tmp 4] (c := b79) (args := [a0, a1]) (K := K) (by kernel_rfl) rfl (e79 a0 a1 K) h hK






/-- rollcall/message.Make -/
def D85 (a0 a1 a2 : Value) (K : Value → World → Prop) (s : St) : Prop :=
  Bi P .len #[9] 3 #[false] #[a0] (fun v1 s => Cl P 117 #[a0, v1] (fun v2 s => Cl P 116 #[v2, .string ⟨#[32]⟩, .string ⟨#[45]⟩] (fun v3 s => Bd P 25 #[(1, v3), (2, a1)] (fun v4 s => Al P 25 (fun v5 s => Sv P 25 v5 v4 (fun _ s => Bi P .len #[23] 3 #[false] #[a2] (fun v6 s => L1 (.int .i64 0) s (fun N7 x8 s => Bo P .lss 3 false false x8 v6 (fun v9 s => CondP v9 (Ia P 23 a2 x8 (fun v10 s => Ld P 9 v10 (fun v11 s => Bi P .len #[9] 3 #[false] #[v11] (fun v12 s => Cl P 117 #[v11, v12] (fun v13 s => J1 (fun A14 => Bi P .len #[23] 3 #[false] #[a2] (fun v16 s => Bo P .sub 3 false true v16 (.int .i64 1) (fun v17 s => Bo P .lss 3 false false x8 v17 (fun v18 s => CondP v18 (Cl P 118 #[v13] (fun v19 s => A14 v19 s) s) (A14 v13 s)) s) s) s) (fun x15 s => Fa P 25 v5 3 (fun v20 s => Ld P 23 v20 (fun v21 s => Bs P 23 1 #[(0, x15)] (fun v22 s => Bi P .append #[23, 23] 23 #[false, false] #[v21, v22] (fun v23 s => Fa P 25 v5 3 (fun v24 s => Sv P 23 v24 v23 (fun _ s => Bo P .add 3 false true x8 (.int .i64 1) (fun v25 s => N7 v25 s) s) s) s) s) s) s) s)) s) s) s) s) (Cl P 36 #[a1] (fun v26 s => Uo P .not v26 (fun v27 s => J1 (fun A28 => Grd v27 false (Cl P 37 #[a1] (fun v30 s => Bo P .neq 9 false false v30 a1 (fun v31 s => A28 v31 s) s) s) (A28 undef s)) (fun x29 s => Pk P v27 (.bool true) x29 (fun v32 s => J1 (fun A33 => Grd v32 false (Bi P .len #[23] 3 #[false] #[a2] (fun v35 s => Bo P .gtr 3 false true v35 (.int .i64 15) (fun v36 s => A33 v36 s) s) s) (A33 undef s)) (fun x34 s => Pk P v32 (.bool true) x34 (fun v37 s => CondP v37 (Ret P (fun w => K (.string ⟨#[]⟩) w) s) (Ld P 25 v5 (fun v38 s => Cl P 30 #[v38] (fun v39 s => Bi P .len #[9] 3 #[false] #[v39] (fun v40 s => Bi P .min #[3, 3] 3 #[false, true] #[v40, .int .i64 510] (fun v41 s => Sl P 9 v39 none (some v41) none (fun v42 s => Ret P (fun w => K v42 w) s) s) s) s) s) s)) s)) s)) s) s)) s)) s) s) s) s) s) s) s
noncomputable def b85 : Code := Tryz.f85.body.getD .skip
theorem e85 (a0 a1 a2 : Value) (K : Value → World → Prop) : wpc P bmask 64 none b85 (lmOf [.tmp 6]) (ktOf P 64 [.tmp 6] K) (frOf [a0, a1, a2]) = D85 a0 a1 a2 K := by kernel_rfl
theorem c85 {a0 a1 a2 w : _} {K : Value → World → Prop} {R : Ending → World → Prop} (h : D85 a0 a1 a2 K ⟨w, []⟩) (hK : ∀ v w', K v w' → R (.returned v) w') : Calls P 85 #[a0, a1, a2] w R :=
  calls_of bodies_ok Tryz.func85 64 [.tmp 6] (c := b85) (args := [a0, a1, a2]) (K := K) (by kernel_rfl) rfl (e85 a0 a1 a2 K) h hK

/-- rollcall/reply.digits -/
def D86 (a0 : Value) (K : Value → World → Prop) (s : St) : Prop :=
  Bo P .quo 3 false true a0 (.int .i64 100) (fun v1 s => Bo P .add 3 true false (.int .i64 48) v1 (fun v2 s => Cv P 3 5 v2 (fun v3 s => Bo P .quo 3 false true a0 (.int .i64 10) (fun v4 s => Bo P .rem 3 false true v4 (.int .i64 10) (fun v5 s => Bo P .add 3 true false (.int .i64 48) v5 (fun v6 s => Cv P 3 5 v6 (fun v7 s => Bo P .rem 3 false true a0 (.int .i64 10) (fun v8 s => Bo P .add 3 true false (.int .i64 48) v8 (fun v9 s => Cv P 3 5 v9 (fun v10 s => Bs P 76 3 #[(0, v3), (1, v7), (2, v10)] (fun v11 s => Cv P 76 9 v11 (fun v12 s => Ret P (fun w => K v12 w) s) s) s) s) s) s) s) s) s) s) s) s) s
noncomputable def b86 : Code := Tryz.f86.body.getD .skip
theorem e86 (a0 : Value) (K : Value → World → Prop) : wpc P bmask 18 none b86 (lmOf [.tmp 2]) (ktOf P 18 [.tmp 2] K) (frOf [a0]) = D86 a0 K := by kernel_rfl
theorem c86 {a0 w : _} {K : Value → World → Prop} {R : Ending → World → Prop} (h : D86 a0 K ⟨w, []⟩) (hK : ∀ v w', K v w' → R (.returned v) w') : Calls P 86 #[a0] w R :=
  calls_of bodies_ok Tryz.func86 18 [.tmp 2] (c := b86) (args := [a0]) (K := K) (by kernel_rfl) rfl (e86 a0 K) h hK

/-- rollcall/rollcallref07.Make -/
def D87 (a0 a1 a2 : Value) (K : Value → World → Prop) (s : St) : Prop :=
  Cl P 27 #[a1] (fun v1 s => Uo P .not v1 (fun v2 s => J1 (fun A3 => Grd v2 false (Cl P 28 #[a1] (fun v5 s => Bo P .neq 9 false false v5 a1 (fun v6 s => A3 v6 s) s) s) (A3 undef s)) (fun x4 s => Pk P v2 (.bool true) x4 (fun v7 s => J1 (fun A8 => Grd v7 false (Bi P .len #[23] 3 #[false] #[a2] (fun v10 s => Bo P .gtr 3 false true v10 (.int .i64 15) (fun v11 s => A8 v11 s) s) s) (A8 undef s)) (fun x9 s => Pk P v7 (.bool true) x9 (fun v12 s => CondP v12 (Ret P (fun w => K (.string ⟨#[]⟩) w) s) (Bi P .len #[9] 3 #[false] #[a0] (fun v13 s => Cl P 120 #[a0, v13] (fun v14 s => Cl P 119 #[v14, .bool false] (fun v15 s => Bd P 25 #[(1, v15), (2, a1)] (fun v16 s => Al P 25 (fun v17 s => Sv P 25 v17 v16 (fun _ s => L1 (.int .i64 0) s (fun N18 x19 s => Bi P .len #[23] 3 #[false] #[a2] (fun v20 s => Bo P .lss 3 false false x19 v20 (fun v21 s => CondP v21 (Dw (fun s => Qt (Ia P 23 a2 x19) s fun v22 => Qt (Ld P 9 v22) s fun v23 => Qt (Ia P 23 a2 x19) s fun v24 => Qt (Ld P 9 v24) s fun v25 => Qt (Bi P .len #[9] 3 #[false] #[v25]) s fun v26 => Cl P 120 #[v23, v26] (fun v27 s => J1 (fun A28 => Bi P .len #[23] 3 #[false] #[a2] (fun v30 s => Bo P .sub 3 false true v30 (.int .i64 1) (fun v31 s => Bo P .lss 3 false false x19 v31 (fun v32 s => CondP v32 (Cl P 119 #[v27, .bool true] (fun v33 s => Bo P .eql 9 false true v33 (.string ⟨#[]⟩) (fun v34 s => CondP v34 (A28 (.string ⟨#[42]⟩) s) (A28 v33 s)) s) s) (A28 v27 s)) s) s) s) (fun x29 s => Fa P 25 v17 3 (fun v35 s => Ld P 23 v35 (fun v36 s => Bs P 23 1 #[(0, x29)] (fun v37 s => Bi P .append #[23, 23] 23 #[false, false] #[v36, v37] (fun v38 s => Fa P 25 v17 3 (fun v39 s => Sv P 23 v39 v38 (fun _ s => Bo P .add 3 false true x19 (.int .i64 1) (fun v40 s => N18 v40 s) s) s) s) s) s) s) s)) s) s) (Ld P 25 v17 (fun v41 s => Cl P 29 #[v41] (fun v42 s => J1 (fun A43 => Bi P .len #[9] 3 #[false] #[v42] (fun v45 s => Bo P .gtr 3 false true v45 (.int .i64 510) (fun v46 s => CondP v46 (Sl P 9 v42 none (some (.int .i64 510)) none (fun v47 s => A43 v47 s) s) (A43 v42 s)) s) s) (fun x44 s => Ret P (fun w => K x44 w) s)) s) s)) s) s)) s) s) s) s) s) s)) s)) s)) s) s
noncomputable def b87 : Code := Tryz.f87.body.getD .skip
theorem e87 (a0 a1 a2 : Value) (K : Value → World → Prop) : wpc P bmask 71 none b87 (lmOf [.tmp 6]) (ktOf P 71 [.tmp 6] K) (frOf [a0, a1, a2]) = D87 a0 a1 a2 K := by kernel_rfl
theorem c87 {a0 a1 a2 w : _} {K : Value → World → Prop} {R : Ending → World → Prop} (h : D87 a0 a1 a2 K ⟨w, []⟩) (hK : ∀ v w', K v w' → R (.returned v) w') : Calls P 87 #[a0, a1, a2] w R :=
  calls_of bodies_ok Tryz.func87 71 [.tmp 6] (c := b87) (args := [a0, a1, a2]) (K := K) (by kernel_rfl) rfl (e87 a0 a1 a2 K) h hK

/-- rollcall/rollcallref14.Code -/
def D88 (a0 : Value) (K : Value → World → Prop) (s : St) : Prop :=
  Bo P .quo 3 false true a0 (.int .i64 100) (fun v1 s => Bo P .add 3 true false (.int .i64 48) v1 (fun v2 s => Cv P 3 5 v2 (fun v3 s => Bo P .quo 3 false true a0 (.int .i64 10) (fun v4 s => Bo P .rem 3 false true v4 (.int .i64 10) (fun v5 s => Bo P .add 3 true false (.int .i64 48) v5 (fun v6 s => Cv P 3 5 v6 (fun v7 s => Bo P .rem 3 false true a0 (.int .i64 10) (fun v8 s => Bo P .add 3 true false (.int .i64 48) v8 (fun v9 s => Cv P 3 5 v9 (fun v10 s => Bs P 76 3 #[(0, v3), (1, v7), (2, v10)] (fun v11 s => Cv P 76 9 v11 (fun v12 s => Ret P (fun w => K v12 w) s) s) s) s) s) s) s) s) s) s) s) s) s
noncomputable def b88 : Code := Tryz.f88.body.getD .skip
theorem e88 (a0 : Value) (K : Value → World → Prop) : wpc P bmask 18 none b88 (lmOf [.tmp 2]) (ktOf P 18 [.tmp 2] K) (frOf [a0]) = D88 a0 K := by kernel_rfl
theorem c88 {a0 w : _} {K : Value → World → Prop} {R : Ending → World → Prop} (h : D88 a0 K ⟨w, []⟩) (hK : ∀ v w', K v w' → R (.returned v) w') : Calls P 88 #[a0] w R :=
  calls_of bodies_ok Tryz.func88 18 [.tmp 2] (c := b88) (args := [a0]) (K := K) (by kernel_rfl) rfl (e88 a0 K) h hK

/-- rollcall/reply.Pack$1 -/
def D89 (a0 a1 a2 a3 a4 : Value) (K : Value → World → Prop) (s : St) : Prop :=
  J1 (fun A1 => Dw (fun s => Qt (Ld P 9 a1) s fun v3 => Qt (Ld P 3 a2) s fun v4 => Qt (Ld P 9 a3) s fun v5 => Qt (Ld P 23 a4) s fun v6 => (Bi P .append #[23, 23] 23 #[true, false] #[.slice none 0 0, v6] (fun v7 s => Ck (Ld P 9 a1) v3 s ∧ Ck (Ld P 3 a2) v4 s ∧ Ck (Ld P 9 a3) v5 s ∧ (Bs P 23 1 #[(0, a0)] (fun v8 s => Ck (Ld P 9 a1) v3 s ∧ Ck (Ld P 3 a2) v4 s ∧ Ck (Ld P 9 a3) v5 s ∧ (Bi P .append #[23, 23] 23 #[false, false] #[v7, v8] (fun v9 s => Ck (Ld P 9 a1) v3 s ∧ Ck (Ld P 3 a2) v4 s ∧ Ck (Ld P 9 a3) v5 s ∧ (Cl P 48 #[v3, v4, v5, v9] (fun v10 s => A1 v10 s) s)) s)) s)) s) ∧ (Bs P 23 1 #[(0, a0)] (fun v11 s => Ck (Ld P 9 a1) v3 s ∧ Ck (Ld P 3 a2) v4 s ∧ Ck (Ld P 9 a3) v5 s ∧ Ck (Ld P 23 a4) v6 s ∧ (Bi P .append #[23, 23] 23 #[true, false] #[.slice none 0 0, v6] (fun v12 s => Ck (Ld P 9 a1) v3 s ∧ Ck (Ld P 3 a2) v4 s ∧ Ck (Ld P 9 a3) v5 s ∧ (Bi P .append #[23, 23] 23 #[false, false] #[v12, v11] (fun v13 s => Ck (Ld P 9 a1) v3 s ∧ Ck (Ld P 3 a2) v4 s ∧ Ck (Ld P 9 a3) v5 s ∧ (Cl P 48 #[v3, v4, v5, v13] (fun v14 s => A1 v14 s) s)) s)) s)) s)) s) (fun x2 s => Ret P (fun w => K x2 w) s)
noncomputable def b89 : Code := Tryz.f89.body.getD .skip
theorem e89 (a0 a1 a2 a3 a4 : Value) (K : Value → World → Prop) : wpc P bmask 16 none b89 (lmOf [.tmp 6]) (ktOf P 16 [.tmp 6] K) (frOf [a0, a1, a2, a3, a4]) = D89 a0 a1 a2 a3 a4 K := by kernel_rfl
theorem c89 {a0 a1 a2 a3 a4 w : _} {K : Value → World → Prop} {R : Ending → World → Prop} (h : D89 a0 a1 a2 a3 a4 K ⟨w, []⟩) (hK : ∀ v w', K v w' → R (.returned v) w') : Calls P 89 #[a0, a1, a2, a3, a4] w R :=
  calls_of bodies_ok Tryz.func89 16 [.tmp 6] (c := b89) (args := [a0, a1, a2, a3, a4]) (K := K) (by kernel_rfl) rfl (e89 a0 a1 a2 a3 a4 K) h hK

/-- rollcall/reply.Pack$2 -/
def D90 (a0 a1 a2 a3 a4 : Value) (K : Value → World → Prop) (s : St) : Prop :=
  J0 (fun A1 => Ld P 9 a1 (fun v2 s => Bo P .neq 9 false true v2 (.string ⟨#[]⟩) (fun v3 s => J1 (fun A4 => Grd v3 true (Ld P 3 a2 (fun v6 s => Bo P .add 3 false true v6 (.int .i64 1) (fun v7 s => Ld P 9 a1 (fun v8 s => Bi P .len #[9] 3 #[false] #[v8] (fun v9 s => Bo P .add 3 false false v7 v9 (fun v10 s => Bo P .add 3 false true v10 (.int .i64 1) (fun v11 s => Bi P .len #[9] 3 #[false] #[a0] (fun v12 s => Bo P .add 3 false false v11 v12 (fun v13 s => Bo P .gtr 3 false true v13 (.int .i64 510) (fun v14 s => A4 v14 s) s) s) s) s) s) s) s) s) s) (A4 undef s)) (fun x5 s => Pk P v3 x5 (.bool false) (fun v15 s => CondP v15 (Dw (fun s => Qt (Ld P 23 a3) s fun v16 => Qt (Ld P 53 a4) s fun v17 => Qt (Ld P 9 a1) s fun v18 => Dy P v17 #[v18] (fun v19 s => Ck (Ld P 23 a3) v16 s ∧ (Bs P 23 1 #[(0, v19)] (fun v20 s => Ck (Ld P 23 a3) v16 s ∧ (Bi P .append #[23, 23] 23 #[false, false] #[v16, v20] (fun v21 s => Sv P 23 a3 v21 (fun _ s => Sv P 9 a1 (.string ⟨#[]⟩) (fun _ s => A1 s) s) s) s)) s)) s) s) (A1 s)) s)) s) s) (fun s => J0 (fun A22 => Ld P 9 a1 (fun v23 s => Bo P .neq 9 false true v23 (.string ⟨#[]⟩) (fun v24 s => CondP v24 (Ld P 9 a1 (fun v25 s => Bo P .add 9 false true v25 (.string ⟨#[32]⟩) (fun v26 s => Sv P 9 a1 v26 (fun _ s => A22 s) s) s) s) (A22 s)) s) s) (fun s => Ld P 9 a1 (fun v27 s => Bo P .add 9 false false v27 a0 (fun v28 s => Sv P 9 a1 v28 (fun _ s => Ret P (fun w => K (.tuple #[]) w) s) s) s) s))
noncomputable def b90 : Code := Tryz.f90.body.getD .skip
theorem e90 (a0 a1 a2 a3 a4 : Value) (K : Value → World → Prop) : wpc P bmask 33 none b90 (lmOf []) (ktOf P 33 [] K) (frOf [a0, a1, a2, a3, a4]) = D90 a0 a1 a2 a3 a4 K := by kernel_rfl
theorem c90 {a0 a1 a2 a3 a4 w : _} {K : Value → World → Prop} {R : Ending → World → Prop} (h : D90 a0 a1 a2 a3 a4 K ⟨w, []⟩) (hK : ∀ v w', K v w' → R (.returned v) w') : Calls P 90 #[a0, a1, a2, a3, a4] w R :=
  calls_of bodies_ok Tryz.func90 33 [] (c := b90) (args := [a0, a1, a2, a3, a4]) (K := K) (by kernel_rfl) rfl (e90 a0 a1 a2 a3 a4 K) h hK

/-- rollcall/reply.word -/
def D91 (a0 : Value) (K : Value → World → Prop) (s : St) : Prop :=
  Bi P .len #[9] 3 #[false] #[a0] (fun v1 s => Cl P 117 #[a0, v1] (fun v2 s => Cl P 116 #[v2, .string ⟨#[32]⟩, .string ⟨#[]⟩] (fun v3 s => Ret P (fun w => K v3 w) s) s) s) s
noncomputable def b91 : Code := Tryz.f91.body.getD .skip
theorem e91 (a0 : Value) (K : Value → World → Prop) : wpc P bmask 8 none b91 (lmOf [.tmp 2]) (ktOf P 8 [.tmp 2] K) (frOf [a0]) = D91 a0 K := by kernel_rfl
theorem c91 {a0 w : _} {K : Value → World → Prop} {R : Ending → World → Prop} (h : D91 a0 K ⟨w, []⟩) (hK : ∀ v w', K v w' → R (.returned v) w') : Calls P 91 #[a0] w R :=
  calls_of bodies_ok Tryz.func91 8 [.tmp 2] (c := b91) (args := [a0]) (K := K) (by kernel_rfl) rfl (e91 a0 K) h hK

/-- slices.Values[[]string,string]$1 -/
def D92 (a0 a1 : Value) (K : Value → World → Prop) (s : St) : Prop :=
  Ld P 23 a1 (fun v1 s => Bi P .len #[23] 3 #[false] #[v1] (fun v2 s => L1 (.int .i64 0) s (fun N3 x4 s => Bo P .lss 3 false false x4 v2 (fun v5 s => CondP v5 (Ia P 23 v1 x4 (fun v6 s => Ld P 9 v6 (fun v7 s => Dy P a0 #[v7] (fun v8 s => Uo P .not v8 (fun v9 s => CondP v9 (Ret P (fun w => K (.tuple #[]) w) s) (Bo P .add 3 false true x4 (.int .i64 1) (fun v10 s => N3 v10 s) s)) s) s) s) s) (Ret P (fun w => K (.tuple #[]) w) s)) s)) s) s
noncomputable def b92 : Code := Tryz.f92.body.getD .skip
theorem e92 (a0 a1 : Value) (K : Value → World → Prop) : wpc P bmask 16 none b92 (lmOf []) (ktOf P 16 [] K) (frOf [a0, a1]) = D92 a0 a1 K := by kernel_rfl
theorem c92 {a0 a1 w : _} {K : Value → World → Prop} {R : Ending → World → Prop} (h : D92 a0 a1 K ⟨w, []⟩) (hK : ∀ v w', K v w' → R (.returned v) w') : Calls P 92 #[a0, a1] w R :=
  calls_of bodies_ok Tryz.func92 16 [] (c := b92) (args := [a0, a1]) (K := K) (by kernel_rfl) rfl (e92 a0 a1 K) h hK

/-- strconv.Itoa -/
def D93 (a0 : Value) (K : Value → World → Prop) (s : St) : Prop :=
  Cl P 121 #[a0] (fun v1 s => Ret P (fun w => K v1 w) s) s
noncomputable def b93 : Code := Tryz.f93.body.getD .skip
theorem e93 (a0 : Value) (K : Value → World → Prop) : wpc P bmask 5 none b93 (lmOf [.tmp 2]) (ktOf P 5 [.tmp 2] K) (frOf [a0]) = D93 a0 K := by kernel_rfl
theorem c93 {a0 w : _} {K : Value → World → Prop} {R : Ending → World → Prop} (h : D93 a0 K ⟨w, []⟩) (hK : ∀ v w', K v w' → R (.returned v) w') : Calls P 93 #[a0] w R :=
  calls_of bodies_ok Tryz.func93 5 [.tmp 2] (c := b93) (args := [a0]) (K := K) (by kernel_rfl) rfl (e93 a0 K) h hK

/-- rollcall/rollcallref14.bare -/
def D94 (a0 : Value) (K : Value → World → Prop) (s : St) : Prop :=
  L2 (.string ⟨#[]⟩) (.int .i64 0) s (fun N1 x2 x3 s => Bi P .len #[9] 3 #[false] #[a0] (fun v4 s => Bo P .lss 3 false false x3 v4 (fun v5 s => CondP v5 (J1 (fun A6 => Ix P 9 a0 x3 (fun v8 s => Bo P .neq 5 false true v8 (byteV 32) (fun v9 s => CondP v9 (Bo P .add 3 false true x3 (.int .i64 1) (fun v10 s => Sl P 9 a0 (some x3) (some v10) none (fun v11 s => Bo P .add 9 false false x2 v11 (fun v12 s => A6 v12 s) s) s) s) (A6 x2 s)) s) s) (fun x7 s => Bo P .add 3 false true x3 (.int .i64 1) (fun v13 s => N1 x7 v13 s) s)) (Bi P .len #[9] 3 #[false] #[x2] (fun v14 s => Cl P 120 #[x2, v14] (fun v15 s => Ret P (fun w => K v15 w) s) s) s)) s) s)
noncomputable def b94 : Code := Tryz.f94.body.getD .skip
theorem e94 (a0 : Value) (K : Value → World → Prop) : wpc P bmask 26 none b94 (lmOf [.tmp 2]) (ktOf P 26 [.tmp 2] K) (frOf [a0]) = D94 a0 K := by kernel_rfl
theorem c94 {a0 w : _} {K : Value → World → Prop} {R : Ending → World → Prop} (h : D94 a0 K ⟨w, []⟩) (hK : ∀ v w', K v w' → R (.returned v) w') : Calls P 94 #[a0] w R :=
  calls_of bodies_ok Tryz.func94 26 [.tmp 2] (c := b94) (args := [a0]) (K := K) (by kernel_rfl) rfl (e94 a0 K) h hK

/-- rollcall/rollcallref14.long -/
def D95 (a0 a1 a2 a3 a4 : Value) (K : Value → World → Prop) (s : St) : Prop :=
  J1 (fun A1 => Bi P .len #[9] 3 #[false] #[a0] (fun v3 s => Cl P 120 #[a0, v3] (fun v4 s => Bo P .neq 9 false true v4 (.string ⟨#[]⟩) (fun v5 s => CondP v5 (Bi P .len #[9] 3 #[false] #[v4] (fun v6 s => Bo P .add 3 false true v6 (.int .i64 2) (fun v7 s => A1 v7 s) s) s) (A1 (.int .i64 0) s)) s) s) s) (fun x2 s => Bo P .add 3 false true x2 (.int .i64 3) (fun v8 s => Bs P 23 1 #[(0, a2)] (fun v9 s => Bi P .append #[23, 23] 23 #[false, false] #[v9, a3] (fun v10 s => J0 (fun A11 => Bo P .eql 9 false true a2 (.string ⟨#[]⟩) (fun v12 s => CondP v12 (Ia P 23 v10 (.int .i64 0) (fun v13 s => Sv P 9 v13 (.string ⟨#[42]⟩) (fun _ s => A11 s) s) s) (A11 s)) s) (fun s => L2 v8 (.int .i64 0) s (fun N14 x15 x16 s => Bi P .len #[23] 3 #[false] #[v10] (fun v17 s => Bo P .lss 3 false false x16 v17 (fun v18 s => CondP v18 (Dw (fun s => Qt (Bo P .add 3 false true x15 (.int .i64 1)) s fun v19 => Qt (Ia P 23 v10 x16) s fun v20 => Qt (Ld P 9 v20) s fun v21 => Qt (Ia P 23 v10 x16) s fun v22 => Qt (Ld P 9 v22) s fun v23 => Qt (Bi P .len #[9] 3 #[false] #[v23]) s fun v24 => Cl P 120 #[v21, v24] (fun v25 s => Ck (Bo P .add 3 false true x15 (.int .i64 1)) v19 s ∧ (Qt (Bi P .len #[9] 3 #[false] #[v25]) s fun v26 => Qt (Bi P .max #[3, 3] 3 #[false, true] #[v26, .int .i64 1]) s fun v27 => Qt (Bo P .add 3 false false v19 v27) s fun v28 => Bo P .add 3 false true x16 (.int .i64 1) (fun v29 s => N14 v28 v29 s) s)) s) s) (Bo P .add 3 false true x15 (.int .i64 2) (fun v30 s => Bi P .len #[9] 3 #[false] #[a4] (fun v31 s => Bo P .add 3 false false v30 v31 (fun v32 s => Ret P (fun w => K v32 w) s) s) s) s)) s) s))) s) s) s)
noncomputable def b95 : Code := Tryz.f95.body.getD .skip
theorem e95 (a0 a1 a2 a3 a4 : Value) (K : Value → World → Prop) : wpc P bmask 60 none b95 (lmOf [.tmp 10]) (ktOf P 60 [.tmp 10] K) (frOf [a0, a1, a2, a3, a4]) = D95 a0 a1 a2 a3 a4 K := by kernel_rfl
theorem c95 {a0 a1 a2 a3 a4 w : _} {K : Value → World → Prop} {R : Ending → World → Prop} (h : D95 a0 a1 a2 a3 a4 K ⟨w, []⟩) (hK : ∀ v w', K v w' → R (.returned v) w') : Calls P 95 #[a0, a1, a2, a3, a4] w R :=
  calls_of bodies_ok Tryz.func95 60 [.tmp 10] (c := b95) (args := [a0, a1, a2, a3, a4]) (K := K) (by kernel_rfl) rfl (e95 a0 a1 a2 a3 a4 K) h hK

/-- rollcall/rollcallref01.Digits -/
def D96 (a0 : Value) (K : Value → World → Prop) (s : St) : Prop :=
  Bo P .lss 3 false true a0 (.int .i64 10) (fun v1 s => CondP v1 (Bo P .add 3 true false (.int .i64 48) a0 (fun v2 s => Cv P 3 5 v2 (fun v3 s => Bs P 76 1 #[(0, v3)] (fun v4 s => Cv P 76 9 v4 (fun v5 s => Ret P (fun w => K v5 w) s) s) s) s) s) (J1 (fun A6 => Dw (fun s => Qt (Bo P .quo 3 false true a0 (.int .i64 10)) s fun v8 => Qt (Bo P .rem 3 false true a0 (.int .i64 10)) s fun v9 => Qt (Bo P .add 3 true false (.int .i64 48) v9) s fun v10 => Qt (Cv P 3 5 v10) s fun v11 => (Cl P 96 #[v8] (fun v12 s => Ck (Bo P .rem 3 false true a0 (.int .i64 10)) v9 s ∧ Ck (Bo P .add 3 true false (.int .i64 48) v9) v10 s ∧ Ck (Cv P 3 5 v10) v11 s ∧ (Bs P 76 1 #[(0, v11)] (fun v13 s => Qt (Cv P 76 9 v13) s fun v14 => Qt (Bo P .add 9 false false v12 v14) s fun v15 => A6 v15 s) s)) s) ∧ (Bs P 76 1 #[(0, v11)] (fun v16 s => Ck (Bo P .quo 3 false true a0 (.int .i64 10)) v8 s ∧ (Qt (Cv P 76 9 v16) s fun v17 => Cl P 96 #[v8] (fun v18 s => Ck (Cv P 76 9 v16) v17 s ∧ (Qt (Bo P .add 9 false false v18 v17) s fun v19 => A6 v19 s)) s)) s)) s) (fun x7 s => Ret P (fun w => K x7 w) s))) s
noncomputable def b96 : Code := Tryz.f96.body.getD .skip
theorem e96 (a0 : Value) (K : Value → World → Prop) : wpc P bmask 20 none b96 (lmOf [.tmp 2]) (ktOf P 20 [.tmp 2] K) (frOf [a0]) = D96 a0 K := by kernel_rfl
theorem c96 {a0 w : _} {K : Value → World → Prop} {R : Ending → World → Prop} (h : D96 a0 K ⟨w, []⟩) (hK : ∀ v w', K v w' → R (.returned v) w') : Calls P 96 #[a0] w R :=
  calls_of bodies_ok Tryz.func96 20 [.tmp 2] (c := b96) (args := [a0]) (K := K) (by kernel_rfl) rfl (e96 a0 K) h hK

/-- rollcall/rollcallref06.Escape -/
def D97 (a0 : Value) (K : Value → World → Prop) (s : St) : Prop :=
  L2 (.string ⟨#[]⟩) (.int .i64 0) s (fun N1 x2 x3 s => Bi P .len #[9] 3 #[false] #[a0] (fun v4 s => Bo P .lss 3 false false x3 v4 (fun v5 s => CondP v5 (J1 (fun A6 => Ix P 9 a0 x3 (fun v8 s => Cl P 122 #[v8] (fun v9 s => Bo P .neq 5 false true v9 (byteV 0) (fun v10 s => CondP v10 (Bs P 76 2 #[(0, byteV 92), (1, v9)] (fun v11 s => Cv P 76 9 v11 (fun v12 s => Bo P .add 9 false false x2 v12 (fun v13 s => A6 v13 s) s) s) s) (Bo P .add 3 false true x3 (.int .i64 1) (fun v14 s => Sl P 9 a0 (some x3) (some v14) none (fun v15 s => Bo P .add 9 false false x2 v15 (fun v16 s => A6 v16 s) s) s) s)) s) s) s) (fun x7 s => Bo P .add 3 false true x3 (.int .i64 1) (fun v17 s => N1 x7 v17 s) s)) (Ret P (fun w => K x2 w) s)) s) s)
noncomputable def b97 : Code := Tryz.f97.body.getD .skip
theorem e97 (a0 : Value) (K : Value → World → Prop) : wpc P bmask 31 none b97 (lmOf [.tmp 2]) (ktOf P 31 [.tmp 2] K) (frOf [a0]) = D97 a0 K := by kernel_rfl
theorem c97 {a0 w : _} {K : Value → World → Prop} {R : Ending → World → Prop} (h : D97 a0 K ⟨w, []⟩) (hK : ∀ v w', K v w' → R (.returned v) w') : Calls P 97 #[a0] w R :=
  calls_of bodies_ok Tryz.func97 31 [.tmp 2] (c := b97) (args := [a0]) (K := K) (by kernel_rfl) rfl (e97 a0 K) h hK

/-- (*strings.Builder).copyCheck -/
def D98 (a0 : Value) (K : Value → World → Prop) (s : St) : Prop :=
  Nc P a0 (fun v1 s => Fa P 80 v1 0 (fun v2 s => Ld P 78 v2 (fun v3 s => Bo P .eql 78 false true v3 (.pointer none) (fun v4 s => CondP v4 (Cv P 78 124 a0 (fun v5 s => Dy P (.func (.func 123) #[] #[]) #[v5] (fun v6 s => Cv P 124 78 v6 (fun v7 s => Nc P a0 (fun v8 s => Fa P 80 v8 0 (fun v9 s => Sv P 78 v9 v7 (fun _ s => Ret P (fun w => K (.tuple #[]) w) s) s) s) s) s) s) s) (Nc P a0 (fun v10 s => Fa P 80 v10 0 (fun v11 s => Ld P 78 v11 (fun v12 s => Bo P .neq 78 false false v12 a0 (fun v13 s => CondP v13 (False) (Ret P (fun w => K (.tuple #[]) w) s)) s) s) s) s)) s) s) s) s
noncomputable def b98 : Code := Tryz.f98.body.getD .skip
theorem e98 (a0 : Value) (K : Value → World → Prop) : wpc P bmask 20 none b98 (lmOf []) (ktOf P 20 [] K) (frOf [a0]) = D98 a0 K := by kernel_rfl
theorem c98 {a0 w : _} {K : Value → World → Prop} {R : Ending → World → Prop} (h : D98 a0 K ⟨w, []⟩) (hK : ∀ v w', K v w' → R (.returned v) w') : Calls P 98 #[a0] w R :=
  calls_of bodies_ok Tryz.func98 20 [] (c := b98) (args := [a0]) (K := K) (by kernel_rfl) rfl (e98 a0 K) h hK

/-- rollcall/tags.Escape -/
def D99 (a0 : Value) (K : Value → World → Prop) (s : St) : Prop :=
  Al P 80 (fun v1 s => Bi P .len #[9] 3 #[false] #[a0] (fun v2 s => L1 (.int .i64 0) s (fun N3 x4 s => Bo P .lss 3 false false x4 v2 (fun v5 s => CondP v5 (J0 (fun A6 => Ix P 9 a0 x4 (fun v7 s => J0 (fun A8 => Bo P .eql 5 false true v7 (byteV 59) (fun v9 s => CondP v9 (Cl P 64 #[v1, .string ⟨#[92, 58]⟩] (fun _ s => A6 s) s) (Bo P .eql 5 false true v7 (byteV 32) (fun v11 s => CondP v11 (Cl P 64 #[v1, .string ⟨#[92, 115]⟩] (fun _ s => A6 s) s) (Bo P .eql 5 false true v7 (byteV 13) (fun v13 s => CondP v13 (Cl P 64 #[v1, .string ⟨#[92, 114]⟩] (fun _ s => A6 s) s) (Bo P .eql 5 false true v7 (byteV 10) (fun v15 s => CondP v15 (Cl P 64 #[v1, .string ⟨#[92, 110]⟩] (fun _ s => A6 s) s) (Bo P .eql 5 false true v7 (byteV 92) (fun v17 s => CondP v17 (Cl P 66 #[v1, byteV 92] (fun _ s => A8 s) s) (A8 s)) s)) s)) s)) s)) s) (fun s => Cl P 66 #[v1, v7] (fun _ s => A6 s) s)) s) (fun s => Bo P .add 3 false true x4 (.int .i64 1) (fun v20 s => N3 v20 s) s)) (Cl P 67 #[v1] (fun v21 s => Ret P (fun w => K v21 w) s) s)) s)) s) s
noncomputable def b99 : Code := Tryz.f99.body.getD .skip
theorem e99 (a0 : Value) (K : Value → World → Prop) : wpc P bmask 34 none b99 (lmOf [.tmp 2]) (ktOf P 34 [.tmp 2] K) (frOf [a0]) = D99 a0 K := by kernel_rfl
theorem c99 {a0 w : _} {K : Value → World → Prop} {R : Ending → World → Prop} (h : D99 a0 K ⟨w, []⟩) (hK : ∀ v w', K v w' → R (.returned v) w') : Calls P 99 #[a0] w R :=
  calls_of bodies_ok Tryz.func99 34 [.tmp 2] (c := b99) (args := [a0]) (K := K) (by kernel_rfl) rfl (e99 a0 K) h hK


/-- internal/stringslite.IndexByte -/
def D101 (a0 a1 : Value) (K : Value → World → Prop) (s : St) : Prop :=
  Dy P (.func (.func 125) #[] #[]) #[a0, a1] (fun v1 s => Ret P (fun w => K v1 w) s) s
noncomputable def b101 : Code := Tryz.f101.body.getD .skip
theorem e101 (a0 a1 : Value) (K : Value → World → Prop) : wpc P bmask 8 none b101 (lmOf [.tmp 4]) (ktOf P 8 [.tmp 4] K) (frOf [a0, a1]) = D101 a0 a1 K := by kernel_rfl
theorem c101 {a0 a1 w : _} {K : Value → World → Prop} {R : Ending → World → Prop} (h : D101 a0 a1 K ⟨w, []⟩) (hK : ∀ v w', K v w' → R (.returned v) w') : Calls P 101 #[a0, a1] w R :=
  calls_of bodies_ok Tryz.func101 8 [.tmp 4] (c := b101) (args := [a0, a1]) (K := K) (by kernel_rfl) rfl (e101 a0 a1 K) h hK

/-- rollcall/valid.kinds -/
def D102 (K : Value → World → Prop) (s : St) : Prop :=
  Al P 110 (fun v1 s => Al P 110 (fun v2 s => L1 (.int .i64 0) s (fun N3 x4 s => Bo P .lss 3 false true x4 (.int .i64 256) (fun v5 s => CondP v5 (J0 (fun A6 => Bo P .geq 3 false true x4 (.int .i64 48) (fun v7 s => J1 (fun A8 => Grd v7 true (Bo P .leq 3 false true x4 (.int .i64 57) (fun v10 s => A8 v10 s) s) (A8 undef s)) (fun x9 s => Pk P v7 x9 (.bool false) (fun v11 s => Bo P .geq 3 false true x4 (.int .i64 33) (fun v12 s => J1 (fun A13 => Grd v12 true (Bo P .leq 3 false true x4 (.int .i64 126) (fun v15 s => A13 v15 s) s) (A13 undef s)) (fun x14 s => Pk P v12 x14 (.bool false) (fun v16 s => J0 (fun A17 => Cl P 126 #[x4] (fun v18 s => J1 (fun A19 => Grd v18 false (Cl P 127 #[.string ⟨#[91, 93, 92, 95, 94, 123, 124, 125, 96]⟩, x4] (fun v21 s => A19 v21 s) s) (A19 undef s)) (fun x20 s => Pk P v18 (.bool true) x20 (fun v22 s => CondP v22 (Ia P 110 v2 x4 (fun v23 s => Ld P 93 v23 (fun v24 s => Bo P .or 93 false true v24 (.int .u16 3) (fun v25 s => Ia P 110 v2 x4 (fun v26 s => Sv P 93 v26 v25 (fun _ s => A17 s) s) s) s) s) s) (A17 s)) s)) s) (fun s => J0 (fun A27 => J1 (fun A28 => Grd v11 false (Bo P .eql 3 false true x4 (.int .i64 45) (fun v30 s => A28 v30 s) s) (A28 undef s)) (fun x29 s => Pk P v11 (.bool true) x29 (fun v31 s => CondP v31 (Ia P 110 v2 x4 (fun v32 s => Ld P 93 v32 (fun v33 s => Bo P .or 93 false true v33 (.int .u16 2) (fun v34 s => Ia P 110 v2 x4 (fun v35 s => Sv P 93 v35 v34 (fun _ s => A27 s) s) s) s) s) s) (A27 s)) s)) (fun s => J0 (fun A36 => Cl P 127 #[.string ⟨#[0, 7, 10, 13, 32, 44, 58]⟩, x4] (fun v37 s => Uo P .not v37 (fun v38 s => CondP v38 (Ia P 110 v2 x4 (fun v39 s => Ld P 93 v39 (fun v40 s => Bo P .or 93 false true v40 (.int .u16 4) (fun v41 s => Ia P 110 v2 x4 (fun v42 s => Sv P 93 v42 v41 (fun _ s => A36 s) s) s) s) s) s) (A36 s)) s) s) (fun s => J0 (fun A43 => J1 (fun A44 => Grd v16 true (Cl P 127 #[.string ⟨#[33, 64, 42, 63, 58]⟩, x4] (fun v46 s => Uo P .not v46 (fun v47 s => A44 v47 s) s) s) (A44 undef s)) (fun x45 s => Pk P v16 x45 (.bool false) (fun v48 s => CondP v48 (Ia P 110 v2 x4 (fun v49 s => Ld P 93 v49 (fun v50 s => Bo P .or 93 false true v50 (.int .u16 8) (fun v51 s => Ia P 110 v2 x4 (fun v52 s => Sv P 93 v52 v51 (fun _ s => A43 s) s) s) s) s) s) (A43 s)) s)) (fun s => J0 (fun A53 => Cl P 126 #[x4] (fun v54 s => J1 (fun A55 => Grd v54 false (A55 v11 s) (A55 undef s)) (fun x56 s => Pk P v54 (.bool true) x56 (fun v57 s => J1 (fun A58 => Grd v57 false (Cl P 127 #[.string ⟨#[46, 45, 58]⟩, x4] (fun v60 s => A58 v60 s) s) (A58 undef s)) (fun x59 s => Pk P v57 (.bool true) x59 (fun v61 s => CondP v61 (Ia P 110 v2 x4 (fun v62 s => Ld P 93 v62 (fun v63 s => Bo P .or 93 false true v63 (.int .u16 16) (fun v64 s => Ia P 110 v2 x4 (fun v65 s => Sv P 93 v65 v64 (fun _ s => A53 s) s) s) s) s) s) (A53 s)) s)) s)) s) (fun s => J0 (fun A66 => J1 (fun A67 => Grd v16 true (Bo P .neq 3 false true x4 (.int .i64 44) (fun v69 s => A67 v69 s) s) (A67 undef s)) (fun x68 s => Pk P v16 x68 (.bool false) (fun v70 s => CondP v70 (Ia P 110 v2 x4 (fun v71 s => Ld P 93 v71 (fun v72 s => Bo P .or 93 false true v72 (.int .u16 32) (fun v73 s => Ia P 110 v2 x4 (fun v74 s => Sv P 93 v74 v73 (fun _ s => A66 s) s) s) s) s) s) (A66 s)) s)) (fun s => Cl P 127 #[.string ⟨#[0, 10, 13]⟩, x4] (fun v75 s => Uo P .not v75 (fun v76 s => CondP v76 (Ia P 110 v2 x4 (fun v77 s => Ld P 93 v77 (fun v78 s => Bo P .or 93 false true v78 (.int .u16 64) (fun v79 s => Ia P 110 v2 x4 (fun v80 s => Sv P 93 v80 v79 (fun _ s => A6 s) s) s) s) s) s) (A6 s)) s) s))))))) s)) s) s)) s) (fun s => Bo P .add 3 false true x4 (.int .i64 1) (fun v81 s => N3 v81 s) s)) (Ld P 110 v2 (fun v82 s => Sv P 110 v1 v82 (fun _ s => Ret P (fun w => LdR P 110 v1 w fun v83 => K v83 w) s) s) s)) s)) s) s
noncomputable def b102 : Code := Tryz.f102.body.getD .skip
theorem e102 (K : Value → World → Prop) : wpc P bmask 94 none b102 (lmOf [.cell 0 110]) (ktOf P 94 [.cell 0 110] K) (frOf []) = D102 K := by kernel_rfl
theorem c102 {w : _} {K : Value → World → Prop} {R : Ending → World → Prop} (h : D102 K ⟨w, []⟩) (hK : ∀ v w', K v w' → R (.returned v) w') : Calls P 102 #[] w R :=
  calls_of bodies_ok Tryz.func102 94 [.cell 0 110] (c := b102) (args := []) (K := K) (by kernel_rfl) rfl (e102 K) h hK


/-- strings.trimLeftByte -/
def D104 (a0 a1 : Value) (K : Value → World → Prop) (s : St) : Prop :=
  L1 a0 s (fun N1 x2 s => Bi P .len #[9] 3 #[false] #[x2] (fun v3 s => Bo P .gtr 3 false true v3 (.int .i64 0) (fun v4 s => J1 (fun A5 => Grd v4 true (Ix P 9 x2 (.int .i64 0) (fun v7 s => Bo P .eql 5 false false v7 a1 (fun v8 s => A5 v8 s) s) s) (A5 undef s)) (fun x6 s => Pk P v4 x6 (.bool false) (fun v9 s => CondP v9 (Sl P 9 x2 (some (.int .i64 1)) none none (fun v10 s => N1 v10 s) s) (Ret P (fun w => K x2 w) s)) s)) s) s)
noncomputable def b104 : Code := Tryz.f104.body.getD .skip
theorem e104 (a0 a1 : Value) (K : Value → World → Prop) : wpc P bmask 17 none b104 (lmOf [.tmp 4]) (ktOf P 17 [.tmp 4] K) (frOf [a0, a1]) = D104 a0 a1 K := by kernel_rfl
theorem c104 {a0 a1 w : _} {K : Value → World → Prop} {R : Ending → World → Prop} (h : D104 a0 a1 K ⟨w, []⟩) (hK : ∀ v w', K v w' → R (.returned v) w') : Calls P 104 #[a0, a1] w R :=
  calls_of bodies_ok Tryz.func104 17 [.tmp 4] (c := b104) (args := [a0, a1]) (K := K) (by kernel_rfl) rfl (e104 a0 a1 K) h hK



/-- strings.trimLeftASCII -/
def D107 (a0 a1 : Value) (K : Value → World → Prop) (s : St) : Prop :=
  J1 (fun A1 => L1 a0 s (fun N3 x4 s => Bi P .len #[9] 3 #[false] #[x4] (fun v5 s => Bo P .gtr 3 false true v5 (.int .i64 0) (fun v6 s => CondP v6 (Ix P 9 x4 (.int .i64 0) (fun v7 s => Cl P 131 #[a1, v7] (fun v8 s => Uo P .not v8 (fun v9 s => CondP v9 (A1 x4 s) (Sl P 9 x4 (some (.int .i64 1)) none none (fun v10 s => N3 v10 s) s)) s) s) s) (A1 x4 s)) s) s)) (fun x2 s => Ret P (fun w => K x2 w) s)
noncomputable def b107 : Code := Tryz.f107.body.getD .skip
theorem e107 (a0 a1 : Value) (K : Value → World → Prop) : wpc P bmask 16 none b107 (lmOf [.tmp 4]) (ktOf P 16 [.tmp 4] K) (frOf [a0, a1]) = D107 a0 a1 K := by kernel_rfl
theorem c107 {a0 a1 w : _} {K : Value → World → Prop} {R : Ending → World → Prop} (h : D107 a0 a1 K ⟨w, []⟩) (hK : ∀ v w', K v w' → R (.returned v) w') : Calls P 107 #[a0, a1] w R :=
  calls_of bodies_ok Tryz.func107 16 [.tmp 4] (c := b107) (args := [a0, a1]) (K := K) (by kernel_rfl) rfl (e107 a0 a1 K) h hK

/-- strings.trimRightASCII -/
def D108 (a0 a1 : Value) (K : Value → World → Prop) (s : St) : Prop :=
  J1 (fun A1 => L1 a0 s (fun N3 x4 s => Bi P .len #[9] 3 #[false] #[x4] (fun v5 s => Bo P .gtr 3 false true v5 (.int .i64 0) (fun v6 s => CondP v6 (Bi P .len #[9] 3 #[false] #[x4] (fun v7 s => Bo P .sub 3 false true v7 (.int .i64 1) (fun v8 s => Ix P 9 x4 v8 (fun v9 s => Cl P 131 #[a1, v9] (fun v10 s => Uo P .not v10 (fun v11 s => CondP v11 (A1 x4 s) (Bi P .len #[9] 3 #[false] #[x4] (fun v12 s => Bo P .sub 3 false true v12 (.int .i64 1) (fun v13 s => Sl P 9 x4 none (some v13) none (fun v14 s => N3 v14 s) s) s) s)) s) s) s) s) s) (A1 x4 s)) s) s)) (fun x2 s => Ret P (fun w => K x2 w) s)
noncomputable def b108 : Code := Tryz.f108.body.getD .skip
theorem e108 (a0 a1 : Value) (K : Value → World → Prop) : wpc P bmask 22 none b108 (lmOf [.tmp 4]) (ktOf P 22 [.tmp 4] K) (frOf [a0, a1]) = D108 a0 a1 K := by kernel_rfl
theorem c108 {a0 a1 w : _} {K : Value → World → Prop} {R : Ending → World → Prop} (h : D108 a0 a1 K ⟨w, []⟩) (hK : ∀ v w', K v w' → R (.returned v) w') : Calls P 108 #[a0, a1] w R :=
  calls_of bodies_ok Tryz.func108 22 [.tmp 4] (c := b108) (args := [a0, a1]) (K := K) (by kernel_rfl) rfl (e108 a0 a1 K) h hK



/-- internal/stringslite.Cut -/
def D111 (a0 a1 : Value) (K : Value → World → Prop) (s : St) : Prop :=
  Cl P 103 #[a0, a1] (fun v1 s => Bo P .geq 3 false true v1 (.int .i64 0) (fun v2 s => CondP v2 (Dw (fun s => Qt (Sl P 9 a0 none (some v1) none) s fun v3 => Qt (Bi P .len #[9] 3 #[false] #[a1]) s fun v4 => Qt (Bo P .add 3 false false v1 v4) s fun v5 => Qt (Sl P 9 a0 (some v5) none none) s fun v6 => Ret P (fun w => K (.tuple #[v3, v6, .bool true]) w) s) s) (Ret P (fun w => K (.tuple #[a0, .string ⟨#[]⟩, .bool false]) w) s)) s) s
noncomputable def b111 : Code := Tryz.f111.body.getD .skip
theorem e111 (a0 a1 : Value) (K : Value → World → Prop) : wpc P bmask 23 none b111 (lmOf [.tmp 4, .tmp 5, .tmp 6]) (ktOf P 23 [.tmp 4, .tmp 5, .tmp 6] K) (frOf [a0, a1]) = D111 a0 a1 K := by kernel_rfl
theorem c111 {a0 a1 w : _} {K : Value → World → Prop} {R : Ending → World → Prop} (h : D111 a0 a1 K ⟨w, []⟩) (hK : ∀ v w', K v w' → R (.returned v) w') : Calls P 111 #[a0, a1] w R :=
  calls_of bodies_ok Tryz.func111 23 [.tmp 4, .tmp 5, .tmp 6] (c := b111) (args := [a0, a1]) (K := K) (by kernel_rfl) rfl (e111 a0 a1 K) h hK

/-- strings.genSplit -/
def D112 (a0 a1 a2 a3 : Value) (K : Value → World → Prop) (s : St) : Prop :=
  Bo P .eql 3 false true a3 (.int .i64 0) (fun v1 s => CondP v1 (Ret P (fun w => K (.slice none 0 0) w) s) (Bo P .eql 9 false true a1 (.string ⟨#[]⟩) (fun v2 s => CondP v2 (Cl P 135 #[a0, a3] (fun v3 s => Ret P (fun w => K v3 w) s) s) (J1 (fun A4 => Bo P .lss 3 false true a3 (.int .i64 0) (fun v6 s => CondP v6 (Cl P 136 #[a0, a1] (fun v7 s => Bo P .add 3 false true v7 (.int .i64 1) (fun v8 s => A4 v8 s) s) s) (A4 a3 s)) s) (fun x5 s => Bi P .len #[9] 3 #[false] #[a0] (fun v9 s => Bo P .add 3 false true v9 (.int .i64 1) (fun v10 s => Bi P .min #[3, 3] 3 #[false, false] #[x5, v10] (fun v11 s => Ms P 23 v11 v11 (fun v12 s => Bo P .sub 3 false true v11 (.int .i64 1) (fun v13 s => J2 (fun A14 => L2 a0 (.int .i64 0) s (fun N17 x18 x19 s => Bo P .lss 3 false false x19 v13 (fun v20 s => CondP v20 (Cl P 72 #[x18, a1] (fun v21 s => Bo P .lss 3 false true v21 (.int .i64 0) (fun v22 s => CondP v22 (A14 x18 x19 s) (Bo P .add 3 false false v21 a2 (fun v23 s => Sl P 9 x18 none (some v23) none (fun v24 s => Ia P 23 v12 x19 (fun v25 s => Sv P 9 v25 v24 (fun _ s => Bi P .len #[9] 3 #[false] #[a1] (fun v26 s => Bo P .add 3 false false v21 v26 (fun v27 s => Sl P 9 x18 (some v27) none none (fun v28 s => Bo P .add 3 false true x19 (.int .i64 1) (fun v29 s => N17 v28 v29 s) s) s) s) s) s) s) s) s)) s) s) (A14 x18 x19 s)) s)) (fun x15 x16 s => Ia P 23 v12 x16 (fun v30 s => Sv P 9 v30 x15 (fun _ s => Bo P .add 3 false true x16 (.int .i64 1) (fun v31 s => Sl P 23 v12 none (some v31) none (fun v32 s => Ret P (fun w => K v32 w) s) s) s) s) s)) s) s) s) s) s))) s)) s
noncomputable def b112 : Code := Tryz.f112.body.getD .skip
theorem e112 (a0 a1 a2 a3 : Value) (K : Value → World → Prop) : wpc P bmask 66 none b112 (lmOf [.tmp 8]) (ktOf P 66 [.tmp 8] K) (frOf [a0, a1, a2, a3]) = D112 a0 a1 a2 a3 K := by kernel_rfl
theorem c112 {a0 a1 a2 a3 w : _} {K : Value → World → Prop} {R : Ending → World → Prop} (h : D112 a0 a1 a2 a3 K ⟨w, []⟩) (hK : ∀ v w', K v w' → R (.returned v) w') : Calls P 112 #[a0, a1, a2, a3] w R :=
  calls_of bodies_ok Tryz.func112 66 [.tmp 8] (c := b112) (args := [a0, a1, a2, a3]) (K := K) (by kernel_rfl) rfl (e112 a0 a1 a2 a3 K) h hK




/-- strings.ReplaceAll -/
def D116 (a0 a1 a2 : Value) (K : Value → World → Prop) (s : St) : Prop :=
  Cl P 139 #[a0, a1, a2, .int .i64 (-1)] (fun v1 s => Ret P (fun w => K v1 w) s) s
noncomputable def b116 : Code := Tryz.f116.body.getD .skip
theorem e116 (a0 a1 a2 : Value) (K : Value → World → Prop) : wpc P bmask 11 none b116 (lmOf [.tmp 6]) (ktOf P 11 [.tmp 6] K) (frOf [a0, a1, a2]) = D116 a0 a1 a2 K := by kernel_rfl
theorem c116 {a0 a1 a2 w : _} {K : Value → World → Prop} {R : Ending → World → Prop} (h : D116 a0 a1 a2 K ⟨w, []⟩) (hK : ∀ v w', K v w' → R (.returned v) w') : Calls P 116 #[a0, a1, a2] w R :=
  calls_of bodies_ok Tryz.func116 11 [.tmp 6] (c := b116) (args := [a0, a1, a2]) (K := K) (by kernel_rfl) rfl (e116 a0 a1 a2 K) h hK

/-- rollcall/valid.Clean -/
def D117 (a0 a1 : Value) (K : Value → World → Prop) (s : St) : Prop :=
  Cl P 102 #[] (fun v1 s => Al P 110 (fun v2 s => Sv P 110 v2 v1 (fun _ s => Al P 80 (fun v3 s => L1 (.int .i64 0) s (fun N4 x5 s => Bi P .len #[9] 3 #[false] #[a0] (fun v6 s => Bo P .lss 3 false false x5 v6 (fun v7 s => J1 (fun A8 => Grd v7 true (Cl P 140 #[v3] (fun v10 s => Bo P .lss 3 false false v10 a1 (fun v11 s => A8 v11 s) s) s) (A8 undef s)) (fun x9 s => Pk P v7 x9 (.bool false) (fun v12 s => CondP v12 (J0 (fun A13 => Ix P 9 a0 x5 (fun v14 s => Ia P 110 v2 v14 (fun v15 s => Ld P 93 v15 (fun v16 s => Bo P .and 93 false true v16 (.int .u16 64) (fun v17 s => Bo P .neq 93 false true v17 (.int .u16 0) (fun v18 s => CondP v18 (Ix P 9 a0 x5 (fun v19 s => Cl P 66 #[v3, v19] (fun _ s => A13 s) s) s) (A13 s)) s) s) s) s) s) (fun s => Bo P .add 3 false true x5 (.int .i64 1) (fun v21 s => N4 v21 s) s)) (Cl P 67 #[v3] (fun v22 s => Ret P (fun w => K v22 w) s) s)) s)) s) s)) s) s) s) s
noncomputable def b117 : Code := Tryz.f117.body.getD .skip
theorem e117 (a0 a1 : Value) (K : Value → World → Prop) : wpc P bmask 32 none b117 (lmOf [.tmp 4]) (ktOf P 32 [.tmp 4] K) (frOf [a0, a1]) = D117 a0 a1 K := by kernel_rfl
theorem c117 {a0 a1 w : _} {K : Value → World → Prop} {R : Ending → World → Prop} (h : D117 a0 a1 K ⟨w, []⟩) (hK : ∀ v w', K v w' → R (.returned v) w') : Calls P 117 #[a0, a1] w R :=
  calls_of bodies_ok Tryz.func117 32 [.tmp 4] (c := b117) (args := [a0, a1]) (K := K) (by kernel_rfl) rfl (e117 a0 a1 K) h hK

/-- rollcall/message.middle -/
def D118 (a0 : Value) (K : Value → World → Prop) (s : St) : Prop :=
  Bo P .eql 9 false true a0 (.string ⟨#[]⟩) (fun v1 s => CondP v1 (Ret P (fun w => K (.string ⟨#[42]⟩) w) s) (Cl P 116 #[a0, .string ⟨#[32]⟩, .string ⟨#[45]⟩] (fun v2 s => Cv P 9 76 v2 (fun v3 s => J0 (fun A4 => Ia P 76 v3 (.int .i64 0) (fun v5 s => Ld P 5 v5 (fun v6 s => Bo P .eql 5 false true v6 (byteV 58) (fun v7 s => CondP v7 (Ia P 76 v3 (.int .i64 0) (fun v8 s => Sv P 5 v8 (byteV 45) (fun _ s => A4 s) s) s) (A4 s)) s) s) s) (fun s => Cv P 76 9 v3 (fun v9 s => Ret P (fun w => K v9 w) s) s)) s) s)) s
noncomputable def b118 : Code := Tryz.f118.body.getD .skip
theorem e118 (a0 : Value) (K : Value → World → Prop) : wpc P bmask 17 none b118 (lmOf [.tmp 2]) (ktOf P 17 [.tmp 2] K) (frOf [a0]) = D118 a0 K := by kernel_rfl
theorem c118 {a0 w : _} {K : Value → World → Prop} {R : Ending → World → Prop} (h : D118 a0 K ⟨w, []⟩) (hK : ∀ v w', K v w' → R (.returned v) w') : Calls P 118 #[a0] w R :=
  calls_of bodies_ok Tryz.func118 17 [.tmp 2] (c := b118) (args := [a0]) (K := K) (by kernel_rfl) rfl (e118 a0 K) h hK

/-- rollcall/rollcallref07.dashed -/
def D119 (a0 a1 : Value) (K : Value → World → Prop) (s : St) : Prop :=
  L2 (.string ⟨#[]⟩) (.int .i64 0) s (fun N1 x2 x3 s => Bi P .len #[9] 3 #[false] #[a0] (fun v4 s => Bo P .lss 3 false false x3 v4 (fun v5 s => CondP v5 (J1 (fun A6 => Ix P 9 a0 x3 (fun v8 s => Bo P .eql 5 false true v8 (byteV 32) (fun v9 s => J1 (fun A10 => Grd v9 false (A10 a1 s) (A10 undef s)) (fun x11 s => J1 (fun A12 => Grd x11 true (Bo P .eql 3 false true x3 (.int .i64 0) (fun v14 s => A12 v14 s) s) (A12 undef s)) (fun x13 s => J1 (fun A15 => Grd v9 false (Pk P x11 x13 (.bool false) (fun v17 s => A15 v17 s) s) (A15 undef s)) (fun x16 s => J1 (fun A18 => Grd x16 true (Ix P 9 a0 x3 (fun v20 s => Bo P .eql 5 false true v20 (byteV 58) (fun v21 s => A18 v21 s) s) s) (A18 undef s)) (fun x19 s => J1 (fun A22 => Grd v9 false (Pk P x16 x19 (.bool false) (fun v24 s => A22 v24 s) s) (A22 undef s)) (fun x23 s => Pk P v9 (.bool true) x23 (fun v25 s => CondP v25 (Bo P .add 9 false true x2 (.string ⟨#[45]⟩) (fun v26 s => A6 v26 s) s) (Bo P .add 3 false true x3 (.int .i64 1) (fun v27 s => Sl P 9 a0 (some x3) (some v27) none (fun v28 s => Bo P .add 9 false false x2 v28 (fun v29 s => A6 v29 s) s) s) s)) s)))))) s) s) (fun x7 s => Bo P .add 3 false true x3 (.int .i64 1) (fun v30 s => N1 x7 v30 s) s)) (Ret P (fun w => K x2 w) s)) s) s)
noncomputable def b119 : Code := Tryz.f119.body.getD .skip
theorem e119 (a0 a1 : Value) (K : Value → World → Prop) : wpc P bmask 40 none b119 (lmOf [.tmp 4]) (ktOf P 40 [.tmp 4] K) (frOf [a0, a1]) = D119 a0 a1 K := by kernel_rfl
theorem c119 {a0 a1 w : _} {K : Value → World → Prop} {R : Ending → World → Prop} (h : D119 a0 a1 K ⟨w, []⟩) (hK : ∀ v w', K v w' → R (.returned v) w') : Calls P 119 #[a0, a1] w R :=
  calls_of bodies_ok Tryz.func119 40 [.tmp 4] (c := b119) (args := [a0, a1]) (K := K) (by kernel_rfl) rfl (e119 a0 a1 K) h hK

/-- rollcall/rollcallref03.Clean -/
def D120 (a0 a1 : Value) (K : Value → World → Prop) (s : St) : Prop :=
  L2 (.string ⟨#[]⟩) (.int .i64 0) s (fun N1 x2 x3 s => Bi P .len #[9] 3 #[false] #[a0] (fun v4 s => Bo P .lss 3 false false x3 v4 (fun v5 s => CondP v5 (J1 (fun A6 => Ix P 9 a0 x3 (fun v8 s => Bo P .neq 5 false true v8 (byteV 0) (fun v9 s => J1 (fun A10 => Grd v9 true (Ix P 9 a0 x3 (fun v12 s => Bo P .neq 5 false true v12 (byteV 10) (fun v13 s => A10 v13 s) s) s) (A10 undef s)) (fun x11 s => Pk P v9 x11 (.bool false) (fun v14 s => J1 (fun A15 => Grd v14 true (Ix P 9 a0 x3 (fun v17 s => Bo P .neq 5 false true v17 (byteV 13) (fun v18 s => A15 v18 s) s) s) (A15 undef s)) (fun x16 s => Pk P v14 x16 (.bool false) (fun v19 s => J1 (fun A20 => Grd v19 true (Bi P .len #[9] 3 #[false] #[x2] (fun v22 s => Bo P .lss 3 false false v22 a1 (fun v23 s => A20 v23 s) s) s) (A20 undef s)) (fun x21 s => Pk P v19 x21 (.bool false) (fun v24 s => CondP v24 (Bo P .add 3 false true x3 (.int .i64 1) (fun v25 s => Sl P 9 a0 (some x3) (some v25) none (fun v26 s => Bo P .add 9 false false x2 v26 (fun v27 s => A6 v27 s) s) s) s) (A6 x2 s)) s)) s)) s)) s) s) (fun x7 s => Bo P .add 3 false true x3 (.int .i64 1) (fun v28 s => N1 x7 v28 s) s)) (Ret P (fun w => K x2 w) s)) s) s)
noncomputable def b120 : Code := Tryz.f120.body.getD .skip
theorem e120 (a0 a1 : Value) (K : Value → World → Prop) : wpc P bmask 43 none b120 (lmOf [.tmp 4]) (ktOf P 43 [.tmp 4] K) (frOf [a0, a1]) = D120 a0 a1 K := by kernel_rfl
theorem c120 {a0 a1 w : _} {K : Value → World → Prop} {R : Ending → World → Prop} (h : D120 a0 a1 K ⟨w, []⟩) (hK : ∀ v w', K v w' → R (.returned v) w') : Calls P 120 #[a0, a1] w R :=
  calls_of bodies_ok Tryz.func120 43 [.tmp 4] (c := b120) (args := [a0, a1]) (K := K) (by kernel_rfl) rfl (e120 a0 a1 K) h hK


/-- rollcall/rollcallref06.sign -/
def D122 (a0 : Value) (K : Value → World → Prop) (s : St) : Prop :=
  Bo P .eql 5 false true a0 (byteV 59) (fun v1 s => CondP v1 (Ret P (fun w => K (byteV 58) w) s) (Bo P .eql 5 false true a0 (byteV 32) (fun v2 s => CondP v2 (Ret P (fun w => K (byteV 115) w) s) (Bo P .eql 5 false true a0 (byteV 92) (fun v3 s => CondP v3 (Ret P (fun w => K (byteV 92) w) s) (Bo P .eql 5 false true a0 (byteV 13) (fun v4 s => CondP v4 (Ret P (fun w => K (byteV 114) w) s) (Bo P .eql 5 false true a0 (byteV 10) (fun v5 s => CondP v5 (Ret P (fun w => K (byteV 110) w) s) (Ret P (fun w => K (byteV 0) w) s)) s)) s)) s)) s)) s
noncomputable def b122 : Code := Tryz.f122.body.getD .skip
theorem e122 (a0 : Value) (K : Value → World → Prop) : wpc P bmask 14 none b122 (lmOf [.tmp 2]) (ktOf P 14 [.tmp 2] K) (frOf [a0]) = D122 a0 K := by kernel_rfl
theorem c122 {a0 w : _} {K : Value → World → Prop} {R : Ending → World → Prop} (h : D122 a0 K ⟨w, []⟩) (hK : ∀ v w', K v w' → R (.returned v) w') : Calls P 122 #[a0] w R :=
  calls_of bodies_ok Tryz.func122 14 [.tmp 2] (c := b122) (args := [a0]) (K := K) (by kernel_rfl) rfl (e122 a0 K) h hK

/-- (*strings.Builder).Grow -/
def D124 (a0 a1 : Value) (K : Value → World → Prop) (s : St) : Prop :=
  Cl P 98 #[a0] (fun _ s => J0 (fun A2 => Bo P .lss 3 false true a1 (.int .i64 0) (fun v3 s => CondP v3 (Mi P 9 (.string ⟨#[115, 116, 114, 105, 110, 103, 115, 46, 66, 117, 105, 108, 100, 101, 114, 46, 71, 114, 111, 119, 58, 32, 110, 101, 103, 97, 116, 105, 118, 101, 32, 99, 111, 117, 110, 116]⟩) (fun v4 s => Pn P v4 (fun _ s => A2 s) s) s) (A2 s)) s) (fun s => Dw (fun s => Qt (Nc P a0) s fun v5 => Qt (Fa P 80 v5 1) s fun v6 => Qt (Ld P 76 v6) s fun v7 => Qt (Bi P .cap #[76] 3 #[false] #[v7]) s fun v8 => Qt (Nc P a0) s fun v9 => Qt (Fa P 80 v9 1) s fun v10 => Qt (Ld P 76 v10) s fun v11 => Qt (Bi P .len #[76] 3 #[false] #[v11]) s fun v12 => Qt (Bo P .sub 3 false false v8 v12) s fun v13 => Qt (Bo P .lss 3 false false v13 a1) s fun v14 => CondP v14 (Cl P 142 #[a0, a1] (fun _ s => Ret P (fun w => K (.tuple #[]) w) s) s) (Ret P (fun w => K (.tuple #[]) w) s)) s)) s
noncomputable def b124 : Code := Tryz.f124.body.getD .skip
theorem e124 (a0 a1 : Value) (K : Value → World → Prop) : wpc P bmask 25 none b124 (lmOf []) (ktOf P 25 [] K) (frOf [a0, a1]) = D124 a0 a1 K := by kernel_rfl
theorem c124 {a0 a1 w : _} {K : Value → World → Prop} {R : Ending → World → Prop} (h : D124 a0 a1 K ⟨w, []⟩) (hK : ∀ v w', K v w' → R (.returned v) w') : Calls P 124 #[a0, a1] w R :=
  calls_of bodies_ok Tryz.func124 25 [] (c := b124) (args := [a0, a1]) (K := K) (by kernel_rfl) rfl (e124 a0 a1 K) h hK

/-- rollcall/valid.letter -/
def D126 (a0 : Value) (K : Value → World → Prop) (s : St) : Prop :=
  Bo P .geq 3 false true a0 (.int .i64 97) (fun v1 s => J1 (fun A2 => Grd v1 true (Bo P .leq 3 false true a0 (.int .i64 122) (fun v4 s => A2 v4 s) s) (A2 undef s)) (fun x3 s => Pk P v1 x3 (.bool false) (fun v5 s => J1 (fun A6 => Grd v5 false (Bo P .geq 3 false true a0 (.int .i64 65) (fun v8 s => A6 v8 s) s) (A6 undef s)) (fun x7 s => J1 (fun A9 => Grd x7 true (Bo P .leq 3 false true a0 (.int .i64 90) (fun v11 s => A9 v11 s) s) (A9 undef s)) (fun x10 s => J1 (fun A12 => Grd v5 false (Pk P x7 x10 (.bool false) (fun v14 s => A12 v14 s) s) (A12 undef s)) (fun x13 s => Pk P v5 (.bool true) x13 (fun v15 s => Ret P (fun w => K v15 w) s) s)))) s)) s
noncomputable def b126 : Code := Tryz.f126.body.getD .skip
theorem e126 (a0 : Value) (K : Value → World → Prop) : wpc P bmask 17 none b126 (lmOf [.tmp 2]) (ktOf P 17 [.tmp 2] K) (frOf [a0]) = D126 a0 K := by kernel_rfl
theorem c126 {a0 w : _} {K : Value → World → Prop} {R : Ending → World → Prop} (h : D126 a0 K ⟨w, []⟩) (hK : ∀ v w', K v w' → R (.returned v) w') : Calls P 126 #[a0] w R :=
  calls_of bodies_ok Tryz.func126 17 [.tmp 2] (c := b126) (args := [a0]) (K := K) (by kernel_rfl) rfl (e126 a0 K) h hK

/-- rollcall/valid.has -/
def D127 (a0 a1 : Value) (K : Value → World → Prop) (s : St) : Prop :=
  Cv P 3 5 a1 (fun v1 s => Cl P 69 #[a0, v1] (fun v2 s => Bo P .geq 3 false true v2 (.int .i64 0) (fun v3 s => Ret P (fun w => K v3 w) s) s) s) s
noncomputable def b127 : Code := Tryz.f127.body.getD .skip
theorem e127 (a0 a1 : Value) (K : Value → World → Prop) : wpc P bmask 10 none b127 (lmOf [.tmp 4]) (ktOf P 10 [.tmp 4] K) (frOf [a0, a1]) = D127 a0 a1 K := by kernel_rfl
theorem c127 {a0 a1 w : _} {K : Value → World → Prop} {R : Ending → World → Prop} (h : D127 a0 a1 K ⟨w, []⟩) (hK : ∀ v w', K v w' → R (.returned v) w') : Calls P 127 #[a0, a1] w R :=
  calls_of bodies_ok Tryz.func127 10 [.tmp 4] (c := b127) (args := [a0, a1]) (K := K) (by kernel_rfl) rfl (e127 a0 a1 K) h hK



/-- (*strings.asciiSet).contains -/
def D131 (a0 a1 : Value) (K : Value → World → Prop) (s : St) : Prop :=
  Nc P a0 (fun v1 s => Ia P 114 v1 a1 (fun v2 s => Ld P 4 v2 (fun v3 s => Ret P (fun w => K v3 w) s) s) s) s
noncomputable def b131 : Code := Tryz.f131.body.getD .skip
theorem e131 (a0 a1 : Value) (K : Value → World → Prop) : wpc P bmask 10 none b131 (lmOf [.tmp 4]) (ktOf P 10 [.tmp 4] K) (frOf [a0, a1]) = D131 a0 a1 K := by kernel_rfl
theorem c131 {a0 a1 w : _} {K : Value → World → Prop} {R : Ending → World → Prop} (h : D131 a0 a1 K ⟨w, []⟩) (hK : ∀ v w', K v w' → R (.returned v) w') : Calls P 131 #[a0, a1] w R :=
  calls_of bodies_ok Tryz.func131 10 [.tmp 4] (c := b131) (args := [a0, a1]) (K := K) (by kernel_rfl) rfl (e131 a0 a1 K) h hK






/-- strings.IndexRune -/
def D137 (a0 a1 : Value) (K : Value → World → Prop) (s : St) : Prop :=
  Bo P .leq 21 true false (.int .i32 0) a1 (fun v1 s => J1 (fun A2 => Grd v1 true (Bo P .lss 21 false true a1 (.int .i32 128) (fun v4 s => A2 v4 s) s) (A2 undef s)) (fun x3 s => Pk P v1 x3 (.bool false) (fun v5 s => CondP v5 (Cv P 21 5 a1 (fun v6 s => Cl P 69 #[a0, v6] (fun v7 s => Ret P (fun w => K v7 w) s) s) s) (Bo P .eql 21 false true a1 (.int .i32 65533) (fun v8 s => CondP v8 (Rg P 9 a0 (fun v9 s => L0 s (fun N10 s => Nx P v9 true 0 (fun v11 s => Ex P v11 0 (fun v12 s => CondP v12 (Ex P v11 1 (fun v13 s => Ex P v11 2 (fun v14 s => Bo P .eql 21 false true v14 (.int .i32 65533) (fun v15 s => CondP v15 (Ret P (fun w => K v13 w) s) (N10 s)) s) s) s) (Ret P (fun w => K (.int .i64 (-1)) w) s)) s) s)) s) (Cl P 148 #[a1] (fun v16 s => Uo P .not v16 (fun v17 s => CondP v17 (Ret P (fun w => K (.int .i64 (-1)) w) s) (Cv P 21 9 a1 (fun v18 s => Bi P .len #[9] 3 #[false] #[v18] (fun v19 s => Bo P .sub 3 false true v19 (.int .i64 1) (fun v20 s => L1 v20 s (fun N21 x22 s => Bi P .len #[9] 3 #[false] #[a0] (fun v23 s => Bo P .lss 3 false false x22 v23 (fun v24 s => CondP v24 (J1 (fun A25 => Dw (fun s => Qt (Ix P 9 a0 x22) s fun v27 => Qt (Ix P 9 v18 v20) s fun v28 => Qt (Bo P .neq 5 false false v27 v28) s fun v29 => CondP v29 (Dw (fun s => Qt (Bo P .add 3 false true x22 (.int .i64 1)) s fun v30 => Qt (Sl P 9 a0 (some v30) none none) s fun v31 => Qt (Ix P 9 v18 v20) s fun v32 => Cl P 69 #[v31, v32] (fun v33 s => Bo P .lss 3 false true v33 (.int .i64 0) (fun v34 s => CondP v34 (Ret P (fun w => K (.int .i64 (-1)) w) s) (Bo P .add 3 false true v33 (.int .i64 1) (fun v35 s => Bo P .add 3 false false x22 v35 (fun v36 s => A25 v36 s) s) s)) s) s) s) (A25 x22 s)) s) (fun x26 s => L1 (.int .i64 1) s (fun N37 x38 s => Bi P .len #[9] 3 #[false] #[v18] (fun v39 s => Bo P .lss 3 false false x38 v39 (fun v40 s => CondP v40 (Dw (fun s => Qt (Bo P .sub 3 false false x26 x38) s fun v41 => Qt (Ix P 9 a0 v41) s fun v42 => Qt (Bo P .sub 3 false false v20 x38) s fun v43 => Qt (Ix P 9 v18 v43) s fun v44 => Qt (Bo P .neq 5 false false v42 v44) s fun v45 => CondP v45 (False) (Bo P .add 3 false true x38 (.int .i64 1) (fun v46 s => N37 v46 s) s)) s) (Bo P .sub 3 false false x26 v20 (fun v47 s => Ret P (fun w => K v47 w) s) s)) s) s))) (Ret P (fun w => K (.int .i64 (-1)) w) s)) s) s)) s) s) s)) s) s)) s)) s)) s
noncomputable def b137 : Code := Tryz.f137.body.getD .skip
theorem e137 (a0 a1 : Value) (K : Value → World → Prop) : wpc P bmask 187 none b137 (lmOf [.tmp 4]) (ktOf P 187 [.tmp 4] K) (frOf [a0, a1]) = D137 a0 a1 K := by kernel_rfl
theorem c137 {a0 a1 w : _} {K : Value → World → Prop} {R : Ending → World → Prop} (h : D137 a0 a1 K ⟨w, []⟩) (hK : ∀ v w', K v w' → R (.returned v) w') : Calls P 137 #[a0, a1] w R :=
  calls_of bodies_ok Tryz.func137 187 [.tmp 4] (c := b137) (args := [a0, a1]) (K := K) (by kernel_rfl) rfl (e137 a0 a1 K) h hK


/-- strings.Replace -/
def D139 (a0 a1 a2 a3 : Value) (K : Value → World → Prop) (s : St) : Prop :=
  Bo P .eql 9 false false a1 a2 (fun v1 s => J1 (fun A2 => Grd v1 false (Bo P .eql 3 false true a3 (.int .i64 0) (fun v4 s => A2 v4 s) s) (A2 undef s)) (fun x3 s => Pk P v1 (.bool true) x3 (fun v5 s => CondP v5 (Ret P (fun w => K a0 w) s) (J1 (fun A6 => Cl P 136 #[a0, a1] (fun v8 s => Bo P .eql 3 false true v8 (.int .i64 0) (fun v9 s => CondP v9 (Ret P (fun w => K a0 w) s) (Bo P .lss 3 false true a3 (.int .i64 0) (fun v10 s => J1 (fun A11 => Grd v10 false (Bo P .lss 3 false false v8 a3 (fun v13 s => A11 v13 s) s) (A11 undef s)) (fun x12 s => Pk P v10 (.bool true) x12 (fun v14 s => CondP v14 (A6 v8 s) (A6 a3 s)) s)) s)) s) s) (fun x7 s => Al P 80 (fun v15 s => Bi P .len #[9] 3 #[false] #[a0] (fun v16 s => Bi P .len #[9] 3 #[false] #[a2] (fun v17 s => Bi P .len #[9] 3 #[false] #[a1] (fun v18 s => Bo P .sub 3 false false v17 v18 (fun v19 s => Bo P .mul 3 false false x7 v19 (fun v20 s => Bo P .add 3 false false v16 v20 (fun v21 s => Cl P 124 #[v15, v21] (fun _ s => J1 (fun A23 => Bi P .len #[9] 3 #[false] #[a1] (fun v25 s => Bo P .gtr 3 false true v25 (.int .i64 0) (fun v26 s => CondP v26 (L2 (.int .i64 0) (.int .i64 0) s (fun N27 x28 x29 s => Bo P .lss 3 false false x29 x7 (fun v30 s => CondP v30 (Sl P 9 a0 (some x28) none none (fun v31 s => Cl P 72 #[v31, a1] (fun v32 s => Bo P .add 3 false false x28 v32 (fun v33 s => Sl P 9 a0 (some x28) (some v33) none (fun v34 s => Cl P 64 #[v15, v34] (fun _ s => Cl P 64 #[v15, a2] (fun _ s => Bi P .len #[9] 3 #[false] #[a1] (fun v37 s => Bo P .add 3 false false v33 v37 (fun v38 s => Bo P .add 3 false true x29 (.int .i64 1) (fun v39 s => N27 v38 v39 s) s) s) s) s) s) s) s) s) s) (A23 x28 s)) s)) (Cl P 64 #[v15, a2] (fun _ s => Bo P .sub 3 false true x7 (.int .i64 1) (fun v41 s => L2 (.int .i64 0) (.int .i64 0) s (fun N42 x43 x44 s => Bo P .lss 3 false false x44 v41 (fun v45 s => CondP v45 (Sl P 9 a0 (some x43) none none (fun v46 s => Cl P 132 #[v46] (fun v47 s => Ex P v47 0 (fun _ s => Ex P v47 1 (fun v49 s => Bo P .add 3 false false x43 v49 (fun v50 s => Sl P 9 a0 (some x43) (some v50) none (fun v51 s => Cl P 64 #[v15, v51] (fun _ s => Cl P 64 #[v15, a2] (fun _ s => Bo P .add 3 false true x44 (.int .i64 1) (fun v54 s => N42 v50 v54 s) s) s) s) s) s) s) s) s) s) (A23 x43 s)) s)) s) s)) s) s) (fun x24 s => Sl P 9 a0 (some x24) none none (fun v55 s => Cl P 64 #[v15, v55] (fun _ s => Cl P 67 #[v15] (fun v57 s => Ret P (fun w => K v57 w) s) s) s) s)) s) s) s) s) s) s) s) s))) s)) s
noncomputable def b139 : Code := Tryz.f139.body.getD .skip
theorem e139 (a0 a1 a2 a3 : Value) (K : Value → World → Prop) : wpc P bmask 104 none b139 (lmOf [.tmp 8]) (ktOf P 104 [.tmp 8] K) (frOf [a0, a1, a2, a3]) = D139 a0 a1 a2 a3 K := by kernel_rfl
theorem c139 {a0 a1 a2 a3 w : _} {K : Value → World → Prop} {R : Ending → World → Prop} (h : D139 a0 a1 a2 a3 K ⟨w, []⟩) (hK : ∀ v w', K v w' → R (.returned v) w') : Calls P 139 #[a0, a1, a2, a3] w R :=
  calls_of bodies_ok Tryz.func139 104 [.tmp 8] (c := b139) (args := [a0, a1, a2, a3]) (K := K) (by kernel_rfl) rfl (e139 a0 a1 a2 a3 K) h hK

/-- (*strings.Builder).Len -/
def D140 (a0 : Value) (K : Value → World → Prop) (s : St) : Prop :=
  Nc P a0 (fun v1 s => Fa P 80 v1 1 (fun v2 s => Ld P 76 v2 (fun v3 s => Bi P .len #[76] 3 #[false] #[v3] (fun v4 s => Ret P (fun w => K v4 w) s) s) s) s) s
noncomputable def b140 : Code := Tryz.f140.body.getD .skip
theorem e140 (a0 : Value) (K : Value → World → Prop) : wpc P bmask 8 none b140 (lmOf [.tmp 2]) (ktOf P 8 [.tmp 2] K) (frOf [a0]) = D140 a0 K := by kernel_rfl
theorem c140 {a0 w : _} {K : Value → World → Prop} {R : Ending → World → Prop} (h : D140 a0 K ⟨w, []⟩) (hK : ∀ v w', K v w' → R (.returned v) w') : Calls P 140 #[a0] w R :=
  calls_of bodies_ok Tryz.func140 8 [.tmp 2] (c := b140) (args := [a0]) (K := K) (by kernel_rfl) rfl (e140 a0 K) h hK


/-- (*strings.Builder).grow -/
def D142 (a0 a1 : Value) (K : Value → World → Prop) (s : St) : Prop :=
  Dw (fun s => Qt (Nc P a0) s fun v1 => Qt (Fa P 80 v1 1) s fun v2 => Qt (Ld P 76 v2) s fun v3 => Qt (Bi P .cap #[76] 3 #[false] #[v3]) s fun v4 => Qt (Bo P .mul 3 true false (.int .i64 2) v4) s fun v5 => Qt (Bo P .add 3 false false v5 a1) s fun v6 => Qt (Nc P a0) s fun v7 => Qt (Fa P 80 v7 1) s fun v8 => Qt (Ld P 76 v8) s fun v9 => Qt (Bi P .len #[76] 3 #[false] #[v9]) s fun v10 => Dy P (.func (.func 153) #[] #[]) #[v6] (fun v11 s => Ck (Nc P a0) v7 s ∧ Ck (Fa P 80 v7 1) v8 s ∧ Ck (Ld P 76 v8) v9 s ∧ Ck (Bi P .len #[76] 3 #[false] #[v9]) v10 s ∧ (Qt (Sl P 76 v11 none (some v10) none) s fun v12 => Nc P a0 (fun v13 s => Fa P 80 v13 1 (fun v14 s => Ld P 76 v14 (fun v15 s => Bi P .copy #[76, 76] 3 #[false, false] #[v12, v15] (fun _ s => Nc P a0 (fun v17 s => Fa P 80 v17 1 (fun v18 s => Sv P 76 v18 v12 (fun _ s => Ret P (fun w => K (.tuple #[]) w) s) s) s) s) s) s) s) s)) s) s
noncomputable def b142 : Code := Tryz.f142.body.getD .skip
theorem e142 (a0 a1 : Value) (K : Value → World → Prop) : wpc P bmask 30 none b142 (lmOf []) (ktOf P 30 [] K) (frOf [a0, a1]) = D142 a0 a1 K := by kernel_rfl
theorem c142 {a0 a1 w : _} {K : Value → World → Prop} {R : Ending → World → Prop} (h : D142 a0 a1 K ⟨w, []⟩) (hK : ∀ v w', K v w' → R (.returned v) w') : Calls P 142 #[a0, a1] w R :=
  calls_of bodies_ok Tryz.func142 30 [] (c := b142) (args := [a0, a1]) (K := K) (by kernel_rfl) rfl (e142 a0 a1 K) h hK


















instance : BodyOf P 35 := ⟨bodies_ok.2 35 (by kernel_rfl)⟩
instance : BodyOf P 55 := ⟨bodies_ok.2 55 (by kernel_rfl)⟩
instance : BodyOf P 83 := ⟨bodies_ok.2 83 (by kernel_rfl)⟩
instance : BodyOf P 89 := ⟨bodies_ok.2 89 (by kernel_rfl)⟩
instance : BodyOf P 90 := ⟨bodies_ok.2 90 (by kernel_rfl)⟩
instance : BodyOf P 92 := ⟨bodies_ok.2 92 (by kernel_rfl)⟩
instance : ExNoE P 123 := ⟨run_callFunc_extern Tryz.func123 (by kernel_rfl) (by kernel_rfl) (by kernel_rfl) (by kernel_rfl)⟩
instance : ExIdx P 125 := ⟨run_callFunc_indexByte Tryz.func125 (by kernel_rfl) (by kernel_rfl) (by kernel_rfl) (by kernel_rfl)⟩
instance : ExMnz P 153 76 5 := ⟨⟨#[3], run_callFunc_extern Tryz.func153 (by kernel_rfl) (by kernel_rfl) (by kernel_rfl) (by kernel_rfl)⟩, Tryz.underlying76⟩
instance : TyU P 2 (.int .i64) := ⟨Tryz.underlying2⟩
instance : TyInf P 2 1 := ⟨⟨_, inf_of Tryz.type2, by kernel_rfl⟩⟩
instance : TyAgg P 2 false := ⟨Tryz.isAgg2⟩
instance : TySize P 2 1 := ⟨Tryz.sizeOf2⟩
instance : TyZ P 2 [.int .i64 0] := ⟨fun w => ⟨_, Tryz.zeroValue2 w, rfl⟩⟩
instance : TyU P 3 (.int .i64) := ⟨Tryz.underlying3⟩
instance : TyInf P 3 1 := ⟨⟨_, inf_of Tryz.type3, by kernel_rfl⟩⟩
instance : TyAgg P 3 false := ⟨Tryz.isAgg3⟩
instance : TySize P 3 1 := ⟨Tryz.sizeOf3⟩
instance : TyZ P 3 [.int .i64 0] := ⟨fun w => ⟨_, Tryz.zeroValue3 w, rfl⟩⟩
instance : TyU P 4 (.bool) := ⟨Tryz.underlying4⟩
instance : TyInf P 4 1 := ⟨⟨_, inf_of Tryz.type4, by kernel_rfl⟩⟩
instance : TyAgg P 4 false := ⟨Tryz.isAgg4⟩
instance : TySize P 4 1 := ⟨Tryz.sizeOf4⟩
instance : TyZ P 4 [.bool false] := ⟨fun w => ⟨_, Tryz.zeroValue4 w, rfl⟩⟩
instance : TyU P 5 (.int .u8) := ⟨Tryz.underlying5⟩
instance : TyInf P 5 1 := ⟨⟨_, inf_of Tryz.type5, by kernel_rfl⟩⟩
instance : TyAgg P 5 false := ⟨Tryz.isAgg5⟩
instance : TySize P 5 1 := ⟨Tryz.sizeOf5⟩
instance : TyZ P 5 [byteV 0] := ⟨fun w => ⟨_, Tryz.zeroValue5 w, rfl⟩⟩
instance : TyU P 9 (.string) := ⟨Tryz.underlying9⟩
instance : TyInf P 9 1 := ⟨⟨_, inf_of Tryz.type9, by kernel_rfl⟩⟩
instance : TyAgg P 9 false := ⟨Tryz.isAgg9⟩
instance : TySize P 9 1 := ⟨Tryz.sizeOf9⟩
instance : TyZ P 9 [.string ⟨#[]⟩] := ⟨fun w => ⟨_, Tryz.zeroValue9 w, rfl⟩⟩
instance : TyU P 21 (.int .i32) := ⟨Tryz.underlying21⟩
instance : TyInf P 21 1 := ⟨⟨_, inf_of Tryz.type21, by kernel_rfl⟩⟩
instance : TyAgg P 21 false := ⟨Tryz.isAgg21⟩
instance : TySize P 21 1 := ⟨Tryz.sizeOf21⟩
instance : TyZ P 21 [.int .i32 0] := ⟨fun w => ⟨_, Tryz.zeroValue21 w, rfl⟩⟩
instance : TyU P 22 (.slice 49) := ⟨Tryz.underlying22⟩
instance : TyInf P 22 1 := ⟨⟨_, inf_of Tryz.type22, by kernel_rfl⟩⟩
instance : TyAgg P 22 false := ⟨Tryz.isAgg22⟩
instance : TySize P 22 1 := ⟨Tryz.sizeOf22⟩
instance : TyZ P 22 [.slice none 0 0] := ⟨fun w => ⟨_, Tryz.zeroValue22 w, rfl⟩⟩
instance : TySl P 22 49 2 := ⟨Tryz.t49, .agg #[.string ⟨#[]⟩, .string ⟨#[]⟩], Tryz.underlying22, inf_of Tryz.type49, by kernel_rfl, by kernel_rfl, by kernel_rfl, by decide, by decide⟩
instance : TyU P 23 (.slice 9) := ⟨Tryz.underlying23⟩
instance : TyInf P 23 1 := ⟨⟨_, inf_of Tryz.type23, by kernel_rfl⟩⟩
instance : TyAgg P 23 false := ⟨Tryz.isAgg23⟩
instance : TySize P 23 1 := ⟨Tryz.sizeOf23⟩
instance : TyZ P 23 [.slice none 0 0] := ⟨fun w => ⟨_, Tryz.zeroValue23 w, rfl⟩⟩
instance : TySl P 23 9 1 := ⟨Tryz.t9, .string ⟨#[]⟩, Tryz.underlying23, inf_of Tryz.type9, by kernel_rfl, by kernel_rfl, by kernel_rfl, by decide, by decide⟩
instance : TyInf P 25 4 := ⟨⟨_, inf_of Tryz.type25, by kernel_rfl⟩⟩
instance : TyAgg P 25 true := ⟨Tryz.isAgg25⟩
instance : TySize P 25 4 := ⟨Tryz.sizeOf25⟩
instance : TyZ P 25 [.slice none 0 0, .string ⟨#[]⟩, .string ⟨#[]⟩, .slice none 0 0] := ⟨fun w => ⟨_, Tryz.zeroValue25 w, rfl⟩⟩
instance : TyB P 25 [.slice none 0 0, .string ⟨#[]⟩, .string ⟨#[]⟩, .slice none 0 0] [(0, 1), (1, 1), (2, 1), (3, 1)] := ⟨fun ps => by kernel_rfl⟩
instance : TyFld P 25 0 0 := ⟨fun a w => by simp [Instr.fieldAt, Instr.sureAddr, fieldPlace, Sem.run_bind, Tryz.runUnderlying25, Tryz.sizeOf22]⟩
instance : TyFld P 25 1 1 := ⟨fun a w => by simp [Instr.fieldAt, Instr.sureAddr, fieldPlace, Sem.run_bind, Tryz.runUnderlying25, Tryz.sizeOf9]⟩
instance : TyFld P 25 2 2 := ⟨fun a w => by simp [Instr.fieldAt, Instr.sureAddr, fieldPlace, Sem.run_bind, Tryz.runUnderlying25, Tryz.sizeOf9]⟩
instance : TyFld P 25 3 3 := ⟨fun a w => by simp [Instr.fieldAt, Instr.sureAddr, fieldPlace, Sem.run_bind, Tryz.runUnderlying25, Tryz.sizeOf23]⟩
instance : TyU P 30 (.int .i64) := ⟨Tryz.underlying30⟩
instance : TyInf P 30 1 := ⟨⟨_, inf_of Tryz.type30, by kernel_rfl⟩⟩
instance : TyAgg P 30 false := ⟨Tryz.isAgg30⟩
instance : TySize P 30 1 := ⟨Tryz.sizeOf30⟩
instance : TyZ P 30 [.int .i64 0] := ⟨fun w => ⟨_, Tryz.zeroValue30 w, rfl⟩⟩
instance : TyInf P 36 10 := ⟨⟨_, inf_of Tryz.type36, by kernel_rfl⟩⟩
instance : TyAgg P 36 true := ⟨Tryz.isAgg36⟩
instance : TySize P 36 10 := ⟨Tryz.sizeOf36⟩
instance : TyZ P 36 [.int .i64 0, .string ⟨#[]⟩, .string ⟨#[]⟩, .string ⟨#[]⟩, .string ⟨#[]⟩, .string ⟨#[]⟩, .bool false, .bool false, .int .i64 0, .int .i64 0] := ⟨fun w => ⟨_, Tryz.zeroValue36 w, rfl⟩⟩
instance : TyEq P 36 [(3, 0), (9, 1), (9, 2), (9, 3), (9, 4), (9, 5), (4, 6), (4, 7), (3, 8), (3, 9)] := ⟨⟨_, Tryz.underlying36, rfl, by decide⟩, Tryz.stoodInHeld36, Tryz.eqGuardType36⟩
instance : TyB P 36 [.int .i64 0, .string ⟨#[]⟩, .string ⟨#[]⟩, .string ⟨#[]⟩, .string ⟨#[]⟩, .string ⟨#[]⟩, .bool false, .bool false, .int .i64 0, .int .i64 0] [(0, 1), (1, 1), (2, 1), (3, 1), (4, 1), (5, 1), (6, 1), (7, 1), (8, 1), (9, 1)] := ⟨fun ps => by kernel_rfl⟩
instance : TyFld P 36 0 0 := ⟨fun a w => by simp [Instr.fieldAt, Instr.sureAddr, fieldPlace, Sem.run_bind, Tryz.runUnderlying36, Tryz.sizeOf3]⟩
instance : TyFld P 36 1 1 := ⟨fun a w => by simp [Instr.fieldAt, Instr.sureAddr, fieldPlace, Sem.run_bind, Tryz.runUnderlying36, Tryz.sizeOf9]⟩
instance : TyFld P 36 2 2 := ⟨fun a w => by simp [Instr.fieldAt, Instr.sureAddr, fieldPlace, Sem.run_bind, Tryz.runUnderlying36, Tryz.sizeOf9]⟩
instance : TyFld P 36 3 3 := ⟨fun a w => by simp [Instr.fieldAt, Instr.sureAddr, fieldPlace, Sem.run_bind, Tryz.runUnderlying36, Tryz.sizeOf9]⟩
instance : TyFld P 36 4 4 := ⟨fun a w => by simp [Instr.fieldAt, Instr.sureAddr, fieldPlace, Sem.run_bind, Tryz.runUnderlying36, Tryz.sizeOf9]⟩
instance : TyFld P 36 5 5 := ⟨fun a w => by simp [Instr.fieldAt, Instr.sureAddr, fieldPlace, Sem.run_bind, Tryz.runUnderlying36, Tryz.sizeOf9]⟩
instance : TyFld P 36 6 6 := ⟨fun a w => by simp [Instr.fieldAt, Instr.sureAddr, fieldPlace, Sem.run_bind, Tryz.runUnderlying36, Tryz.sizeOf4]⟩
instance : TyFld P 36 7 7 := ⟨fun a w => by simp [Instr.fieldAt, Instr.sureAddr, fieldPlace, Sem.run_bind, Tryz.runUnderlying36, Tryz.sizeOf4]⟩
instance : TyFld P 36 8 8 := ⟨fun a w => by simp [Instr.fieldAt, Instr.sureAddr, fieldPlace, Sem.run_bind, Tryz.runUnderlying36, Tryz.sizeOf3]⟩
instance : TyFld P 36 9 9 := ⟨fun a w => by simp [Instr.fieldAt, Instr.sureAddr, fieldPlace, Sem.run_bind, Tryz.runUnderlying36, Tryz.sizeOf3]⟩
instance : TyInf P 38 3 := ⟨⟨_, inf_of Tryz.type38, by kernel_rfl⟩⟩
instance : TyAgg P 38 true := ⟨Tryz.isAgg38⟩
instance : TySize P 38 3 := ⟨Tryz.sizeOf38⟩
instance : TyZ P 38 [.int .i64 0, .bool false, .bool false] := ⟨fun w => ⟨_, Tryz.zeroValue38 w, rfl⟩⟩
instance : TyEq P 38 [(3, 0), (4, 1), (4, 2)] := ⟨⟨_, Tryz.underlying38, rfl, by decide⟩, Tryz.stoodInHeld38, Tryz.eqGuardType38⟩
instance : TyB P 38 [.int .i64 0, .bool false, .bool false] [(0, 1), (1, 1), (2, 1)] := ⟨fun ps => by kernel_rfl⟩
instance : TyFld P 38 0 0 := ⟨fun a w => by simp [Instr.fieldAt, Instr.sureAddr, fieldPlace, Sem.run_bind, Tryz.runUnderlying38, Tryz.sizeOf3]⟩
instance : TyFld P 38 1 1 := ⟨fun a w => by simp [Instr.fieldAt, Instr.sureAddr, fieldPlace, Sem.run_bind, Tryz.runUnderlying38, Tryz.sizeOf4]⟩
instance : TyFld P 38 2 2 := ⟨fun a w => by simp [Instr.fieldAt, Instr.sureAddr, fieldPlace, Sem.run_bind, Tryz.runUnderlying38, Tryz.sizeOf4]⟩
instance : TyInf P 49 2 := ⟨⟨_, inf_of Tryz.type49, by kernel_rfl⟩⟩
instance : TyAgg P 49 true := ⟨Tryz.isAgg49⟩
instance : TySize P 49 2 := ⟨Tryz.sizeOf49⟩
instance : TyZ P 49 [.string ⟨#[]⟩, .string ⟨#[]⟩] := ⟨fun w => ⟨_, Tryz.zeroValue49 w, rfl⟩⟩
instance : TyEq P 49 [(9, 0), (9, 1)] := ⟨⟨_, Tryz.underlying49, rfl, by decide⟩, Tryz.stoodInHeld49, Tryz.eqGuardType49⟩
instance : TyB P 49 [.string ⟨#[]⟩, .string ⟨#[]⟩] [(0, 1), (1, 1)] := ⟨fun ps => by kernel_rfl⟩
instance : TyFld P 49 0 0 := ⟨fun a w => by simp [Instr.fieldAt, Instr.sureAddr, fieldPlace, Sem.run_bind, Tryz.runUnderlying49, Tryz.sizeOf9]⟩
instance : TyFld P 49 1 1 := ⟨fun a w => by simp [Instr.fieldAt, Instr.sureAddr, fieldPlace, Sem.run_bind, Tryz.runUnderlying49, Tryz.sizeOf9]⟩
instance : TyInf P 51 1 := ⟨⟨_, inf_of Tryz.type51, by kernel_rfl⟩⟩
instance : TyFn P 51 := ⟨⟨_, _, _, Tryz.underlying51⟩⟩
instance : TyAgg P 51 false := ⟨Tryz.isAgg51⟩
instance : TySize P 51 1 := ⟨Tryz.sizeOf51⟩
instance : TyZ P 51 [.nilFunc] := ⟨fun w => ⟨_, Tryz.zeroValue51 w, rfl⟩⟩
instance : TyInf P 53 1 := ⟨⟨_, inf_of Tryz.type53, by kernel_rfl⟩⟩
instance : TyFn P 53 := ⟨⟨_, _, _, Tryz.underlying53⟩⟩
instance : TyAgg P 53 false := ⟨Tryz.isAgg53⟩
instance : TySize P 53 1 := ⟨Tryz.sizeOf53⟩
instance : TyZ P 53 [.nilFunc] := ⟨fun w => ⟨_, Tryz.zeroValue53 w, rfl⟩⟩
instance : TyInf P 68 1 := ⟨⟨_, inf_of Tryz.type68, by kernel_rfl⟩⟩
instance : TyFn P 68 := ⟨⟨_, _, _, Tryz.underlying68⟩⟩
instance : TyAgg P 68 false := ⟨Tryz.isAgg68⟩
instance : TySize P 68 1 := ⟨Tryz.sizeOf68⟩
instance : TyZ P 68 [.nilFunc] := ⟨fun w => ⟨_, Tryz.zeroValue68 w, rfl⟩⟩
instance : TyU P 76 (.slice 5) := ⟨Tryz.underlying76⟩
instance : TyInf P 76 1 := ⟨⟨_, inf_of Tryz.type76, by kernel_rfl⟩⟩
instance : TyAgg P 76 false := ⟨Tryz.isAgg76⟩
instance : TySize P 76 1 := ⟨Tryz.sizeOf76⟩
instance : TyZ P 76 [.slice none 0 0] := ⟨fun w => ⟨_, Tryz.zeroValue76 w, rfl⟩⟩
instance : TySl P 76 5 1 := ⟨Tryz.t5, byteV 0, Tryz.underlying76, inf_of Tryz.type5, by kernel_rfl, by kernel_rfl, by kernel_rfl, by decide, by decide⟩
instance : TyU P 78 (.pointer 80) := ⟨Tryz.underlying78⟩
instance : TyInf P 78 1 := ⟨⟨_, inf_of Tryz.type78, by kernel_rfl⟩⟩
instance : TyAgg P 78 false := ⟨Tryz.isAgg78⟩
instance : TySize P 78 1 := ⟨Tryz.sizeOf78⟩
instance : TyZ P 78 [.pointer none] := ⟨fun w => ⟨_, Tryz.zeroValue78 w, rfl⟩⟩
instance : TyInf P 80 2 := ⟨⟨_, inf_of Tryz.type80, by kernel_rfl⟩⟩
instance : TyLie P 80 2 := ⟨by kernel_rfl⟩
instance : TyAgg P 80 true := ⟨Tryz.isAgg80⟩
instance : TySize P 80 2 := ⟨Tryz.sizeOf80⟩
instance : TyZ P 80 [.pointer none, .slice none 0 0] := ⟨fun w => ⟨_, Tryz.zeroValue80 w, rfl⟩⟩
instance : TyB P 80 [.pointer none, .slice none 0 0] [(0, 1), (1, 1)] := ⟨fun ps => by kernel_rfl⟩
instance : TyFld P 80 0 0 := ⟨fun a w => by simp [Instr.fieldAt, Instr.sureAddr, fieldPlace, Sem.run_bind, Tryz.runUnderlying80, Tryz.sizeOf78]⟩
instance : TyFld P 80 1 1 := ⟨fun a w => by simp [Instr.fieldAt, Instr.sureAddr, fieldPlace, Sem.run_bind, Tryz.runUnderlying80, Tryz.sizeOf76]⟩
instance : TyU P 93 (.int .u16) := ⟨Tryz.underlying93⟩
instance : TyInf P 93 1 := ⟨⟨_, inf_of Tryz.type93, by kernel_rfl⟩⟩
instance : TyAgg P 93 false := ⟨Tryz.isAgg93⟩
instance : TySize P 93 1 := ⟨Tryz.sizeOf93⟩
instance : TyZ P 93 [.int .u16 0] := ⟨fun w => ⟨_, Tryz.zeroValue93 w, rfl⟩⟩
instance : TyInf P 102 1 := ⟨⟨_, inf_of Tryz.type102, by kernel_rfl⟩⟩
instance : TyFn P 102 := ⟨⟨_, _, _, Tryz.underlying102⟩⟩
instance : TyAgg P 102 false := ⟨Tryz.isAgg102⟩
instance : TySize P 102 1 := ⟨Tryz.sizeOf102⟩
instance : TyZ P 102 [.nilFunc] := ⟨fun w => ⟨_, Tryz.zeroValue102 w, rfl⟩⟩
instance : TyInf P 106 1 := ⟨⟨_, inf_of Tryz.type106, by kernel_rfl⟩⟩
instance : TyFn P 106 := ⟨⟨_, _, _, Tryz.underlying106⟩⟩
instance : TyAgg P 106 false := ⟨Tryz.isAgg106⟩
instance : TySize P 106 1 := ⟨Tryz.sizeOf106⟩
instance : TyZ P 106 [.nilFunc] := ⟨fun w => ⟨_, Tryz.zeroValue106 w, rfl⟩⟩
instance : TyU P 109 (.pointer 5) := ⟨Tryz.underlying109⟩
instance : TyInf P 109 1 := ⟨⟨_, inf_of Tryz.type109, by kernel_rfl⟩⟩
instance : TyAgg P 109 false := ⟨Tryz.isAgg109⟩
instance : TySize P 109 1 := ⟨Tryz.sizeOf109⟩
instance : TyZ P 109 [.pointer none] := ⟨fun w => ⟨_, Tryz.zeroValue109 w, rfl⟩⟩
instance : TyInf P 110 256 := ⟨⟨_, inf_of Tryz.type110, by kernel_rfl⟩⟩
instance : TyAgg P 110 true := ⟨Tryz.isAgg110⟩
instance : TySize P 110 256 := ⟨Tryz.sizeOf110⟩
instance : TyZ P 110 (List.replicate 256 (.int .u16 0)) := ⟨fun w => ⟨.agg ((List.replicate 256 (.int .u16 0))).toArray, tyz_of (P := P) (t := 110) (i := Tryz.t110) (inf_of Tryz.type110) (by kernel_rfl) w, by kernel_rfl⟩⟩
instance : TyArr P 110 256 93 1 := ⟨Tryz.underlying110, Tryz.sizeOf93⟩
instance : TyInf P 114 256 := ⟨⟨_, inf_of Tryz.type114, by kernel_rfl⟩⟩
instance : TyAgg P 114 true := ⟨Tryz.isAgg114⟩
instance : TySize P 114 256 := ⟨Tryz.sizeOf114⟩
instance : TyZ P 114 (List.replicate 256 (.bool false)) := ⟨fun w => ⟨.agg ((List.replicate 256 (.bool false))).toArray, tyz_of (P := P) (t := 114) (i := Tryz.t114) (inf_of Tryz.type114) (by kernel_rfl) w, by kernel_rfl⟩⟩
instance : TyArr P 114 256 4 1 := ⟨Tryz.underlying114, Tryz.sizeOf4⟩
instance : TyU P 118 (.pointer 114) := ⟨Tryz.underlying118⟩
instance : TyInf P 118 1 := ⟨⟨_, inf_of Tryz.type118, by kernel_rfl⟩⟩
instance : TyAgg P 118 false := ⟨Tryz.isAgg118⟩
instance : TySize P 118 1 := ⟨Tryz.sizeOf118⟩
instance : TyZ P 118 [.pointer none] := ⟨fun w => ⟨_, Tryz.zeroValue118 w, rfl⟩⟩
instance : TyUn P 124 := ⟨Tryz.underlying124⟩
instance : TyInf P 124 1 := ⟨⟨_, inf_of Tryz.type124, by kernel_rfl⟩⟩
instance : TyU P 130 (.int .u64) := ⟨Tryz.underlying130⟩
instance : TyInf P 130 1 := ⟨⟨_, inf_of Tryz.type130, by kernel_rfl⟩⟩
instance : TyAgg P 130 false := ⟨Tryz.isAgg130⟩
instance : TySize P 130 1 := ⟨Tryz.sizeOf130⟩
instance : TyZ P 130 [.int .u64 0] := ⟨fun w => ⟨_, Tryz.zeroValue130 w, rfl⟩⟩
instance : TyU P 139 (.int .u32) := ⟨Tryz.underlying139⟩
instance : TyInf P 139 1 := ⟨⟨_, inf_of Tryz.type139, by kernel_rfl⟩⟩
instance : TyAgg P 139 false := ⟨Tryz.isAgg139⟩
instance : TySize P 139 1 := ⟨Tryz.sizeOf139⟩
instance : TyZ P 139 [.int .u32 0] := ⟨fun w => ⟨_, Tryz.zeroValue139 w, rfl⟩⟩
instance : TyInf P 143 24 := ⟨⟨_, inf_of Tryz.type143, by kernel_rfl⟩⟩
instance : TyAgg P 143 true := ⟨Tryz.isAgg143⟩
instance : TySize P 143 24 := ⟨Tryz.sizeOf143⟩
instance : TyZ P 143 [byteV 0, byteV 0, byteV 0, byteV 0, byteV 0, byteV 0, byteV 0, byteV 0, byteV 0, byteV 0, byteV 0, byteV 0, byteV 0, byteV 0, byteV 0, byteV 0, byteV 0, byteV 0, byteV 0, byteV 0, byteV 0, byteV 0, byteV 0, byteV 0] := ⟨fun w => ⟨_, Tryz.zeroValue143 w, rfl⟩⟩
instance : TyArr P 143 24 5 1 := ⟨Tryz.underlying143, Tryz.sizeOf5⟩
instance : TyU P 144 (.int .u64) := ⟨Tryz.underlying144⟩
instance : TyInf P 144 1 := ⟨⟨_, inf_of Tryz.type144, by kernel_rfl⟩⟩
instance : TyAgg P 144 false := ⟨Tryz.isAgg144⟩
instance : TySize P 144 1 := ⟨Tryz.sizeOf144⟩
instance : TyZ P 144 [.int .u64 0] := ⟨fun w => ⟨_, Tryz.zeroValue144 w, rfl⟩⟩
instance : TyInf P 150 256 := ⟨⟨_, inf_of Tryz.type150, by kernel_rfl⟩⟩
instance : TyAgg P 150 true := ⟨Tryz.isAgg150⟩
instance : TySize P 150 256 := ⟨Tryz.sizeOf150⟩
instance : TyZ P 150 (List.replicate 256 (byteV 0)) := ⟨fun w => ⟨.agg ((List.replicate 256 (byteV 0))).toArray, tyz_of (P := P) (t := 150) (i := Tryz.t150) (inf_of Tryz.type150) (by kernel_rfl) w, by kernel_rfl⟩⟩
instance : TyArr P 150 256 5 1 := ⟨Tryz.underlying150, Tryz.sizeOf5⟩
instance : TyInf P 152 2 := ⟨⟨_, inf_of Tryz.type152, by kernel_rfl⟩⟩
instance : TyAgg P 152 true := ⟨Tryz.isAgg152⟩
instance : TySize P 152 2 := ⟨Tryz.sizeOf152⟩
instance : TyZ P 152 [byteV 0, byteV 0] := ⟨fun w => ⟨_, Tryz.zeroValue152 w, rfl⟩⟩
instance : TyEq P 152 [(5, 0), (5, 1)] := ⟨⟨_, Tryz.underlying152, rfl, by decide⟩, Tryz.stoodInHeld152, Tryz.eqGuardType152⟩
instance : TyB P 152 [byteV 0, byteV 0] [(0, 1), (1, 1)] := ⟨fun ps => by kernel_rfl⟩
instance : TyFld P 152 0 0 := ⟨fun a w => by simp [Instr.fieldAt, Instr.sureAddr, fieldPlace, Sem.run_bind, Tryz.runUnderlying152, Tryz.sizeOf5]⟩
instance : TyFld P 152 1 1 := ⟨fun a w => by simp [Instr.fieldAt, Instr.sureAddr, fieldPlace, Sem.run_bind, Tryz.runUnderlying152, Tryz.sizeOf5]⟩
instance : TyInf P 153 32 := ⟨⟨_, inf_of Tryz.type153, by kernel_rfl⟩⟩
instance : TyAgg P 153 true := ⟨Tryz.isAgg153⟩
instance : TySize P 153 32 := ⟨Tryz.sizeOf153⟩
instance : TyZ P 153 [byteV 0, byteV 0, byteV 0, byteV 0, byteV 0, byteV 0, byteV 0, byteV 0, byteV 0, byteV 0, byteV 0, byteV 0, byteV 0, byteV 0, byteV 0, byteV 0, byteV 0, byteV 0, byteV 0, byteV 0, byteV 0, byteV 0, byteV 0, byteV 0, byteV 0, byteV 0, byteV 0, byteV 0, byteV 0, byteV 0, byteV 0, byteV 0] := ⟨fun w => ⟨_, Tryz.zeroValue153 w, rfl⟩⟩
instance : TyArr P 153 16 152 2 := ⟨Tryz.underlying153, Tryz.sizeOf152⟩
instance : TyInf P 155 20 := ⟨⟨_, inf_of Tryz.type155, by kernel_rfl⟩⟩
instance : TyAgg P 155 true := ⟨Tryz.isAgg155⟩
instance : TySize P 155 20 := ⟨Tryz.sizeOf155⟩
instance : TyZ P 155 [.int .u64 0, .int .u64 0, .int .u64 0, .int .u64 0, .int .u64 0, .int .u64 0, .int .u64 0, .int .u64 0, .int .u64 0, .int .u64 0, .int .u64 0, .int .u64 0, .int .u64 0, .int .u64 0, .int .u64 0, .int .u64 0, .int .u64 0, .int .u64 0, .int .u64 0, .int .u64 0] := ⟨fun w => ⟨_, Tryz.zeroValue155 w, rfl⟩⟩
instance : TyArr P 155 20 144 1 := ⟨Tryz.underlying155, Tryz.sizeOf144⟩
instance : TyInf P 156 65 := ⟨⟨_, inf_of Tryz.type156, by kernel_rfl⟩⟩
instance : TyAgg P 156 true := ⟨Tryz.isAgg156⟩
instance : TySize P 156 65 := ⟨Tryz.sizeOf156⟩
instance : TyZ P 156 (List.replicate 65 (byteV 0)) := ⟨fun w => ⟨.agg ((List.replicate 65 (byteV 0))).toArray, tyz_of (P := P) (t := 156) (i := Tryz.t156) (inf_of Tryz.type156) (by kernel_rfl) w, by kernel_rfl⟩⟩
instance : TyArr P 156 65 5 1 := ⟨Tryz.underlying156, Tryz.sizeOf5⟩
instance : TyInf P 159 32 := ⟨⟨_, inf_of Tryz.type159, by kernel_rfl⟩⟩
instance : TyAgg P 159 true := ⟨Tryz.isAgg159⟩
instance : TySize P 159 32 := ⟨Tryz.sizeOf159⟩
instance : TyZ P 159 [byteV 0, byteV 0, byteV 0, byteV 0, byteV 0, byteV 0, byteV 0, byteV 0, byteV 0, byteV 0, byteV 0, byteV 0, byteV 0, byteV 0, byteV 0, byteV 0, byteV 0, byteV 0, byteV 0, byteV 0, byteV 0, byteV 0, byteV 0, byteV 0, byteV 0, byteV 0, byteV 0, byteV 0, byteV 0, byteV 0, byteV 0, byteV 0] := ⟨fun w => ⟨_, Tryz.zeroValue159 w, rfl⟩⟩
instance : TyArr P 159 32 5 1 := ⟨Tryz.underlying159, Tryz.sizeOf5⟩
instance : TyInf P 160 64 := ⟨⟨_, inf_of Tryz.type160, by kernel_rfl⟩⟩
instance : TyAgg P 160 true := ⟨Tryz.isAgg160⟩
instance : TySize P 160 64 := ⟨Tryz.sizeOf160⟩
instance : TyZ P 160 (List.replicate 64 (byteV 0)) := ⟨fun w => ⟨.agg ((List.replicate 64 (byteV 0))).toArray, tyz_of (P := P) (t := 160) (i := Tryz.t160) (inf_of Tryz.type160) (by kernel_rfl) w, by kernel_rfl⟩⟩
instance : TyArr P 160 64 5 1 := ⟨Tryz.underlying160, Tryz.sizeOf5⟩
end Go.Proofs.YtapammcnagjigaaGreatDoor

