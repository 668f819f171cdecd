import Derived.Test.YtodnbkggkdadkabDoorProg
import Derived.Test.YtodnbkggkdadkabDoorSn
set_option linter.all false
namespace Go.Proofs.YtodnbkggkdadkabDoor
open Go.Vx
noncomputable abbrev P := Tryd.prog
def bmask : Nat := 10384598189944072103737110424453116
theorem bodies_ok : Bodies P bmask := bodies_of 114 (by decide +kernel) (by kernel_rfl) (by kernel_rfl)

/-- rollcall/rollcalllaw22.PersonSeen -/
def D3 (a0 a1 a2 a3 : Value) (K : Value → World → Prop) (s : St) : Prop :=
  Bx P 23 a0 (fun v1 s => Bx P 23 a1 (fun v2 s => Bx P 25 a2 (fun v3 s => Cl P 8 #[] (fun v4 s => Uo P .not v4 (fun v5 s => CondP v5 (Ret P (fun w => K (.bool false) w) s) (Ld P 23 v2 (fun v6 s => Cl P 9 #[v6] (fun v7 s => J1 (fun A8 => Grd v7 false (Bi P .len #[9] 3 #[false] #[a3] (fun v10 s => Bo P .gtr 3 false true v10 (.int .i64 30) (fun v11 s => A8 v11 s) s) s) (A8 undef s)) (fun x9 s => Pk P v7 (.bool true) x9 (fun v12 s => CondP v12 (Ret P (fun w => K (.bool true) w) s) (L1 (.int .i64 0) s (fun N13 x14 s => Bo P .lss 3 false true x14 (.int .i64 2) (fun v15 s => CondP v15 (Bo P .eql 3 false true x14 (.int .i64 1) (fun v16 s => J1 (fun A17 => Dw (fun s => Qt (Ld P 23 v1) s fun v19 => Qt (Ld P 23 v2) s fun v20 => Qt (Ld P 23 v1) s fun v21 => Qt (Ld P 23 v2) s fun v22 => Cl P 10 #[v19, v20, v16] (fun v23 s => Ck (Ld P 23 v1) v21 s ∧ Ck (Ld P 23 v2) v22 s ∧ (Cl P 11 #[v21, v22, v16] (fun v24 s => Qt (Bo P .neq 4 false false v23 v24) s fun v25 => Grd v25 false (Qt (Ld P 25 v3) s fun v26 => Qt (Ld P 25 v3) s fun v27 => Cl P 12 #[v26, v16] (fun v28 s => Ck (Ld P 25 v3) v27 s ∧ (Cl P 13 #[v27, v16] (fun v29 s => Qt (Bo P .neq 9 false false v28 v29) s fun v30 => Qt (Pk P v25 (.bool true) v30) s fun v31 => A17 v31 s) s)) s) (Qt (Pk P v25 (.bool true) undef) s fun v32 => A17 v32 s)) s)) s) s) (fun x18 s => CondP x18 (Ret P (fun w => K (.bool false) w) s) (Bo P .add 3 false true x14 (.int .i64 1) (fun v33 s => N13 v33 s) s))) s) (J1 (fun A34 => Dw (fun s => Qt (Ld P 23 v2) s fun v36 => Qt (Fa P 23 v2 1) s fun v37 => Qt (Ld P 9 v37) s fun v38 => Qt (Bo P .add 9 false true v38 (.string ⟨#[33]⟩)) s fun v39 => Qt (Fa P 23 v2 2) s fun v40 => Qt (Ld P 9 v40) s fun v41 => Qt (Bo P .add 9 false false v39 v41) s fun v42 => Qt (Bo P .add 9 false true v42 (.string ⟨#[64]⟩)) s fun v43 => Qt (Fa P 23 v2 3) s fun v44 => Qt (Ld P 9 v44) s fun v45 => Qt (Bo P .add 9 false false v43 v45) s fun v46 => Cl P 14 #[v36] (fun v47 s => Ck (Fa P 23 v2 1) v37 s ∧ Ck (Ld P 9 v37) v38 s ∧ Ck (Bo P .add 9 false true v38 (.string ⟨#[33]⟩)) v39 s ∧ Ck (Fa P 23 v2 2) v40 s ∧ Ck (Ld P 9 v40) v41 s ∧ Ck (Bo P .add 9 false false v39 v41) v42 s ∧ Ck (Bo P .add 9 false true v42 (.string ⟨#[64]⟩)) v43 s ∧ Ck (Fa P 23 v2 3) v44 s ∧ Ck (Ld P 9 v44) v45 s ∧ Ck (Bo P .add 9 false false v43 v45) v46 s ∧ (Qt (Bo P .eql 9 false false v47 v46) s fun v48 => Grd v48 true (Qt (Ld P 23 v2) s fun v49 => Qt (Ld P 23 v2) s fun v50 => Cl P 15 #[a3, v49] (fun v51 s => Ck (Ld P 23 v2) v50 s ∧ (Cl P 16 #[a3, v50] (fun v52 s => Qt (Bo P .eql 4 false false v51 v52) s fun v53 => Qt (Pk P v48 v53 (.bool false)) s fun v54 => Grd v54 true (Qt (Ld P 23 v2) s fun v55 => Qt (Ld P 23 v2) s fun v56 => Cl P 17 #[v55] (fun v57 s => Ck (Ld P 23 v2) v56 s ∧ (Cl P 18 #[v56] (fun v58 s => Qt (Bo P .eql 9 false false v57 v58) s fun v59 => Qt (Pk P v54 v59 (.bool false)) s fun v60 => A34 v60 s) s)) s) (Qt (Pk P v54 undef (.bool false)) s fun v61 => A34 v61 s)) s)) s) (Qt (Pk P v48 undef (.bool false)) s fun v62 => Grd v62 true (Qt (Ld P 23 v2) s fun v63 => Qt (Ld P 23 v2) s fun v64 => Cl P 17 #[v63] (fun v65 s => Ck (Ld P 23 v2) v64 s ∧ (Cl P 18 #[v64] (fun v66 s => Qt (Bo P .eql 9 false false v65 v66) s fun v67 => Qt (Pk P v62 v67 (.bool false)) s fun v68 => A34 v68 s) s)) s) (Qt (Pk P v62 undef (.bool false)) s fun v69 => A34 v69 s)))) s) s) (fun x35 s => Ret P (fun w => K x35 w) s))) s))) s)) s) s)) s) s) s) s) s
noncomputable def b3 : Code := Tryd.f3.body.getD .skip
theorem e3 (a0 a1 a2 a3 : Value) (K : Value → World → Prop) : wpc P bmask 73 none b3 (lmOf [.tmp 8]) (ktOf P 73 [.tmp 8] K) (frOf [a0, a1, a2, a3]) = D3 a0 a1 a2 a3 K := by kernel_rfl
theorem c3 {a0 a1 a2 a3 w : _} {K : Value → World → Prop} {R : Ending → World → Prop} (h : D3 a0 a1 a2 a3 K ⟨w, []⟩) (hK : ∀ v w', K v w' → R (.returned v) w') : Calls P 3 #[a0, a1, a2, a3] w R :=
  calls_of bodies_ok Tryd.func3 73 [.tmp 8] (c := b3) (args := [a0, a1, a2, a3]) (K := K) (by kernel_rfl) rfl (e3 a0 a1 a2 a3 K) h hK

/-- rollcall/rollcalllaw22.awake -/
def D8 (K : Value → World → Prop) (s : St) : Prop :=
  Bd P 23 #[(1, .string ⟨#[97, 110, 110]⟩), (2, .string ⟨#[117]⟩), (3, .string ⟨#[104]⟩), (5, .string ⟨#[120]⟩)] (fun v1 s => Cl P 17 #[v1] (fun v2 s => Bo P .eql 9 false true v2 (.string ⟨#[97, 110, 110, 61, 45, 117, 64, 104]⟩) (fun v3 s => Ret P (fun w => K v3 w) s) s) s) s
noncomputable def b8 : Code := Tryd.f8.body.getD .skip
theorem e8 (K : Value → World → Prop) : wpc P bmask 4 none b8 (lmOf [.tmp 0]) (ktOf P 4 [.tmp 0] K) (frOf []) = D8 K := by kernel_rfl
theorem c8 {w : _} {K : Value → World → Prop} {R : Ending → World → Prop} (h : D8 K ⟨w, []⟩) (hK : ∀ v w', K v w' → R (.returned v) w') : Calls P 8 #[] w R :=
  calls_of bodies_ok Tryd.func8 4 [.tmp 0] (c := b8) (args := []) (K := K) (by kernel_rfl) rfl (e8 K) h hK

/-- rollcall/rollcalllaw22.great -/
def D9 (a0 : Value) (K : Value → World → Prop) (s : St) : Prop :=
  Bx P 23 a0 (fun v1 s => Fa P 23 v1 1 (fun v2 s => Ld P 9 v2 (fun v3 s => Bi P .len #[9] 3 #[false] #[v3] (fun v4 s => Bo P .gtr 3 false true v4 (.int .i64 200) (fun v5 s => J1 (fun A6 => Grd v5 false (Fa P 23 v1 2 (fun v8 s => Ld P 9 v8 (fun v9 s => Bi P .len #[9] 3 #[false] #[v9] (fun v10 s => Bo P .gtr 3 false true v10 (.int .i64 200) (fun v11 s => A6 v11 s) s) s) s) s) (A6 undef s)) (fun x7 s => Pk P v5 (.bool true) x7 (fun v12 s => J1 (fun A13 => Grd v12 false (Fa P 23 v1 3 (fun v15 s => Ld P 9 v15 (fun v16 s => Bi P .len #[9] 3 #[false] #[v16] (fun v17 s => Bo P .gtr 3 false true v17 (.int .i64 200) (fun v18 s => A13 v18 s) s) s) s) s) (A13 undef s)) (fun x14 s => Pk P v12 (.bool true) x14 (fun v19 s => J1 (fun A20 => Grd v19 false (Fa P 23 v1 4 (fun v22 s => Ld P 9 v22 (fun v23 s => Bi P .len #[9] 3 #[false] #[v23] (fun v24 s => Bo P .gtr 3 false true v24 (.int .i64 200) (fun v25 s => A20 v25 s) s) s) s) s) (A20 undef s)) (fun x21 s => Pk P v19 (.bool true) x21 (fun v26 s => J1 (fun A27 => Grd v26 false (Fa P 23 v1 5 (fun v29 s => Ld P 9 v29 (fun v30 s => Bi P .len #[9] 3 #[false] #[v30] (fun v31 s => Bo P .gtr 3 false true v31 (.int .i64 200) (fun v32 s => A27 v32 s) s) s) s) s) (A27 undef s)) (fun x28 s => Pk P v26 (.bool true) x28 (fun v33 s => Ret P (fun w => K v33 w) s) s)) s)) s)) s)) s) s) s) s) s
noncomputable def b9 : Code := Tryd.f9.body.getD .skip
theorem e9 (a0 : Value) (K : Value → World → Prop) : wpc P bmask 31 none b9 (lmOf [.tmp 2]) (ktOf P 31 [.tmp 2] K) (frOf [a0]) = D9 a0 K := by kernel_rfl
theorem c9 {a0 w : _} {K : Value → World → Prop} {R : Ending → World → Prop} (h : D9 a0 K ⟨w, []⟩) (hK : ∀ v w', K v w' → R (.returned v) w') : Calls P 9 #[a0] w R :=
  calls_of bodies_ok Tryd.func9 31 [.tmp 2] (c := b9) (args := [a0]) (K := K) (by kernel_rfl) rfl (e9 a0 K) h hK

/-- rollcall/person.Seen -/
def D10 (a0 a1 a2 : Value) (K : Value → World → Prop) (s : St) : Prop :=
  Bx P 23 a0 (fun v1 s => Bx P 23 a1 (fun v2 s => Fa P 23 v2 7 (fun v3 s => Ld P 4 v3 (fun v4 s => Uo P .not v4 (fun v5 s => J1 (fun A6 => Grd v5 false (A6 a2 s) (A6 undef s)) (fun x7 s => Pk P v5 (.bool true) x7 (fun v8 s => J1 (fun A9 => Grd v8 false (Fa P 23 v1 6 (fun v11 s => Ld P 4 v11 (fun v12 s => A9 v12 s) s) s) (A9 undef s)) (fun x10 s => Pk P v8 (.bool true) x10 (fun v13 s => J1 (fun A14 => Grd v13 false (Fa P 23 v1 0 (fun v16 s => Ld P 3 v16 (fun v17 s => Fa P 23 v2 0 (fun v18 s => Ld P 3 v18 (fun v19 s => Bo P .eql 3 false false v17 v19 (fun v20 s => A14 v20 s) s) s) s) s) s) (A14 undef s)) (fun x15 s => Pk P v13 (.bool true) x15 (fun v21 s => Ret P (fun w => K v21 w) s) s)) s)) s)) s) s) s) s) s
noncomputable def b10 : Code := Tryd.f10.body.getD .skip
theorem e10 (a0 a1 a2 : Value) (K : Value → World → Prop) : wpc P bmask 24 none b10 (lmOf [.tmp 6]) (ktOf P 24 [.tmp 6] K) (frOf [a0, a1, a2]) = D10 a0 a1 a2 K := by kernel_rfl
theorem c10 {a0 a1 a2 w : _} {K : Value → World → Prop} {R : Ending → World → Prop} (h : D10 a0 a1 a2 K ⟨w, []⟩) (hK : ∀ v w', K v w' → R (.returned v) w') : Calls P 10 #[a0, a1, a2] w R :=
  calls_of bodies_ok Tryd.func10 24 [.tmp 6] (c := b10) (args := [a0, a1, a2]) (K := K) (by kernel_rfl) rfl (e10 a0 a1 a2 K) h hK

/-- rollcall/rollcallref22.Seen -/
def D11 (a0 a1 a2 : Value) (K : Value → World → Prop) (s : St) : Prop :=
  Bx P 23 a0 (fun v1 s => Bx P 23 a1 (fun v2 s => Fa P 23 v2 7 (fun v3 s => Ld P 4 v3 (fun v4 s => J1 (fun A5 => Grd v4 true (Uo P .not a2 (fun v7 s => A5 v7 s) s) (A5 undef s)) (fun x6 s => Pk P v4 x6 (.bool false) (fun v8 s => J1 (fun A9 => Grd v8 true (Fa P 23 v1 6 (fun v11 s => Ld P 4 v11 (fun v12 s => Uo P .not v12 (fun v13 s => A9 v13 s) s) s) s) (A9 undef s)) (fun x10 s => Pk P v8 x10 (.bool false) (fun v14 s => CondP v14 (Fa P 23 v1 0 (fun v15 s => Ld P 3 v15 (fun v16 s => Fa P 23 v2 0 (fun v17 s => Ld P 3 v17 (fun v18 s => Bo P .eql 3 false false v16 v18 (fun v19 s => Ret P (fun w => K v19 w) s) s) s) s) s) s) (Ret P (fun w => K (.bool true) w) s)) s)) s)) s) s) s) s
noncomputable def b11 : Code := Tryd.f11.body.getD .skip
theorem e11 (a0 a1 a2 : Value) (K : Value → World → Prop) : wpc P bmask 23 none b11 (lmOf [.tmp 6]) (ktOf P 23 [.tmp 6] K) (frOf [a0, a1, a2]) = D11 a0 a1 a2 K := by kernel_rfl
theorem c11 {a0 a1 a2 w : _} {K : Value → World → Prop} {R : Ending → World → Prop} (h : D11 a0 a1 a2 K ⟨w, []⟩) (hK : ∀ v w', K v w' → R (.returned v) w') : Calls P 11 #[a0, a1, a2] w R :=
  calls_of bodies_ok Tryd.func11 23 [.tmp 6] (c := b11) (args := [a0, a1, a2]) (K := K) (by kernel_rfl) rfl (e11 a0 a1 a2 K) h hK

/-- rollcall/person.Marks -/
def D12 (a0 a1 : Value) (K : Value → World → Prop) (s : St) : Prop :=
  Bx P 25 a0 (fun v1 s => Fa P 25 v1 1 (fun v2 s => Ld P 4 v2 (fun v3 s => J1 (fun A4 => Grd v3 true (Fa P 25 v1 2 (fun v6 s => Ld P 4 v6 (fun v7 s => A4 v7 s) s) s) (A4 undef s)) (fun x5 s => Pk P v3 x5 (.bool false) (fun v8 s => J1 (fun A9 => Grd v8 true (A9 a1 s) (A9 undef s)) (fun x10 s => Pk P v8 x10 (.bool false) (fun v11 s => CondP v11 (Ret P (fun w => K (.string ⟨#[64, 43]⟩) w) s) (Fa P 25 v1 1 (fun v12 s => Ld P 4 v12 (fun v13 s => CondP v13 (Ret P (fun w => K (.string ⟨#[64]⟩) w) s) (Fa P 25 v1 2 (fun v14 s => Ld P 4 v14 (fun v15 s => CondP v15 (Ret P (fun w => K (.string ⟨#[43]⟩) w) s) (Ret P (fun w => K (.string ⟨#[]⟩) w) s)) s) s)) s) s)) s)) s)) s) s) s
noncomputable def b12 : Code := Tryd.f12.body.getD .skip
theorem e12 (a0 a1 : Value) (K : Value → World → Prop) : wpc P bmask 21 none b12 (lmOf [.tmp 4]) (ktOf P 21 [.tmp 4] K) (frOf [a0, a1]) = D12 a0 a1 K := by kernel_rfl
theorem c12 {a0 a1 w : _} {K : Value → World → Prop} {R : Ending → World → Prop} (h : D12 a0 a1 K ⟨w, []⟩) (hK : ∀ v w', K v w' → R (.returned v) w') : Calls P 12 #[a0, a1] w R :=
  calls_of bodies_ok Tryd.func12 21 [.tmp 4] (c := b12) (args := [a0, a1]) (K := K) (by kernel_rfl) rfl (e12 a0 a1 K) h hK

/-- rollcall/rollcallref22.Marks -/
def D13 (a0 a1 : Value) (K : Value → World → Prop) (s : St) : Prop :=
  Bx P 25 a0 (fun v1 s => J1 (fun A2 => Fa P 25 v1 1 (fun v4 s => Ld P 4 v4 (fun v5 s => CondP v5 (A2 (.string ⟨#[64]⟩) s) (A2 (.string ⟨#[]⟩) s)) s) s) (fun x3 s => J1 (fun A6 => Fa P 25 v1 2 (fun v8 s => Ld P 4 v8 (fun v9 s => J1 (fun A10 => Grd v9 true (A10 a1 s) (A10 undef s)) (fun x11 s => J1 (fun A12 => Grd x11 false (Bo P .eql 9 false true x3 (.string ⟨#[]⟩) (fun v14 s => A12 v14 s) s) (A12 undef s)) (fun x13 s => J1 (fun A15 => Grd v9 true (Pk P x11 (.bool true) x13 (fun v17 s => A15 v17 s) s) (A15 undef s)) (fun x16 s => Pk P v9 x16 (.bool false) (fun v18 s => CondP v18 (Bo P .add 9 false true x3 (.string ⟨#[43]⟩) (fun v19 s => A6 v19 s) s) (A6 x3 s)) s)))) s) s) (fun x7 s => Ret P (fun w => K x7 w) s))) s
noncomputable def b13 : Code := Tryd.f13.body.getD .skip
theorem e13 (a0 a1 : Value) (K : Value → World → Prop) : wpc P bmask 20 none b13 (lmOf [.tmp 4]) (ktOf P 20 [.tmp 4] K) (frOf [a0, a1]) = D13 a0 a1 K := by kernel_rfl
theorem c13 {a0 a1 w : _} {K : Value → World → Prop} {R : Ending → World → Prop} (h : D13 a0 a1 K ⟨w, []⟩) (hK : ∀ v w', K v w' → R (.returned v) w') : Calls P 13 #[a0, a1] w R :=
  calls_of bodies_ok Tryd.func13 20 [.tmp 4] (c := b13) (args := [a0, a1]) (K := K) (by kernel_rfl) rfl (e13 a0 a1 K) h hK

/-- rollcall/person.Who -/
def D14 (a0 : Value) (K : Value → World → Prop) (s : St) : Prop :=
  Bx P 23 a0 (fun v1 s => Fa P 23 v1 1 (fun v2 s => Ld P 9 v2 (fun v3 s => Fa P 23 v1 2 (fun v4 s => Ld P 9 v4 (fun v5 s => Fa P 23 v1 3 (fun v6 s => Ld P 9 v6 (fun v7 s => Cl P 28 #[v3, v5, v7] (fun v8 s => Ret P (fun w => K v8 w) s) s) s) s) s) s) s) s) s
noncomputable def b14 : Code := Tryd.f14.body.getD .skip
theorem e14 (a0 : Value) (K : Value → World → Prop) : wpc P bmask 10 none b14 (lmOf [.tmp 2]) (ktOf P 10 [.tmp 2] K) (frOf [a0]) = D14 a0 K := by kernel_rfl
theorem c14 {a0 w : _} {K : Value → World → Prop} {R : Ending → World → Prop} (h : D14 a0 K ⟨w, []⟩) (hK : ∀ v w', K v w' → R (.returned v) w') : Calls P 14 #[a0] w R :=
  calls_of bodies_ok Tryd.func14 10 [.tmp 2] (c := b14) (args := [a0]) (K := K) (by kernel_rfl) rfl (e14 a0 K) h hK

/-- rollcall/person.Meets -/
def D15 (a0 a1 : Value) (K : Value → World → Prop) (s : St) : Prop :=
  Bx P 23 a1 (fun v1 s => Fa P 23 v1 1 (fun v2 s => Ld P 9 v2 (fun v3 s => Cl P 29 #[a0, v3] (fun v4 s => J1 (fun A5 => Grd v4 false (Fa P 23 v1 2 (fun v7 s => Ld P 9 v7 (fun v8 s => Cl P 29 #[a0, v8] (fun v9 s => A5 v9 s) s) s) s) (A5 undef s)) (fun x6 s => Pk P v4 (.bool true) x6 (fun v10 s => J1 (fun A11 => Grd v10 false (Fa P 23 v1 3 (fun v13 s => Ld P 9 v13 (fun v14 s => Cl P 29 #[a0, v14] (fun v15 s => A11 v15 s) s) s) s) (A11 undef s)) (fun x12 s => Pk P v10 (.bool true) x12 (fun v16 s => Ret P (fun w => K v16 w) s) s)) s)) s) s) s) s
noncomputable def b15 : Code := Tryd.f15.body.getD .skip
theorem e15 (a0 a1 : Value) (K : Value → World → Prop) : wpc P bmask 21 none b15 (lmOf [.tmp 4]) (ktOf P 21 [.tmp 4] K) (frOf [a0, a1]) = D15 a0 a1 K := by kernel_rfl
theorem c15 {a0 a1 w : _} {K : Value → World → Prop} {R : Ending → World → Prop} (h : D15 a0 a1 K ⟨w, []⟩) (hK : ∀ v w', K v w' → R (.returned v) w') : Calls P 15 #[a0, a1] w R :=
  calls_of bodies_ok Tryd.func15 21 [.tmp 4] (c := b15) (args := [a0, a1]) (K := K) (by kernel_rfl) rfl (e15 a0 a1 K) h hK

/-- rollcall/rollcallref22.Meets -/
def D16 (a0 a1 : Value) (K : Value → World → Prop) (s : St) : Prop :=
  Bx P 23 a1 (fun v1 s => Fa P 23 v1 1 (fun v2 s => Ld P 9 v2 (fun v3 s => Cl P 30 #[a0, v3] (fun v4 s => J1 (fun A5 => Grd v4 false (Fa P 23 v1 2 (fun v7 s => Ld P 9 v7 (fun v8 s => Cl P 30 #[a0, v8] (fun v9 s => A5 v9 s) s) s) s) (A5 undef s)) (fun x6 s => Pk P v4 (.bool true) x6 (fun v10 s => J1 (fun A11 => Grd v10 false (Fa P 23 v1 3 (fun v13 s => Ld P 9 v13 (fun v14 s => Cl P 30 #[a0, v14] (fun v15 s => A11 v15 s) s) s) s) (A11 undef s)) (fun x12 s => Pk P v10 (.bool true) x12 (fun v16 s => Ret P (fun w => K v16 w) s) s)) s)) s) s) s) s
noncomputable def b16 : Code := Tryd.f16.body.getD .skip
theorem e16 (a0 a1 : Value) (K : Value → World → Prop) : wpc P bmask 21 none b16 (lmOf [.tmp 4]) (ktOf P 21 [.tmp 4] K) (frOf [a0, a1]) = D16 a0 a1 K := by kernel_rfl
theorem c16 {a0 a1 w : _} {K : Value → World → Prop} {R : Ending → World → Prop} (h : D16 a0 a1 K ⟨w, []⟩) (hK : ∀ v w', K v w' → R (.returned v) w') : Calls P 16 #[a0, a1] w R :=
  calls_of bodies_ok Tryd.func16 21 [.tmp 4] (c := b16) (args := [a0, a1]) (K := K) (by kernel_rfl) rfl (e16 a0 a1 K) h hK

/-- rollcall/person.Userhost -/
def D17 (a0 : Value) (K : Value → World → Prop) (s : St) : Prop :=
  Bx P 23 a0 (fun v1 s => J1 (fun A2 => Fa P 23 v1 6 (fun v4 s => Ld P 4 v4 (fun v5 s => CondP v5 (A2 (.string ⟨#[42]⟩) s) (A2 (.string ⟨#[]⟩) s)) s) s) (fun x3 s => J1 (fun A6 => Fa P 23 v1 5 (fun v8 s => Ld P 9 v8 (fun v9 s => Bo P .neq 9 false true v9 (.string ⟨#[]⟩) (fun v10 s => CondP v10 (A6 (.string ⟨#[45]⟩) s) (A6 (.string ⟨#[43]⟩) s)) s) s) s) (fun x7 s => Fa P 23 v1 1 (fun v11 s => Ld P 9 v11 (fun v12 s => Bo P .add 9 false false v12 x3 (fun v13 s => Bo P .add 9 false true v13 (.string ⟨#[61]⟩) (fun v14 s => Bo P .add 9 false false v14 x7 (fun v15 s => Fa P 23 v1 2 (fun v16 s => Ld P 9 v16 (fun v17 s => Bo P .add 9 false false v15 v17 (fun v18 s => Bo P .add 9 false true v18 (.string ⟨#[64]⟩) (fun v19 s => Fa P 23 v1 3 (fun v20 s => Ld P 9 v20 (fun v21 s => Bo P .add 9 false false v19 v21 (fun v22 s => Ret P (fun w => K v22 w) s) s) s) s) s) s) s) s) s) s) s) s) s))) s
noncomputable def b17 : Code := Tryd.f17.body.getD .skip
theorem e17 (a0 : Value) (K : Value → World → Prop) : wpc P bmask 24 none b17 (lmOf [.tmp 2]) (ktOf P 24 [.tmp 2] K) (frOf [a0]) = D17 a0 K := by kernel_rfl
theorem c17 {a0 w : _} {K : Value → World → Prop} {R : Ending → World → Prop} (h : D17 a0 K ⟨w, []⟩) (hK : ∀ v w', K v w' → R (.returned v) w') : Calls P 17 #[a0] w R :=
  calls_of bodies_ok Tryd.func17 24 [.tmp 2] (c := b17) (args := [a0]) (K := K) (by kernel_rfl) rfl (e17 a0 K) h hK

/-- rollcall/rollcallref22.Userhost -/
def D18 (a0 : Value) (K : Value → World → Prop) (s : St) : Prop :=
  Bx P 23 a0 (fun v1 s => Fa P 23 v1 1 (fun v2 s => Ld P 9 v2 (fun v3 s => J1 (fun A4 => Fa P 23 v1 6 (fun v6 s => Ld P 4 v6 (fun v7 s => CondP v7 (Bo P .add 9 false true v3 (.string ⟨#[42]⟩) (fun v8 s => A4 v8 s) s) (A4 v3 s)) s) s) (fun x5 s => Fa P 23 v1 5 (fun v9 s => Ld P 9 v9 (fun v10 s => Bo P .neq 9 false true v10 (.string ⟨#[]⟩) (fun v11 s => CondP v11 (Bo P .add 9 false true x5 (.string ⟨#[61, 45]⟩) (fun v12 s => Fa P 23 v1 2 (fun v13 s => Ld P 9 v13 (fun v14 s => Bo P .add 9 false false v12 v14 (fun v15 s => Bo P .add 9 false true v15 (.string ⟨#[64]⟩) (fun v16 s => Fa P 23 v1 3 (fun v17 s => Ld P 9 v17 (fun v18 s => Bo P .add 9 false false v16 v18 (fun v19 s => Ret P (fun w => K v19 w) s) s) s) s) s) s) s) s) s) (Bo P .add 9 false true x5 (.string ⟨#[61, 43]⟩) (fun v20 s => Fa P 23 v1 2 (fun v21 s => Ld P 9 v21 (fun v22 s => Bo P .add 9 false false v20 v22 (fun v23 s => Bo P .add 9 false true v23 (.string ⟨#[64]⟩) (fun v24 s => Fa P 23 v1 3 (fun v25 s => Ld P 9 v25 (fun v26 s => Bo P .add 9 false false v24 v26 (fun v27 s => Ret P (fun w => K v27 w) s) s) s) s) s) s) s) s) s)) s) s) s)) s) s) s
noncomputable def b18 : Code := Tryd.f18.body.getD .skip
theorem e18 (a0 : Value) (K : Value → World → Prop) : wpc P bmask 31 none b18 (lmOf [.tmp 2]) (ktOf P 31 [.tmp 2] K) (frOf [a0]) = D18 a0 K := by kernel_rfl
theorem c18 {a0 w : _} {K : Value → World → Prop} {R : Ending → World → Prop} (h : D18 a0 K ⟨w, []⟩) (hK : ∀ v w', K v w' → R (.returned v) w') : Calls P 18 #[a0] w R :=
  calls_of bodies_ok Tryd.func18 31 [.tmp 2] (c := b18) (args := [a0]) (K := K) (by kernel_rfl) rfl (e18 a0 K) h hK

/-- rollcall/reply.Who -/
def D28 (a0 a1 a2 : Value) (K : Value → World → Prop) (s : St) : Prop :=
  Bo P .add 9 false true a0 (.string ⟨#[33]⟩) (fun v1 s => Bo P .add 9 false false v1 a1 (fun v2 s => Bo P .add 9 false true v2 (.string ⟨#[64]⟩) (fun v3 s => Bo P .add 9 false false v3 a2 (fun v4 s => Ret P (fun w => K v4 w) s) s) s) s) s
noncomputable def b28 : Code := Tryd.f28.body.getD .skip
theorem e28 (a0 a1 a2 : Value) (K : Value → World → Prop) : wpc P bmask 14 none b28 (lmOf [.tmp 6]) (ktOf P 14 [.tmp 6] K) (frOf [a0, a1, a2]) = D28 a0 a1 a2 K := by kernel_rfl
theorem c28 {a0 a1 a2 w : _} {K : Value → World → Prop} {R : Ending → World → Prop} (h : D28 a0 a1 a2 K ⟨w, []⟩) (hK : ∀ v w', K v w' → R (.returned v) w') : Calls P 28 #[a0, a1, a2] w R :=
  calls_of bodies_ok Tryd.func28 14 [.tmp 6] (c := b28) (args := [a0, a1, a2]) (K := K) (by kernel_rfl) rfl (e28 a0 a1 a2 K) h hK

/-- rollcall/glob.Match -/
def D29 (a0 a1 : Value) (K : Value → World → Prop) (s : St) : Prop :=
  L4 (.int .i64 0) (.int .i64 0) (.int .i64 (-1)) (.int .i64 0) s (fun N1 x2 x3 x4 x5 s => Bi P .len #[9] 3 #[false] #[a1] (fun v6 s => Bo P .lss 3 false false x2 v6 (fun v7 s => CondP v7 (Bi P .len #[9] 3 #[false] #[a0] (fun v8 s => Bo P .lss 3 false false x3 v8 (fun v9 s => J1 (fun A10 => Grd v9 true (Ix P 9 a0 x3 (fun v12 s => Bo P .eql 5 false true v12 (byteV 42) (fun v13 s => A10 v13 s) s) s) (A10 undef s)) (fun x11 s => Pk P v9 x11 (.bool false) (fun v14 s => CondP v14 (Bo P .add 3 false true x3 (.int .i64 1) (fun v15 s => N1 x2 v15 x3 x2 s) s) (J1 (fun A16 => Dw (fun s => Qt (Bi P .len #[9] 3 #[false] #[a0]) s fun v18 => Qt (Bo P .lss 3 false false x3 v18) s fun v19 => Grd v19 true (Qt (Ix P 9 a0 x3) s fun v20 => Qt (Ix P 9 a1 x2) s fun v21 => Cl P 45 #[v20, v21] (fun v22 s => Qt (Pk P v19 v22 (.bool false)) s fun v23 => A16 v23 s) s) (Qt (Pk P v19 undef (.bool false)) s fun v24 => A16 v24 s)) s) (fun x17 s => CondP x17 (Bo P .add 3 false true x2 (.int .i64 1) (fun v25 s => Bo P .add 3 false true x3 (.int .i64 1) (fun v26 s => N1 v25 v26 x4 x5 s) s) s) (Bo P .lss 3 false true x4 (.int .i64 0) (fun v27 s => CondP v27 (Ret P (fun w => K (.bool false) w) s) (Bo P .add 3 false true x5 (.int .i64 1) (fun v28 s => Bo P .add 3 false true x4 (.int .i64 1) (fun v29 s => N1 v28 v29 x4 v28 s) s) s)) s)))) s)) s) s) (Sl P 9 a0 (some x3) none none (fun v30 s => Cl P 46 #[v30, .string ⟨#[42]⟩] (fun v31 s => Bo P .eql 9 false true v31 (.string ⟨#[]⟩) (fun v32 s => Ret P (fun w => K v32 w) s) s) s) s)) s) s)
noncomputable def b29 : Code := Tryd.f29.body.getD .skip
theorem e29 (a0 a1 : Value) (K : Value → World → Prop) : wpc P bmask 59 none b29 (lmOf [.tmp 4]) (ktOf P 59 [.tmp 4] K) (frOf [a0, a1]) = D29 a0 a1 K := by kernel_rfl
theorem c29 {a0 a1 w : _} {K : Value → World → Prop} {R : Ending → World → Prop} (h : D29 a0 a1 K ⟨w, []⟩) (hK : ∀ v w', K v w' → R (.returned v) w') : Calls P 29 #[a0, a1] w R :=
  calls_of bodies_ok Tryd.func29 59 [.tmp 4] (c := b29) (args := [a0, a1]) (K := K) (by kernel_rfl) rfl (e29 a0 a1 K) h hK

/-- rollcall/rollcallref04.Match -/
def D30 (a0 a1 : Value) (K : Value → World → Prop) (s : St) : Prop :=
  Bi P .len #[9] 3 #[false] #[a1] (fun v1 s => Bo P .add 3 false true v1 (.int .i64 1) (fun v2 s => Ms P 65 v2 v2 (fun v3 s => Ia P 65 v3 (.int .i64 0) (fun v4 s => Sv P 4 v4 (.bool true) (fun _ s => L2 v3 (.int .i64 0) s (fun N5 x6 x7 s => Bi P .len #[9] 3 #[false] #[a0] (fun v8 s => Bo P .lss 3 false false x7 v8 (fun v9 s => CondP v9 (Bi P .len #[9] 3 #[false] #[a1] (fun v10 s => Bo P .add 3 false true v10 (.int .i64 1) (fun v11 s => Ms P 65 v11 v11 (fun v12 s => L1 (.int .i64 0) s (fun N13 x14 s => Bi P .len #[9] 3 #[false] #[a1] (fun v15 s => Bo P .leq 3 false false x14 v15 (fun v16 s => CondP v16 (J0 (fun A17 => Ix P 9 a0 x7 (fun v18 s => Bo P .eql 5 false true v18 (byteV 42) (fun v19 s => CondP v19 (Ia P 65 x6 x14 (fun v20 s => Ld P 4 v20 (fun v21 s => J1 (fun A22 => Grd v21 false (Bo P .gtr 3 false true x14 (.int .i64 0) (fun v24 s => A22 v24 s) s) (A22 undef s)) (fun x23 s => J1 (fun A25 => Grd x23 true (Bo P .sub 3 false true x14 (.int .i64 1) (fun v27 s => Ia P 65 v12 v27 (fun v28 s => Ld P 4 v28 (fun v29 s => A25 v29 s) s) s) s) (A25 undef s)) (fun x26 s => J1 (fun A30 => Grd v21 false (Pk P x23 x26 (.bool false) (fun v32 s => A30 v32 s) s) (A30 undef s)) (fun x31 s => Pk P v21 (.bool true) x31 (fun v33 s => Ia P 65 v12 x14 (fun v34 s => Sv P 4 v34 v33 (fun _ s => A17 s) s) s) s)))) s) s) (Bo P .gtr 3 false true x14 (.int .i64 0) (fun v35 s => J1 (fun A36 => Grd v35 true (Bo P .sub 3 false true x14 (.int .i64 1) (fun v38 s => Ia P 65 x6 v38 (fun v39 s => Ld P 4 v39 (fun v40 s => A36 v40 s) s) s) s) (A36 undef s)) (fun x37 s => Pk P v35 x37 (.bool false) (fun v41 s => CondP v41 (J0 (fun A42 => Dw (fun s => Qt (Ix P 9 a0 x7) s fun v43 => Qt (Bo P .eql 5 false true v43 (byteV 63)) s fun v44 => Grd v44 false (Qt (Ix P 9 a0 x7) s fun v45 => Qt (Bo P .sub 3 false true x14 (.int .i64 1)) s fun v46 => Qt (Ix P 9 a1 v46) s fun v47 => Cl P 47 #[v45] (fun v48 s => Ck (Bo P .sub 3 false true x14 (.int .i64 1)) v46 s ∧ Ck (Ix P 9 a1 v46) v47 s ∧ (Cl P 47 #[v47] (fun v49 s => Qt (Bo P .eql 5 false false v48 v49) s fun v50 => Qt (Pk P v44 (.bool true) v50) s fun v51 => Qt (Ia P 65 v12 x14) s fun v52 => Sv P 4 v52 v51 (fun _ s => A42 s) s) s)) s) (Qt (Pk P v44 (.bool true) undef) s fun v53 => Qt (Ia P 65 v12 x14) s fun v54 => Sv P 4 v54 v53 (fun _ s => A42 s) s)) s) (fun s => A17 s)) (A17 s)) s)) s)) s) s) (fun s => Bo P .add 3 false true x14 (.int .i64 1) (fun v55 s => N13 v55 s) s)) (Bo P .add 3 false true x7 (.int .i64 1) (fun v56 s => N5 v12 v56 s) s)) s) s)) s) s) s) (Bi P .len #[9] 3 #[false] #[a1] (fun v57 s => Ia P 65 x6 v57 (fun v58 s => Ld P 4 v58 (fun v59 s => Ret P (fun w => K v59 w) s) s) s) s)) s) s)) s) s) s) s) s
noncomputable def b30 : Code := Tryd.f30.body.getD .skip
theorem e30 (a0 a1 : Value) (K : Value → World → Prop) : wpc P bmask 87 none b30 (lmOf [.tmp 4]) (ktOf P 87 [.tmp 4] K) (frOf [a0, a1]) = D30 a0 a1 K := by kernel_rfl
theorem c30 {a0 a1 w : _} {K : Value → World → Prop} {R : Ending → World → Prop} (h : D30 a0 a1 K ⟨w, []⟩) (hK : ∀ v w', K v w' → R (.returned v) w') : Calls P 30 #[a0, a1] w R :=
  calls_of bodies_ok Tryd.func30 87 [.tmp 4] (c := b30) (args := [a0, a1]) (K := K) (by kernel_rfl) rfl (e30 a0 a1 K) h hK

/-- rollcall/glob.one -/
def D45 (a0 a1 : Value) (K : Value → World → Prop) (s : St) : Prop :=
  Bo P .eql 5 false true a0 (byteV 63) (fun v1 s => J1 (fun A2 => Grd v1 false (Bo P .neq 5 false true a0 (byteV 42) (fun v4 s => A2 v4 s) s) (A2 undef s)) (fun x3 s => J1 (fun A5 => Grd x3 true (Cl P 60 #[a0] (fun v7 s => Cl P 60 #[a1] (fun v8 s => Bo P .eql 5 false false v7 v8 (fun v9 s => A5 v9 s) s) s) s) (A5 undef s)) (fun x6 s => J1 (fun A10 => Grd v1 false (Pk P x3 x6 (.bool false) (fun v12 s => A10 v12 s) s) (A10 undef s)) (fun x11 s => Pk P v1 (.bool true) x11 (fun v13 s => Ret P (fun w => K v13 w) s) s)))) s
noncomputable def b45 : Code := Tryd.f45.body.getD .skip
theorem e45 (a0 a1 : Value) (K : Value → World → Prop) : wpc P bmask 18 none b45 (lmOf [.tmp 4]) (ktOf P 18 [.tmp 4] K) (frOf [a0, a1]) = D45 a0 a1 K := by kernel_rfl
theorem c45 {a0 a1 w : _} {K : Value → World → Prop} {R : Ending → World → Prop} (h : D45 a0 a1 K ⟨w, []⟩) (hK : ∀ v w', K v w' → R (.returned v) w') : Calls P 45 #[a0, a1] w R :=
  calls_of bodies_ok Tryd.func45 18 [.tmp 4] (c := b45) (args := [a0, a1]) (K := K) (by kernel_rfl) rfl (e45 a0 a1 K) h hK

/-- strings.Trim -/
def D46 (a0 a1 : Value) (K : Value → World → Prop) (s : St) : Prop :=
  Bo P .eql 9 false true a0 (.string ⟨#[]⟩) (fun v1 s => J1 (fun A2 => Grd v1 false (Bo P .eql 9 false true a1 (.string ⟨#[]⟩) (fun v4 s => A2 v4 s) s) (A2 undef s)) (fun x3 s => Pk P v1 (.bool true) x3 (fun v5 s => CondP v5 (Ret P (fun w => K a0 w) s) (Bi P .len #[9] 3 #[false] #[a1] (fun v6 s => Bo P .eql 3 false true v6 (.int .i64 1) (fun v7 s => J1 (fun A8 => Grd v7 true (Ix P 9 a1 (.int .i64 0) (fun v10 s => Bo P .lss 5 false true v10 (byteV 128) (fun v11 s => A8 v11 s) s) s) (A8 undef s)) (fun x9 s => Pk P v7 x9 (.bool false) (fun v12 s => CondP v12 (Dw (fun s => Qt (Ix P 9 a1 (.int .i64 0)) s fun v13 => Qt (Ix P 9 a1 (.int .i64 0)) s fun v14 => Cl P 62 #[a0, v13] (fun v15 s => Ck (Ix P 9 a1 (.int .i64 0)) v14 s ∧ (Cl P 61 #[v15, v14] (fun v16 s => Ret P (fun w => K v16 w) s) s)) s) s) (Cl P 63 #[a1] (fun v17 s => Ex P v17 0 (fun v18 s => Ex P v17 1 (fun v19 s => Al P 83 (fun v20 s => Sv P 83 v20 v18 (fun _ s => CondP v19 (Cl P 65 #[a0, v20] (fun v21 s => Cl P 64 #[v21, v20] (fun v22 s => Ret P (fun w => K v22 w) s) s) s) (Cl P 67 #[a0, a1] (fun v23 s => Cl P 66 #[v23, a1] (fun v24 s => Ret P (fun w => K v24 w) s) s) s)) s) s) s) s) s)) s)) s) s)) s)) s
noncomputable def b46 : Code := Tryd.f46.body.getD .skip
theorem e46 (a0 a1 : Value) (K : Value → World → Prop) : wpc P bmask 43 none b46 (lmOf [.tmp 4]) (ktOf P 43 [.tmp 4] K) (frOf [a0, a1]) = D46 a0 a1 K := by kernel_rfl
theorem c46 {a0 a1 w : _} {K : Value → World → Prop} {R : Ending → World → Prop} (h : D46 a0 a1 K ⟨w, []⟩) (hK : ∀ v w', K v w' → R (.returned v) w') : Calls P 46 #[a0, a1] w R :=
  calls_of bodies_ok Tryd.func46 43 [.tmp 4] (c := b46) (args := [a0, a1]) (K := K) (by kernel_rfl) rfl (e46 a0 a1 K) h hK

/-- rollcall/rollcallref01.Byte -/
def D47 (a0 : Value) (K : Value → World → Prop) (s : St) : Prop :=
  L1 (.int .i64 0) s (fun N1 x2 s => Bi P .len #[9] 3 #[false] #[.string ⟨#[65, 66, 67, 68, 69, 70, 71, 72, 73, 74, 75, 76, 77, 78, 79, 80, 81, 82, 83, 84, 85, 86, 87, 88, 89, 90, 91, 93, 92, 126]⟩] (fun v3 s => Bo P .lss 3 false false x2 v3 (fun v4 s => CondP v4 (Ix P 9 (.string ⟨#[65, 66, 67, 68, 69, 70, 71, 72, 73, 74, 75, 76, 77, 78, 79, 80, 81, 82, 83, 84, 85, 86, 87, 88, 89, 90, 91, 93, 92, 126]⟩) x2 (fun v5 s => Bo P .eql 5 false false v5 a0 (fun v6 s => CondP v6 (Ix P 9 (.string ⟨#[97, 98, 99, 100, 101, 102, 103, 104, 105, 106, 107, 108, 109, 110, 111, 112, 113, 114, 115, 116, 117, 118, 119, 120, 121, 122, 123, 125, 124, 94]⟩) x2 (fun v7 s => Ret P (fun w => K v7 w) s) s) (Bo P .add 3 false true x2 (.int .i64 1) (fun v8 s => N1 v8 s) s)) s) s) (Ret P (fun w => K a0 w) s)) s) s)
noncomputable def b47 : Code := Tryd.f47.body.getD .skip
theorem e47 (a0 : Value) (K : Value → World → Prop) : wpc P bmask 21 none b47 (lmOf [.tmp 2]) (ktOf P 21 [.tmp 2] K) (frOf [a0]) = D47 a0 K := by kernel_rfl
theorem c47 {a0 w : _} {K : Value → World → Prop} {R : Ending → World → Prop} (h : D47 a0 K ⟨w, []⟩) (hK : ∀ v w', K v w' → R (.returned v) w') : Calls P 47 #[a0] w R :=
  calls_of bodies_ok Tryd.func47 21 [.tmp 2] (c := b47) (args := [a0]) (K := K) (by kernel_rfl) rfl (e47 a0 K) h hK

/-- rollcall/fold.Byte -/
def D60 (a0 : Value) (K : Value → World → Prop) (s : St) : Prop :=
  Bo P .geq 5 false true a0 (byteV 65) (fun v1 s => J1 (fun A2 => Grd v1 true (Bo P .leq 5 false true a0 (byteV 90) (fun v4 s => A2 v4 s) s) (A2 undef s)) (fun x3 s => Pk P v1 x3 (.bool false) (fun v5 s => CondP v5 (Bo P .add 5 false true a0 (byteV 32) (fun v6 s => Ret P (fun w => K v6 w) s) s) (Bo P .eql 5 false true a0 (byteV 91) (fun v7 s => J1 (fun A8 => Grd v7 false (Bo P .eql 5 false true a0 (byteV 93) (fun v10 s => A8 v10 s) s) (A8 undef s)) (fun x9 s => Pk P v7 (.bool true) x9 (fun v11 s => J1 (fun A12 => Grd v11 false (Bo P .eql 5 false true a0 (byteV 92) (fun v14 s => A12 v14 s) s) (A12 undef s)) (fun x13 s => Pk P v11 (.bool true) x13 (fun v15 s => CondP v15 (Bo P .add 5 false true a0 (byteV 32) (fun v16 s => Ret P (fun w => K v16 w) s) s) (Bo P .eql 5 false true a0 (byteV 126) (fun v17 s => CondP v17 (Ret P (fun w => K (byteV 94) w) s) (Ret P (fun w => K a0 w) s)) s)) s)) s)) s)) s)) s
noncomputable def b60 : Code := Tryd.f60.body.getD .skip
theorem e60 (a0 : Value) (K : Value → World → Prop) : wpc P bmask 29 none b60 (lmOf [.tmp 2]) (ktOf P 29 [.tmp 2] K) (frOf [a0]) = D60 a0 K := by kernel_rfl
theorem c60 {a0 w : _} {K : Value → World → Prop} {R : Ending → World → Prop} (h : D60 a0 K ⟨w, []⟩) (hK : ∀ v w', K v w' → R (.returned v) w') : Calls P 60 #[a0] w R :=
  calls_of bodies_ok Tryd.func60 29 [.tmp 2] (c := b60) (args := [a0]) (K := K) (by kernel_rfl) rfl (e60 a0 K) h hK

/-- strings.trimLeftByte -/
def D61 (a0 a1 : Value) (K : Value → World → Prop) (s : St) : Prop :=
  L1 a0 s (fun N1 x2 s => Bi P .len #[9] 3 #[false] #[x2] (fun v3 s => Bo P .gtr 3 false true v3 (.int .i64 0) (fun v4 s => J1 (fun A5 => Grd v4 true (Ix P 9 x2 (.int .i64 0) (fun v7 s => Bo P .eql 5 false false v7 a1 (fun v8 s => A5 v8 s) s) s) (A5 undef s)) (fun x6 s => Pk P v4 x6 (.bool false) (fun v9 s => CondP v9 (Sl P 9 x2 (some (.int .i64 1)) none none (fun v10 s => N1 v10 s) s) (Ret P (fun w => K x2 w) s)) s)) s) s)
noncomputable def b61 : Code := Tryd.f61.body.getD .skip
theorem e61 (a0 a1 : Value) (K : Value → World → Prop) : wpc P bmask 17 none b61 (lmOf [.tmp 4]) (ktOf P 17 [.tmp 4] K) (frOf [a0, a1]) = D61 a0 a1 K := by kernel_rfl
theorem c61 {a0 a1 w : _} {K : Value → World → Prop} {R : Ending → World → Prop} (h : D61 a0 a1 K ⟨w, []⟩) (hK : ∀ v w', K v w' → R (.returned v) w') : Calls P 61 #[a0, a1] w R :=
  calls_of bodies_ok Tryd.func61 17 [.tmp 4] (c := b61) (args := [a0, a1]) (K := K) (by kernel_rfl) rfl (e61 a0 a1 K) h hK

/-- strings.trimRightByte -/
def D62 (a0 a1 : Value) (K : Value → World → Prop) (s : St) : Prop :=
  L1 a0 s (fun N1 x2 s => Bi P .len #[9] 3 #[false] #[x2] (fun v3 s => Bo P .gtr 3 false true v3 (.int .i64 0) (fun v4 s => J1 (fun A5 => Grd v4 true (Bi P .len #[9] 3 #[false] #[x2] (fun v7 s => Bo P .sub 3 false true v7 (.int .i64 1) (fun v8 s => Ix P 9 x2 v8 (fun v9 s => Bo P .eql 5 false false v9 a1 (fun v10 s => A5 v10 s) s) s) s) s) (A5 undef s)) (fun x6 s => Pk P v4 x6 (.bool false) (fun v11 s => CondP v11 (Bi P .len #[9] 3 #[false] #[x2] (fun v12 s => Bo P .sub 3 false true v12 (.int .i64 1) (fun v13 s => Sl P 9 x2 none (some v13) none (fun v14 s => N1 v14 s) s) s) s) (Ret P (fun w => K x2 w) s)) s)) s) s)
noncomputable def b62 : Code := Tryd.f62.body.getD .skip
theorem e62 (a0 a1 : Value) (K : Value → World → Prop) : wpc P bmask 23 none b62 (lmOf [.tmp 4]) (ktOf P 23 [.tmp 4] K) (frOf [a0, a1]) = D62 a0 a1 K := by kernel_rfl
theorem c62 {a0 a1 w : _} {K : Value → World → Prop} {R : Ending → World → Prop} (h : D62 a0 a1 K ⟨w, []⟩) (hK : ∀ v w', K v w' → R (.returned v) w') : Calls P 62 #[a0, a1] w R :=
  calls_of bodies_ok Tryd.func62 23 [.tmp 4] (c := b62) (args := [a0, a1]) (K := K) (by kernel_rfl) rfl (e62 a0 a1 K) h hK

instance : ExIdx P 77 := ⟨run_callFunc_indexByte Tryd.func77 (by kernel_rfl) (by kernel_rfl) (by kernel_rfl) (by kernel_rfl)⟩
instance : ExNoE P 87 := ⟨run_callFunc_extern Tryd.func87 (by kernel_rfl) (by kernel_rfl) (by kernel_rfl) (by kernel_rfl)⟩
instance : TyU P 3 (.int .i64) := ⟨Tryd.underlying3⟩
instance : TyInf P 3 1 := ⟨⟨_, inf_of Tryd.type3, by kernel_rfl⟩⟩
instance : TyAgg P 3 false := ⟨Tryd.isAgg3⟩
instance : TySize P 3 1 := ⟨Tryd.sizeOf3⟩
instance : TyZ P 3 [.int .i64 0] := ⟨fun w => ⟨_, Tryd.zeroValue3 w, rfl⟩⟩
instance : TyU P 4 (.bool) := ⟨Tryd.underlying4⟩
instance : TyInf P 4 1 := ⟨⟨_, inf_of Tryd.type4, by kernel_rfl⟩⟩
instance : TyAgg P 4 false := ⟨Tryd.isAgg4⟩
instance : TySize P 4 1 := ⟨Tryd.sizeOf4⟩
instance : TyZ P 4 [.bool false] := ⟨fun w => ⟨_, Tryd.zeroValue4 w, rfl⟩⟩
instance : TyU P 5 (.int .u8) := ⟨Tryd.underlying5⟩
instance : TyInf P 5 1 := ⟨⟨_, inf_of Tryd.type5, by kernel_rfl⟩⟩
instance : TyAgg P 5 false := ⟨Tryd.isAgg5⟩
instance : TySize P 5 1 := ⟨Tryd.sizeOf5⟩
instance : TyZ P 5 [byteV 0] := ⟨fun w => ⟨_, Tryd.zeroValue5 w, rfl⟩⟩
instance : TyU P 9 (.string) := ⟨Tryd.underlying9⟩
instance : TyInf P 9 1 := ⟨⟨_, inf_of Tryd.type9, by kernel_rfl⟩⟩
instance : TyAgg P 9 false := ⟨Tryd.isAgg9⟩
instance : TySize P 9 1 := ⟨Tryd.sizeOf9⟩
instance : TyZ P 9 [.string ⟨#[]⟩] := ⟨fun w => ⟨_, Tryd.zeroValue9 w, rfl⟩⟩
instance : TyInf P 23 10 := ⟨⟨_, inf_of Tryd.type23, by kernel_rfl⟩⟩
instance : TyAgg P 23 true := ⟨Tryd.isAgg23⟩
instance : TySize P 23 10 := ⟨Tryd.sizeOf23⟩
instance : TyZ P 23 [.int .i64 0, .string ⟨#[]⟩, .string ⟨#[]⟩, .string ⟨#[]⟩, .string ⟨#[]⟩, .string ⟨#[]⟩, .bool false, .bool false, .int .i64 0, .int .i64 0] := ⟨fun w => ⟨_, Tryd.zeroValue23 w, rfl⟩⟩
instance : TyEq P 23 [(3, 0), (9, 1), (9, 2), (9, 3), (9, 4), (9, 5), (4, 6), (4, 7), (3, 8), (3, 9)] := ⟨⟨_, Tryd.underlying23, rfl, by decide⟩, Tryd.stoodInHeld23, Tryd.eqGuardType23⟩
instance : TyB P 23 [.int .i64 0, .string ⟨#[]⟩, .string ⟨#[]⟩, .string ⟨#[]⟩, .string ⟨#[]⟩, .string ⟨#[]⟩, .bool false, .bool false, .int .i64 0, .int .i64 0] [(0, 1), (1, 1), (2, 1), (3, 1), (4, 1), (5, 1), (6, 1), (7, 1), (8, 1), (9, 1)] := ⟨fun ps => by kernel_rfl⟩
instance : TyFld P 23 0 0 := ⟨fun a w => by simp [Instr.fieldAt, Instr.sureAddr, fieldPlace, Sem.run_bind, Tryd.runUnderlying23, Tryd.sizeOf3]⟩
instance : TyFld P 23 1 1 := ⟨fun a w => by simp [Instr.fieldAt, Instr.sureAddr, fieldPlace, Sem.run_bind, Tryd.runUnderlying23, Tryd.sizeOf9]⟩
instance : TyFld P 23 2 2 := ⟨fun a w => by simp [Instr.fieldAt, Instr.sureAddr, fieldPlace, Sem.run_bind, Tryd.runUnderlying23, Tryd.sizeOf9]⟩
instance : TyFld P 23 3 3 := ⟨fun a w => by simp [Instr.fieldAt, Instr.sureAddr, fieldPlace, Sem.run_bind, Tryd.runUnderlying23, Tryd.sizeOf9]⟩
instance : TyFld P 23 4 4 := ⟨fun a w => by simp [Instr.fieldAt, Instr.sureAddr, fieldPlace, Sem.run_bind, Tryd.runUnderlying23, Tryd.sizeOf9]⟩
instance : TyFld P 23 5 5 := ⟨fun a w => by simp [Instr.fieldAt, Instr.sureAddr, fieldPlace, Sem.run_bind, Tryd.runUnderlying23, Tryd.sizeOf9]⟩
instance : TyFld P 23 6 6 := ⟨fun a w => by simp [Instr.fieldAt, Instr.sureAddr, fieldPlace, Sem.run_bind, Tryd.runUnderlying23, Tryd.sizeOf4]⟩
instance : TyFld P 23 7 7 := ⟨fun a w => by simp [Instr.fieldAt, Instr.sureAddr, fieldPlace, Sem.run_bind, Tryd.runUnderlying23, Tryd.sizeOf4]⟩
instance : TyFld P 23 8 8 := ⟨fun a w => by simp [Instr.fieldAt, Instr.sureAddr, fieldPlace, Sem.run_bind, Tryd.runUnderlying23, Tryd.sizeOf3]⟩
instance : TyFld P 23 9 9 := ⟨fun a w => by simp [Instr.fieldAt, Instr.sureAddr, fieldPlace, Sem.run_bind, Tryd.runUnderlying23, Tryd.sizeOf3]⟩
instance : TyInf P 25 3 := ⟨⟨_, inf_of Tryd.type25, by kernel_rfl⟩⟩
instance : TyAgg P 25 true := ⟨Tryd.isAgg25⟩
instance : TySize P 25 3 := ⟨Tryd.sizeOf25⟩
instance : TyZ P 25 [.int .i64 0, .bool false, .bool false] := ⟨fun w => ⟨_, Tryd.zeroValue25 w, rfl⟩⟩
instance : TyEq P 25 [(3, 0), (4, 1), (4, 2)] := ⟨⟨_, Tryd.underlying25, rfl, by decide⟩, Tryd.stoodInHeld25, Tryd.eqGuardType25⟩
instance : TyB P 25 [.int .i64 0, .bool false, .bool false] [(0, 1), (1, 1), (2, 1)] := ⟨fun ps => by kernel_rfl⟩
instance : TyFld P 25 0 0 := ⟨fun a w => by simp [Instr.fieldAt, Instr.sureAddr, fieldPlace, Sem.run_bind, Tryd.runUnderlying25, Tryd.sizeOf3]⟩
instance : TyFld P 25 1 1 := ⟨fun a w => by simp [Instr.fieldAt, Instr.sureAddr, fieldPlace, Sem.run_bind, Tryd.runUnderlying25, Tryd.sizeOf4]⟩
instance : TyFld P 25 2 2 := ⟨fun a w => by simp [Instr.fieldAt, Instr.sureAddr, fieldPlace, Sem.run_bind, Tryd.runUnderlying25, Tryd.sizeOf4]⟩
instance : TyU P 65 (.slice 4) := ⟨Tryd.underlying65⟩
instance : TyInf P 65 1 := ⟨⟨_, inf_of Tryd.type65, by kernel_rfl⟩⟩
instance : TyAgg P 65 false := ⟨Tryd.isAgg65⟩
instance : TySize P 65 1 := ⟨Tryd.sizeOf65⟩
instance : TyZ P 65 [.slice none 0 0] := ⟨fun w => ⟨_, Tryd.zeroValue65 w, rfl⟩⟩
instance : TySl P 65 4 1 := ⟨Tryd.t4, .bool false, Tryd.underlying65, inf_of Tryd.type4, by kernel_rfl, by kernel_rfl, by kernel_rfl, by decide, by decide⟩
instance : TyInf P 83 256 := ⟨⟨_, inf_of Tryd.type83, by kernel_rfl⟩⟩
instance : TyAgg P 83 true := ⟨Tryd.isAgg83⟩
instance : TySize P 83 256 := ⟨Tryd.sizeOf83⟩
instance : TyZ P 83 (List.replicate 256 (.bool false)) := ⟨fun w => ⟨.agg ((List.replicate 256 (.bool false))).toArray, tyz_of (P := P) (t := 83) (i := Tryd.t83) (inf_of Tryd.type83) (by kernel_rfl) w, by kernel_rfl⟩⟩
instance : TyArr P 83 256 4 1 := ⟨Tryd.underlying83, Tryd.sizeOf4⟩
instance : TyU P 87 (.pointer 83) := ⟨Tryd.underlying87⟩
instance : TyInf P 87 1 := ⟨⟨_, inf_of Tryd.type87, by kernel_rfl⟩⟩
instance : TyAgg P 87 false := ⟨Tryd.isAgg87⟩
instance : TySize P 87 1 := ⟨Tryd.sizeOf87⟩
instance : TyZ P 87 [.pointer none] := ⟨fun w => ⟨_, Tryd.zeroValue87 w, rfl⟩⟩
end Go.Proofs.YtodnbkggkdadkabDoor
