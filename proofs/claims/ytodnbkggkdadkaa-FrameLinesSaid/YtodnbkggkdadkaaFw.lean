import Derived.Test.YtodnbkggkdadkaaProg
import Derived.Test.YtodnbkggkdadkaaSf
set_option linter.all false
namespace Go.Proofs.Ytodnbkggkdadkaa
open Go.Vx
noncomputable abbrev P := Try.prog
def bmask : Nat := 53034389211914960892
theorem bodies_ok : Bodies P bmask := bodies_of 83 (by decide +kernel) (by kernel_rfl) (by kernel_rfl)

/-- rollcall/rollcalllaw05.FrameFeeds -/
def D4 (a0 : Value) (K : Value → World → Prop) (s : St) : Prop :=
  Cl P 16 #[] (fun v1 s => Uo P .not v1 (fun v2 s => CondP v2 (Ret P (fun w => K (.bool false) w) s) (Bi P .len #[27] 3 #[false] #[a0] (fun v3 s => Bo P .gtr 3 false true v3 (.int .i64 20) (fun v4 s => CondP v4 (Ret P (fun w => K (.bool true) w) s) (Cl P 17 #[] (fun v5 s => L3 (.slice none 0 0) (.slice none 0 0) (.int .i64 0) s (fun N6 x7 x8 x9 s => Bi P .len #[27] 3 #[false] #[a0] (fun v10 s => Bo P .lss 3 false false x9 v10 (fun v11 s => CondP v11 (Ia P 27 a0 x9 (fun v12 s => Ld P 30 v12 (fun v13 s => Bi P .len #[30] 3 #[false] #[v13] (fun v14 s => Bo P .gtr 3 false true v14 (.int .i64 600) (fun v15 s => CondP v15 (Ret P (fun w => K (.bool true) w) s) (Ia P 27 a0 x9 (fun v16 s => Ld P 30 v16 (fun v17 s => Bi P .append #[30, 30] 30 #[false, false] #[x7, v17] (fun v18 s => Ia P 27 a0 x9 (fun v19 s => Ld P 30 v19 (fun v20 s => Cl P 18 #[v5, v20] (fun v21 s => Bi P .append #[31, 31] 31 #[false, false] #[x8, v21] (fun v22 s => Cl P 19 #[v18] (fun v23 s => Ex P v23 0 (fun v24 s => Ex P v23 1 (fun v25 s => Ex P v23 2 (fun v26 s => Cl P 20 #[v22, v24] (fun v27 s => Uo P .not v27 (fun v28 s => J1 (fun A29 => Grd v28 false (Cl P 21 #[v5] (fun v31 s => Bo P .neq 3 false false v31 v25 (fun v32 s => A29 v32 s) s) s) (A29 undef s)) (fun x30 s => Pk P v28 (.bool true) x30 (fun v33 s => J1 (fun A34 => Grd v33 false (Cl P 22 #[v5] (fun v36 s => Bo P .neq 4 false false v36 v26 (fun v37 s => A34 v37 s) s) s) (A34 undef s)) (fun x35 s => Pk P v33 (.bool true) x35 (fun v38 s => CondP v38 (Ret P (fun w => K (.bool false) w) s) (Bo P .add 3 false true x9 (.int .i64 1) (fun v39 s => N6 v18 v22 v39 s) s)) s)) s)) s) s) s) s) s) s) s) s) s) s) s) s) s)) s) s) s) s) (Ret P (fun w => K (.bool true) w) s)) s) s)) s)) s) s)) s) s
noncomputable def b4 : Code := Try.f4.body.getD .skip
theorem e4 (a0 : Value) (K : Value → World → Prop) : wpc P bmask 64 none b4 (lmOf [.tmp 2]) (ktOf P 64 [.tmp 2] K) (frOf [a0]) = D4 a0 K := by kernel_rfl
theorem c4 {a0 w : _} {K : Value → World → Prop} {R : Ending → World → Prop} (h : D4 a0 K ⟨w, []⟩) (hK : ∀ v w', K v w' → R (.returned v) w') : Calls P 4 #[a0] w R :=
  calls_of bodies_ok Try.func4 64 [.tmp 2] (c := b4) (args := [a0]) (K := K) (by kernel_rfl) rfl (e4 a0 K) h hK

/-- rollcall/rollcalllaw05.FrameLong -/
def D5 (a0 a1 : Value) (K : Value → World → Prop) (s : St) : Prop :=
  Cl P 16 #[] (fun v1 s => Uo P .not v1 (fun v2 s => CondP v2 (Ret P (fun w => K (.bool false) w) s) (Cv P 5 3 a0 (fun v3 s => Bo P .rem 3 false true v3 (.int .i64 21) (fun v4 s => Bo P .add 3 true false (.int .i64 500) v4 (fun v5 s => Ms P 30 v5 v5 (fun v6 s => L1 (.int .i64 0) s (fun N7 x8 s => Bo P .lss 3 false false x8 v5 (fun v9 s => CondP v9 (Ia P 30 v6 x8 (fun v10 s => Sv P 5 v10 (byteV 120) (fun _ s => Bo P .add 3 false true x8 (.int .i64 1) (fun v11 s => N7 v11 s) s) s) s) (Bi P .append #[30, 9] 30 #[false, true] #[v6, .string ⟨#[13, 10, 110, 101, 120, 116, 10]⟩] (fun v12 s => Cl P 17 #[] (fun v13 s => Cv P 5 3 a1 (fun v14 s => Sl P 30 v12 none (some v14) none (fun v15 s => Cl P 18 #[v13, v15] (fun v16 s => Cv P 5 3 a1 (fun v17 s => Sl P 30 v12 (some v17) none none (fun v18 s => Cl P 18 #[v13, v18] (fun v19 s => Bi P .append #[31, 31] 31 #[false, false] #[v16, v19] (fun v20 s => Bi P .len #[31] 3 #[false] #[v20] (fun v21 s => Bo P .neq 3 false true v21 (.int .i64 2) (fun v22 s => J1 (fun A23 => Grd v22 false (Ia P 31 v20 (.int .i64 1) (fun v25 s => Fa P 39 v25 0 (fun v26 s => Ld P 9 v26 (fun v27 s => Bo P .neq 9 false true v27 (.string ⟨#[110, 101, 120, 116]⟩) (fun v28 s => A23 v28 s) s) s) s) s) (A23 undef s)) (fun x24 s => Pk P v22 (.bool true) x24 (fun v29 s => J1 (fun A30 => Grd v29 false (Ia P 31 v20 (.int .i64 1) (fun v32 s => Fa P 39 v32 1 (fun v33 s => Ld P 4 v33 (fun v34 s => A30 v34 s) s) s) s) (A30 undef s)) (fun x31 s => Pk P v29 (.bool true) x31 (fun v35 s => J1 (fun A36 => Grd v35 false (Cl P 21 #[v13] (fun v38 s => Bo P .neq 3 false true v38 (.int .i64 0) (fun v39 s => A36 v39 s) s) s) (A36 undef s)) (fun x37 s => Pk P v35 (.bool true) x37 (fun v40 s => CondP v40 (Ret P (fun w => K (.bool false) w) s) (Bo P .gtr 3 false true v5 (.int .i64 510) (fun v41 s => CondP v41 (Ia P 31 v20 (.int .i64 0) (fun v42 s => Fa P 39 v42 1 (fun v43 s => Ld P 4 v43 (fun v44 s => J1 (fun A45 => Grd v44 true (Ia P 31 v20 (.int .i64 0) (fun v47 s => Fa P 39 v47 0 (fun v48 s => Ld P 9 v48 (fun v49 s => Bo P .eql 9 false true v49 (.string ⟨#[]⟩) (fun v50 s => A45 v50 s) s) s) s) s) (A45 undef s)) (fun x46 s => Pk P v44 x46 (.bool false) (fun v51 s => Ret P (fun w => K v51 w) s) s)) s) s) s) (J1 (fun A52 => Dw (fun s => Qt (Ia P 31 v20 (.int .i64 0)) s fun v54 => Qt (Fa P 39 v54 1) s fun v55 => Qt (Ld P 4 v55) s fun v56 => Qt (Uo P .not v56) s fun v57 => Grd v57 true (Qt (Ia P 31 v20 (.int .i64 0)) s fun v58 => Qt (Fa P 39 v58 0) s fun v59 => Qt (Ld P 9 v59) s fun v60 => Qt (Sl P 30 v12 none (some v5) none) s fun v61 => Qt (Cv P 30 9 v61) s fun v62 => Qt (Bo P .eql 9 false false v60 v62) s fun v63 => Qt (Pk P v57 v63 (.bool false)) s fun v64 => A52 v64 s) (Qt (Pk P v57 undef (.bool false)) s fun v65 => A52 v65 s)) s) (fun x53 s => Ret P (fun w => K x53 w) s))) s)) s)) s)) s)) s) s) s) s) s) s) s) s) s) s) s)) s)) s) s) s) s)) s) s
noncomputable def b5 : Code := Try.f5.body.getD .skip
theorem e5 (a0 a1 : Value) (K : Value → World → Prop) : wpc P bmask 93 none b5 (lmOf [.tmp 4]) (ktOf P 93 [.tmp 4] K) (frOf [a0, a1]) = D5 a0 a1 K := by kernel_rfl
theorem c5 {a0 a1 w : _} {K : Value → World → Prop} {R : Ending → World → Prop} (h : D5 a0 a1 K ⟨w, []⟩) (hK : ∀ v w', K v w' → R (.returned v) w') : Calls P 5 #[a0, a1] w R :=
  calls_of bodies_ok Try.func5 93 [.tmp 4] (c := b5) (args := [a0, a1]) (K := K) (by kernel_rfl) rfl (e5 a0 a1 K) h hK

/-- rollcall/rollcalllaw05.FrameEnds -/
def D6 (a0 a1 : Value) (K : Value → World → Prop) (s : St) : Prop :=
  Cl P 16 #[] (fun v1 s => Uo P .not v1 (fun v2 s => CondP v2 (Ret P (fun w => K (.bool false) w) s) (Bi P .len #[27] 3 #[false] #[a0] (fun v3 s => Bo P .gtr 3 false true v3 (.int .i64 20) (fun v4 s => J1 (fun A5 => Grd v4 false (Bi P .len #[30] 3 #[false] #[a1] (fun v7 s => Bi P .len #[27] 3 #[false] #[a0] (fun v8 s => Bo P .neq 3 false false v7 v8 (fun v9 s => A5 v9 s) s) s) s) (A5 undef s)) (fun x6 s => Pk P v4 (.bool true) x6 (fun v10 s => CondP v10 (Ret P (fun w => K (.bool true) w) s) (L3 (.slice none 0 0) (.slice none 0 0) (.int .i64 0) s (fun N11 x12 x13 x14 s => Bi P .len #[27] 3 #[false] #[a0] (fun v15 s => Bo P .lss 3 false false x14 v15 (fun v16 s => CondP v16 (Ia P 27 a0 x14 (fun v17 s => Ld P 30 v17 (fun v18 s => Bi P .len #[30] 3 #[false] #[v18] (fun v19 s => Bo P .gtr 3 false true v19 (.int .i64 600) (fun v20 s => CondP v20 (Ret P (fun w => K (.bool true) w) s) (L1 (.int .i64 0) s (fun N21 x22 s => Ia P 27 a0 x14 (fun v23 s => Ld P 30 v23 (fun v24 s => Bi P .len #[30] 3 #[false] #[v24] (fun v25 s => Bo P .lss 3 false false x22 v25 (fun v26 s => CondP v26 (Ia P 27 a0 x14 (fun v27 s => Ld P 30 v27 (fun v28 s => Ia P 30 v28 x22 (fun v29 s => Ld P 5 v29 (fun v30 s => Bo P .eql 5 false true v30 (byteV 13) (fun v31 s => J1 (fun A32 => Grd v31 false (Ia P 27 a0 x14 (fun v34 s => Ld P 30 v34 (fun v35 s => Ia P 30 v35 x22 (fun v36 s => Ld P 5 v36 (fun v37 s => Bo P .eql 5 false true v37 (byteV 10) (fun v38 s => A32 v38 s) s) s) s) s) s) (A32 undef s)) (fun x33 s => Pk P v31 (.bool true) x33 (fun v39 s => CondP v39 (Ret P (fun w => K (.bool true) w) s) (Bo P .add 3 false true x22 (.int .i64 1) (fun v40 s => N21 v40 s) s)) s)) s) s) s) s) s) (Ia P 27 a0 x14 (fun v41 s => Ld P 30 v41 (fun v42 s => Bi P .append #[30, 30] 30 #[false, false] #[x12, v42] (fun v43 s => Bs P 30 1 #[(0, byteV 10)] (fun v44 s => Bi P .append #[30, 30] 30 #[false, false] #[v43, v44] (fun v45 s => J1 (fun A46 => Dw (fun s => Qt (Ia P 27 a0 x14) s fun v48 => Qt (Ld P 30 v48) s fun v49 => Qt (Ia P 30 a1 x14) s fun v50 => Qt (Ld P 5 v50) s fun v51 => Qt (Bo P .rem 5 false true v51 (byteV 4)) s fun v52 => (Bi P .append #[30, 30] 30 #[false, false] #[x13, v49] (fun v53 s => Ck (Ia P 30 a1 x14) v50 s ∧ Ck (Ld P 5 v50) v51 s ∧ Ck (Bo P .rem 5 false true v51 (byteV 4)) v52 s ∧ (Bs P 41 4 #[(0, .string ⟨#[13]⟩), (1, .string ⟨#[13, 10]⟩), (2, .string ⟨#[10, 13]⟩), (3, .string ⟨#[10, 10, 10]⟩)] (fun v54 s => Ck (Ia P 30 a1 x14) v50 s ∧ Ck (Ld P 5 v50) v51 s ∧ Ck (Bo P .rem 5 false true v51 (byteV 4)) v52 s ∧ (Qt (Ia P 41 v54 v52) s fun v55 => Qt (Ld P 9 v55) s fun v56 => Bi P .append #[30, 9] 30 #[false, false] #[v53, v56] (fun v57 s => A46 v57 s) s)) s)) s) ∧ (Bs P 41 4 #[(0, .string ⟨#[13]⟩), (1, .string ⟨#[13, 10]⟩), (2, .string ⟨#[10, 13]⟩), (3, .string ⟨#[10, 10, 10]⟩)] (fun v58 s => Ck (Ia P 27 a0 x14) v48 s ∧ Ck (Ld P 30 v48) v49 s ∧ Ck (Ia P 30 a1 x14) v50 s ∧ Ck (Ld P 5 v50) v51 s ∧ Ck (Bo P .rem 5 false true v51 (byteV 4)) v52 s ∧ (Qt (Ia P 41 v58 v52) s fun v59 => Qt (Ld P 9 v59) s fun v60 => Bi P .append #[30, 30] 30 #[false, false] #[x13, v49] (fun v61 s => Ck (Ia P 30 a1 x14) v50 s ∧ Ck (Ld P 5 v50) v51 s ∧ Ck (Bo P .rem 5 false true v51 (byteV 4)) v52 s ∧ Ck (Ia P 41 v58 v52) v59 s ∧ Ck (Ld P 9 v59) v60 s ∧ (Bi P .append #[30, 9] 30 #[false, false] #[v61, v60] (fun v62 s => A46 v62 s) s)) s)) s)) s) (fun x47 s => Bo P .add 3 false true x14 (.int .i64 1) (fun v63 s => N11 v45 x47 v63 s) s)) s) s) s) s) s)) s) s) s) s))) s) s) s) s) (Cl P 17 #[] (fun v64 s => Cl P 17 #[] (fun v65 s => Cl P 18 #[v64, x12] (fun v66 s => Cl P 18 #[v65, x13] (fun v67 s => Cl P 20 #[v66, v67] (fun v68 s => J1 (fun A69 => Grd v68 true (Cl P 21 #[v64] (fun v71 s => Bo P .eql 3 false true v71 (.int .i64 0) (fun v72 s => A69 v72 s) s) s) (A69 undef s)) (fun x70 s => Pk P v68 x70 (.bool false) (fun v73 s => J1 (fun A74 => Grd v73 true (Cl P 21 #[v65] (fun v76 s => Bo P .eql 3 false true v76 (.int .i64 0) (fun v77 s => A74 v77 s) s) s) (A74 undef s)) (fun x75 s => Pk P v73 x75 (.bool false) (fun v78 s => J1 (fun A79 => Grd v78 true (Cl P 22 #[v64] (fun v81 s => Uo P .not v81 (fun v82 s => A79 v82 s) s) s) (A79 undef s)) (fun x80 s => Pk P v78 x80 (.bool false) (fun v83 s => J1 (fun A84 => Grd v83 true (Cl P 22 #[v65] (fun v86 s => Uo P .not v86 (fun v87 s => A84 v87 s) s) s) (A84 undef s)) (fun x85 s => Pk P v83 x85 (.bool false) (fun v88 s => Ret P (fun w => K v88 w) s) s)) s)) s)) s)) s) s) s) s) s)) s) s))) s)) s) s)) s) s
noncomputable def b6 : Code := Try.f6.body.getD .skip
theorem e6 (a0 a1 : Value) (K : Value → World → Prop) : wpc P bmask 114 none b6 (lmOf [.tmp 4]) (ktOf P 114 [.tmp 4] K) (frOf [a0, a1]) = D6 a0 a1 K := by kernel_rfl
theorem c6 {a0 a1 w : _} {K : Value → World → Prop} {R : Ending → World → Prop} (h : D6 a0 a1 K ⟨w, []⟩) (hK : ∀ v w', K v w' → R (.returned v) w') : Calls P 6 #[a0, a1] w R :=
  calls_of bodies_ok Try.func6 114 [.tmp 4] (c := b6) (args := [a0, a1]) (K := K) (by kernel_rfl) rfl (e6 a0 a1 K) h hK

/-- rollcall/rollcalllaw05.FrameLines -/
def D7 (a0 : Value) (K : Value → World → Prop) (s : St) : Prop :=
  Al P 4 (fun v1 s => Cl P 16 #[] (fun v2 s => Uo P .not v2 (fun v3 s => CondP v3 (Sv P 4 v1 (.bool false) (fun _ s => Ret P (fun w => LdR P 4 v1 w fun v4 => K v4 w) s) s) (Bi P .len #[27] 3 #[false] #[a0] (fun v5 s => Bo P .gtr 3 false true v5 (.int .i64 20) (fun v6 s => CondP v6 (Sv P 4 v1 (.bool true) (fun _ s => Ret P (fun w => LdR P 4 v1 w fun v7 => K v7 w) s) s) (L2 (.slice none 0 0) (.int .i64 0) s (fun N8 x9 x10 s => Bi P .len #[27] 3 #[false] #[a0] (fun v11 s => Bo P .lss 3 false false x10 v11 (fun v12 s => CondP v12 (Ia P 27 a0 x10 (fun v13 s => Ld P 30 v13 (fun v14 s => Bi P .len #[30] 3 #[false] #[v14] (fun v15 s => Bo P .gtr 3 false true v15 (.int .i64 600) (fun v16 s => CondP v16 (Sv P 4 v1 (.bool true) (fun _ s => Ret P (fun w => LdR P 4 v1 w fun v17 => K v17 w) s) s) (Ia P 27 a0 x10 (fun v18 s => Ld P 30 v18 (fun v19 s => Bi P .append #[30, 30] 30 #[false, false] #[x9, v19] (fun v20 s => Bo P .add 3 false true x10 (.int .i64 1) (fun v21 s => N8 v20 v21 s) s) s) s) s)) s) s) s) s) (Cl P 19 #[x9] (fun v22 s => Ex P v22 0 (fun v23 s => Ex P v22 1 (fun _ s => Ex P v22 2 (fun _ s => Al P 31 (fun v26 s => Sv P 31 v26 v23 (fun _ s => Al P 31 (fun v27 s => Cl P 23 #[a0] (fun v28 s => Bo P .eql 44 false true v28 (.nilFunc) (fun v29 s => CondP v29 (Sv P 4 v1 (.bool false) (fun _ s => Ret P (fun w => LdR P 4 v1 w fun v30 => K v30 w) s) s) (Rf P none 1 v28 (fun l31 as32 R33 s => Al P 39 (fun v35 s => Sv P 39 v35 (as32.headD undef) (fun _ s => Bg P l31 (fun s => Ld P 31 v27 (fun v36 s => Bi P .len #[31] 3 #[false] #[v36] (fun v37 s => Ld P 31 v26 (fun v38 s => Bi P .len #[31] 3 #[false] #[v38] (fun v39 s => Bo P .geq 3 false false v37 v39 (fun v40 s => CondP v40 (Sv P 4 v1 (.bool false) (fun _ s => Er P l31 (some .ret) R33 s) s) (Ld P 31 v27 (fun v41 s => Ld P 39 v35 (fun v42 s => Bs P 31 1 #[(0, v42)] (fun v43 s => Bi P .append #[31, 31] 31 #[false, false] #[v41, v43] (fun v44 s => Sv P 31 v27 v44 (fun _ s => Er P l31 none R33 s) s) s) s) s) s)) s) s) s) s) s) s) s) s) (fun s => Ld P 31 v27 (fun v45 s => Ld P 31 v26 (fun v46 s => Cl P 20 #[v45, v46] (fun v47 s => Sv P 4 v1 v47 (fun _ s => Ret P (fun w => LdR P 4 v1 w fun v48 => K v48 w) s) s) s) s) s) (fun s => Ret P (fun w => LdR P 4 v1 w fun v49 => K v49 w) s) (fun i34 s => False) s)) s) s) s) s) s) s) s) s) s)) s) s))) s) s)) s) s) s
noncomputable def b7 : Code := Try.f7.body.getD .skip
theorem e7 (a0 : Value) (K : Value → World → Prop) : wpc P bmask 58 none b7 (lmOf [.cell 2 4]) (ktOf P 58 [.cell 2 4] K) (frOf [a0]) = D7 a0 K := by kernel_rfl
theorem c7 {a0 w : _} {K : Value → World → Prop} {R : Ending → World → Prop} (h : D7 a0 K ⟨w, []⟩) (hK : ∀ v w', K v w' → R (.returned v) w') : Calls P 7 #[a0] w R :=
  calls_of bodies_ok Try.func7 58 [.cell 2 4] (c := b7) (args := [a0]) (K := K) (by kernel_rfl) rfl (e7 a0 K) h hK

/-- rollcall/rollcalllaw05.awake -/
def D16 (K : Value → World → Prop) (s : St) : Prop :=
  Cl P 17 #[] (fun v1 s => Bs P 30 4 #[(0, byteV 97), (1, byteV 98), (2, byteV 10), (3, byteV 99)] (fun v2 s => Cv P 30 30 v2 (fun v3 s => Cl P 18 #[v1, v3] (fun v4 s => Bi P .len #[31] 3 #[false] #[v4] (fun v5 s => Bo P .eql 3 false true v5 (.int .i64 1) (fun v6 s => J1 (fun A7 => Grd v6 true (Ia P 31 v4 (.int .i64 0) (fun v9 s => Fa P 39 v9 0 (fun v10 s => Ld P 9 v10 (fun v11 s => Bo P .eql 9 false true v11 (.string ⟨#[97, 98]⟩) (fun v12 s => A7 v12 s) s) s) s) s) (A7 undef s)) (fun x8 s => Pk P v6 x8 (.bool false) (fun v13 s => J1 (fun A14 => Grd v13 true (Cl P 21 #[v1] (fun v16 s => Bo P .eql 3 false true v16 (.int .i64 1) (fun v17 s => A14 v17 s) s) s) (A14 undef s)) (fun x15 s => Pk P v13 x15 (.bool false) (fun v18 s => J1 (fun A19 => Grd v18 true (Cl P 22 #[v1] (fun v21 s => Uo P .not v21 (fun v22 s => A19 v22 s) s) s) (A19 undef s)) (fun x20 s => Pk P v18 x20 (.bool false) (fun v23 s => Ret P (fun w => K v23 w) s) s)) s)) s)) s) s) s) s) s) s
noncomputable def b16 : Code := Try.f16.body.getD .skip
theorem e16 (K : Value → World → Prop) : wpc P bmask 28 none b16 (lmOf [.tmp 0]) (ktOf P 28 [.tmp 0] K) (frOf []) = D16 K := by kernel_rfl
theorem c16 {w : _} {K : Value → World → Prop} {R : Ending → World → Prop} (h : D16 K ⟨w, []⟩) (hK : ∀ v w', K v w' → R (.returned v) w') : Calls P 16 #[] w R :=
  calls_of bodies_ok Try.func16 28 [.tmp 0] (c := b16) (args := []) (K := K) (by kernel_rfl) rfl (e16 K) h hK

/-- rollcall/frame.New -/
def D17 (K : Value → World → Prop) (s : St) : Prop :=
  Bd P 71 #[] (fun v1 s => Bx P 71 v1 (fun v2 s => Ret P (fun w => K v2 w) s) s) s
noncomputable def b17 : Code := Try.f17.body.getD .skip
theorem e17 (K : Value → World → Prop) : wpc P bmask 3 none b17 (lmOf [.tmp 0]) (ktOf P 3 [.tmp 0] K) (frOf []) = D17 K := by kernel_rfl
theorem c17 {w : _} {K : Value → World → Prop} {R : Ending → World → Prop} (h : D17 K ⟨w, []⟩) (hK : ∀ v w', K v w' → R (.returned v) w') : Calls P 17 #[] w R :=
  calls_of bodies_ok Try.func17 3 [.tmp 0] (c := b17) (args := []) (K := K) (by kernel_rfl) rfl (e17 K) h hK

/-- (*rollcall/frame.Framer).Feed -/
def D18 (a0 a1 : Value) (K : Value → World → Prop) (s : St) : Prop :=
  Bo P .eql 28 false true a0 (.pointer none) (fun v1 s => CondP v1 (Ret P (fun w => K (.slice none 0 0) w) s) (Bi P .len #[30] 3 #[false] #[a1] (fun v2 s => L2 (.slice none 0 0) (.int .i64 0) s (fun N3 x4 x5 s => Bo P .lss 3 false false x5 v2 (fun v6 s => CondP v6 (J1 (fun A7 => Ia P 30 a1 x5 (fun v9 s => Ld P 5 v9 (fun v10 s => Cl P 42 #[a0, v10] (fun v11 s => Ex P v11 0 (fun v12 s => Ex P v11 1 (fun v13 s => Al P 39 (fun v14 s => Sv P 39 v14 v12 (fun _ s => CondP v13 (Ld P 39 v14 (fun v15 s => Bs P 31 1 #[(0, v15)] (fun v16 s => Bi P .append #[31, 31] 31 #[false, false] #[x4, v16] (fun v17 s => A7 v17 s) s) s) s) (A7 x4 s)) s) s) s) s) s) s) s) (fun x8 s => Bo P .add 3 false true x5 (.int .i64 1) (fun v18 s => N3 x8 v18 s) s)) (Ret P (fun w => K x4 w) s)) s)) s)) s
noncomputable def b18 : Code := Try.f18.body.getD .skip
theorem e18 (a0 a1 : Value) (K : Value → World → Prop) : wpc P bmask 31 none b18 (lmOf [.tmp 4]) (ktOf P 31 [.tmp 4] K) (frOf [a0, a1]) = D18 a0 a1 K := by kernel_rfl
theorem c18 {a0 a1 w : _} {K : Value → World → Prop} {R : Ending → World → Prop} (h : D18 a0 a1 K ⟨w, []⟩) (hK : ∀ v w', K v w' → R (.returned v) w') : Calls P 18 #[a0, a1] w R :=
  calls_of bodies_ok Try.func18 31 [.tmp 4] (c := b18) (args := [a0, a1]) (K := K) (by kernel_rfl) rfl (e18 a0 a1 K) h hK

/-- rollcall/rollcallref05.All -/
def D19 (a0 : Value) (K : Value → World → Prop) (s : St) : Prop :=
  L3 (.slice none 0 0) (.int .i64 0) (.int .i64 0) s (fun N1 x2 x3 x4 s => Bi P .len #[30] 3 #[false] #[a0] (fun v5 s => Bo P .lss 3 false false x4 v5 (fun v6 s => CondP v6 (J2 (fun A7 => Ia P 30 a0 x4 (fun v10 s => Ld P 5 v10 (fun v11 s => Bo P .neq 5 false true v11 (byteV 13) (fun v12 s => J1 (fun A13 => Grd v12 true (Ia P 30 a0 x4 (fun v15 s => Ld P 5 v15 (fun v16 s => Bo P .neq 5 false true v16 (byteV 10) (fun v17 s => A13 v17 s) s) s) s) (A13 undef s)) (fun x14 s => Pk P v12 x14 (.bool false) (fun v18 s => CondP v18 (A7 x2 x3 s) (J1 (fun A19 => Bo P .sub 3 false false x4 x3 (fun v21 s => Bo P .gtr 3 false true v21 (.int .i64 510) (fun v22 s => CondP v22 (Bd P 39 #[(1, .bool true)] (fun v23 s => Bs P 31 1 #[(0, v23)] (fun v24 s => Bi P .append #[31, 31] 31 #[false, false] #[x2, v24] (fun v25 s => A19 v25 s) s) s) s) (Bo P .gtr 3 false false x4 x3 (fun v26 s => CondP v26 (Sl P 30 a0 (some x3) (some x4) none (fun v27 s => Cv P 30 9 v27 (fun v28 s => Bd P 39 #[(0, v28)] (fun v29 s => Bs P 31 1 #[(0, v29)] (fun v30 s => Bi P .append #[31, 31] 31 #[false, false] #[x2, v30] (fun v31 s => A19 v31 s) s) s) s) s) s) (A19 x2 s)) s)) s) s) (fun x20 s => Bo P .add 3 false true x4 (.int .i64 1) (fun v32 s => A7 x20 v32 s) s))) s)) s) s) s) (fun x8 x9 s => Bo P .add 3 false true x4 (.int .i64 1) (fun v33 s => N1 x8 x9 v33 s) s)) (Bi P .len #[30] 3 #[false] #[a0] (fun v34 s => Bo P .sub 3 false false v34 x3 (fun v35 s => Bo P .gtr 3 false true v35 (.int .i64 510) (fun v36 s => CondP v36 (Ret P (fun w => K (.tuple #[x2, .int .i64 0, .bool true]) w) s) (Bi P .len #[30] 3 #[false] #[a0] (fun v37 s => Bo P .sub 3 false false v37 x3 (fun v38 s => Ret P (fun w => K (.tuple #[x2, v38, .bool false]) w) s) s) s)) s) s) s)) s) s)
noncomputable def b19 : Code := Try.f19.body.getD .skip
theorem e19 (a0 : Value) (K : Value → World → Prop) : wpc P bmask 59 none b19 (lmOf [.tmp 2, .tmp 3, .tmp 4]) (ktOf P 59 [.tmp 2, .tmp 3, .tmp 4] K) (frOf [a0]) = D19 a0 K := by kernel_rfl
theorem c19 {a0 w : _} {K : Value → World → Prop} {R : Ending → World → Prop} (h : D19 a0 K ⟨w, []⟩) (hK : ∀ v w', K v w' → R (.returned v) w') : Calls P 19 #[a0] w R :=
  calls_of bodies_ok Try.func19 59 [.tmp 2, .tmp 3, .tmp 4] (c := b19) (args := [a0]) (K := K) (by kernel_rfl) rfl (e19 a0 K) h hK

/-- rollcall/rollcallref05.Same -/
def D20 (a0 a1 : Value) (K : Value → World → Prop) (s : St) : Prop :=
  Bi P .len #[31] 3 #[false] #[a0] (fun v1 s => Bi P .len #[31] 3 #[false] #[a1] (fun v2 s => Bo P .neq 3 false false v1 v2 (fun v3 s => CondP v3 (Ret P (fun w => K (.bool false) w) s) (L1 (.int .i64 0) s (fun N4 x5 s => Bi P .len #[31] 3 #[false] #[a0] (fun v6 s => Bo P .lss 3 false false x5 v6 (fun v7 s => CondP v7 (Dw (fun s => Qt (Ia P 31 a0 x5) s fun v8 => Qt (Ld P 39 v8) s fun v9 => Qt (Ia P 31 a1 x5) s fun v10 => Qt (Ld P 39 v10) s fun v11 => Qt (Bo P .neq 39 false false v9 v11) s fun v12 => CondP v12 (Ret P (fun w => K (.bool false) w) s) (Bo P .add 3 false true x5 (.int .i64 1) (fun v13 s => N4 v13 s) s)) s) (Ret P (fun w => K (.bool true) w) s)) s) s))) s) s) s
noncomputable def b20 : Code := Try.f20.body.getD .skip
theorem e20 (a0 a1 : Value) (K : Value → World → Prop) : wpc P bmask 26 none b20 (lmOf [.tmp 4]) (ktOf P 26 [.tmp 4] K) (frOf [a0, a1]) = D20 a0 a1 K := by kernel_rfl
theorem c20 {a0 a1 w : _} {K : Value → World → Prop} {R : Ending → World → Prop} (h : D20 a0 a1 K ⟨w, []⟩) (hK : ∀ v w', K v w' → R (.returned v) w') : Calls P 20 #[a0, a1] w R :=
  calls_of bodies_ok Try.func20 26 [.tmp 4] (c := b20) (args := [a0, a1]) (K := K) (by kernel_rfl) rfl (e20 a0 a1 K) h hK

/-- (*rollcall/frame.Framer).Rest -/
def D21 (a0 : Value) (K : Value → World → Prop) (s : St) : Prop :=
  Bo P .eql 28 false true a0 (.pointer none) (fun v1 s => J1 (fun A2 => Grd v1 false (Nc P a0 (fun v4 s => Fa P 71 v4 1 (fun v5 s => Ld P 4 v5 (fun v6 s => A2 v6 s) s) s) s) (A2 undef s)) (fun x3 s => Pk P v1 (.bool true) x3 (fun v7 s => CondP v7 (Ret P (fun w => K (.int .i64 0) w) s) (Nc P a0 (fun v8 s => Fa P 71 v8 0 (fun v9 s => Ld P 30 v9 (fun v10 s => Bi P .len #[30] 3 #[false] #[v10] (fun v11 s => Ret P (fun w => K v11 w) s) s) s) s) s)) s)) s
noncomputable def b21 : Code := Try.f21.body.getD .skip
theorem e21 (a0 : Value) (K : Value → World → Prop) : wpc P bmask 16 none b21 (lmOf [.tmp 2]) (ktOf P 16 [.tmp 2] K) (frOf [a0]) = D21 a0 K := by kernel_rfl
theorem c21 {a0 w : _} {K : Value → World → Prop} {R : Ending → World → Prop} (h : D21 a0 K ⟨w, []⟩) (hK : ∀ v w', K v w' → R (.returned v) w') : Calls P 21 #[a0] w R :=
  calls_of bodies_ok Try.func21 16 [.tmp 2] (c := b21) (args := [a0]) (K := K) (by kernel_rfl) rfl (e21 a0 K) h hK

/-- (*rollcall/frame.Framer).Lost -/
def D22 (a0 : Value) (K : Value → World → Prop) (s : St) : Prop :=
  Bo P .neq 28 false true a0 (.pointer none) (fun v1 s => J1 (fun A2 => Grd v1 true (Nc P a0 (fun v4 s => Fa P 71 v4 1 (fun v5 s => Ld P 4 v5 (fun v6 s => A2 v6 s) s) s) s) (A2 undef s)) (fun x3 s => Pk P v1 x3 (.bool false) (fun v7 s => Ret P (fun w => K v7 w) s) s)) s
noncomputable def b22 : Code := Try.f22.body.getD .skip
theorem e22 (a0 : Value) (K : Value → World → Prop) : wpc P bmask 11 none b22 (lmOf [.tmp 2]) (ktOf P 11 [.tmp 2] K) (frOf [a0]) = D22 a0 K := by kernel_rfl
theorem c22 {a0 w : _} {K : Value → World → Prop} {R : Ending → World → Prop} (h : D22 a0 K ⟨w, []⟩) (hK : ∀ v w', K v w' → R (.returned v) w') : Calls P 22 #[a0] w R :=
  calls_of bodies_ok Try.func22 11 [.tmp 2] (c := b22) (args := [a0]) (K := K) (by kernel_rfl) rfl (e22 a0 K) h hK

/-- rollcall/frame.Lines -/
def D23 (a0 : Value) (K : Value → World → Prop) (s : St) : Prop :=
  Bx P 27 a0 (fun v1 s => Mf P (.func 43) #[] #[v1] (fun v2 s => Ret P (fun w => K v2 w) s) s) s
noncomputable def b23 : Code := Try.f23.body.getD .skip
theorem e23 (a0 : Value) (K : Value → World → Prop) : wpc P bmask 4 none b23 (lmOf [.tmp 2]) (ktOf P 4 [.tmp 2] K) (frOf [a0]) = D23 a0 K := by kernel_rfl
theorem c23 {a0 w : _} {K : Value → World → Prop} {R : Ending → World → Prop} (h : D23 a0 K ⟨w, []⟩) (hK : ∀ v w', K v w' → R (.returned v) w') : Calls P 23 #[a0] w R :=
  calls_of bodies_ok Try.func23 4 [.tmp 2] (c := b23) (args := [a0]) (K := K) (by kernel_rfl) rfl (e23 a0 K) h hK

/-- (*rollcall/frame.Framer).push -/
def D42 (a0 a1 : Value) (K : Value → World → Prop) (s : St) : Prop :=
  Al P 39 (fun v1 s => Bo P .neq 5 false true a1 (byteV 13) (fun v2 s => J1 (fun A3 => Grd v2 true (Bo P .neq 5 false true a1 (byteV 10) (fun v5 s => A3 v5 s) s) (A3 undef s)) (fun x4 s => Pk P v2 x4 (.bool false) (fun v6 s => CondP v6 (J0 (fun A7 => Nc P a0 (fun v8 s => Fa P 71 v8 0 (fun v9 s => Ld P 30 v9 (fun v10 s => Bi P .len #[30] 3 #[false] #[v10] (fun v11 s => Bo P .eql 3 false true v11 (.int .i64 510) (fun v12 s => CondP v12 (Nc P a0 (fun v13 s => Fa P 71 v13 1 (fun v14 s => Sv P 4 v14 (.bool true) (fun _ s => A7 s) s) s) s) (A7 s)) s) s) s) s) s) (fun s => J0 (fun A15 => Nc P a0 (fun v16 s => Fa P 71 v16 1 (fun v17 s => Ld P 4 v17 (fun v18 s => Uo P .not v18 (fun v19 s => CondP v19 (Nc P a0 (fun v20 s => Fa P 71 v20 0 (fun v21 s => Ld P 30 v21 (fun v22 s => Bs P 30 1 #[(0, a1)] (fun v23 s => Bi P .append #[30, 30] 30 #[false, false] #[v22, v23] (fun v24 s => Nc P a0 (fun v25 s => Fa P 71 v25 0 (fun v26 s => Sv P 30 v26 v24 (fun _ s => A15 s) s) s) s) s) s) s) s) s) (A15 s)) s) s) s) s) (fun s => Bd P 39 #[] (fun v27 s => Sv P 39 v1 v27 (fun _ s => Ret P (fun w => LdR P 39 v1 w fun v28 => K (.tuple #[v28, .bool false]) w) s) s) s))) (Nc P a0 (fun v29 s => Fa P 71 v29 1 (fun v30 s => Ld P 4 v30 (fun v31 s => Bd P 39 #[(1, v31)] (fun v32 s => Al P 39 (fun v33 s => Sv P 39 v33 v32 (fun _ s => J0 (fun A34 => Nc P a0 (fun v35 s => Fa P 71 v35 1 (fun v36 s => Ld P 4 v36 (fun v37 s => Uo P .not v37 (fun v38 s => CondP v38 (Nc P a0 (fun v39 s => Fa P 71 v39 0 (fun v40 s => Ld P 30 v40 (fun v41 s => Cv P 30 9 v41 (fun v42 s => Fa P 39 v33 0 (fun v43 s => Sv P 9 v43 v42 (fun _ s => A34 s) s) s) s) s) s) s) (A34 s)) s) s) s) s) (fun s => Nc P a0 (fun v44 s => Fa P 71 v44 0 (fun v45 s => Ld P 30 v45 (fun v46 s => Sl P 30 v46 none (some (.int .i64 0)) none (fun v47 s => Nc P a0 (fun v48 s => Fa P 71 v48 0 (fun v49 s => Sv P 30 v49 v47 (fun _ s => Nc P a0 (fun v50 s => Fa P 71 v50 1 (fun v51 s => Sv P 4 v51 (.bool false) (fun _ s => J1 (fun A52 => Dw (fun s => Qt (Ld P 39 v33) s fun v54 => Qt (Fa P 39 v33 1) s fun v55 => Qt (Ld P 4 v55) s fun v56 => Grd v56 false (Qt (Fa P 39 v33 0) s fun v57 => Qt (Ld P 9 v57) s fun v58 => Qt (Bo P .neq 9 false true v58 (.string ⟨#[]⟩)) s fun v59 => Qt (Pk P v56 (.bool true) v59) s fun v60 => Sv P 39 v1 v54 (fun _ s => Ck (Fa P 39 v33 0) v57 s ∧ Ck (Ld P 9 v57) v58 s ∧ Ck (Bo P .neq 9 false true v58 (.string ⟨#[]⟩)) v59 s ∧ Ck (Pk P v56 (.bool true) v59) v60 s ∧ (A52 v60 s)) s) (Qt (Pk P v56 (.bool true) undef) s fun v61 => Sv P 39 v1 v54 (fun _ s => Ck (Pk P v56 (.bool true) undef) v61 s ∧ (A52 v61 s)) s)) s) (fun x53 s => Ret P (fun w => LdR P 39 v1 w fun v62 => K (.tuple #[v62, x53]) w) s)) s) s) s) s) s) s) s) s) s) s)) s) s) s) s) s) s)) s)) s) s
noncomputable def b42 : Code := Try.f42.body.getD .skip
theorem e42 (a0 a1 : Value) (K : Value → World → Prop) : wpc P bmask 73 none b42 (lmOf [.cell 4 39, .tmp 5]) (ktOf P 73 [.cell 4 39, .tmp 5] K) (frOf [a0, a1]) = D42 a0 a1 K := by kernel_rfl
theorem c42 {a0 a1 w : _} {K : Value → World → Prop} {R : Ending → World → Prop} (h : D42 a0 a1 K ⟨w, []⟩) (hK : ∀ v w', K v w' → R (.returned v) w') : Calls P 42 #[a0, a1] w R :=
  calls_of bodies_ok Try.func42 73 [.cell 4 39, .tmp 5] (c := b42) (args := [a0, a1]) (K := K) (by kernel_rfl) rfl (e42 a0 a1 K) h hK

/-- rollcall/frame.Lines$1 -/
def D43 (a0 a1 : Value) (K : Value → World → Prop) (s : St) : Prop :=
  Cl P 17 #[] (fun v1 s => Ld P 27 a1 (fun v2 s => Bi P .len #[27] 3 #[false] #[v2] (fun v3 s => L1 (.int .i64 0) s (fun N4 x5 s => Bo P .lss 3 false false x5 v3 (fun v6 s => CondP v6 (Ia P 27 v2 x5 (fun v7 s => Ld P 30 v7 (fun v8 s => Cl P 18 #[v1, v8] (fun v9 s => Bi P .len #[31] 3 #[false] #[v9] (fun v10 s => L1 (.int .i64 0) s (fun N11 x12 s => Bo P .lss 3 false false x12 v10 (fun v13 s => CondP v13 (Ia P 31 v9 x12 (fun v14 s => Ld P 39 v14 (fun v15 s => Al P 39 (fun v16 s => Sv P 39 v16 v15 (fun _ s => Ld P 39 v16 (fun v17 s => Dy P a0 #[v17] (fun v18 s => Uo P .not v18 (fun v19 s => CondP v19 (Ret P (fun w => K (.tuple #[]) w) s) (Bo P .add 3 false true x12 (.int .i64 1) (fun v20 s => N11 v20 s) s)) s) s) s) s) s) s) s) (Bo P .add 3 false true x5 (.int .i64 1) (fun v21 s => N4 v21 s) s)) s)) s) s) s) s) (Ret P (fun w => K (.tuple #[]) w) s)) s)) s) s) s
noncomputable def b43 : Code := Try.f43.body.getD .skip
theorem e43 (a0 a1 : Value) (K : Value → World → Prop) : wpc P bmask 29 none b43 (lmOf []) (ktOf P 29 [] K) (frOf [a0, a1]) = D43 a0 a1 K := by kernel_rfl
theorem c43 {a0 a1 w : _} {K : Value → World → Prop} {R : Ending → World → Prop} (h : D43 a0 a1 K ⟨w, []⟩) (hK : ∀ v w', K v w' → R (.returned v) w') : Calls P 43 #[a0, a1] w R :=
  calls_of bodies_ok Try.func43 29 [] (c := b43) (args := [a0, a1]) (K := K) (by kernel_rfl) rfl (e43 a0 a1 K) h hK

instance : BodyOf P 43 := ⟨bodies_ok.2 43 (by kernel_rfl)⟩
instance : TyU P 3 (.int .i64) := ⟨Try.underlying3⟩
instance : TyAgg P 3 false := ⟨Try.isAgg3⟩
instance : TySize P 3 1 := ⟨Try.sizeOf3⟩
instance : TyZ P 3 [.int .i64 0] := ⟨fun w => ⟨_, Try.zeroValue3 w, rfl⟩⟩
instance : TyU P 4 (.bool) := ⟨Try.underlying4⟩
instance : TyAgg P 4 false := ⟨Try.isAgg4⟩
instance : TySize P 4 1 := ⟨Try.sizeOf4⟩
instance : TyZ P 4 [.bool false] := ⟨fun w => ⟨_, Try.zeroValue4 w, rfl⟩⟩
instance : TyU P 5 (.int .u8) := ⟨Try.underlying5⟩
instance : TyAgg P 5 false := ⟨Try.isAgg5⟩
instance : TySize P 5 1 := ⟨Try.sizeOf5⟩
instance : TyZ P 5 [byteV 0] := ⟨fun w => ⟨_, Try.zeroValue5 w, rfl⟩⟩
instance : TyU P 9 (.string) := ⟨Try.underlying9⟩
instance : TyAgg P 9 false := ⟨Try.isAgg9⟩
instance : TySize P 9 1 := ⟨Try.sizeOf9⟩
instance : TyZ P 9 [.string ⟨#[]⟩] := ⟨fun w => ⟨_, Try.zeroValue9 w, rfl⟩⟩
instance : TyU P 27 (.slice 30) := ⟨Try.underlying27⟩
instance : TyAgg P 27 false := ⟨Try.isAgg27⟩
instance : TySize P 27 1 := ⟨Try.sizeOf27⟩
instance : TyZ P 27 [.slice none 0 0] := ⟨fun w => ⟨_, Try.zeroValue27 w, rfl⟩⟩
instance : TySl P 27 30 1 := ⟨Try.t30, .slice none 0 0, Try.underlying27, Try.type30, rfl, rfl, rfl, by decide, by decide⟩
instance : TyU P 28 (.pointer 71) := ⟨Try.underlying28⟩
instance : TyAgg P 28 false := ⟨Try.isAgg28⟩
instance : TySize P 28 1 := ⟨Try.sizeOf28⟩
instance : TyZ P 28 [.pointer none] := ⟨fun w => ⟨_, Try.zeroValue28 w, rfl⟩⟩
instance : TyU P 30 (.slice 5) := ⟨Try.underlying30⟩
instance : TyAgg P 30 false := ⟨Try.isAgg30⟩
instance : TySize P 30 1 := ⟨Try.sizeOf30⟩
instance : TyZ P 30 [.slice none 0 0] := ⟨fun w => ⟨_, Try.zeroValue30 w, rfl⟩⟩
instance : TySl P 30 5 1 := ⟨Try.t5, byteV 0, Try.underlying30, Try.type5, rfl, rfl, rfl, by decide, by decide⟩
instance : TyU P 31 (.slice 39) := ⟨Try.underlying31⟩
instance : TyAgg P 31 false := ⟨Try.isAgg31⟩
instance : TySize P 31 1 := ⟨Try.sizeOf31⟩
instance : TyZ P 31 [.slice none 0 0] := ⟨fun w => ⟨_, Try.zeroValue31 w, rfl⟩⟩
instance : TySl P 31 39 2 := ⟨Try.t39, .agg #[.string ⟨#[]⟩, .bool false], Try.underlying31, Try.type39, rfl, rfl, rfl, by decide, by decide⟩
instance : TyAgg P 39 true := ⟨Try.isAgg39⟩
instance : TySize P 39 2 := ⟨Try.sizeOf39⟩
instance : TyZ P 39 [.string ⟨#[]⟩, .bool false] := ⟨fun w => ⟨_, Try.zeroValue39 w, rfl⟩⟩
instance : TyEq P 39 [(9, 0), (4, 1)] := ⟨⟨_, Try.underlying39, rfl, by decide⟩, Try.stoodInHeld39, Try.eqGuardType39⟩
instance : TyB P 39 [.string ⟨#[]⟩, .bool false] [(0, 1), (1, 1)] := ⟨fun ps => by kernel_rfl⟩
instance : TyFld P 39 0 0 := ⟨fun a w => by simp [Instr.fieldAt, Instr.sureAddr, fieldPlace, Sem.run_bind, Try.runUnderlying39, Try.sizeOf9]⟩
instance : TyFld P 39 1 1 := ⟨fun a w => by simp [Instr.fieldAt, Instr.sureAddr, fieldPlace, Sem.run_bind, Try.runUnderlying39, Try.sizeOf4]⟩
instance : TyU P 41 (.slice 9) := ⟨Try.underlying41⟩
instance : TyAgg P 41 false := ⟨Try.isAgg41⟩
instance : TySize P 41 1 := ⟨Try.sizeOf41⟩
instance : TyZ P 41 [.slice none 0 0] := ⟨fun w => ⟨_, Try.zeroValue41 w, rfl⟩⟩
instance : TySl P 41 9 1 := ⟨Try.t9, .string ⟨#[]⟩, Try.underlying41, Try.type9, rfl, rfl, rfl, by decide, by decide⟩
instance : TyFn P 44 := ⟨⟨_, _, _, Try.underlying44⟩⟩
instance : TyAgg P 44 false := ⟨Try.isAgg44⟩
instance : TySize P 44 1 := ⟨Try.sizeOf44⟩
instance : TyZ P 44 [.nilFunc] := ⟨fun w => ⟨_, Try.zeroValue44 w, rfl⟩⟩
instance : TyAgg P 71 true := ⟨Try.isAgg71⟩
instance : TySize P 71 2 := ⟨Try.sizeOf71⟩
instance : TyZ P 71 [.slice none 0 0, .bool false] := ⟨fun w => ⟨_, Try.zeroValue71 w, rfl⟩⟩
instance : TyB P 71 [.slice none 0 0, .bool false] [(0, 1), (1, 1)] := ⟨fun ps => by kernel_rfl⟩
instance : TyFld P 71 0 0 := ⟨fun a w => by simp [Instr.fieldAt, Instr.sureAddr, fieldPlace, Sem.run_bind, Try.runUnderlying71, Try.sizeOf30]⟩
instance : TyFld P 71 1 1 := ⟨fun a w => by simp [Instr.fieldAt, Instr.sureAddr, fieldPlace, Sem.run_bind, Try.runUnderlying71, Try.sizeOf4]⟩
end Go.Proofs.Ytodnbkggkdadkaa
