/- Printed by wip/kit/gen.py out of the translation: formulas of Go functions, and that they are these functions'. -/
import Derived.Test.YtmbhlbohbpepaaaChecked
import Derived.Test.YtmbhlbohbpepaaaZ0

namespace Go.Proofs.Ytmbhlbohbpepaaa
open Go

set_option maxRecDepth 100000
set_option linter.unusedVariables false

theorem progIsOk : progOk Try.prog = true := by kernel_rfl

/-! ### octroi/octroilaw09.RibBetter: function 3 -/
noncomputable def octroilaw09_RibBetter_code : Code := match Try.f3.body with | some c => c | none => .skip

/-- law.go:30 -/
def octroilaw09_RibBetter_r0 (env : Env) (h : Hp) (K : Env → Hp → Prop) : Prop :=
  arun Try.prog (Instr.box 27 (env 0)) h fun v2_0 h1 =>
  arun Try.prog (Instr.box 27 (env 1)) h1 fun v3_1 h2 =>
  K (((env.set 2 v2_0).set 3 v3_1).set 4 (Go.Value.bool false)) h2
@[congr] theorem octroilaw09_RibBetter_r0_congr {env : Env} {h : Hp} {K : Env → Hp → Prop} : octroilaw09_RibBetter_r0 env h K = octroilaw09_RibBetter_r0 env h K := rfl

/-- law.go:31 -/
def octroilaw09_RibBetter_r1 (env : Env) (h : Hp) (K : Env → Hp → Prop) : Prop :=
  Ok Try.prog 11 #[] h fun v8_0 h1 =>
  K ((env.set 8 v8_0).set 5 v8_0) h1
@[congr] theorem octroilaw09_RibBetter_r1_congr {env : Env} {h : Hp} {K : Env → Hp → Prop} : octroilaw09_RibBetter_r1 env h K = octroilaw09_RibBetter_r1 env h K := rfl

/-- law.go:32 -/
def octroilaw09_RibBetter_r2 (env : Env) (h : Hp) (K : Env → Hp → Prop) : Prop :=
  rd Try.prog (Instr.loadAt 27 (env 2)) h fun v9_0 =>
  Ok Try.prog 12 #[v9_0] h fun v10_1 h1 =>
  K (((env.set 9 v9_0).set 10 v10_1).set 6 v10_1) h1
@[congr] theorem octroilaw09_RibBetter_r2_congr {env : Env} {h : Hp} {K : Env → Hp → Prop} : octroilaw09_RibBetter_r2 env h K = octroilaw09_RibBetter_r2 env h K := rfl

/-- law.go:33 -/
def octroilaw09_RibBetter_r3 (env : Env) (h : Hp) (K : Env → Hp → Prop) : Prop :=
  rd Try.prog (Instr.loadAt 27 (env 3)) h fun v11_0 =>
  Ok Try.prog 12 #[v11_0] h fun v12_1 h1 =>
  K (((env.set 11 v11_0).set 12 v12_1).set 7 v12_1) h1
@[congr] theorem octroilaw09_RibBetter_r3_congr {env : Env} {h : Hp} {K : Env → Hp → Prop} : octroilaw09_RibBetter_r3 env h K = octroilaw09_RibBetter_r3 env h K := rfl

/-- law.go:34 -/
def octroilaw09_RibBetter_r4 (env : Env) (h : Hp) (K : Env → Hp → Prop) : Prop :=
  rd Try.prog (Op.unary Go.UnOp.not (env 5)) noHp fun v14_1 =>
  gd (yb v14_1 == some false) (fun h k => k (env 6) h) h fun v16_3 h1 =>
  gd (yb v14_1 == some false) (fun h k => rd Try.prog (Op.unary Go.UnOp.not v16_3) noHp fun v => k v h) h1 fun v17_4 h2 =>
  rd Try.prog (pck v14_1 (Go.Value.bool true) v17_4) noHp fun v18_5 =>
  gd (yb v18_5 == some false) (fun h k => k (env 7) h) h2 fun v20_7 h3 =>
  gd (yb v18_5 == some false) (fun h k => rd Try.prog (Op.unary Go.UnOp.not v20_7) noHp fun v => k v h) h3 fun v21_8 h4 =>
  rd Try.prog (pck v18_5 (Go.Value.bool true) v21_8) noHp fun v22_9 =>
  K ((((((((((env.set 13 (env 5)).set 14 v14_1).set 15 v14_1).set 16 v16_3).set 17 v17_4).set 18 v18_5).set 19 v18_5).set 20 v20_7).set 21 v21_8).set 22 v22_9) h4
@[congr] theorem octroilaw09_RibBetter_r4_congr {env : Env} {h : Hp} {K : Env → Hp → Prop} : octroilaw09_RibBetter_r4 env h K = octroilaw09_RibBetter_r4 env h K := rfl

/-- law.go:35 -/
def octroilaw09_RibBetter_r5 (env : Env) (h : Hp) (K : Env → Hp → Prop) : Prop :=
  K ((env.set 23 (env 5)).set 4 (env 5)) h
@[congr] theorem octroilaw09_RibBetter_r5_congr {env : Env} {h : Hp} {K : Env → Hp → Prop} : octroilaw09_RibBetter_r5 env h K = octroilaw09_RibBetter_r5 env h K := rfl

/-- law.go:37 (in any order) -/
def octroilaw09_RibBetter_r6 (env : Env) (h : Hp) (K : Env → Hp → Prop) : Prop :=
  rd Try.prog (Instr.loadAt 27 (env 2)) h fun v24_0 =>
  rd Try.prog (Instr.loadAt 27 (env 3)) h fun v25_1 =>
  rd Try.prog (Instr.loadAt 27 (env 2)) h fun v27_2 =>
  rd Try.prog (Instr.loadAt 27 (env 3)) h fun v28_3 =>
  Ok Try.prog 13 #[v24_0, v25_1] h fun v26_4 h1 =>
  (rrun Try.prog (Instr.loadAt 27 (env 3)) h1 = some v28_3 ∧ rrun Try.prog (Instr.loadAt 27 (env 2)) h1 = some v27_2 ∧ True) ∧
  Ok Try.prog 14 #[v27_2, v28_3] h1 fun v29_5 h2 =>
  (True) ∧
  rd Try.prog (bop Go.BinOp.eql 4 (Go.Operand.tmp 26) (Go.Operand.tmp 29) v26_4 v29_5) noHp fun v30_6 =>
  K ((((((((env.set 24 v24_0).set 25 v25_1).set 27 v27_2).set 28 v28_3).set 26 v26_4).set 29 v29_5).set 30 v30_6).set 4 v30_6) h2
@[congr] theorem octroilaw09_RibBetter_r6_congr {env : Env} {h : Hp} {K : Env → Hp → Prop} : octroilaw09_RibBetter_r6 env h K = octroilaw09_RibBetter_r6 env h K := rfl

def octroilaw09_RibBetter_D : Den := (sq (rg octroilaw09_RibBetter_r0) (sq (rg octroilaw09_RibBetter_r1) (sq (rg octroilaw09_RibBetter_r2) (sq (rg octroilaw09_RibBetter_r3) (sq (sq (rg octroilaw09_RibBetter_r4) (cnd (Go.Operand.tmp 22) (sq (rg octroilaw09_RibBetter_r5) (ex .ret)) (ex .normal))) (sq (rg octroilaw09_RibBetter_r6) (ex .ret)))))))

theorem octroilaw09_RibBetter_eq : (den Try.prog 31 octroilaw09_RibBetter_code).1 = octroilaw09_RibBetter_D := by kernel_rfl

theorem octroilaw09_RibBetter_ok {args : Array Value} {h : Hp} {Q : Value → Hp → Prop} (hn : args.size ≤ 31) (D : octroilaw09_RibBetter_D (fin Try.prog [(Go.ResultVar.tmp 4)] Q) (env0 args) h) : Ok Try.prog 3 args h Q :=
  ok_of_den progIsOk Try.func3 (c := octroilaw09_RibBetter_code) (by kernel_rfl) hn (by show (den Try.prog 31 octroilaw09_RibBetter_code).1 _ _ _; rw [octroilaw09_RibBetter_eq]; exact D)

/-! ### octroi/octroilaw09.RibOrder: function 4 -/
noncomputable def octroilaw09_RibOrder_code : Code := match Try.f4.body with | some c => c | none => .skip

/-- law.go:69 -/
def octroilaw09_RibOrder_r0 (env : Env) (h : Hp) (K : Env → Hp → Prop) : Prop :=
  arun Try.prog (Instr.box 27 (env 0)) h fun v3_0 h1 =>
  arun Try.prog (Instr.box 27 (env 1)) h1 fun v4_1 h2 =>
  arun Try.prog (Instr.box 27 (env 2)) h2 fun v5_2 h3 =>
  K ((((env.set 3 v3_0).set 4 v4_1).set 5 v5_2).set 6 (Go.Value.bool false)) h3
@[congr] theorem octroilaw09_RibOrder_r0_congr {env : Env} {h : Hp} {K : Env → Hp → Prop} : octroilaw09_RibOrder_r0 env h K = octroilaw09_RibOrder_r0 env h K := rfl

/-- law.go:70 -/
def octroilaw09_RibOrder_r1 (env : Env) (h : Hp) (K : Env → Hp → Prop) : Prop :=
  Ok Try.prog 11 #[] h fun v13_0 h1 =>
  K ((env.set 13 v13_0).set 7 v13_0) h1
@[congr] theorem octroilaw09_RibOrder_r1_congr {env : Env} {h : Hp} {K : Env → Hp → Prop} : octroilaw09_RibOrder_r1 env h K = octroilaw09_RibOrder_r1 env h K := rfl

/-- law.go:71 -/
def octroilaw09_RibOrder_r2 (env : Env) (h : Hp) (K : Env → Hp → Prop) : Prop :=
  rd Try.prog (Instr.loadAt 27 (env 3)) h fun v14_0 =>
  Ok Try.prog 12 #[v14_0] h fun v15_1 h1 =>
  K (((env.set 14 v14_0).set 15 v15_1).set 8 v15_1) h1
@[congr] theorem octroilaw09_RibOrder_r2_congr {env : Env} {h : Hp} {K : Env → Hp → Prop} : octroilaw09_RibOrder_r2 env h K = octroilaw09_RibOrder_r2 env h K := rfl

/-- law.go:72 -/
def octroilaw09_RibOrder_r3 (env : Env) (h : Hp) (K : Env → Hp → Prop) : Prop :=
  rd Try.prog (Instr.loadAt 27 (env 4)) h fun v16_0 =>
  Ok Try.prog 12 #[v16_0] h fun v17_1 h1 =>
  K (((env.set 16 v16_0).set 17 v17_1).set 9 v17_1) h1
@[congr] theorem octroilaw09_RibOrder_r3_congr {env : Env} {h : Hp} {K : Env → Hp → Prop} : octroilaw09_RibOrder_r3 env h K = octroilaw09_RibOrder_r3 env h K := rfl

/-- law.go:73 -/
def octroilaw09_RibOrder_r4 (env : Env) (h : Hp) (K : Env → Hp → Prop) : Prop :=
  rd Try.prog (Instr.loadAt 27 (env 5)) h fun v18_0 =>
  Ok Try.prog 12 #[v18_0] h fun v19_1 h1 =>
  K (((env.set 18 v18_0).set 19 v19_1).set 10 v19_1) h1
@[congr] theorem octroilaw09_RibOrder_r4_congr {env : Env} {h : Hp} {K : Env → Hp → Prop} : octroilaw09_RibOrder_r4 env h K = octroilaw09_RibOrder_r4 env h K := rfl

/-- law.go:74 -/
def octroilaw09_RibOrder_r5 (env : Env) (h : Hp) (K : Env → Hp → Prop) : Prop :=
  rd Try.prog (Op.unary Go.UnOp.not (env 7)) noHp fun v21_1 =>
  gd (yb v21_1 == some false) (fun h k => k (env 8) h) h fun v23_3 h1 =>
  gd (yb v21_1 == some false) (fun h k => rd Try.prog (Op.unary Go.UnOp.not v23_3) noHp fun v => k v h) h1 fun v24_4 h2 =>
  rd Try.prog (pck v21_1 (Go.Value.bool true) v24_4) noHp fun v25_5 =>
  gd (yb v25_5 == some false) (fun h k => k (env 9) h) h2 fun v27_7 h3 =>
  gd (yb v25_5 == some false) (fun h k => rd Try.prog (Op.unary Go.UnOp.not v27_7) noHp fun v => k v h) h3 fun v28_8 h4 =>
  rd Try.prog (pck v25_5 (Go.Value.bool true) v28_8) noHp fun v29_9 =>
  gd (yb v29_9 == some false) (fun h k => k (env 10) h) h4 fun v31_11 h5 =>
  gd (yb v29_9 == some false) (fun h k => rd Try.prog (Op.unary Go.UnOp.not v31_11) noHp fun v => k v h) h5 fun v32_12 h6 =>
  rd Try.prog (pck v29_9 (Go.Value.bool true) v32_12) noHp fun v33_13 =>
  K ((((((((((((((env.set 20 (env 7)).set 21 v21_1).set 22 v21_1).set 23 v23_3).set 24 v24_4).set 25 v25_5).set 26 v25_5).set 27 v27_7).set 28 v28_8).set 29 v29_9).set 30 v29_9).set 31 v31_11).set 32 v32_12).set 33 v33_13) h6
@[congr] theorem octroilaw09_RibOrder_r5_congr {env : Env} {h : Hp} {K : Env → Hp → Prop} : octroilaw09_RibOrder_r5 env h K = octroilaw09_RibOrder_r5 env h K := rfl

/-- law.go:75 -/
def octroilaw09_RibOrder_r6 (env : Env) (h : Hp) (K : Env → Hp → Prop) : Prop :=
  K ((env.set 34 (env 7)).set 6 (env 7)) h
@[congr] theorem octroilaw09_RibOrder_r6_congr {env : Env} {h : Hp} {K : Env → Hp → Prop} : octroilaw09_RibOrder_r6 env h K = octroilaw09_RibOrder_r6 env h K := rfl

/-- law.go:77 -/
def octroilaw09_RibOrder_r7 (env : Env) (h : Hp) (K : Env → Hp → Prop) : Prop :=
  rd Try.prog (Instr.fieldAt 27 (env 3) 0) noHp fun v35_0 =>
  rd Try.prog (Instr.loadAt 24 v35_0) h fun v36_1 =>
  rd Try.prog (Instr.fieldAt 27 (env 4) 0) noHp fun v37_2 =>
  arun Try.prog (Instr.storeAt 24 v37_2 v36_1) h fun _ h1 =>
  K (((env.set 35 v35_0).set 36 v36_1).set 37 v37_2) h1
@[congr] theorem octroilaw09_RibOrder_r7_congr {env : Env} {h : Hp} {K : Env → Hp → Prop} : octroilaw09_RibOrder_r7 env h K = octroilaw09_RibOrder_r7 env h K := rfl

/-- law.go:78 -/
def octroilaw09_RibOrder_r8 (env : Env) (h : Hp) (K : Env → Hp → Prop) : Prop :=
  rd Try.prog (Instr.fieldAt 27 (env 3) 0) noHp fun v38_0 =>
  rd Try.prog (Instr.loadAt 24 v38_0) h fun v39_1 =>
  rd Try.prog (Instr.fieldAt 27 (env 5) 0) noHp fun v40_2 =>
  arun Try.prog (Instr.storeAt 24 v40_2 v39_1) h fun _ h1 =>
  K (((env.set 38 v38_0).set 39 v39_1).set 40 v40_2) h1
@[congr] theorem octroilaw09_RibOrder_r8_congr {env : Env} {h : Hp} {K : Env → Hp → Prop} : octroilaw09_RibOrder_r8 env h K = octroilaw09_RibOrder_r8 env h K := rfl

/-- law.go:79 -/
def octroilaw09_RibOrder_r9 (env : Env) (h : Hp) (K : Env → Hp → Prop) : Prop :=
  rd Try.prog (Instr.loadAt 27 (env 3)) h fun v41_0 =>
  rd Try.prog (Instr.loadAt 27 (env 4)) h fun v42_1 =>
  Ok Try.prog 13 #[v41_0, v42_1] h fun v43_2 h1 =>
  K ((((env.set 41 v41_0).set 42 v42_1).set 43 v43_2).set 11 v43_2) h1
@[congr] theorem octroilaw09_RibOrder_r9_congr {env : Env} {h : Hp} {K : Env → Hp → Prop} : octroilaw09_RibOrder_r9 env h K = octroilaw09_RibOrder_r9 env h K := rfl

/-- law.go:80 -/
def octroilaw09_RibOrder_r10 (env : Env) (h : Hp) (K : Env → Hp → Prop) : Prop :=
  rd Try.prog (Instr.loadAt 27 (env 4)) h fun v44_0 =>
  rd Try.prog (Instr.loadAt 27 (env 5)) h fun v45_1 =>
  Ok Try.prog 13 #[v44_0, v45_1] h fun v46_2 h1 =>
  K ((((env.set 44 v44_0).set 45 v45_1).set 46 v46_2).set 12 v46_2) h1
@[congr] theorem octroilaw09_RibOrder_r10_congr {env : Env} {h : Hp} {K : Env → Hp → Prop} : octroilaw09_RibOrder_r10 env h K = octroilaw09_RibOrder_r10 env h K := rfl

/-- law.go:81 -/
def octroilaw09_RibOrder_r11 (env : Env) (h : Hp) (K : Env → Hp → Prop) : Prop :=
  rd Try.prog (Instr.loadAt 27 (env 3)) h fun v47_0 =>
  rd Try.prog (Instr.loadAt 27 (env 4)) h fun v48_1 =>
  rd Try.prog (bop Go.BinOp.eql 27 (Go.Operand.tmp 47) (Go.Operand.tmp 48) v47_0 v48_1) noHp fun v49_2 =>
  K (((env.set 47 v47_0).set 48 v48_1).set 49 v49_2) h
@[congr] theorem octroilaw09_RibOrder_r11_congr {env : Env} {h : Hp} {K : Env → Hp → Prop} : octroilaw09_RibOrder_r11 env h K = octroilaw09_RibOrder_r11 env h K := rfl

/-- law.go:82 -/
def octroilaw09_RibOrder_r12 (env : Env) (h : Hp) (K : Env → Hp → Prop) : Prop :=
  rd Try.prog (Op.unary Go.UnOp.not (env 11)) noHp fun v51_1 =>
  gd (yb v51_1 == some true) (fun h k => rd Try.prog (Instr.loadAt 27 (env 4)) h fun v => k v h) h fun v53_3 h1 =>
  gd (yb v51_1 == some true) (fun h k => rd Try.prog (Instr.loadAt 27 (env 3)) h fun v => k v h) h1 fun v54_4 h2 =>
  gd (yb v51_1 == some true) (fun h k => Ok Try.prog 13 #[v53_3, v54_4] h k) h2 fun v55_5 h3 =>
  gd (yb v51_1 == some true) (fun h k => rd Try.prog (Op.unary Go.UnOp.not v55_5) noHp fun v => k v h) h3 fun v56_6 h4 =>
  rd Try.prog (pck v51_1 v56_6 (Go.Value.bool false)) noHp fun v57_7 =>
  K (((((((((env.set 50 (env 11)).set 51 v51_1).set 52 v51_1).set 53 v53_3).set 54 v54_4).set 55 v55_5).set 56 v56_6).set 57 v57_7).set 6 v57_7) h4
@[congr] theorem octroilaw09_RibOrder_r12_congr {env : Env} {h : Hp} {K : Env → Hp → Prop} : octroilaw09_RibOrder_r12 env h K = octroilaw09_RibOrder_r12 env h K := rfl

/-- law.go:84 -/
def octroilaw09_RibOrder_r13 (env : Env) (h : Hp) (K : Env → Hp → Prop) : Prop :=
  rd Try.prog (Instr.loadAt 27 (env 4)) h fun v59_1 =>
  rd Try.prog (Instr.loadAt 27 (env 3)) h fun v60_2 =>
  Ok Try.prog 13 #[v59_1, v60_2] h fun v61_3 h1 =>
  rd Try.prog (bop Go.BinOp.neq 4 (Go.Operand.tmp 58) (Go.Operand.tmp 61) (env 11) v61_3) noHp fun v62_4 =>
  gd (yb v62_4 == some true) (fun h k => k (env 11) h) h1 fun v64_6 h2 =>
  gd (yb v62_4 == some true) (fun h k => rd Try.prog (Op.unary Go.UnOp.not v64_6) noHp fun v => k v h) h2 fun v65_7 h3 =>
  gd (yb v62_4 == some true) (fun h k => k v65_7 h) h3 fun v66_8 h4 =>
  gd (yb v66_8 == some false) (fun h k => k (env 12) h) h4 fun v67_9 h5 =>
  gd (yb v66_8 == some false) (fun h k => rd Try.prog (Op.unary Go.UnOp.not v67_9) noHp fun v => k v h) h5 fun v68_10 h6 =>
  gd (yb v62_4 == some true) (fun h k => rd Try.prog (pck v66_8 (Go.Value.bool true) v68_10) noHp fun v => k v h) h6 fun v69_11 h7 =>
  gd (yb v62_4 == some true) (fun h k => k v69_11 h) h7 fun v70_12 h8 =>
  gd (yb v70_12 == some false) (fun h k => rd Try.prog (Instr.loadAt 27 (env 3)) h fun v => k v h) h8 fun v71_13 h9 =>
  gd (yb v70_12 == some false) (fun h k => rd Try.prog (Instr.loadAt 27 (env 5)) h fun v => k v h) h9 fun v72_14 h10 =>
  gd (yb v70_12 == some false) (fun h k => Ok Try.prog 13 #[v71_13, v72_14] h k) h10 fun v73_15 h11 =>
  gd (yb v62_4 == some true) (fun h k => rd Try.prog (pck v70_12 (Go.Value.bool true) v73_15) noHp fun v => k v h) h11 fun v74_16 h12 =>
  rd Try.prog (pck v62_4 v74_16 (Go.Value.bool false)) noHp fun v75_17 =>
  K (((((((((((((((((((env.set 58 (env 11)).set 59 v59_1).set 60 v60_2).set 61 v61_3).set 62 v62_4).set 63 v62_4).set 64 v64_6).set 65 v65_7).set 66 v66_8).set 67 v67_9).set 68 v68_10).set 69 v69_11).set 70 v70_12).set 71 v71_13).set 72 v72_14).set 73 v73_15).set 74 v74_16).set 75 v75_17).set 6 v75_17) h12
@[congr] theorem octroilaw09_RibOrder_r13_congr {env : Env} {h : Hp} {K : Env → Hp → Prop} : octroilaw09_RibOrder_r13 env h K = octroilaw09_RibOrder_r13 env h K := rfl

def octroilaw09_RibOrder_D : Den := (sq (rg octroilaw09_RibOrder_r0) (sq (rg octroilaw09_RibOrder_r1) (sq (rg octroilaw09_RibOrder_r2) (sq (rg octroilaw09_RibOrder_r3) (sq (rg octroilaw09_RibOrder_r4) (sq (sq (rg octroilaw09_RibOrder_r5) (cnd (Go.Operand.tmp 33) (sq (rg octroilaw09_RibOrder_r6) (ex .ret)) (ex .normal))) (sq (rg octroilaw09_RibOrder_r7) (sq (rg octroilaw09_RibOrder_r8) (sq (rg octroilaw09_RibOrder_r9) (sq (rg octroilaw09_RibOrder_r10) (sq (sq (rg octroilaw09_RibOrder_r11) (cnd (Go.Operand.tmp 49) (sq (rg octroilaw09_RibOrder_r12) (ex .ret)) (ex .normal))) (sq (rg octroilaw09_RibOrder_r13) (ex .ret)))))))))))))

theorem octroilaw09_RibOrder_eq : (den Try.prog 76 octroilaw09_RibOrder_code).1 = octroilaw09_RibOrder_D := by kernel_rfl

theorem octroilaw09_RibOrder_ok {args : Array Value} {h : Hp} {Q : Value → Hp → Prop} (hn : args.size ≤ 76) (D : octroilaw09_RibOrder_D (fin Try.prog [(Go.ResultVar.tmp 6)] Q) (env0 args) h) : Ok Try.prog 4 args h Q :=
  ok_of_den progIsOk Try.func4 (c := octroilaw09_RibOrder_code) (by kernel_rfl) hn (by show (den Try.prog 76 octroilaw09_RibOrder_code).1 _ _ _; rw [octroilaw09_RibOrder_eq]; exact D)

/-! ### octroi/octroilaw09.RibDepths: function 5 -/
noncomputable def octroilaw09_RibDepths_code : Code := match Try.f5.body with | some c => c | none => .skip

/-- more.go:10 -/
def octroilaw09_RibDepths_r0 (env : Env) (h : Hp) (K : Env → Hp → Prop) : Prop :=
  arun Try.prog (Instr.box 27 (env 0)) h fun v2_0 h1 =>
  arun Try.prog (Instr.box 27 (env 1)) h1 fun v3_1 h2 =>
  K (((env.set 2 v2_0).set 3 v3_1).set 4 (Go.Value.bool false)) h2
@[congr] theorem octroilaw09_RibDepths_r0_congr {env : Env} {h : Hp} {K : Env → Hp → Prop} : octroilaw09_RibDepths_r0 env h K = octroilaw09_RibDepths_r0 env h K := rfl

/-- more.go:11 -/
def octroilaw09_RibDepths_r1 (env : Env) (h : Hp) (K : Env → Hp → Prop) : Prop :=
  Ok Try.prog 11 #[] h fun v6_0 h1 =>
  K ((env.set 6 v6_0).set 5 v6_0) h1
@[congr] theorem octroilaw09_RibDepths_r1_congr {env : Env} {h : Hp} {K : Env → Hp → Prop} : octroilaw09_RibDepths_r1 env h K = octroilaw09_RibDepths_r1 env h K := rfl

/-- more.go:12 (in any order) -/
def octroilaw09_RibDepths_r2 (env : Env) (h : Hp) (K : Env → Hp → Prop) : Prop :=
  rd Try.prog (Instr.fieldAt 27 (env 2) 5) noHp fun v7_0 =>
  rd Try.prog (Instr.loadAt 25 v7_0) h fun v8_1 =>
  rd Try.prog (Instr.fieldAt 27 (env 3) 5) noHp fun v10_2 =>
  rd Try.prog (Instr.loadAt 25 v10_2) h fun v11_3 =>
  Ok Try.prog 15 #[v8_1] h fun v9_4 h1 =>
  (rrun Try.prog (Instr.loadAt 25 v10_2) h1 = some v11_3 ∧ True) ∧
  Ok Try.prog 15 #[v11_3] h1 fun v12_5 h2 =>
  (True) ∧
  rd Try.prog (bop Go.BinOp.geq 3 (Go.Operand.tmp 9) (Go.Operand.tmp 12) v9_4 v12_5) noHp fun v13_6 =>
  K (((((((env.set 7 v7_0).set 8 v8_1).set 10 v10_2).set 11 v11_3).set 9 v9_4).set 12 v12_5).set 13 v13_6) h2
@[congr] theorem octroilaw09_RibDepths_r2_congr {env : Env} {h : Hp} {K : Env → Hp → Prop} : octroilaw09_RibDepths_r2 env h K = octroilaw09_RibDepths_r2 env h K := rfl

/-- more.go:13 -/
def octroilaw09_RibDepths_r3 (env : Env) (h : Hp) (K : Env → Hp → Prop) : Prop :=
  K ((env.set 14 (env 5)).set 4 (env 5)) h
@[congr] theorem octroilaw09_RibDepths_r3_congr {env : Env} {h : Hp} {K : Env → Hp → Prop} : octroilaw09_RibDepths_r3 env h K = octroilaw09_RibDepths_r3 env h K := rfl

/-- more.go:15 -/
def octroilaw09_RibDepths_r4 (env : Env) (h : Hp) (K : Env → Hp → Prop) : Prop :=
  gd (yb (env 5) == some true) (fun h k => rd Try.prog (Instr.loadAt 27 (env 2)) h fun v => k v h) h fun v17_2 h1 =>
  gd (yb (env 5) == some true) (fun h k => rd Try.prog (Instr.loadAt 27 (env 3)) h fun v => k v h) h1 fun v18_3 h2 =>
  gd (yb (env 5) == some true) (fun h k => Ok Try.prog 13 #[v17_2, v18_3] h k) h2 fun v19_4 h3 =>
  rd Try.prog (pck (env 5) v19_4 (Go.Value.bool false)) noHp fun v20_5 =>
  gd (yb v20_5 == some true) (fun h k => rd Try.prog (Instr.loadAt 27 (env 3)) h fun v => k v h) h3 fun v22_7 h4 =>
  gd (yb v20_5 == some true) (fun h k => rd Try.prog (Instr.loadAt 27 (env 2)) h fun v => k v h) h4 fun v23_8 h5 =>
  gd (yb v20_5 == some true) (fun h k => Ok Try.prog 13 #[v22_7, v23_8] h k) h5 fun v24_9 h6 =>
  gd (yb v20_5 == some true) (fun h k => rd Try.prog (Op.unary Go.UnOp.not v24_9) noHp fun v => k v h) h6 fun v25_10 h7 =>
  rd Try.prog (pck v20_5 v25_10 (Go.Value.bool false)) noHp fun v26_11 =>
  K (((((((((((((env.set 15 (env 5)).set 16 (env 5)).set 17 v17_2).set 18 v18_3).set 19 v19_4).set 20 v20_5).set 21 v20_5).set 22 v22_7).set 23 v23_8).set 24 v24_9).set 25 v25_10).set 26 v26_11).set 4 v26_11) h7
@[congr] theorem octroilaw09_RibDepths_r4_congr {env : Env} {h : Hp} {K : Env → Hp → Prop} : octroilaw09_RibDepths_r4 env h K = octroilaw09_RibDepths_r4 env h K := rfl

def octroilaw09_RibDepths_D : Den := (sq (rg octroilaw09_RibDepths_r0) (sq (rg octroilaw09_RibDepths_r1) (sq (sq (rg octroilaw09_RibDepths_r2) (cnd (Go.Operand.tmp 13) (sq (rg octroilaw09_RibDepths_r3) (ex .ret)) (ex .normal))) (sq (rg octroilaw09_RibDepths_r4) (ex .ret)))))

theorem octroilaw09_RibDepths_eq : (den Try.prog 27 octroilaw09_RibDepths_code).1 = octroilaw09_RibDepths_D := by kernel_rfl

theorem octroilaw09_RibDepths_ok {args : Array Value} {h : Hp} {Q : Value → Hp → Prop} (hn : args.size ≤ 27) (D : octroilaw09_RibDepths_D (fin Try.prog [(Go.ResultVar.tmp 4)] Q) (env0 args) h) : Ok Try.prog 5 args h Q :=
  ok_of_den progIsOk Try.func5 (c := octroilaw09_RibDepths_code) (by kernel_rfl) hn (by show (den Try.prog 27 octroilaw09_RibDepths_code).1 _ _ _; rw [octroilaw09_RibDepths_eq]; exact D)

/-! ### octroi/octroilaw09.RibFull: function 6 -/
noncomputable def octroilaw09_RibFull_code : Code := match Try.f6.body with | some c => c | none => .skip

/-- more.go:40 -/
def octroilaw09_RibFull_r0 (env : Env) (h : Hp) (K : Env → Hp → Prop) : Prop :=
  arun Try.prog (Instr.box 27 (env 1)) h fun v4_0 h1 =>
  arun Try.prog (Instr.box 27 (env 2)) h1 fun v5_1 h2 =>
  K (((env.set 4 v4_0).set 5 v5_1).set 6 (Go.Value.bool false)) h2
@[congr] theorem octroilaw09_RibFull_r0_congr {env : Env} {h : Hp} {K : Env → Hp → Prop} : octroilaw09_RibFull_r0 env h K = octroilaw09_RibFull_r0 env h K := rfl

/-- more.go:41 -/
def octroilaw09_RibFull_r1 (env : Env) (h : Hp) (K : Env → Hp → Prop) : Prop :=
  Ok Try.prog 11 #[] h fun v14_0 h1 =>
  K ((env.set 14 v14_0).set 7 v14_0) h1
@[congr] theorem octroilaw09_RibFull_r1_congr {env : Env} {h : Hp} {K : Env → Hp → Prop} : octroilaw09_RibFull_r1 env h K = octroilaw09_RibFull_r1 env h K := rfl

/-- more.go:42 -/
def octroilaw09_RibFull_r2 (env : Env) (h : Hp) (K : Env → Hp → Prop) : Prop :=
  Ok Try.prog 16 #[(env 0)] h fun v16_1 h1 =>
  K (((env.set 15 (env 0)).set 16 v16_1).set 8 v16_1) h1
@[congr] theorem octroilaw09_RibFull_r2_congr {env : Env} {h : Hp} {K : Env → Hp → Prop} : octroilaw09_RibFull_r2 env h K = octroilaw09_RibFull_r2 env h K := rfl

/-- more.go:43 -/
def octroilaw09_RibFull_r3 (env : Env) (h : Hp) (K : Env → Hp → Prop) : Prop :=
  rd Try.prog (Op.unary Go.UnOp.not (env 7)) noHp fun v18_1 =>
  gd (yb v18_1 == some false) (fun h k => k (env 8) h) h fun v20_3 h1 =>
  gd (yb v18_1 == some false) (fun h k => rd Try.prog (bop Go.BinOp.eql 33 (Go.Operand.tmp 20) (Go.Operand.const (Go.Value.pointer none)) v20_3 (Go.Value.pointer none)) noHp fun v => k v h) h1 fun v21_4 h2 =>
  rd Try.prog (pck v18_1 (Go.Value.bool true) v21_4) noHp fun v22_5 =>
  gd (yb v22_5 == some false) (fun h k => k (env 0) h) h2 fun v24_7 h3 =>
  gd (yb v22_5 == some false) (fun h k => rd Try.prog (bop Go.BinOp.lss 3 (Go.Operand.tmp 24) (Go.Operand.const (Go.Value.int Go.IntKind.i64 1)) v24_7 (Go.Value.int Go.IntKind.i64 1)) noHp fun v => k v h) h3 fun v25_8 h4 =>
  rd Try.prog (pck v22_5 (Go.Value.bool true) v25_8) noHp fun v26_9 =>
  gd (yb v26_9 == some false) (fun h k => k (env 0) h) h4 fun v28_11 h5 =>
  gd (yb v26_9 == some false) (fun h k => rd Try.prog (bop Go.BinOp.gtr 3 (Go.Operand.tmp 28) (Go.Operand.const (Go.Value.int Go.IntKind.i64 64)) v28_11 (Go.Value.int Go.IntKind.i64 64)) noHp fun v => k v h) h5 fun v29_12 h6 =>
  rd Try.prog (pck v26_9 (Go.Value.bool true) v29_12) noHp fun v30_13 =>
  K ((((((((((((((env.set 17 (env 7)).set 18 v18_1).set 19 v18_1).set 20 v20_3).set 21 v21_4).set 22 v22_5).set 23 v22_5).set 24 v24_7).set 25 v25_8).set 26 v26_9).set 27 v26_9).set 28 v28_11).set 29 v29_12).set 30 v30_13) h6
@[congr] theorem octroilaw09_RibFull_r3_congr {env : Env} {h : Hp} {K : Env → Hp → Prop} : octroilaw09_RibFull_r3 env h K = octroilaw09_RibFull_r3 env h K := rfl

/-- more.go:44 -/
def octroilaw09_RibFull_r4 (env : Env) (h : Hp) (K : Env → Hp → Prop) : Prop :=
  gd (yb (env 7) == some true) (fun h k => k (env 8) h) h fun v33_2 h1 =>
  gd (yb (env 7) == some true) (fun h k => rd Try.prog (bop Go.BinOp.neq 33 (Go.Operand.tmp 33) (Go.Operand.const (Go.Value.pointer none)) v33_2 (Go.Value.pointer none)) noHp fun v => k v h) h1 fun v34_3 h2 =>
  rd Try.prog (pck (env 7) v34_3 (Go.Value.bool false)) noHp fun v35_4 =>
  K ((((((env.set 31 (env 7)).set 32 (env 7)).set 33 v33_2).set 34 v34_3).set 35 v35_4).set 6 v35_4) h2
@[congr] theorem octroilaw09_RibFull_r4_congr {env : Env} {h : Hp} {K : Env → Hp → Prop} : octroilaw09_RibFull_r4 env h K = octroilaw09_RibFull_r4 env h K := rfl

/-- more.go:46 -/
def octroilaw09_RibFull_r5 (env : Env) (h : Hp) (K : Env → Hp → Prop) : Prop :=
  K (env.set 9 (Go.Value.int Go.IntKind.i64 0)) h
@[congr] theorem octroilaw09_RibFull_r5_congr {env : Env} {h : Hp} {K : Env → Hp → Prop} : octroilaw09_RibFull_r5 env h K = octroilaw09_RibFull_r5 env h K := rfl

/-- more.go:46 -/
def octroilaw09_RibFull_r6 (env : Env) (h : Hp) (K : Env → Hp → Prop) : Prop :=
  rd Try.prog (bop Go.BinOp.lss 3 (Go.Operand.tmp 36) (Go.Operand.tmp 37) (env 9) (env 0)) noHp fun v38_2 =>
  K (((env.set 36 (env 9)).set 37 (env 0)).set 38 v38_2) h
@[congr] theorem octroilaw09_RibFull_r6_congr {env : Env} {h : Hp} {K : Env → Hp → Prop} : octroilaw09_RibFull_r6 env h K = octroilaw09_RibFull_r6 env h K := rfl

/-- more.go:47 -/
def octroilaw09_RibFull_r7 (env : Env) (h : Hp) (K : Env → Hp → Prop) : Prop :=
  rd Try.prog (convert 3 22 (env 9)) noHp fun v43_2 =>
  rd Try.prog (bop Go.BinOp.shl 22 (Go.Operand.tmp 43) (Go.Operand.const (Go.Value.int Go.IntKind.u64 24)) v43_2 (Go.Value.int Go.IntKind.u64 24)) noHp fun v44_3 =>
  rd Try.prog (Instr.build 24 #[(0, v44_3), (1, (Go.Value.int Go.IntKind.i64 8))]) noHp fun v45_4 =>
  rd Try.prog (Instr.build 27 #[(0, v45_4), (1, (Go.Value.int Go.IntKind.i64 15))]) noHp fun v46_5 =>
  Ok Try.prog 17 #[(env 8), v46_5] h fun v47_6 h1 =>
  rd Try.prog (bop Go.BinOp.neq 35 (Go.Operand.tmp 47) (Go.Operand.const (Go.Value.int Go.IntKind.i64 0)) v47_6 (Go.Value.int Go.IntKind.i64 0)) noHp fun v48_7 =>
  K ((((((((env.set 41 (env 8)).set 42 (env 9)).set 43 v43_2).set 44 v44_3).set 45 v45_4).set 46 v46_5).set 47 v47_6).set 48 v48_7) h1
@[congr] theorem octroilaw09_RibFull_r7_congr {env : Env} {h : Hp} {K : Env → Hp → Prop} : octroilaw09_RibFull_r7 env h K = octroilaw09_RibFull_r7 env h K := rfl

/-- more.go:48 -/
def octroilaw09_RibFull_r8 (env : Env) (h : Hp) (K : Env → Hp → Prop) : Prop :=
  K (env.set 6 (Go.Value.bool false)) h
@[congr] theorem octroilaw09_RibFull_r8_congr {env : Env} {h : Hp} {K : Env → Hp → Prop} : octroilaw09_RibFull_r8 env h K = octroilaw09_RibFull_r8 env h K := rfl

/-- more.go:46 -/
def octroilaw09_RibFull_r9 (env : Env) (h : Hp) (K : Env → Hp → Prop) : Prop :=
  rd Try.prog (bop Go.BinOp.add 3 (Go.Operand.tmp 39) (Go.Operand.const (Go.Value.int Go.IntKind.i64 1)) (env 9) (Go.Value.int Go.IntKind.i64 1)) noHp fun v40_1 =>
  K (((env.set 39 (env 9)).set 40 v40_1).set 9 v40_1) h
@[congr] theorem octroilaw09_RibFull_r9_congr {env : Env} {h : Hp} {K : Env → Hp → Prop} : octroilaw09_RibFull_r9 env h K = octroilaw09_RibFull_r9 env h K := rfl

def octroilaw09_RibFull_L0 : Den := (sq (sq (rg octroilaw09_RibFull_r6) (cnd (Go.Operand.tmp 38) (ex .normal) (ex (.exit 0)))) (sq (blk 1 (sq (rg octroilaw09_RibFull_r7) (cnd (Go.Operand.tmp 48) (sq (rg octroilaw09_RibFull_r8) (ex .ret)) (ex .normal)))) (rg octroilaw09_RibFull_r9)))

/-- more.go:51 -/
def octroilaw09_RibFull_r10 (env : Env) (h : Hp) (K : Env → Hp → Prop) : Prop :=
  rd Try.prog (Instr.build 24 #[(1, (Go.Value.int Go.IntKind.i64 8))]) noHp fun v49_0 =>
  rd Try.prog (Instr.fieldAt 27 (env 5) 0) noHp fun v50_1 =>
  arun Try.prog (Instr.storeAt 24 v50_1 v49_0) h fun _ h1 =>
  K ((env.set 49 v49_0).set 50 v50_1) h1
@[congr] theorem octroilaw09_RibFull_r10_congr {env : Env} {h : Hp} {K : Env → Hp → Prop} : octroilaw09_RibFull_r10 env h K = octroilaw09_RibFull_r10 env h K := rfl

/-- more.go:52 -/
def octroilaw09_RibFull_r11 (env : Env) (h : Hp) (K : Env → Hp → Prop) : Prop :=
  rd Try.prog (Instr.fieldAt 27 (env 5) 1) noHp fun v51_0 =>
  arun Try.prog (Instr.storeAt 3 v51_0 (Go.Value.int Go.IntKind.i64 15)) h fun _ h1 =>
  K (env.set 51 v51_0) h1
@[congr] theorem octroilaw09_RibFull_r11_congr {env : Env} {h : Hp} {K : Env → Hp → Prop} : octroilaw09_RibFull_r11 env h K = octroilaw09_RibFull_r11 env h K := rfl

/-- more.go:53 -/
def octroilaw09_RibFull_r12 (env : Env) (h : Hp) (K : Env → Hp → Prop) : Prop :=
  rd Try.prog (Instr.loadAt 27 (env 5)) h fun v53_1 =>
  Ok Try.prog 17 #[(env 8), v53_1] h fun v54_2 h1 =>
  K ((((env.set 52 (env 8)).set 53 v53_1).set 54 v54_2).set 10 v54_2) h1
@[congr] theorem octroilaw09_RibFull_r12_congr {env : Env} {h : Hp} {K : Env → Hp → Prop} : octroilaw09_RibFull_r12 env h K = octroilaw09_RibFull_r12 env h K := rfl

/-- more.go:54 -/
def octroilaw09_RibFull_r13 (env : Env) (h : Hp) (K : Env → Hp → Prop) : Prop :=
  rd Try.prog (Instr.loadAt 27 (env 4)) h fun v56_1 =>
  Ok Try.prog 17 #[(env 8), v56_1] h fun v57_2 h1 =>
  K ((((env.set 55 (env 8)).set 56 v56_1).set 57 v57_2).set 11 v57_2) h1
@[congr] theorem octroilaw09_RibFull_r13_congr {env : Env} {h : Hp} {K : Env → Hp → Prop} : octroilaw09_RibFull_r13 env h K = octroilaw09_RibFull_r13 env h K := rfl

/-- more.go:55 -/
def octroilaw09_RibFull_r14 (env : Env) (h : Hp) (K : Env → Hp → Prop) : Prop :=
  Ok Try.prog 18 #[(env 8)] h fun v59_1 h1 =>
  K (((env.set 58 (env 8)).set 59 v59_1).set 12 v59_1) h1
@[congr] theorem octroilaw09_RibFull_r14_congr {env : Env} {h : Hp} {K : Env → Hp → Prop} : octroilaw09_RibFull_r14 env h K = octroilaw09_RibFull_r14 env h K := rfl

/-- more.go:56 -/
def octroilaw09_RibFull_r15 (env : Env) (h : Hp) (K : Env → Hp → Prop) : Prop :=
  rd Try.prog (Instr.fieldAt 27 (env 4) 1) noHp fun v60_0 =>
  rd Try.prog (Instr.loadAt 3 v60_0) h fun v61_1 =>
  rd Try.prog (bop Go.BinOp.eql 3 (Go.Operand.tmp 61) (Go.Operand.const (Go.Value.int Go.IntKind.i64 15)) v61_1 (Go.Value.int Go.IntKind.i64 15)) noHp fun v62_2 =>
  gd (yb v62_2 == some true) (fun h k => rd Try.prog (Instr.fieldAt 27 (env 4) 0) noHp fun v => k v h) h fun v64_4 h1 =>
  gd (yb v62_2 == some true) (fun h k => rd Try.prog (Instr.fieldAt 24 v64_4 1) noHp fun v => k v h) h1 fun v65_5 h2 =>
  gd (yb v62_2 == some true) (fun h k => rd Try.prog (Instr.loadAt 3 v65_5) h fun v => k v h) h2 fun v66_6 h3 =>
  gd (yb v62_2 == some true) (fun h k => rd Try.prog (bop Go.BinOp.eql 3 (Go.Operand.tmp 66) (Go.Operand.const (Go.Value.int Go.IntKind.i64 8)) v66_6 (Go.Value.int Go.IntKind.i64 8)) noHp fun v => k v h) h3 fun v67_7 h4 =>
  rd Try.prog (pck v62_2 v67_7 (Go.Value.bool false)) noHp fun v68_8 =>
  gd (yb v68_8 == some true) (fun h k => rd Try.prog (Instr.fieldAt 27 (env 4) 0) noHp fun v => k v h) h4 fun v70_10 h5 =>
  gd (yb v68_8 == some true) (fun h k => rd Try.prog (Instr.fieldAt 24 v70_10 0) noHp fun v => k v h) h5 fun v71_11 h6 =>
  gd (yb v68_8 == some true) (fun h k => rd Try.prog (Instr.loadAt 22 v71_11) h fun v => k v h) h6 fun v72_12 h7 =>
  gd (yb v68_8 == some true) (fun h k => rd Try.prog (bop Go.BinOp.rem 22 (Go.Operand.tmp 72) (Go.Operand.const (Go.Value.int Go.IntKind.u32 16777216)) v72_12 (Go.Value.int Go.IntKind.u32 16777216)) noHp fun v => k v h) h7 fun v73_13 h8 =>
  gd (yb v68_8 == some true) (fun h k => rd Try.prog (bop Go.BinOp.eql 22 (Go.Operand.tmp 73) (Go.Operand.const (Go.Value.int Go.IntKind.u32 0)) v73_13 (Go.Value.int Go.IntKind.u32 0)) noHp fun v => k v h) h8 fun v74_14 h9 =>
  rd Try.prog (pck v68_8 v74_14 (Go.Value.bool false)) noHp fun v75_15 =>
  gd (yb v75_15 == some true) (fun h k => rd Try.prog (Instr.fieldAt 27 (env 4) 0) noHp fun v => k v h) h9 fun v77_17 h10 =>
  gd (yb v75_15 == some true) (fun h k => rd Try.prog (Instr.fieldAt 24 v77_17 0) noHp fun v => k v h) h10 fun v78_18 h11 =>
  gd (yb v75_15 == some true) (fun h k => rd Try.prog (Instr.loadAt 22 v78_18) h fun v => k v h) h11 fun v79_19 h12 =>
  gd (yb v75_15 == some true) (fun h k => rd Try.prog (bop Go.BinOp.quo 22 (Go.Operand.tmp 79) (Go.Operand.const (Go.Value.int Go.IntKind.u32 16777216)) v79_19 (Go.Value.int Go.IntKind.u32 16777216)) noHp fun v => k v h) h12 fun v80_20 h13 =>
  gd (yb v75_15 == some true) (fun h k => rd Try.prog (convert 22 3 v80_20) noHp fun v => k v h) h13 fun v81_21 h14 =>
  gd (yb v75_15 == some true) (fun h k => k (env 0) h) h14 fun v82_22 h15 =>
  gd (yb v75_15 == some true) (fun h k => rd Try.prog (bop Go.BinOp.lss 3 (Go.Operand.tmp 81) (Go.Operand.tmp 82) v81_21 v82_22) noHp fun v => k v h) h15 fun v83_23 h16 =>
  rd Try.prog (pck v75_15 v83_23 (Go.Value.bool false)) noHp fun v84_24 =>
  K ((((((((((((((((((((((((((env.set 60 v60_0).set 61 v61_1).set 62 v62_2).set 63 v62_2).set 64 v64_4).set 65 v65_5).set 66 v66_6).set 67 v67_7).set 68 v68_8).set 69 v68_8).set 70 v70_10).set 71 v71_11).set 72 v72_12).set 73 v73_13).set 74 v74_14).set 75 v75_15).set 76 v75_15).set 77 v77_17).set 78 v78_18).set 79 v79_19).set 80 v80_20).set 81 v81_21).set 82 v82_22).set 83 v83_23).set 84 v84_24).set 13 v84_24) h16
@[congr] theorem octroilaw09_RibFull_r15_congr {env : Env} {h : Hp} {K : Env → Hp → Prop} : octroilaw09_RibFull_r15 env h K = octroilaw09_RibFull_r15 env h K := rfl

/-- more.go:57 -/
def octroilaw09_RibFull_r16 (env : Env) (h : Hp) (K : Env → Hp → Prop) : Prop :=
  gd (yb (env 13) == some false) (fun h k => k (env 11) h) h fun v87_2 h1 =>
  gd (yb (env 13) == some false) (fun h k => rd Try.prog (bop Go.BinOp.eql 35 (Go.Operand.tmp 87) (Go.Operand.const (Go.Value.int Go.IntKind.i64 1)) v87_2 (Go.Value.int Go.IntKind.i64 1)) noHp fun v => k v h) h1 fun v88_3 h2 =>
  rd Try.prog (pck (env 13) (Go.Value.bool true) v88_3) noHp fun v89_4 =>
  K (((((env.set 85 (env 13)).set 86 (env 13)).set 87 v87_2).set 88 v88_3).set 89 v89_4) h2
@[congr] theorem octroilaw09_RibFull_r16_congr {env : Env} {h : Hp} {K : Env → Hp → Prop} : octroilaw09_RibFull_r16 env h K = octroilaw09_RibFull_r16 env h K := rfl

/-- more.go:58 -/
def octroilaw09_RibFull_r17 (env : Env) (h : Hp) (K : Env → Hp → Prop) : Prop :=
  rd Try.prog (bop Go.BinOp.eql 3 (Go.Operand.tmp 90) (Go.Operand.const (Go.Value.int Go.IntKind.i64 0)) (env 12) (Go.Value.int Go.IntKind.i64 0)) noHp fun v91_1 =>
  gd (yb v91_1 == some true) (fun h k => k (env 8) h) h fun v93_3 h1 =>
  gd (yb v91_1 == some true) (fun h k => Ok Try.prog 19 #[v93_3] h k) h1 fun v94_4 h2 =>
  gd (yb v91_1 == some true) (fun h k => rd Try.prog (Builtin.len_ #[39] 3 #[v94_4]) h fun v => k v h) h2 fun v95_5 h3 =>
  gd (yb v91_1 == some true) (fun h k => k (env 0) h) h3 fun v96_6 h4 =>
  gd (yb v91_1 == some true) (fun h k => rd Try.prog (bop Go.BinOp.eql 3 (Go.Operand.tmp 95) (Go.Operand.tmp 96) v95_5 v96_6) noHp fun v => k v h) h4 fun v97_7 h5 =>
  rd Try.prog (pck v91_1 v97_7 (Go.Value.bool false)) noHp fun v98_8 =>
  K ((((((((((env.set 90 (env 12)).set 91 v91_1).set 92 v91_1).set 93 v93_3).set 94 v94_4).set 95 v95_5).set 96 v96_6).set 97 v97_7).set 98 v98_8).set 6 v98_8) h5
@[congr] theorem octroilaw09_RibFull_r17_congr {env : Env} {h : Hp} {K : Env → Hp → Prop} : octroilaw09_RibFull_r17 env h K = octroilaw09_RibFull_r17 env h K := rfl

/-- more.go:60 -/
def octroilaw09_RibFull_r18 (env : Env) (h : Hp) (K : Env → Hp → Prop) : Prop :=
  rd Try.prog (bop Go.BinOp.eql 35 (Go.Operand.tmp 99) (Go.Operand.const (Go.Value.int Go.IntKind.i64 0)) (env 10) (Go.Value.int Go.IntKind.i64 0)) noHp fun v100_1 =>
  gd (yb v100_1 == some false) (fun h k => k (env 10) h) h fun v102_3 h1 =>
  gd (yb v100_1 == some false) (fun h k => rd Try.prog (bop Go.BinOp.eql 35 (Go.Operand.tmp 102) (Go.Operand.const (Go.Value.int Go.IntKind.i64 1)) v102_3 (Go.Value.int Go.IntKind.i64 1)) noHp fun v => k v h) h1 fun v103_4 h2 =>
  rd Try.prog (pck v100_1 (Go.Value.bool true) v103_4) noHp fun v104_5 =>
  gd (yb v104_5 == some true) (fun h k => k (env 11) h) h2 fun v106_7 h3 =>
  gd (yb v104_5 == some true) (fun h k => rd Try.prog (bop Go.BinOp.eql 35 (Go.Operand.tmp 106) (Go.Operand.const (Go.Value.int Go.IntKind.i64 4)) v106_7 (Go.Value.int Go.IntKind.i64 4)) noHp fun v => k v h) h3 fun v107_8 h4 =>
  rd Try.prog (pck v104_5 v107_8 (Go.Value.bool false)) noHp fun v108_9 =>
  gd (yb v108_9 == some true) (fun h k => k (env 12) h) h4 fun v110_11 h5 =>
  gd (yb v108_9 == some true) (fun h k => rd Try.prog (bop Go.BinOp.eql 3 (Go.Operand.tmp 110) (Go.Operand.const (Go.Value.int Go.IntKind.i64 1)) v110_11 (Go.Value.int Go.IntKind.i64 1)) noHp fun v => k v h) h5 fun v111_12 h6 =>
  rd Try.prog (pck v108_9 v111_12 (Go.Value.bool false)) noHp fun v112_13 =>
  gd (yb v112_13 == some true) (fun h k => k (env 8) h) h6 fun v114_15 h7 =>
  gd (yb v112_13 == some true) (fun h k => Ok Try.prog 19 #[v114_15] h k) h7 fun v115_16 h8 =>
  gd (yb v112_13 == some true) (fun h k => rd Try.prog (Builtin.len_ #[39] 3 #[v115_16]) h fun v => k v h) h8 fun v116_17 h9 =>
  gd (yb v112_13 == some true) (fun h k => k (env 0) h) h9 fun v117_18 h10 =>
  gd (yb v112_13 == some true) (fun h k => rd Try.prog (bop Go.BinOp.eql 3 (Go.Operand.tmp 116) (Go.Operand.tmp 117) v116_17 v117_18) noHp fun v => k v h) h10 fun v118_19 h11 =>
  rd Try.prog (pck v112_13 v118_19 (Go.Value.bool false)) noHp fun v119_20 =>
  K ((((((((((((((((((((((env.set 99 (env 10)).set 100 v100_1).set 101 v100_1).set 102 v102_3).set 103 v103_4).set 104 v104_5).set 105 v104_5).set 106 v106_7).set 107 v107_8).set 108 v108_9).set 109 v108_9).set 110 v110_11).set 111 v111_12).set 112 v112_13).set 113 v112_13).set 114 v114_15).set 115 v115_16).set 116 v116_17).set 117 v117_18).set 118 v118_19).set 119 v119_20).set 6 v119_20) h11
@[congr] theorem octroilaw09_RibFull_r18_congr {env : Env} {h : Hp} {K : Env → Hp → Prop} : octroilaw09_RibFull_r18 env h K = octroilaw09_RibFull_r18 env h K := rfl

def octroilaw09_RibFull_D : Den := (sq (rg octroilaw09_RibFull_r0) (sq (rg octroilaw09_RibFull_r1) (sq (rg octroilaw09_RibFull_r2) (sq (sq (rg octroilaw09_RibFull_r3) (cnd (Go.Operand.tmp 30) (sq (rg octroilaw09_RibFull_r4) (ex .ret)) (ex .normal))) (sq (sq (rg octroilaw09_RibFull_r5) (blk 0 (lp octroilaw09_RibFull_L0))) (sq (rg octroilaw09_RibFull_r10) (sq (rg octroilaw09_RibFull_r11) (sq (rg octroilaw09_RibFull_r12) (sq (rg octroilaw09_RibFull_r13) (sq (rg octroilaw09_RibFull_r14) (sq (rg octroilaw09_RibFull_r15) (sq (sq (rg octroilaw09_RibFull_r16) (cnd (Go.Operand.tmp 89) (sq (rg octroilaw09_RibFull_r17) (ex .ret)) (ex .normal))) (sq (rg octroilaw09_RibFull_r18) (ex .ret))))))))))))))

theorem octroilaw09_RibFull_eq : (den Try.prog 120 octroilaw09_RibFull_code).1 = octroilaw09_RibFull_D := by kernel_rfl

theorem octroilaw09_RibFull_ok {args : Array Value} {h : Hp} {Q : Value → Hp → Prop} (hn : args.size ≤ 120) (D : octroilaw09_RibFull_D (fin Try.prog [(Go.ResultVar.tmp 6)] Q) (env0 args) h) : Ok Try.prog 6 args h Q :=
  ok_of_den progIsOk Try.func6 (c := octroilaw09_RibFull_code) (by kernel_rfl) hn (by show (den Try.prog 120 octroilaw09_RibFull_code).1 _ _ _; rw [octroilaw09_RibFull_eq]; exact D)

/-! ### octroi/octroilaw09.RibSwaps: function 7 -/
noncomputable def octroilaw09_RibSwaps_code : Code := match Try.f7.body with | some c => c | none => .skip

/-- law.go:88 -/
def octroilaw09_RibSwaps_r0 (env : Env) (h : Hp) (K : Env → Hp → Prop) : Prop :=
  arun Try.prog (Instr.box 24 (env 1)) h fun v4_0 h1 =>
  K ((env.set 4 v4_0).set 6 (Go.Value.bool false)) h1
@[congr] theorem octroilaw09_RibSwaps_r0_congr {env : Env} {h : Hp} {K : Env → Hp → Prop} : octroilaw09_RibSwaps_r0 env h K = octroilaw09_RibSwaps_r0 env h K := rfl

/-- law.go:89 -/
def octroilaw09_RibSwaps_r1 (env : Env) (h : Hp) (K : Env → Hp → Prop) : Prop :=
  Ok Try.prog 11 #[] h fun v22_0 h1 =>
  K ((env.set 22 v22_0).set 7 v22_0) h1
@[congr] theorem octroilaw09_RibSwaps_r1_congr {env : Env} {h : Hp} {K : Env → Hp → Prop} : octroilaw09_RibSwaps_r1 env h K = octroilaw09_RibSwaps_r1 env h K := rfl

/-- law.go:90 -/
def octroilaw09_RibSwaps_r2 (env : Env) (h : Hp) (K : Env → Hp → Prop) : Prop :=
  Ok Try.prog 16 #[(Go.Value.int Go.IntKind.i64 64)] h fun v23_0 h1 =>
  K ((env.set 23 v23_0).set 8 v23_0) h1
@[congr] theorem octroilaw09_RibSwaps_r2_congr {env : Env} {h : Hp} {K : Env → Hp → Prop} : octroilaw09_RibSwaps_r2 env h K = octroilaw09_RibSwaps_r2 env h K := rfl

/-- law.go:91 -/
def octroilaw09_RibSwaps_r3 (env : Env) (h : Hp) (K : Env → Hp → Prop) : Prop :=
  Ok Try.prog 16 #[(Go.Value.int Go.IntKind.i64 64)] h fun v24_0 h1 =>
  K ((env.set 24 v24_0).set 9 v24_0) h1
@[congr] theorem octroilaw09_RibSwaps_r3_congr {env : Env} {h : Hp} {K : Env → Hp → Prop} : octroilaw09_RibSwaps_r3 env h K = octroilaw09_RibSwaps_r3 env h K := rfl

/-- law.go:92 -/
def octroilaw09_RibSwaps_r4 (env : Env) (h : Hp) (K : Env → Hp → Prop) : Prop :=
  rd Try.prog (Op.unary Go.UnOp.not (env 7)) noHp fun v26_1 =>
  gd (yb v26_1 == some false) (fun h k => k (env 8) h) h fun v28_3 h1 =>
  gd (yb v26_1 == some false) (fun h k => rd Try.prog (bop Go.BinOp.eql 33 (Go.Operand.tmp 28) (Go.Operand.const (Go.Value.pointer none)) v28_3 (Go.Value.pointer none)) noHp fun v => k v h) h1 fun v29_4 h2 =>
  rd Try.prog (pck v26_1 (Go.Value.bool true) v29_4) noHp fun v30_5 =>
  gd (yb v30_5 == some false) (fun h k => k (env 9) h) h2 fun v32_7 h3 =>
  gd (yb v30_5 == some false) (fun h k => rd Try.prog (bop Go.BinOp.eql 33 (Go.Operand.tmp 32) (Go.Operand.const (Go.Value.pointer none)) v32_7 (Go.Value.pointer none)) noHp fun v => k v h) h3 fun v33_8 h4 =>
  rd Try.prog (pck v30_5 (Go.Value.bool true) v33_8) noHp fun v34_9 =>
  gd (yb v34_9 == some false) (fun h k => k (env 0) h) h4 fun v36_11 h5 =>
  gd (yb v34_9 == some false) (fun h k => rd Try.prog (Builtin.len_ #[39] 3 #[v36_11]) h fun v => k v h) h5 fun v37_12 h6 =>
  gd (yb v34_9 == some false) (fun h k => rd Try.prog (bop Go.BinOp.gtr 3 (Go.Operand.tmp 37) (Go.Operand.const (Go.Value.int Go.IntKind.i64 60)) v37_12 (Go.Value.int Go.IntKind.i64 60)) noHp fun v => k v h) h6 fun v38_13 h7 =>
  rd Try.prog (pck v34_9 (Go.Value.bool true) v38_13) noHp fun v39_14 =>
  K (((((((((((((((env.set 25 (env 7)).set 26 v26_1).set 27 v26_1).set 28 v28_3).set 29 v29_4).set 30 v30_5).set 31 v30_5).set 32 v32_7).set 33 v33_8).set 34 v34_9).set 35 v34_9).set 36 v36_11).set 37 v37_12).set 38 v38_13).set 39 v39_14) h7
@[congr] theorem octroilaw09_RibSwaps_r4_congr {env : Env} {h : Hp} {K : Env → Hp → Prop} : octroilaw09_RibSwaps_r4 env h K = octroilaw09_RibSwaps_r4 env h K := rfl

/-- law.go:93 -/
def octroilaw09_RibSwaps_r5 (env : Env) (h : Hp) (K : Env → Hp → Prop) : Prop :=
  gd (yb (env 7) == some true) (fun h k => k (env 8) h) h fun v42_2 h1 =>
  gd (yb (env 7) == some true) (fun h k => rd Try.prog (bop Go.BinOp.neq 33 (Go.Operand.tmp 42) (Go.Operand.const (Go.Value.pointer none)) v42_2 (Go.Value.pointer none)) noHp fun v => k v h) h1 fun v43_3 h2 =>
  rd Try.prog (pck (env 7) v43_3 (Go.Value.bool false)) noHp fun v44_4 =>
  gd (yb v44_4 == some true) (fun h k => k (env 9) h) h2 fun v46_6 h3 =>
  gd (yb v44_4 == some true) (fun h k => rd Try.prog (bop Go.BinOp.neq 33 (Go.Operand.tmp 46) (Go.Operand.const (Go.Value.pointer none)) v46_6 (Go.Value.pointer none)) noHp fun v => k v h) h3 fun v47_7 h4 =>
  rd Try.prog (pck v44_4 v47_7 (Go.Value.bool false)) noHp fun v48_8 =>
  K ((((((((((env.set 40 (env 7)).set 41 (env 7)).set 42 v42_2).set 43 v43_3).set 44 v44_4).set 45 v44_4).set 46 v46_6).set 47 v47_7).set 48 v48_8).set 6 v48_8) h4
@[congr] theorem octroilaw09_RibSwaps_r5_congr {env : Env} {h : Hp} {K : Env → Hp → Prop} : octroilaw09_RibSwaps_r5 env h K = octroilaw09_RibSwaps_r5 env h K := rfl

/-- law.go:95 -/
def octroilaw09_RibSwaps_r6 (env : Env) (h : Hp) (K : Env → Hp → Prop) : Prop :=
  K (env.set 10 (Go.Value.int Go.IntKind.i64 0)) h
@[congr] theorem octroilaw09_RibSwaps_r6_congr {env : Env} {h : Hp} {K : Env → Hp → Prop} : octroilaw09_RibSwaps_r6 env h K = octroilaw09_RibSwaps_r6 env h K := rfl

/-- law.go:95 -/
def octroilaw09_RibSwaps_r7 (env : Env) (h : Hp) (K : Env → Hp → Prop) : Prop :=
  rd Try.prog (Builtin.len_ #[39] 3 #[(env 0)]) h fun v51_2 =>
  rd Try.prog (bop Go.BinOp.lss 3 (Go.Operand.tmp 49) (Go.Operand.tmp 51) (env 10) v51_2) noHp fun v52_3 =>
  K ((((env.set 49 (env 10)).set 50 (env 0)).set 51 v51_2).set 52 v52_3) h
@[congr] theorem octroilaw09_RibSwaps_r7_congr {env : Env} {h : Hp} {K : Env → Hp → Prop} : octroilaw09_RibSwaps_r7 env h K = octroilaw09_RibSwaps_r7 env h K := rfl

/-- law.go:96 -/
def octroilaw09_RibSwaps_r8 (env : Env) (h : Hp) (K : Env → Hp → Prop) : Prop :=
  K (env.set 11 (Go.Value.int Go.IntKind.i64 0)) h
@[congr] theorem octroilaw09_RibSwaps_r8_congr {env : Env} {h : Hp} {K : Env → Hp → Prop} : octroilaw09_RibSwaps_r8 env h K = octroilaw09_RibSwaps_r8 env h K := rfl

/-- law.go:96 -/
def octroilaw09_RibSwaps_r9 (env : Env) (h : Hp) (K : Env → Hp → Prop) : Prop :=
  rd Try.prog (bop Go.BinOp.lss 3 (Go.Operand.tmp 55) (Go.Operand.tmp 56) (env 11) (env 10)) noHp fun v57_2 =>
  K (((env.set 55 (env 11)).set 56 (env 10)).set 57 v57_2) h
@[congr] theorem octroilaw09_RibSwaps_r9_congr {env : Env} {h : Hp} {K : Env → Hp → Prop} : octroilaw09_RibSwaps_r9 env h K = octroilaw09_RibSwaps_r9 env h K := rfl

/-- law.go:97 (in any order) -/
def octroilaw09_RibSwaps_r10 (env : Env) (h : Hp) (K : Env → Hp → Prop) : Prop :=
  rd Try.prog (Instr.indexAt 39 (env 0) (env 10)) noHp fun v62_2 =>
  rd Try.prog (Instr.fieldAt 27 v62_2 0) noHp fun v63_3 =>
  rd Try.prog (Instr.loadAt 24 v63_3) h fun v64_4 =>
  rd Try.prog (Instr.indexAt 39 (env 0) (env 11)) noHp fun v67_7 =>
  rd Try.prog (Instr.fieldAt 27 v67_7 0) noHp fun v68_8 =>
  rd Try.prog (Instr.loadAt 24 v68_8) h fun v69_9 =>
  rd Try.prog (bop Go.BinOp.eql 24 (Go.Operand.tmp 64) (Go.Operand.tmp 69) v64_4 v69_9) noHp fun v70_10 =>
  gd (yb v70_10 == some true) (fun h k => k (env 0) h) h fun v72_12 h1 =>
  gd (yb v70_10 == some true) (fun h k => k (env 10) h) h1 fun v73_13 h2 =>
  gd (yb v70_10 == some true) (fun h k => rd Try.prog (Instr.indexAt 39 v72_12 v73_13) noHp fun v => k v h) h2 fun v74_14 h3 =>
  gd (yb v70_10 == some true) (fun h k => rd Try.prog (Instr.fieldAt 27 v74_14 1) noHp fun v => k v h) h3 fun v75_15 h4 =>
  gd (yb v70_10 == some true) (fun h k => rd Try.prog (Instr.loadAt 3 v75_15) h fun v => k v h) h4 fun v76_16 h5 =>
  gd (yb v70_10 == some true) (fun h k => k (env 0) h) h5 fun v77_17 h6 =>
  gd (yb v70_10 == some true) (fun h k => k (env 11) h) h6 fun v78_18 h7 =>
  gd (yb v70_10 == some true) (fun h k => rd Try.prog (Instr.indexAt 39 v77_17 v78_18) noHp fun v => k v h) h7 fun v79_19 h8 =>
  gd (yb v70_10 == some true) (fun h k => rd Try.prog (Instr.fieldAt 27 v79_19 1) noHp fun v => k v h) h8 fun v80_20 h9 =>
  gd (yb v70_10 == some true) (fun h k => rd Try.prog (Instr.loadAt 3 v80_20) h fun v => k v h) h9 fun v81_21 h10 =>
  gd (yb v70_10 == some true) (fun h k => rd Try.prog (bop Go.BinOp.eql 3 (Go.Operand.tmp 76) (Go.Operand.tmp 81) v76_16 v81_21) noHp fun v => k v h) h10 fun v82_22 h11 =>
  rd Try.prog (pck v70_10 v82_22 (Go.Value.bool false)) noHp fun v83_23 =>
  K ((((((((((((((((((((((((env.set 60 (env 0)).set 61 (env 10)).set 62 v62_2).set 63 v63_3).set 64 v64_4).set 65 (env 0)).set 66 (env 11)).set 67 v67_7).set 68 v68_8).set 69 v69_9).set 70 v70_10).set 71 v70_10).set 72 v72_12).set 73 v73_13).set 74 v74_14).set 75 v75_15).set 76 v76_16).set 77 v77_17).set 78 v78_18).set 79 v79_19).set 80 v80_20).set 81 v81_21).set 82 v82_22).set 83 v83_23) h11
@[congr] theorem octroilaw09_RibSwaps_r10_congr {env : Env} {h : Hp} {K : Env → Hp → Prop} : octroilaw09_RibSwaps_r10 env h K = octroilaw09_RibSwaps_r10 env h K := rfl

/-- law.go:98 -/
def octroilaw09_RibSwaps_r11 (env : Env) (h : Hp) (K : Env → Hp → Prop) : Prop :=
  K (env.set 6 (Go.Value.bool true)) h
@[congr] theorem octroilaw09_RibSwaps_r11_congr {env : Env} {h : Hp} {K : Env → Hp → Prop} : octroilaw09_RibSwaps_r11 env h K = octroilaw09_RibSwaps_r11 env h K := rfl

/-- law.go:96 -/
def octroilaw09_RibSwaps_r12 (env : Env) (h : Hp) (K : Env → Hp → Prop) : Prop :=
  rd Try.prog (bop Go.BinOp.add 3 (Go.Operand.tmp 58) (Go.Operand.const (Go.Value.int Go.IntKind.i64 1)) (env 11) (Go.Value.int Go.IntKind.i64 1)) noHp fun v59_1 =>
  K (((env.set 58 (env 11)).set 59 v59_1).set 11 v59_1) h
@[congr] theorem octroilaw09_RibSwaps_r12_congr {env : Env} {h : Hp} {K : Env → Hp → Prop} : octroilaw09_RibSwaps_r12 env h K = octroilaw09_RibSwaps_r12 env h K := rfl

def octroilaw09_RibSwaps_L0 : Den := (sq (sq (rg octroilaw09_RibSwaps_r9) (cnd (Go.Operand.tmp 57) (ex .normal) (ex (.exit 2)))) (sq (blk 3 (sq (rg octroilaw09_RibSwaps_r10) (cnd (Go.Operand.tmp 83) (sq (rg octroilaw09_RibSwaps_r11) (ex .ret)) (ex .normal)))) (rg octroilaw09_RibSwaps_r12)))

/-- law.go:95 -/
def octroilaw09_RibSwaps_r13 (env : Env) (h : Hp) (K : Env → Hp → Prop) : Prop :=
  rd Try.prog (bop Go.BinOp.add 3 (Go.Operand.tmp 53) (Go.Operand.const (Go.Value.int Go.IntKind.i64 1)) (env 10) (Go.Value.int Go.IntKind.i64 1)) noHp fun v54_1 =>
  K (((env.set 53 (env 10)).set 54 v54_1).set 10 v54_1) h
@[congr] theorem octroilaw09_RibSwaps_r13_congr {env : Env} {h : Hp} {K : Env → Hp → Prop} : octroilaw09_RibSwaps_r13 env h K = octroilaw09_RibSwaps_r13 env h K := rfl

def octroilaw09_RibSwaps_L1 : Den := (sq (sq (rg octroilaw09_RibSwaps_r7) (cnd (Go.Operand.tmp 52) (ex .normal) (ex (.exit 0)))) (sq (blk 1 (sq (rg octroilaw09_RibSwaps_r8) (blk 2 (lp octroilaw09_RibSwaps_L0)))) (rg octroilaw09_RibSwaps_r13)))

/-- law.go:102 -/
def octroilaw09_RibSwaps_r14 (env : Env) (h : Hp) (K : Env → Hp → Prop) : Prop :=
  K (env.set 12 (Go.Value.int Go.IntKind.i64 0)) h
@[congr] theorem octroilaw09_RibSwaps_r14_congr {env : Env} {h : Hp} {K : Env → Hp → Prop} : octroilaw09_RibSwaps_r14 env h K = octroilaw09_RibSwaps_r14 env h K := rfl

/-- law.go:102 -/
def octroilaw09_RibSwaps_r15 (env : Env) (h : Hp) (K : Env → Hp → Prop) : Prop :=
  rd Try.prog (Builtin.len_ #[39] 3 #[(env 0)]) h fun v86_2 =>
  rd Try.prog (bop Go.BinOp.lss 3 (Go.Operand.tmp 84) (Go.Operand.tmp 86) (env 12) v86_2) noHp fun v87_3 =>
  K ((((env.set 84 (env 12)).set 85 (env 0)).set 86 v86_2).set 87 v87_3) h
@[congr] theorem octroilaw09_RibSwaps_r15_congr {env : Env} {h : Hp} {K : Env → Hp → Prop} : octroilaw09_RibSwaps_r15 env h K = octroilaw09_RibSwaps_r15 env h K := rfl

/-- law.go:103 -/
def octroilaw09_RibSwaps_r16 (env : Env) (h : Hp) (K : Env → Hp → Prop) : Prop :=
  rd Try.prog (Instr.indexAt 39 (env 0) (env 12)) noHp fun v93_3 =>
  rd Try.prog (Instr.loadAt 27 v93_3) h fun v94_4 =>
  Ok Try.prog 17 #[(env 8), v94_4] h fun v95_5 h1 =>
  K ((((((env.set 90 (env 8)).set 91 (env 0)).set 92 (env 12)).set 93 v93_3).set 94 v94_4).set 95 v95_5) h1
@[congr] theorem octroilaw09_RibSwaps_r16_congr {env : Env} {h : Hp} {K : Env → Hp → Prop} : octroilaw09_RibSwaps_r16 env h K = octroilaw09_RibSwaps_r16 env h K := rfl

/-- law.go:104 -/
def octroilaw09_RibSwaps_r17 (env : Env) (h : Hp) (K : Env → Hp → Prop) : Prop :=
  rd Try.prog (Builtin.len_ #[39] 3 #[(env 0)]) h fun v99_3 =>
  rd Try.prog (bop Go.BinOp.sub 3 (Go.Operand.tmp 99) (Go.Operand.const (Go.Value.int Go.IntKind.i64 1)) v99_3 (Go.Value.int Go.IntKind.i64 1)) noHp fun v100_4 =>
  rd Try.prog (bop Go.BinOp.sub 3 (Go.Operand.tmp 100) (Go.Operand.tmp 101) v100_4 (env 12)) noHp fun v102_6 =>
  rd Try.prog (Instr.indexAt 39 (env 0) v102_6) noHp fun v103_7 =>
  rd Try.prog (Instr.loadAt 27 v103_7) h fun v104_8 =>
  Ok Try.prog 17 #[(env 9), v104_8] h fun v105_9 h1 =>
  K ((((((((((env.set 96 (env 9)).set 97 (env 0)).set 98 (env 0)).set 99 v99_3).set 100 v100_4).set 101 (env 12)).set 102 v102_6).set 103 v103_7).set 104 v104_8).set 105 v105_9) h1
@[congr] theorem octroilaw09_RibSwaps_r17_congr {env : Env} {h : Hp} {K : Env → Hp → Prop} : octroilaw09_RibSwaps_r17 env h K = octroilaw09_RibSwaps_r17 env h K := rfl

/-- law.go:102 -/
def octroilaw09_RibSwaps_r18 (env : Env) (h : Hp) (K : Env → Hp → Prop) : Prop :=
  rd Try.prog (bop Go.BinOp.add 3 (Go.Operand.tmp 88) (Go.Operand.const (Go.Value.int Go.IntKind.i64 1)) (env 12) (Go.Value.int Go.IntKind.i64 1)) noHp fun v89_1 =>
  K (((env.set 88 (env 12)).set 89 v89_1).set 12 v89_1) h
@[congr] theorem octroilaw09_RibSwaps_r18_congr {env : Env} {h : Hp} {K : Env → Hp → Prop} : octroilaw09_RibSwaps_r18 env h K = octroilaw09_RibSwaps_r18 env h K := rfl

def octroilaw09_RibSwaps_L2 : Den := (sq (sq (rg octroilaw09_RibSwaps_r15) (cnd (Go.Operand.tmp 87) (ex .normal) (ex (.exit 4)))) (sq (blk 5 (sq (rg octroilaw09_RibSwaps_r16) (rg octroilaw09_RibSwaps_r17))) (rg octroilaw09_RibSwaps_r18)))

/-- law.go:106 -/
def octroilaw09_RibSwaps_r19 (env : Env) (h : Hp) (K : Env → Hp → Prop) : Prop :=
  rd Try.prog (Instr.loadAt 24 (env 4)) h fun v108_1 =>
  Ok Try.prog 20 #[(env 8), v108_1] h fun v109_2 h1 =>
  rd Try.prog (Instr.extract v109_2 0) noHp fun v110_4 =>
  rd Try.prog (Instr.extract v109_2 1) noHp fun v111_5 =>
  arun Try.prog (Instr.alloc 27 true (Go.Value.tuple #[])) h1 fun v13_6 h2 =>
  arun Try.prog (Instr.storeAt 27 v13_6 v110_4) h2 fun _ h3 =>
  K ((((((((env.set 107 (env 8)).set 108 v108_1).set 109 v109_2).set 106 v109_2).set 110 v110_4).set 111 v111_5).set 13 v13_6).set 14 v111_5) h3
@[congr] theorem octroilaw09_RibSwaps_r19_congr {env : Env} {h : Hp} {K : Env → Hp → Prop} : octroilaw09_RibSwaps_r19 env h K = octroilaw09_RibSwaps_r19 env h K := rfl

/-- law.go:107 -/
def octroilaw09_RibSwaps_r20 (env : Env) (h : Hp) (K : Env → Hp → Prop) : Prop :=
  rd Try.prog (Instr.loadAt 24 (env 4)) h fun v114_1 =>
  Ok Try.prog 20 #[(env 9), v114_1] h fun v115_2 h1 =>
  rd Try.prog (Instr.extract v115_2 0) noHp fun v116_4 =>
  rd Try.prog (Instr.extract v115_2 1) noHp fun v117_5 =>
  arun Try.prog (Instr.alloc 27 true (Go.Value.tuple #[])) h1 fun v15_6 h2 =>
  arun Try.prog (Instr.storeAt 27 v15_6 v116_4) h2 fun _ h3 =>
  K ((((((((env.set 113 (env 9)).set 114 v114_1).set 115 v115_2).set 112 v115_2).set 116 v116_4).set 117 v117_5).set 15 v15_6).set 16 v117_5) h3
@[congr] theorem octroilaw09_RibSwaps_r20_congr {env : Env} {h : Hp} {K : Env → Hp → Prop} : octroilaw09_RibSwaps_r20 env h K = octroilaw09_RibSwaps_r20 env h K := rfl

/-- law.go:108 -/
def octroilaw09_RibSwaps_r21 (env : Env) (h : Hp) (K : Env → Hp → Prop) : Prop :=
  Ok Try.prog 21 #[(env 8), (env 2)] h fun v121_2 h1 =>
  rd Try.prog (Instr.extract v121_2 0) noHp fun v122_4 =>
  rd Try.prog (Instr.extract v121_2 1) noHp fun v123_5 =>
  arun Try.prog (Instr.alloc 27 true (Go.Value.tuple #[])) h1 fun v17_6 h2 =>
  arun Try.prog (Instr.storeAt 27 v17_6 v122_4) h2 fun _ h3 =>
  K ((((((((env.set 119 (env 8)).set 120 (env 2)).set 121 v121_2).set 118 v121_2).set 122 v122_4).set 123 v123_5).set 17 v17_6).set 18 v123_5) h3
@[congr] theorem octroilaw09_RibSwaps_r21_congr {env : Env} {h : Hp} {K : Env → Hp → Prop} : octroilaw09_RibSwaps_r21 env h K = octroilaw09_RibSwaps_r21 env h K := rfl

/-- law.go:109 -/
def octroilaw09_RibSwaps_r22 (env : Env) (h : Hp) (K : Env → Hp → Prop) : Prop :=
  Ok Try.prog 21 #[(env 9), (env 2)] h fun v127_2 h1 =>
  rd Try.prog (Instr.extract v127_2 0) noHp fun v128_4 =>
  rd Try.prog (Instr.extract v127_2 1) noHp fun v129_5 =>
  arun Try.prog (Instr.alloc 27 true (Go.Value.tuple #[])) h1 fun v19_6 h2 =>
  arun Try.prog (Instr.storeAt 27 v19_6 v128_4) h2 fun _ h3 =>
  K ((((((((env.set 125 (env 9)).set 126 (env 2)).set 127 v127_2).set 124 v127_2).set 128 v128_4).set 129 v129_5).set 19 v19_6).set 20 v129_5) h3
@[congr] theorem octroilaw09_RibSwaps_r22_congr {env : Env} {h : Hp} {K : Env → Hp → Prop} : octroilaw09_RibSwaps_r22 env h K = octroilaw09_RibSwaps_r22 env h K := rfl

/-- law.go:110 -/
def octroilaw09_RibSwaps_r23 (env : Env) (h : Hp) (K : Env → Hp → Prop) : Prop :=
  Ok Try.prog 19 #[(env 8)] h fun v131_1 h1 =>
  Ok Try.prog 19 #[(env 9)] h1 fun v133_3 h2 =>
  Ok Try.prog 22 #[v131_1, v133_3] h2 fun v134_4 h3 =>
  K ((((((env.set 130 (env 8)).set 131 v131_1).set 132 (env 9)).set 133 v133_3).set 134 v134_4).set 21 v134_4) h3
@[congr] theorem octroilaw09_RibSwaps_r23_congr {env : Env} {h : Hp} {K : Env → Hp → Prop} : octroilaw09_RibSwaps_r23 env h K = octroilaw09_RibSwaps_r23 env h K := rfl

/-- law.go:111 -/
def octroilaw09_RibSwaps_r24 (env : Env) (h : Hp) (K : Env → Hp → Prop) : Prop :=
  rd Try.prog (Instr.loadAt 27 (env 13)) h fun v135_0 =>
  rd Try.prog (Instr.loadAt 27 (env 15)) h fun v136_1 =>
  rd Try.prog (bop Go.BinOp.eql 27 (Go.Operand.tmp 135) (Go.Operand.tmp 136) v135_0 v136_1) noHp fun v137_2 =>
  gd (yb v137_2 == some true) (fun h k => k (env 14) h) h fun v139_4 h1 =>
  gd (yb v137_2 == some true) (fun h k => k (env 16) h) h1 fun v140_5 h2 =>
  gd (yb v137_2 == some true) (fun h k => rd Try.prog (bop Go.BinOp.eql 4 (Go.Operand.tmp 139) (Go.Operand.tmp 140) v139_4 v140_5) noHp fun v => k v h) h2 fun v141_6 h3 =>
  rd Try.prog (pck v137_2 v141_6 (Go.Value.bool false)) noHp fun v142_7 =>
  gd (yb v142_7 == some true) (fun h k => rd Try.prog (Instr.loadAt 27 (env 17)) h fun v => k v h) h3 fun v144_9 h4 =>
  gd (yb v142_7 == some true) (fun h k => rd Try.prog (Instr.loadAt 27 (env 19)) h fun v => k v h) h4 fun v145_10 h5 =>
  gd (yb v142_7 == some true) (fun h k => rd Try.prog (bop Go.BinOp.eql 27 (Go.Operand.tmp 144) (Go.Operand.tmp 145) v144_9 v145_10) noHp fun v => k v h) h5 fun v146_11 h6 =>
  rd Try.prog (pck v142_7 v146_11 (Go.Value.bool false)) noHp fun v147_12 =>
  gd (yb v147_12 == some true) (fun h k => k (env 18) h) h6 fun v149_14 h7 =>
  gd (yb v147_12 == some true) (fun h k => k (env 20) h) h7 fun v150_15 h8 =>
  gd (yb v147_12 == some true) (fun h k => rd Try.prog (bop Go.BinOp.eql 4 (Go.Operand.tmp 149) (Go.Operand.tmp 150) v149_14 v150_15) noHp fun v => k v h) h8 fun v151_16 h9 =>
  rd Try.prog (pck v147_12 v151_16 (Go.Value.bool false)) noHp fun v152_17 =>
  gd (yb v152_17 == some true) (fun h k => k (env 21) h) h9 fun v154_19 h10 =>
  rd Try.prog (pck v152_17 v154_19 (Go.Value.bool false)) noHp fun v155_20 =>
  K ((((((((((((((((((((((env.set 135 v135_0).set 136 v136_1).set 137 v137_2).set 138 v137_2).set 139 v139_4).set 140 v140_5).set 141 v141_6).set 142 v142_7).set 143 v142_7).set 144 v144_9).set 145 v145_10).set 146 v146_11).set 147 v147_12).set 148 v147_12).set 149 v149_14).set 150 v150_15).set 151 v151_16).set 152 v152_17).set 153 v152_17).set 154 v154_19).set 155 v155_20).set 6 v155_20) h10
@[congr] theorem octroilaw09_RibSwaps_r24_congr {env : Env} {h : Hp} {K : Env → Hp → Prop} : octroilaw09_RibSwaps_r24 env h K = octroilaw09_RibSwaps_r24 env h K := rfl

def octroilaw09_RibSwaps_D : Den := (sq (rg octroilaw09_RibSwaps_r0) (sq (rg octroilaw09_RibSwaps_r1) (sq (rg octroilaw09_RibSwaps_r2) (sq (rg octroilaw09_RibSwaps_r3) (sq (sq (rg octroilaw09_RibSwaps_r4) (cnd (Go.Operand.tmp 39) (sq (rg octroilaw09_RibSwaps_r5) (ex .ret)) (ex .normal))) (sq (sq (rg octroilaw09_RibSwaps_r6) (blk 0 (lp octroilaw09_RibSwaps_L1))) (sq (sq (rg octroilaw09_RibSwaps_r14) (blk 4 (lp octroilaw09_RibSwaps_L2))) (sq (rg octroilaw09_RibSwaps_r19) (sq (rg octroilaw09_RibSwaps_r20) (sq (rg octroilaw09_RibSwaps_r21) (sq (rg octroilaw09_RibSwaps_r22) (sq (rg octroilaw09_RibSwaps_r23) (sq (rg octroilaw09_RibSwaps_r24) (ex .ret))))))))))))))

theorem octroilaw09_RibSwaps_eq : (den Try.prog 156 octroilaw09_RibSwaps_code).1 = octroilaw09_RibSwaps_D := by kernel_rfl

theorem octroilaw09_RibSwaps_ok {args : Array Value} {h : Hp} {Q : Value → Hp → Prop} (hn : args.size ≤ 156) (D : octroilaw09_RibSwaps_D (fin Try.prog [(Go.ResultVar.tmp 6)] Q) (env0 args) h) : Ok Try.prog 7 args h Q :=
  ok_of_den progIsOk Try.func7 (c := octroilaw09_RibSwaps_code) (by kernel_rfl) hn (by show (den Try.prog 156 octroilaw09_RibSwaps_code).1 _ _ _; rw [octroilaw09_RibSwaps_eq]; exact D)

/-! ### octroi/octroilaw09.RibGone: function 8 -/
noncomputable def octroilaw09_RibGone_code : Code := match Try.f8.body with | some c => c | none => .skip

/-- more.go:19 -/
def octroilaw09_RibGone_r0 (env : Env) (h : Hp) (K : Env → Hp → Prop) : Prop :=
  arun Try.prog (Instr.box 27 (env 0)) h fun v2_0 h1 =>
  arun Try.prog (Instr.box 27 (env 1)) h1 fun v3_1 h2 =>
  K (((env.set 2 v2_0).set 3 v3_1).set 4 (Go.Value.bool false)) h2
@[congr] theorem octroilaw09_RibGone_r0_congr {env : Env} {h : Hp} {K : Env → Hp → Prop} : octroilaw09_RibGone_r0 env h K = octroilaw09_RibGone_r0 env h K := rfl

/-- more.go:20 -/
def octroilaw09_RibGone_r1 (env : Env) (h : Hp) (K : Env → Hp → Prop) : Prop :=
  Ok Try.prog 11 #[] h fun v17_0 h1 =>
  K ((env.set 17 v17_0).set 5 v17_0) h1
@[congr] theorem octroilaw09_RibGone_r1_congr {env : Env} {h : Hp} {K : Env → Hp → Prop} : octroilaw09_RibGone_r1 env h K = octroilaw09_RibGone_r1 env h K := rfl

/-- more.go:21 -/
def octroilaw09_RibGone_r2 (env : Env) (h : Hp) (K : Env → Hp → Prop) : Prop :=
  Ok Try.prog 16 #[(Go.Value.int Go.IntKind.i64 5)] h fun v18_0 h1 =>
  K ((env.set 18 v18_0).set 6 v18_0) h1
@[congr] theorem octroilaw09_RibGone_r2_congr {env : Env} {h : Hp} {K : Env → Hp → Prop} : octroilaw09_RibGone_r2 env h K = octroilaw09_RibGone_r2 env h K := rfl

/-- more.go:22 -/
def octroilaw09_RibGone_r3 (env : Env) (h : Hp) (K : Env → Hp → Prop) : Prop :=
  rd Try.prog (Instr.fieldAt 27 (env 2) 0) noHp fun v19_0 =>
  rd Try.prog (Instr.loadAt 24 v19_0) h fun v20_1 =>
  rd Try.prog (Instr.fieldAt 27 (env 3) 0) noHp fun v21_2 =>
  arun Try.prog (Instr.storeAt 24 v21_2 v20_1) h fun _ h1 =>
  K (((env.set 19 v19_0).set 20 v20_1).set 21 v21_2) h1
@[congr] theorem octroilaw09_RibGone_r3_congr {env : Env} {h : Hp} {K : Env → Hp → Prop} : octroilaw09_RibGone_r3 env h K = octroilaw09_RibGone_r3 env h K := rfl

/-- more.go:23 -/
def octroilaw09_RibGone_r4 (env : Env) (h : Hp) (K : Env → Hp → Prop) : Prop :=
  rd Try.prog (Op.unary Go.UnOp.not (env 5)) noHp fun v23_1 =>
  gd (yb v23_1 == some false) (fun h k => k (env 6) h) h fun v25_3 h1 =>
  gd (yb v23_1 == some false) (fun h k => rd Try.prog (bop Go.BinOp.eql 33 (Go.Operand.tmp 25) (Go.Operand.const (Go.Value.pointer none)) v25_3 (Go.Value.pointer none)) noHp fun v => k v h) h1 fun v26_4 h2 =>
  rd Try.prog (pck v23_1 (Go.Value.bool true) v26_4) noHp fun v27_5 =>
  gd (yb v27_5 == some false) (fun h k => rd Try.prog (Instr.fieldAt 27 (env 2) 1) noHp fun v => k v h) h2 fun v29_7 h3 =>
  gd (yb v27_5 == some false) (fun h k => rd Try.prog (Instr.loadAt 3 v29_7) h fun v => k v h) h3 fun v30_8 h4 =>
  gd (yb v27_5 == some false) (fun h k => rd Try.prog (Instr.fieldAt 27 (env 3) 1) noHp fun v => k v h) h4 fun v31_9 h5 =>
  gd (yb v27_5 == some false) (fun h k => rd Try.prog (Instr.loadAt 3 v31_9) h fun v => k v h) h5 fun v32_10 h6 =>
  gd (yb v27_5 == some false) (fun h k => rd Try.prog (bop Go.BinOp.eql 3 (Go.Operand.tmp 30) (Go.Operand.tmp 32) v30_8 v32_10) noHp fun v => k v h) h6 fun v33_11 h7 =>
  rd Try.prog (pck v27_5 (Go.Value.bool true) v33_11) noHp fun v34_12 =>
  K (((((((((((((env.set 22 (env 5)).set 23 v23_1).set 24 v23_1).set 25 v25_3).set 26 v26_4).set 27 v27_5).set 28 v27_5).set 29 v29_7).set 30 v30_8).set 31 v31_9).set 32 v32_10).set 33 v33_11).set 34 v34_12) h7
@[congr] theorem octroilaw09_RibGone_r4_congr {env : Env} {h : Hp} {K : Env → Hp → Prop} : octroilaw09_RibGone_r4 env h K = octroilaw09_RibGone_r4 env h K := rfl

/-- more.go:24 -/
def octroilaw09_RibGone_r5 (env : Env) (h : Hp) (K : Env → Hp → Prop) : Prop :=
  gd (yb (env 5) == some true) (fun h k => k (env 6) h) h fun v37_2 h1 =>
  gd (yb (env 5) == some true) (fun h k => rd Try.prog (bop Go.BinOp.neq 33 (Go.Operand.tmp 37) (Go.Operand.const (Go.Value.pointer none)) v37_2 (Go.Value.pointer none)) noHp fun v => k v h) h1 fun v38_3 h2 =>
  rd Try.prog (pck (env 5) v38_3 (Go.Value.bool false)) noHp fun v39_4 =>
  K ((((((env.set 35 (env 5)).set 36 (env 5)).set 37 v37_2).set 38 v38_3).set 39 v39_4).set 4 v39_4) h2
@[congr] theorem octroilaw09_RibGone_r5_congr {env : Env} {h : Hp} {K : Env → Hp → Prop} : octroilaw09_RibGone_r5 env h K = octroilaw09_RibGone_r5 env h K := rfl

/-- more.go:26 -/
def octroilaw09_RibGone_r6 (env : Env) (h : Hp) (K : Env → Hp → Prop) : Prop :=
  rd Try.prog (Instr.loadAt 27 (env 2)) h fun v41_1 =>
  Ok Try.prog 17 #[(env 6), v41_1] h fun v42_2 h1 =>
  K ((((env.set 40 (env 6)).set 41 v41_1).set 42 v42_2).set 7 v42_2) h1
@[congr] theorem octroilaw09_RibGone_r6_congr {env : Env} {h : Hp} {K : Env → Hp → Prop} : octroilaw09_RibGone_r6 env h K = octroilaw09_RibGone_r6 env h K := rfl

/-- more.go:27 -/
def octroilaw09_RibGone_r7 (env : Env) (h : Hp) (K : Env → Hp → Prop) : Prop :=
  rd Try.prog (Instr.loadAt 27 (env 3)) h fun v44_1 =>
  Ok Try.prog 17 #[(env 6), v44_1] h fun v45_2 h1 =>
  K ((((env.set 43 (env 6)).set 44 v44_1).set 45 v45_2).set 8 v45_2) h1
@[congr] theorem octroilaw09_RibGone_r7_congr {env : Env} {h : Hp} {K : Env → Hp → Prop} : octroilaw09_RibGone_r7 env h K = octroilaw09_RibGone_r7 env h K := rfl

/-- more.go:28 -/
def octroilaw09_RibGone_r8 (env : Env) (h : Hp) (K : Env → Hp → Prop) : Prop :=
  rd Try.prog (bop Go.BinOp.neq 35 (Go.Operand.tmp 46) (Go.Operand.const (Go.Value.int Go.IntKind.i64 0)) (env 7) (Go.Value.int Go.IntKind.i64 0)) noHp fun v47_1 =>
  gd (yb v47_1 == some false) (fun h k => k (env 8) h) h fun v49_3 h1 =>
  gd (yb v47_1 == some false) (fun h k => rd Try.prog (bop Go.BinOp.neq 35 (Go.Operand.tmp 49) (Go.Operand.const (Go.Value.int Go.IntKind.i64 0)) v49_3 (Go.Value.int Go.IntKind.i64 0)) noHp fun v => k v h) h1 fun v50_4 h2 =>
  rd Try.prog (pck v47_1 (Go.Value.bool true) v50_4) noHp fun v51_5 =>
  K ((((((env.set 46 (env 7)).set 47 v47_1).set 48 v47_1).set 49 v49_3).set 50 v50_4).set 51 v51_5) h2
@[congr] theorem octroilaw09_RibGone_r8_congr {env : Env} {h : Hp} {K : Env → Hp → Prop} : octroilaw09_RibGone_r8 env h K = octroilaw09_RibGone_r8 env h K := rfl

/-- more.go:29 -/
def octroilaw09_RibGone_r9 (env : Env) (h : Hp) (K : Env → Hp → Prop) : Prop :=
  K (env.set 4 (Go.Value.bool true)) h
@[congr] theorem octroilaw09_RibGone_r9_congr {env : Env} {h : Hp} {K : Env → Hp → Prop} : octroilaw09_RibGone_r9 env h K = octroilaw09_RibGone_r9 env h K := rfl

/-- more.go:31 -/
def octroilaw09_RibGone_r10 (env : Env) (h : Hp) (K : Env → Hp → Prop) : Prop :=
  rd Try.prog (Instr.fieldAt 27 (env 2) 0) noHp fun v54_1 =>
  rd Try.prog (Instr.loadAt 24 v54_1) h fun v55_2 =>
  Ok Try.prog 20 #[(env 6), v55_2] h fun v56_3 h1 =>
  rd Try.prog (Instr.extract v56_3 0) noHp fun v57_5 =>
  rd Try.prog (Instr.extract v56_3 1) noHp fun v58_6 =>
  arun Try.prog (Instr.alloc 27 true (Go.Value.tuple #[])) h1 fun v9_7 h2 =>
  arun Try.prog (Instr.storeAt 27 v9_7 v57_5) h2 fun _ h3 =>
  K (((((((((env.set 53 (env 6)).set 54 v54_1).set 55 v55_2).set 56 v56_3).set 52 v56_3).set 57 v57_5).set 58 v58_6).set 9 v9_7).set 10 v58_6) h3
@[congr] theorem octroilaw09_RibGone_r10_congr {env : Env} {h : Hp} {K : Env → Hp → Prop} : octroilaw09_RibGone_r10 env h K = octroilaw09_RibGone_r10 env h K := rfl

/-- more.go:32 -/
def octroilaw09_RibGone_r11 (env : Env) (h : Hp) (K : Env → Hp → Prop) : Prop :=
  rd Try.prog (Instr.fieldAt 27 (env 9) 0) noHp fun v60_1 =>
  rd Try.prog (Instr.loadAt 24 v60_1) h fun v61_2 =>
  rd Try.prog (Instr.fieldAt 27 (env 9) 1) noHp fun v62_3 =>
  rd Try.prog (Instr.loadAt 3 v62_3) h fun v63_4 =>
  Ok Try.prog 23 #[(env 6), v61_2, v63_4] h fun v64_5 h1 =>
  K (((((((env.set 59 (env 6)).set 60 v60_1).set 61 v61_2).set 62 v62_3).set 63 v63_4).set 64 v64_5).set 11 v64_5) h1
@[congr] theorem octroilaw09_RibGone_r11_congr {env : Env} {h : Hp} {K : Env → Hp → Prop} : octroilaw09_RibGone_r11 env h K = octroilaw09_RibGone_r11 env h K := rfl

/-- more.go:33 -/
def octroilaw09_RibGone_r12 (env : Env) (h : Hp) (K : Env → Hp → Prop) : Prop :=
  rd Try.prog (Instr.fieldAt 27 (env 2) 0) noHp fun v67_1 =>
  rd Try.prog (Instr.loadAt 24 v67_1) h fun v68_2 =>
  Ok Try.prog 20 #[(env 6), v68_2] h fun v69_3 h1 =>
  rd Try.prog (Instr.extract v69_3 0) noHp fun v70_5 =>
  rd Try.prog (Instr.extract v69_3 1) noHp fun v71_6 =>
  arun Try.prog (Instr.alloc 27 true (Go.Value.tuple #[])) h1 fun v12_7 h2 =>
  arun Try.prog (Instr.storeAt 27 v12_7 v70_5) h2 fun _ h3 =>
  K (((((((((env.set 66 (env 6)).set 67 v67_1).set 68 v68_2).set 69 v69_3).set 65 v69_3).set 70 v70_5).set 71 v71_6).set 12 v12_7).set 13 v71_6) h3
@[congr] theorem octroilaw09_RibGone_r12_congr {env : Env} {h : Hp} {K : Env → Hp → Prop} : octroilaw09_RibGone_r12 env h K = octroilaw09_RibGone_r12 env h K := rfl

/-- more.go:34 -/
def octroilaw09_RibGone_r13 (env : Env) (h : Hp) (K : Env → Hp → Prop) : Prop :=
  rd Try.prog (Instr.fieldAt 27 (env 12) 0) noHp fun v73_1 =>
  rd Try.prog (Instr.loadAt 24 v73_1) h fun v74_2 =>
  rd Try.prog (Instr.fieldAt 27 (env 12) 1) noHp fun v75_3 =>
  rd Try.prog (Instr.loadAt 3 v75_3) h fun v76_4 =>
  Ok Try.prog 23 #[(env 6), v74_2, v76_4] h fun v77_5 h1 =>
  K (((((((env.set 72 (env 6)).set 73 v73_1).set 74 v74_2).set 75 v75_3).set 76 v76_4).set 77 v77_5).set 14 v77_5) h1
@[congr] theorem octroilaw09_RibGone_r13_congr {env : Env} {h : Hp} {K : Env → Hp → Prop} : octroilaw09_RibGone_r13 env h K = octroilaw09_RibGone_r13 env h K := rfl

/-- more.go:35 -/
def octroilaw09_RibGone_r14 (env : Env) (h : Hp) (K : Env → Hp → Prop) : Prop :=
  rd Try.prog (Instr.fieldAt 27 (env 2) 0) noHp fun v80_1 =>
  rd Try.prog (Instr.loadAt 24 v80_1) h fun v81_2 =>
  Ok Try.prog 20 #[(env 6), v81_2] h fun v82_3 h1 =>
  rd Try.prog (Instr.extract v82_3 0) noHp fun v83_5 =>
  rd Try.prog (Instr.extract v82_3 1) noHp fun v84_6 =>
  arun Try.prog (Instr.alloc 27 true (Go.Value.tuple #[])) h1 fun v15_7 h2 =>
  arun Try.prog (Instr.storeAt 27 v15_7 v83_5) h2 fun _ h3 =>
  K (((((((((env.set 79 (env 6)).set 80 v80_1).set 81 v81_2).set 82 v82_3).set 78 v82_3).set 83 v83_5).set 84 v84_6).set 15 v15_7).set 16 v84_6) h3
@[congr] theorem octroilaw09_RibGone_r14_congr {env : Env} {h : Hp} {K : Env → Hp → Prop} : octroilaw09_RibGone_r14 env h K = octroilaw09_RibGone_r14 env h K := rfl

/-- more.go:36 -/
def octroilaw09_RibGone_r15 (env : Env) (h : Hp) (K : Env → Hp → Prop) : Prop :=
  gd (yb (env 10) == some true) (fun h k => k (env 13) h) h fun v87_2 h1 =>
  rd Try.prog (pck (env 10) v87_2 (Go.Value.bool false)) noHp fun v88_3 =>
  gd (yb v88_3 == some true) (fun h k => k (env 16) h) h1 fun v90_5 h2 =>
  gd (yb v88_3 == some true) (fun h k => rd Try.prog (Op.unary Go.UnOp.not v90_5) noHp fun v => k v h) h2 fun v91_6 h3 =>
  rd Try.prog (pck v88_3 v91_6 (Go.Value.bool false)) noHp fun v92_7 =>
  gd (yb v92_7 == some true) (fun h k => k (env 11) h) h3 fun v94_9 h4 =>
  gd (yb v92_7 == some true) (fun h k => rd Try.prog (bop Go.BinOp.eql 35 (Go.Operand.tmp 94) (Go.Operand.const (Go.Value.int Go.IntKind.i64 0)) v94_9 (Go.Value.int Go.IntKind.i64 0)) noHp fun v => k v h) h4 fun v95_10 h5 =>
  rd Try.prog (pck v92_7 v95_10 (Go.Value.bool false)) noHp fun v96_11 =>
  gd (yb v96_11 == some true) (fun h k => k (env 14) h) h5 fun v98_13 h6 =>
  gd (yb v96_11 == some true) (fun h k => rd Try.prog (bop Go.BinOp.eql 35 (Go.Operand.tmp 98) (Go.Operand.const (Go.Value.int Go.IntKind.i64 0)) v98_13 (Go.Value.int Go.IntKind.i64 0)) noHp fun v => k v h) h6 fun v99_14 h7 =>
  rd Try.prog (pck v96_11 v99_14 (Go.Value.bool false)) noHp fun v100_15 =>
  gd (yb v100_15 == some true) (fun h k => rd Try.prog (Instr.loadAt 27 (env 9)) h fun v => k v h) h7 fun v102_17 h8 =>
  gd (yb v100_15 == some true) (fun h k => rd Try.prog (Instr.loadAt 27 (env 2)) h fun v => k v h) h8 fun v103_18 h9 =>
  gd (yb v100_15 == some true) (fun h k => rd Try.prog (bop Go.BinOp.eql 27 (Go.Operand.tmp 102) (Go.Operand.tmp 103) v102_17 v103_18) noHp fun v => k v h) h9 fun v104_19 h10 =>
  gd (yb v100_15 == some true) (fun h k => k v104_19 h) h10 fun v105_20 h11 =>
  gd (yb v105_20 == some true) (fun h k => rd Try.prog (Instr.loadAt 27 (env 12)) h fun v => k v h) h11 fun v106_21 h12 =>
  gd (yb v105_20 == some true) (fun h k => rd Try.prog (Instr.loadAt 27 (env 3)) h fun v => k v h) h12 fun v107_22 h13 =>
  gd (yb v105_20 == some true) (fun h k => rd Try.prog (bop Go.BinOp.eql 27 (Go.Operand.tmp 106) (Go.Operand.tmp 107) v106_21 v107_22) noHp fun v => k v h) h13 fun v108_23 h14 =>
  gd (yb v100_15 == some true) (fun h k => rd Try.prog (pck v105_20 v108_23 (Go.Value.bool false)) noHp fun v => k v h) h14 fun v109_24 h15 =>
  gd (yb v100_15 == some true) (fun h k => k v109_24 h) h15 fun v110_25 h16 =>
  gd (yb v110_25 == some false) (fun h k => rd Try.prog (Instr.loadAt 27 (env 9)) h fun v => k v h) h16 fun v111_26 h17 =>
  gd (yb v110_25 == some false) (fun h k => rd Try.prog (Instr.loadAt 27 (env 3)) h fun v => k v h) h17 fun v112_27 h18 =>
  gd (yb v110_25 == some false) (fun h k => rd Try.prog (bop Go.BinOp.eql 27 (Go.Operand.tmp 111) (Go.Operand.tmp 112) v111_26 v112_27) noHp fun v => k v h) h18 fun v113_28 h19 =>
  gd (yb v110_25 == some false) (fun h k => k v113_28 h) h19 fun v114_29 h20 =>
  gd (yb v114_29 == some true) (fun h k => rd Try.prog (Instr.loadAt 27 (env 12)) h fun v => k v h) h20 fun v115_30 h21 =>
  gd (yb v114_29 == some true) (fun h k => rd Try.prog (Instr.loadAt 27 (env 2)) h fun v => k v h) h21 fun v116_31 h22 =>
  gd (yb v114_29 == some true) (fun h k => rd Try.prog (bop Go.BinOp.eql 27 (Go.Operand.tmp 115) (Go.Operand.tmp 116) v115_30 v116_31) noHp fun v => k v h) h22 fun v117_32 h23 =>
  gd (yb v110_25 == some false) (fun h k => rd Try.prog (pck v114_29 v117_32 (Go.Value.bool false)) noHp fun v => k v h) h23 fun v118_33 h24 =>
  gd (yb v100_15 == some true) (fun h k => rd Try.prog (pck v110_25 (Go.Value.bool true) v118_33) noHp fun v => k v h) h24 fun v119_34 h25 =>
  rd Try.prog (pck v100_15 v119_34 (Go.Value.bool false)) noHp fun v120_35 =>
  gd (yb v120_35 == some true) (fun h k => rd Try.prog (Instr.loadAt 27 (env 12)) h fun v => k v h) h25 fun v122_37 h26 =>
  gd (yb v120_35 == some true) (fun h k => rd Try.prog (Instr.loadAt 27 (env 9)) h fun v => k v h) h26 fun v123_38 h27 =>
  gd (yb v120_35 == some true) (fun h k => Ok Try.prog 13 #[v122_37, v123_38] h k) h27 fun v124_39 h28 =>
  gd (yb v120_35 == some true) (fun h k => rd Try.prog (Op.unary Go.UnOp.not v124_39) noHp fun v => k v h) h28 fun v125_40 h29 =>
  rd Try.prog (pck v120_35 v125_40 (Go.Value.bool false)) noHp fun v126_41 =>
  gd (yb v126_41 == some true) (fun h k => k (env 6) h) h29 fun v128_43 h30 =>
  gd (yb v126_41 == some true) (fun h k => Ok Try.prog 19 #[v128_43] h k) h30 fun v129_44 h31 =>
  gd (yb v126_41 == some true) (fun h k => rd Try.prog (Builtin.len_ #[39] 3 #[v129_44]) h fun v => k v h) h31 fun v130_45 h32 =>
  gd (yb v126_41 == some true) (fun h k => rd Try.prog (bop Go.BinOp.eql 3 (Go.Operand.tmp 130) (Go.Operand.const (Go.Value.int Go.IntKind.i64 0)) v130_45 (Go.Value.int Go.IntKind.i64 0)) noHp fun v => k v h) h32 fun v131_46 h33 =>
  rd Try.prog (pck v126_41 v131_46 (Go.Value.bool false)) noHp fun v132_47 =>
  K (((((((((((((((((((((((((((((((((((((((((((((((((env.set 85 (env 10)).set 86 (env 10)).set 87 v87_2).set 88 v88_3).set 89 v88_3).set 90 v90_5).set 91 v91_6).set 92 v92_7).set 93 v92_7).set 94 v94_9).set 95 v95_10).set 96 v96_11).set 97 v96_11).set 98 v98_13).set 99 v99_14).set 100 v100_15).set 101 v100_15).set 102 v102_17).set 103 v103_18).set 104 v104_19).set 105 v105_20).set 106 v106_21).set 107 v107_22).set 108 v108_23).set 109 v109_24).set 110 v110_25).set 111 v111_26).set 112 v112_27).set 113 v113_28).set 114 v114_29).set 115 v115_30).set 116 v116_31).set 117 v117_32).set 118 v118_33).set 119 v119_34).set 120 v120_35).set 121 v120_35).set 122 v122_37).set 123 v123_38).set 124 v124_39).set 125 v125_40).set 126 v126_41).set 127 v126_41).set 128 v128_43).set 129 v129_44).set 130 v130_45).set 131 v131_46).set 132 v132_47).set 4 v132_47) h33
@[congr] theorem octroilaw09_RibGone_r15_congr {env : Env} {h : Hp} {K : Env → Hp → Prop} : octroilaw09_RibGone_r15 env h K = octroilaw09_RibGone_r15 env h K := rfl

def octroilaw09_RibGone_D : Den := (sq (rg octroilaw09_RibGone_r0) (sq (rg octroilaw09_RibGone_r1) (sq (rg octroilaw09_RibGone_r2) (sq (rg octroilaw09_RibGone_r3) (sq (sq (rg octroilaw09_RibGone_r4) (cnd (Go.Operand.tmp 34) (sq (rg octroilaw09_RibGone_r5) (ex .ret)) (ex .normal))) (sq (rg octroilaw09_RibGone_r6) (sq (rg octroilaw09_RibGone_r7) (sq (sq (rg octroilaw09_RibGone_r8) (cnd (Go.Operand.tmp 51) (sq (rg octroilaw09_RibGone_r9) (ex .ret)) (ex .normal))) (sq (rg octroilaw09_RibGone_r10) (sq (rg octroilaw09_RibGone_r11) (sq (rg octroilaw09_RibGone_r12) (sq (rg octroilaw09_RibGone_r13) (sq (rg octroilaw09_RibGone_r14) (sq (rg octroilaw09_RibGone_r15) (ex .ret)))))))))))))))

theorem octroilaw09_RibGone_eq : (den Try.prog 133 octroilaw09_RibGone_code).1 = octroilaw09_RibGone_D := by kernel_rfl

theorem octroilaw09_RibGone_ok {args : Array Value} {h : Hp} {Q : Value → Hp → Prop} (hn : args.size ≤ 133) (D : octroilaw09_RibGone_D (fin Try.prog [(Go.ResultVar.tmp 4)] Q) (env0 args) h) : Ok Try.prog 8 args h Q :=
  ok_of_den progIsOk Try.func8 (c := octroilaw09_RibGone_code) (by kernel_rfl) hn (by show (den Try.prog 133 octroilaw09_RibGone_code).1 _ _ _; rw [octroilaw09_RibGone_eq]; exact D)

/-! ### octroi/octroilaw09.RibDoes: function 9 -/
noncomputable def octroilaw09_RibDoes_code : Code := match Try.f9.body with | some c => c | none => .skip

/-- law.go:41 -/
def octroilaw09_RibDoes_r0 (env : Env) (h : Hp) (K : Env → Hp → Prop) : Prop :=
  K (env.set 6 (Go.Value.bool false)) h
@[congr] theorem octroilaw09_RibDoes_r0_congr {env : Env} {h : Hp} {K : Env → Hp → Prop} : octroilaw09_RibDoes_r0 env h K = octroilaw09_RibDoes_r0 env h K := rfl

/-- law.go:42 -/
def octroilaw09_RibDoes_r1 (env : Env) (h : Hp) (K : Env → Hp → Prop) : Prop :=
  Ok Try.prog 11 #[] h fun v21_0 h1 =>
  K ((env.set 21 v21_0).set 7 v21_0) h1
@[congr] theorem octroilaw09_RibDoes_r1_congr {env : Env} {h : Hp} {K : Env → Hp → Prop} : octroilaw09_RibDoes_r1 env h K = octroilaw09_RibDoes_r1 env h K := rfl

/-- law.go:43 -/
def octroilaw09_RibDoes_r2 (env : Env) (h : Hp) (K : Env → Hp → Prop) : Prop :=
  Ok Try.prog 16 #[(env 0)] h fun v23_1 h1 =>
  K (((env.set 22 (env 0)).set 23 v23_1).set 8 v23_1) h1
@[congr] theorem octroilaw09_RibDoes_r2_congr {env : Env} {h : Hp} {K : Env → Hp → Prop} : octroilaw09_RibDoes_r2 env h K = octroilaw09_RibDoes_r2 env h K := rfl

/-- law.go:44 -/
def octroilaw09_RibDoes_r3 (env : Env) (h : Hp) (K : Env → Hp → Prop) : Prop :=
  rd Try.prog (Op.unary Go.UnOp.not (env 7)) noHp fun v25_1 =>
  gd (yb v25_1 == some false) (fun h k => k (env 8) h) h fun v27_3 h1 =>
  gd (yb v25_1 == some false) (fun h k => rd Try.prog (bop Go.BinOp.eql 33 (Go.Operand.tmp 27) (Go.Operand.const (Go.Value.pointer none)) v27_3 (Go.Value.pointer none)) noHp fun v => k v h) h1 fun v28_4 h2 =>
  rd Try.prog (pck v25_1 (Go.Value.bool true) v28_4) noHp fun v29_5 =>
  gd (yb v29_5 == some false) (fun h k => k (env 1) h) h2 fun v31_7 h3 =>
  gd (yb v29_5 == some false) (fun h k => rd Try.prog (Builtin.len_ #[48] 3 #[v31_7]) h fun v => k v h) h3 fun v32_8 h4 =>
  gd (yb v29_5 == some false) (fun h k => rd Try.prog (bop Go.BinOp.gtr 3 (Go.Operand.tmp 32) (Go.Operand.const (Go.Value.int Go.IntKind.i64 150)) v32_8 (Go.Value.int Go.IntKind.i64 150)) noHp fun v => k v h) h4 fun v33_9 h5 =>
  rd Try.prog (pck v29_5 (Go.Value.bool true) v33_9) noHp fun v34_10 =>
  K (((((((((((env.set 24 (env 7)).set 25 v25_1).set 26 v25_1).set 27 v27_3).set 28 v28_4).set 29 v29_5).set 30 v29_5).set 31 v31_7).set 32 v32_8).set 33 v33_9).set 34 v34_10) h5
@[congr] theorem octroilaw09_RibDoes_r3_congr {env : Env} {h : Hp} {K : Env → Hp → Prop} : octroilaw09_RibDoes_r3 env h K = octroilaw09_RibDoes_r3 env h K := rfl

/-- law.go:45 -/
def octroilaw09_RibDoes_r4 (env : Env) (h : Hp) (K : Env → Hp → Prop) : Prop :=
  gd (yb (env 7) == some true) (fun h k => k (env 8) h) h fun v37_2 h1 =>
  gd (yb (env 7) == some true) (fun h k => rd Try.prog (bop Go.BinOp.neq 33 (Go.Operand.tmp 37) (Go.Operand.const (Go.Value.pointer none)) v37_2 (Go.Value.pointer none)) noHp fun v => k v h) h1 fun v38_3 h2 =>
  rd Try.prog (pck (env 7) v38_3 (Go.Value.bool false)) noHp fun v39_4 =>
  K ((((((env.set 35 (env 7)).set 36 (env 7)).set 37 v37_2).set 38 v38_3).set 39 v39_4).set 6 v39_4) h2
@[congr] theorem octroilaw09_RibDoes_r4_congr {env : Env} {h : Hp} {K : Env → Hp → Prop} : octroilaw09_RibDoes_r4 env h K = octroilaw09_RibDoes_r4 env h K := rfl

/-- law.go:47 -/
def octroilaw09_RibDoes_r5 (env : Env) (h : Hp) (K : Env → Hp → Prop) : Prop :=
  Ok Try.prog 24 #[(env 0)] h fun v41_1 h1 =>
  K (((env.set 40 (env 0)).set 41 v41_1).set 9 v41_1) h1
@[congr] theorem octroilaw09_RibDoes_r5_congr {env : Env} {h : Hp} {K : Env → Hp → Prop} : octroilaw09_RibDoes_r5 env h K = octroilaw09_RibDoes_r5 env h K := rfl

/-- law.go:48 -/
def octroilaw09_RibDoes_r6 (env : Env) (h : Hp) (K : Env → Hp → Prop) : Prop :=
  K (env.set 10 (Go.Value.int Go.IntKind.i64 0)) h
@[congr] theorem octroilaw09_RibDoes_r6_congr {env : Env} {h : Hp} {K : Env → Hp → Prop} : octroilaw09_RibDoes_r6 env h K = octroilaw09_RibDoes_r6 env h K := rfl

/-- law.go:48 -/
def octroilaw09_RibDoes_r7 (env : Env) (h : Hp) (K : Env → Hp → Prop) : Prop :=
  rd Try.prog (Builtin.len_ #[48] 3 #[(env 1)]) h fun v44_2 =>
  rd Try.prog (bop Go.BinOp.lss 3 (Go.Operand.tmp 42) (Go.Operand.tmp 44) (env 10) v44_2) noHp fun v45_3 =>
  K ((((env.set 42 (env 10)).set 43 (env 1)).set 44 v44_2).set 45 v45_3) h
@[congr] theorem octroilaw09_RibDoes_r7_congr {env : Env} {h : Hp} {K : Env → Hp → Prop} : octroilaw09_RibDoes_r7 env h K = octroilaw09_RibDoes_r7 env h K := rfl

/-- law.go:49 -/
def octroilaw09_RibDoes_r8 (env : Env) (h : Hp) (K : Env → Hp → Prop) : Prop :=
  K (env.set 11 (Go.Value.bool true)) h
@[congr] theorem octroilaw09_RibDoes_r8_congr {env : Env} {h : Hp} {K : Env → Hp → Prop} : octroilaw09_RibDoes_r8 env h K = octroilaw09_RibDoes_r8 env h K := rfl

/-- law.go:50 -/
def octroilaw09_RibDoes_r9 (env : Env) (h : Hp) (K : Env → Hp → Prop) : Prop :=
  rd Try.prog (Instr.indexAt 48 (env 1) (env 10)) noHp fun v50_2 =>
  rd Try.prog (Instr.fieldAt 52 v50_2 0) noHp fun v51_3 =>
  rd Try.prog (Instr.loadAt 3 v51_3) h fun v52_4 =>
  rd Try.prog (bop Go.BinOp.eql 3 (Go.Operand.tmp 52) (Go.Operand.const (Go.Value.int Go.IntKind.i64 0)) v52_4 (Go.Value.int Go.IntKind.i64 0)) noHp fun v53_5 =>
  K ((((((env.set 48 (env 1)).set 49 (env 10)).set 50 v50_2).set 51 v51_3).set 52 v52_4).set 53 v53_5) h
@[congr] theorem octroilaw09_RibDoes_r9_congr {env : Env} {h : Hp} {K : Env → Hp → Prop} : octroilaw09_RibDoes_r9 env h K = octroilaw09_RibDoes_r9 env h K := rfl

/-- law.go:51 (in any order) -/
def octroilaw09_RibDoes_r10 (env : Env) (h : Hp) (K : Env → Hp → Prop) : Prop :=
  rd Try.prog (Instr.indexAt 48 (env 1) (env 10)) noHp fun v57_3 =>
  rd Try.prog (Instr.fieldAt 52 v57_3 1) noHp fun v58_4 =>
  rd Try.prog (Instr.loadAt 27 v58_4) h fun v59_5 =>
  rd Try.prog (Instr.indexAt 48 (env 1) (env 10)) noHp fun v64_9 =>
  rd Try.prog (Instr.fieldAt 52 v64_9 1) noHp fun v65_10 =>
  rd Try.prog (Instr.loadAt 27 v65_10) h fun v66_11 =>
  Ok Try.prog 17 #[(env 8), v59_5] h fun v60_12 h1 =>
  (rrun Try.prog (Instr.loadAt 27 v65_10) h1 = some v66_11 ∧ True) ∧
  Ok Try.prog 25 #[(env 9), v66_11] h1 fun v67_13 h2 =>
  (True) ∧
  rd Try.prog (bop Go.BinOp.eql 35 (Go.Operand.tmp 60) (Go.Operand.tmp 67) v60_12 v67_13) noHp fun v68_14 =>
  K ((((((((((((((((env.set 54 (env 8)).set 55 (env 1)).set 56 (env 10)).set 57 v57_3).set 58 v58_4).set 59 v59_5).set 61 (env 9)).set 62 (env 1)).set 63 (env 10)).set 64 v64_9).set 65 v65_10).set 66 v66_11).set 60 v60_12).set 67 v67_13).set 68 v68_14).set 11 v68_14) h2
@[congr] theorem octroilaw09_RibDoes_r10_congr {env : Env} {h : Hp} {K : Env → Hp → Prop} : octroilaw09_RibDoes_r10 env h K = octroilaw09_RibDoes_r10 env h K := rfl

/-- law.go:53 -/
def octroilaw09_RibDoes_r11 (env : Env) (h : Hp) (K : Env → Hp → Prop) : Prop :=
  rd Try.prog (Instr.indexAt 48 (env 1) (env 10)) noHp fun v71_2 =>
  rd Try.prog (Instr.fieldAt 52 v71_2 0) noHp fun v72_3 =>
  rd Try.prog (Instr.loadAt 3 v72_3) h fun v73_4 =>
  rd Try.prog (bop Go.BinOp.eql 3 (Go.Operand.tmp 73) (Go.Operand.const (Go.Value.int Go.IntKind.i64 1)) v73_4 (Go.Value.int Go.IntKind.i64 1)) noHp fun v74_5 =>
  K ((((((env.set 69 (env 1)).set 70 (env 10)).set 71 v71_2).set 72 v72_3).set 73 v73_4).set 74 v74_5) h
@[congr] theorem octroilaw09_RibDoes_r11_congr {env : Env} {h : Hp} {K : Env → Hp → Prop} : octroilaw09_RibDoes_r11 env h K = octroilaw09_RibDoes_r11 env h K := rfl

/-- law.go:54 (in any order) -/
def octroilaw09_RibDoes_r12 (env : Env) (h : Hp) (K : Env → Hp → Prop) : Prop :=
  rd Try.prog (Instr.indexAt 48 (env 1) (env 10)) noHp fun v78_3 =>
  rd Try.prog (Instr.fieldAt 52 v78_3 1) noHp fun v79_4 =>
  rd Try.prog (Instr.fieldAt 27 v79_4 0) noHp fun v80_5 =>
  rd Try.prog (Instr.loadAt 24 v80_5) h fun v81_6 =>
  rd Try.prog (Instr.indexAt 48 (env 1) (env 10)) noHp fun v84_9 =>
  rd Try.prog (Instr.fieldAt 52 v84_9 1) noHp fun v85_10 =>
  rd Try.prog (Instr.fieldAt 27 v85_10 1) noHp fun v86_11 =>
  rd Try.prog (Instr.loadAt 3 v86_11) h fun v87_12 =>
  rd Try.prog (Instr.indexAt 48 (env 1) (env 10)) noHp fun v92_16 =>
  rd Try.prog (Instr.fieldAt 52 v92_16 1) noHp fun v93_17 =>
  rd Try.prog (Instr.fieldAt 27 v93_17 0) noHp fun v94_18 =>
  rd Try.prog (Instr.loadAt 24 v94_18) h fun v95_19 =>
  rd Try.prog (Instr.indexAt 48 (env 1) (env 10)) noHp fun v98_22 =>
  rd Try.prog (Instr.fieldAt 52 v98_22 1) noHp fun v99_23 =>
  rd Try.prog (Instr.fieldAt 27 v99_23 1) noHp fun v100_24 =>
  rd Try.prog (Instr.loadAt 3 v100_24) h fun v101_25 =>
  Ok Try.prog 23 #[(env 8), v81_6, v87_12] h fun v88_26 h1 =>
  (rrun Try.prog (Instr.loadAt 3 v100_24) h1 = some v101_25 ∧ rrun Try.prog (Instr.loadAt 24 v94_18) h1 = some v95_19 ∧ True) ∧
  Ok Try.prog 26 #[(env 9), v95_19, v101_25] h1 fun v102_27 h2 =>
  (True) ∧
  rd Try.prog (bop Go.BinOp.eql 35 (Go.Operand.tmp 88) (Go.Operand.tmp 102) v88_26 v102_27) noHp fun v103_28 =>
  K ((((((((((((((((((((((((((((((env.set 75 (env 8)).set 76 (env 1)).set 77 (env 10)).set 78 v78_3).set 79 v79_4).set 80 v80_5).set 81 v81_6).set 82 (env 1)).set 83 (env 10)).set 84 v84_9).set 85 v85_10).set 86 v86_11).set 87 v87_12).set 89 (env 9)).set 90 (env 1)).set 91 (env 10)).set 92 v92_16).set 93 v93_17).set 94 v94_18).set 95 v95_19).set 96 (env 1)).set 97 (env 10)).set 98 v98_22).set 99 v99_23).set 100 v100_24).set 101 v101_25).set 88 v88_26).set 102 v102_27).set 103 v103_28).set 11 v103_28) h2
@[congr] theorem octroilaw09_RibDoes_r12_congr {env : Env} {h : Hp} {K : Env → Hp → Prop} : octroilaw09_RibDoes_r12 env h K = octroilaw09_RibDoes_r12 env h K := rfl

/-- law.go:56 (in any order) -/
def octroilaw09_RibDoes_r13 (env : Env) (h : Hp) (K : Env → Hp → Prop) : Prop :=
  nck (env 9) (
  rd Try.prog (Instr.fieldAt 54 (env 9) 1) noHp fun v108_3 =>
  rd Try.prog (Instr.loadAt 39 v108_3) h fun v109_4 =>
  Ok Try.prog 19 #[(env 8)] h fun v105_5 h1 =>
  (rrun Try.prog (Instr.loadAt 39 v108_3) h1 = some v109_4 ∧ True) ∧
  Ok Try.prog 22 #[v105_5, v109_4] h1 fun v110_6 h2 =>
  (True) ∧
  K ((((((((env.set 104 (env 8)).set 106 (env 9)).set 107 (env 9)).set 108 v108_3).set 109 v109_4).set 105 v105_5).set 110 v110_6).set 12 v110_6) h2)
@[congr] theorem octroilaw09_RibDoes_r13_congr {env : Env} {h : Hp} {K : Env → Hp → Prop} : octroilaw09_RibDoes_r13 env h K = octroilaw09_RibDoes_r13 env h K := rfl

/-- law.go:57 -/
def octroilaw09_RibDoes_r14 (env : Env) (h : Hp) (K : Env → Hp → Prop) : Prop :=
  rd Try.prog (Instr.indexAt 48 (env 1) (env 10)) noHp fun v115_3 =>
  rd Try.prog (Instr.fieldAt 52 v115_3 1) noHp fun v116_4 =>
  rd Try.prog (Instr.fieldAt 27 v116_4 0) noHp fun v117_5 =>
  rd Try.prog (Instr.loadAt 24 v117_5) h fun v118_6 =>
  Ok Try.prog 20 #[(env 8), v118_6] h fun v119_7 h1 =>
  rd Try.prog (Instr.extract v119_7 0) noHp fun v120_9 =>
  rd Try.prog (Instr.extract v119_7 1) noHp fun v121_10 =>
  arun Try.prog (Instr.alloc 27 true (Go.Value.tuple #[])) h1 fun v13_11 h2 =>
  arun Try.prog (Instr.storeAt 27 v13_11 v120_9) h2 fun _ h3 =>
  K (((((((((((((env.set 112 (env 8)).set 113 (env 1)).set 114 (env 10)).set 115 v115_3).set 116 v116_4).set 117 v117_5).set 118 v118_6).set 119 v119_7).set 111 v119_7).set 120 v120_9).set 121 v121_10).set 13 v13_11).set 14 v121_10) h3
@[congr] theorem octroilaw09_RibDoes_r14_congr {env : Env} {h : Hp} {K : Env → Hp → Prop} : octroilaw09_RibDoes_r14 env h K = octroilaw09_RibDoes_r14 env h K := rfl

/-- law.go:58 -/
def octroilaw09_RibDoes_r15 (env : Env) (h : Hp) (K : Env → Hp → Prop) : Prop :=
  rd Try.prog (Instr.indexAt 48 (env 1) (env 10)) noHp fun v126_3 =>
  rd Try.prog (Instr.fieldAt 52 v126_3 1) noHp fun v127_4 =>
  rd Try.prog (Instr.fieldAt 27 v127_4 0) noHp fun v128_5 =>
  rd Try.prog (Instr.loadAt 24 v128_5) h fun v129_6 =>
  Ok Try.prog 27 #[(env 9), v129_6] h fun v130_7 h1 =>
  rd Try.prog (Instr.extract v130_7 0) noHp fun v131_9 =>
  rd Try.prog (Instr.extract v130_7 1) noHp fun v132_10 =>
  arun Try.prog (Instr.alloc 27 true (Go.Value.tuple #[])) h1 fun v15_11 h2 =>
  arun Try.prog (Instr.storeAt 27 v15_11 v131_9) h2 fun _ h3 =>
  K (((((((((((((env.set 123 (env 9)).set 124 (env 1)).set 125 (env 10)).set 126 v126_3).set 127 v127_4).set 128 v128_5).set 129 v129_6).set 130 v130_7).set 122 v130_7).set 131 v131_9).set 132 v132_10).set 15 v15_11).set 16 v132_10) h3
@[congr] theorem octroilaw09_RibDoes_r15_congr {env : Env} {h : Hp} {K : Env → Hp → Prop} : octroilaw09_RibDoes_r15 env h K = octroilaw09_RibDoes_r15 env h K := rfl

/-- law.go:59 -/
def octroilaw09_RibDoes_r16 (env : Env) (h : Hp) (K : Env → Hp → Prop) : Prop :=
  Ok Try.prog 21 #[(env 8), (env 2)] h fun v136_2 h1 =>
  rd Try.prog (Instr.extract v136_2 0) noHp fun v137_4 =>
  rd Try.prog (Instr.extract v136_2 1) noHp fun v138_5 =>
  arun Try.prog (Instr.alloc 27 true (Go.Value.tuple #[])) h1 fun v17_6 h2 =>
  arun Try.prog (Instr.storeAt 27 v17_6 v137_4) h2 fun _ h3 =>
  K ((((((((env.set 134 (env 8)).set 135 (env 2)).set 136 v136_2).set 133 v136_2).set 137 v137_4).set 138 v138_5).set 17 v17_6).set 18 v138_5) h3
@[congr] theorem octroilaw09_RibDoes_r16_congr {env : Env} {h : Hp} {K : Env → Hp → Prop} : octroilaw09_RibDoes_r16 env h K = octroilaw09_RibDoes_r16 env h K := rfl

/-- law.go:60 -/
def octroilaw09_RibDoes_r17 (env : Env) (h : Hp) (K : Env → Hp → Prop) : Prop :=
  Ok Try.prog 28 #[(env 9), (env 2)] h fun v142_2 h1 =>
  rd Try.prog (Instr.extract v142_2 0) noHp fun v143_4 =>
  rd Try.prog (Instr.extract v142_2 1) noHp fun v144_5 =>
  arun Try.prog (Instr.alloc 27 true (Go.Value.tuple #[])) h1 fun v19_6 h2 =>
  arun Try.prog (Instr.storeAt 27 v19_6 v143_4) h2 fun _ h3 =>
  K ((((((((env.set 140 (env 9)).set 141 (env 2)).set 142 v142_2).set 139 v142_2).set 143 v143_4).set 144 v144_5).set 19 v19_6).set 20 v144_5) h3
@[congr] theorem octroilaw09_RibDoes_r17_congr {env : Env} {h : Hp} {K : Env → Hp → Prop} : octroilaw09_RibDoes_r17 env h K = octroilaw09_RibDoes_r17 env h K := rfl

/-- law.go:61 (in any order) -/
def octroilaw09_RibDoes_r18 (env : Env) (h : Hp) (K : Env → Hp → Prop) : Prop :=
  rd Try.prog (Op.unary Go.UnOp.not (env 11)) noHp fun v146_1 =>
  gd (yb v146_1 == some false) (fun h k => k (env 12) h) h fun v148_3 h1 =>
  gd (yb v146_1 == some false) (fun h k => rd Try.prog (Op.unary Go.UnOp.not v148_3) noHp fun v => k v h) h1 fun v149_4 h2 =>
  rd Try.prog (pck v146_1 (Go.Value.bool true) v149_4) noHp fun v150_5 =>
  gd (yb v150_5 == some false) (fun h k => rd Try.prog (Instr.loadAt 27 (env 13)) h fun v => k v h) h2 fun v152_7 h3 =>
  gd (yb v150_5 == some false) (fun h k => rd Try.prog (Instr.loadAt 27 (env 15)) h fun v => k v h) h3 fun v153_8 h4 =>
  gd (yb v150_5 == some false) (fun h k => rd Try.prog (bop Go.BinOp.neq 27 (Go.Operand.tmp 152) (Go.Operand.tmp 153) v152_7 v153_8) noHp fun v => k v h) h4 fun v154_9 h5 =>
  rd Try.prog (pck v150_5 (Go.Value.bool true) v154_9) noHp fun v155_10 =>
  gd (yb v155_10 == some false) (fun h k => k (env 14) h) h5 fun v157_12 h6 =>
  gd (yb v155_10 == some false) (fun h k => k (env 16) h) h6 fun v158_13 h7 =>
  gd (yb v155_10 == some false) (fun h k => rd Try.prog (bop Go.BinOp.neq 4 (Go.Operand.tmp 157) (Go.Operand.tmp 158) v157_12 v158_13) noHp fun v => k v h) h7 fun v159_14 h8 =>
  rd Try.prog (pck v155_10 (Go.Value.bool true) v159_14) noHp fun v160_15 =>
  gd (yb v160_15 == some false) (fun h k => rd Try.prog (Instr.loadAt 27 (env 17)) h fun v => k v h) h8 fun v162_17 h9 =>
  gd (yb v160_15 == some false) (fun h k => rd Try.prog (Instr.loadAt 27 (env 19)) h fun v => k v h) h9 fun v163_18 h10 =>
  gd (yb v160_15 == some false) (fun h k => rd Try.prog (bop Go.BinOp.neq 27 (Go.Operand.tmp 162) (Go.Operand.tmp 163) v162_17 v163_18) noHp fun v => k v h) h10 fun v164_19 h11 =>
  rd Try.prog (pck v160_15 (Go.Value.bool true) v164_19) noHp fun v165_20 =>
  gd (yb v165_20 == some false) (fun h k => k (env 18) h) h11 fun v167_22 h12 =>
  gd (yb v165_20 == some false) (fun h k => k (env 20) h) h12 fun v168_23 h13 =>
  gd (yb v165_20 == some false) (fun h k => rd Try.prog (bop Go.BinOp.neq 4 (Go.Operand.tmp 167) (Go.Operand.tmp 168) v167_22 v168_23) noHp fun v => k v h) h13 fun v169_24 h14 =>
  rd Try.prog (pck v165_20 (Go.Value.bool true) v169_24) noHp fun v170_25 =>
  gd (yb v170_25 == some false) (fun h k => k (env 8) h) h14 fun v172_27 h15 =>
  gd (yb v170_25 == some false) (fun h k => k (env 9) h) h15 fun v174_28 h16 =>
  gd (yb v170_25 == some false) (fun h k => nck v174_28 (k v174_28 h)) h16 fun v175_29 h17 =>
  gd (yb v170_25 == some false) (fun h k => rd Try.prog (Instr.fieldAt 54 v175_29 2) noHp fun v => k v h) h17 fun v176_30 h18 =>
  gd (yb v170_25 == some false) (fun h k => rd Try.prog (Instr.loadAt 3 v176_30) h fun v => k v h) h18 fun v177_31 h19 =>
  gd (yb v170_25 == some false) (fun h k => Ok Try.prog 18 #[v172_27] h k) h19 fun v173_32 h20 =>
  (((yb v170_25 == some false) = true → rrun Try.prog (Instr.loadAt 3 v176_30) h20 = some v177_31) ∧ True) ∧
  gd (yb v170_25 == some false) (fun h k => rd Try.prog (bop Go.BinOp.neq 3 (Go.Operand.tmp 173) (Go.Operand.tmp 177) v173_32 v177_31) noHp fun v => k v h) h20 fun v178_33 h21 =>
  rd Try.prog (pck v170_25 (Go.Value.bool true) v178_33) noHp fun v179_34 =>
  K (((((((((((((((((((((((((((((((((((env.set 145 (env 11)).set 146 v146_1).set 147 v146_1).set 148 v148_3).set 149 v149_4).set 150 v150_5).set 151 v150_5).set 152 v152_7).set 153 v153_8).set 154 v154_9).set 155 v155_10).set 156 v155_10).set 157 v157_12).set 158 v158_13).set 159 v159_14).set 160 v160_15).set 161 v160_15).set 162 v162_17).set 163 v163_18).set 164 v164_19).set 165 v165_20).set 166 v165_20).set 167 v167_22).set 168 v168_23).set 169 v169_24).set 170 v170_25).set 171 v170_25).set 172 v172_27).set 174 v174_28).set 175 v175_29).set 176 v176_30).set 177 v177_31).set 173 v173_32).set 178 v178_33).set 179 v179_34) h21
@[congr] theorem octroilaw09_RibDoes_r18_congr {env : Env} {h : Hp} {K : Env → Hp → Prop} : octroilaw09_RibDoes_r18 env h K = octroilaw09_RibDoes_r18 env h K := rfl

/-- law.go:62 -/
def octroilaw09_RibDoes_r19 (env : Env) (h : Hp) (K : Env → Hp → Prop) : Prop :=
  K (env.set 6 (Go.Value.bool false)) h
@[congr] theorem octroilaw09_RibDoes_r19_congr {env : Env} {h : Hp} {K : Env → Hp → Prop} : octroilaw09_RibDoes_r19 env h K = octroilaw09_RibDoes_r19 env h K := rfl

/-- law.go:48 -/
def octroilaw09_RibDoes_r20 (env : Env) (h : Hp) (K : Env → Hp → Prop) : Prop :=
  rd Try.prog (bop Go.BinOp.add 3 (Go.Operand.tmp 46) (Go.Operand.const (Go.Value.int Go.IntKind.i64 1)) (env 10) (Go.Value.int Go.IntKind.i64 1)) noHp fun v47_1 =>
  K (((env.set 46 (env 10)).set 47 v47_1).set 10 v47_1) h
@[congr] theorem octroilaw09_RibDoes_r20_congr {env : Env} {h : Hp} {K : Env → Hp → Prop} : octroilaw09_RibDoes_r20 env h K = octroilaw09_RibDoes_r20 env h K := rfl

def octroilaw09_RibDoes_L0 : Den := (sq (sq (rg octroilaw09_RibDoes_r7) (cnd (Go.Operand.tmp 45) (ex .normal) (ex (.exit 0)))) (sq (blk 1 (sq (rg octroilaw09_RibDoes_r8) (sq (sq (rg octroilaw09_RibDoes_r9) (cnd (Go.Operand.tmp 53) (rg octroilaw09_RibDoes_r10) (ex .normal))) (sq (sq (rg octroilaw09_RibDoes_r11) (cnd (Go.Operand.tmp 74) (rg octroilaw09_RibDoes_r12) (ex .normal))) (sq (rg octroilaw09_RibDoes_r13) (sq (rg octroilaw09_RibDoes_r14) (sq (rg octroilaw09_RibDoes_r15) (sq (rg octroilaw09_RibDoes_r16) (sq (rg octroilaw09_RibDoes_r17) (sq (rg octroilaw09_RibDoes_r18) (cnd (Go.Operand.tmp 179) (sq (rg octroilaw09_RibDoes_r19) (ex .ret)) (ex .normal)))))))))))) (rg octroilaw09_RibDoes_r20)))

/-- law.go:65 -/
def octroilaw09_RibDoes_r21 (env : Env) (h : Hp) (K : Env → Hp → Prop) : Prop :=
  K (env.set 6 (Go.Value.bool true)) h
@[congr] theorem octroilaw09_RibDoes_r21_congr {env : Env} {h : Hp} {K : Env → Hp → Prop} : octroilaw09_RibDoes_r21 env h K = octroilaw09_RibDoes_r21 env h K := rfl

def octroilaw09_RibDoes_D : Den := (sq (rg octroilaw09_RibDoes_r0) (sq (rg octroilaw09_RibDoes_r1) (sq (rg octroilaw09_RibDoes_r2) (sq (sq (rg octroilaw09_RibDoes_r3) (cnd (Go.Operand.tmp 34) (sq (rg octroilaw09_RibDoes_r4) (ex .ret)) (ex .normal))) (sq (rg octroilaw09_RibDoes_r5) (sq (sq (rg octroilaw09_RibDoes_r6) (blk 0 (lp octroilaw09_RibDoes_L0))) (sq (rg octroilaw09_RibDoes_r21) (ex .ret))))))))

theorem octroilaw09_RibDoes_eq : (den Try.prog 180 octroilaw09_RibDoes_code).1 = octroilaw09_RibDoes_D := by kernel_rfl

theorem octroilaw09_RibDoes_ok {args : Array Value} {h : Hp} {Q : Value → Hp → Prop} (hn : args.size ≤ 180) (D : octroilaw09_RibDoes_D (fin Try.prog [(Go.ResultVar.tmp 6)] Q) (env0 args) h) : Ok Try.prog 9 args h Q :=
  ok_of_den progIsOk Try.func9 (c := octroilaw09_RibDoes_code) (by kernel_rfl) hn (by show (den Try.prog 180 octroilaw09_RibDoes_code).1 _ _ _; rw [octroilaw09_RibDoes_eq]; exact D)

/-! ### octroi/octroilaw09.RibTakes: function 10 -/
noncomputable def octroilaw09_RibTakes_code : Code := match Try.f10.body with | some c => c | none => .skip

/-- law.go:115 -/
def octroilaw09_RibTakes_r0 (env : Env) (h : Hp) (K : Env → Hp → Prop) : Prop :=
  K (env.set 6 (Go.Value.bool false)) h
@[congr] theorem octroilaw09_RibTakes_r0_congr {env : Env} {h : Hp} {K : Env → Hp → Prop} : octroilaw09_RibTakes_r0 env h K = octroilaw09_RibTakes_r0 env h K := rfl

/-- law.go:116 -/
def octroilaw09_RibTakes_r1 (env : Env) (h : Hp) (K : Env → Hp → Prop) : Prop :=
  Ok Try.prog 11 #[] h fun v14_0 h1 =>
  K ((env.set 14 v14_0).set 7 v14_0) h1
@[congr] theorem octroilaw09_RibTakes_r1_congr {env : Env} {h : Hp} {K : Env → Hp → Prop} : octroilaw09_RibTakes_r1 env h K = octroilaw09_RibTakes_r1 env h K := rfl

/-- law.go:117 -/
def octroilaw09_RibTakes_r2 (env : Env) (h : Hp) (K : Env → Hp → Prop) : Prop :=
  Ok Try.prog 16 #[(env 0)] h fun v16_1 h1 =>
  K (((env.set 15 (env 0)).set 16 v16_1).set 8 v16_1) h1
@[congr] theorem octroilaw09_RibTakes_r2_congr {env : Env} {h : Hp} {K : Env → Hp → Prop} : octroilaw09_RibTakes_r2 env h K = octroilaw09_RibTakes_r2 env h K := rfl

/-- law.go:118 -/
def octroilaw09_RibTakes_r3 (env : Env) (h : Hp) (K : Env → Hp → Prop) : Prop :=
  rd Try.prog (Op.unary Go.UnOp.not (env 7)) noHp fun v18_1 =>
  gd (yb v18_1 == some false) (fun h k => k (env 8) h) h fun v20_3 h1 =>
  gd (yb v18_1 == some false) (fun h k => rd Try.prog (bop Go.BinOp.eql 33 (Go.Operand.tmp 20) (Go.Operand.const (Go.Value.pointer none)) v20_3 (Go.Value.pointer none)) noHp fun v => k v h) h1 fun v21_4 h2 =>
  rd Try.prog (pck v18_1 (Go.Value.bool true) v21_4) noHp fun v22_5 =>
  gd (yb v22_5 == some false) (fun h k => k (env 1) h) h2 fun v24_7 h3 =>
  gd (yb v22_5 == some false) (fun h k => rd Try.prog (Builtin.len_ #[48] 3 #[v24_7]) h fun v => k v h) h3 fun v25_8 h4 =>
  gd (yb v22_5 == some false) (fun h k => rd Try.prog (bop Go.BinOp.gtr 3 (Go.Operand.tmp 25) (Go.Operand.const (Go.Value.int Go.IntKind.i64 150)) v25_8 (Go.Value.int Go.IntKind.i64 150)) noHp fun v => k v h) h4 fun v26_9 h5 =>
  rd Try.prog (pck v22_5 (Go.Value.bool true) v26_9) noHp fun v27_10 =>
  K (((((((((((env.set 17 (env 7)).set 18 v18_1).set 19 v18_1).set 20 v20_3).set 21 v21_4).set 22 v22_5).set 23 v22_5).set 24 v24_7).set 25 v25_8).set 26 v26_9).set 27 v27_10) h5
@[congr] theorem octroilaw09_RibTakes_r3_congr {env : Env} {h : Hp} {K : Env → Hp → Prop} : octroilaw09_RibTakes_r3 env h K = octroilaw09_RibTakes_r3 env h K := rfl

/-- law.go:119 -/
def octroilaw09_RibTakes_r4 (env : Env) (h : Hp) (K : Env → Hp → Prop) : Prop :=
  gd (yb (env 7) == some true) (fun h k => k (env 8) h) h fun v30_2 h1 =>
  gd (yb (env 7) == some true) (fun h k => rd Try.prog (bop Go.BinOp.neq 33 (Go.Operand.tmp 30) (Go.Operand.const (Go.Value.pointer none)) v30_2 (Go.Value.pointer none)) noHp fun v => k v h) h1 fun v31_3 h2 =>
  rd Try.prog (pck (env 7) v31_3 (Go.Value.bool false)) noHp fun v32_4 =>
  K ((((((env.set 28 (env 7)).set 29 (env 7)).set 30 v30_2).set 31 v31_3).set 32 v32_4).set 6 v32_4) h2
@[congr] theorem octroilaw09_RibTakes_r4_congr {env : Env} {h : Hp} {K : Env → Hp → Prop} : octroilaw09_RibTakes_r4 env h K = octroilaw09_RibTakes_r4 env h K := rfl

/-- law.go:121 -/
def octroilaw09_RibTakes_r5 (env : Env) (h : Hp) (K : Env → Hp → Prop) : Prop :=
  K (env.set 9 (Go.Value.int Go.IntKind.i64 0)) h
@[congr] theorem octroilaw09_RibTakes_r5_congr {env : Env} {h : Hp} {K : Env → Hp → Prop} : octroilaw09_RibTakes_r5 env h K = octroilaw09_RibTakes_r5 env h K := rfl

/-- law.go:121 -/
def octroilaw09_RibTakes_r6 (env : Env) (h : Hp) (K : Env → Hp → Prop) : Prop :=
  rd Try.prog (Builtin.len_ #[48] 3 #[(env 1)]) h fun v35_2 =>
  rd Try.prog (bop Go.BinOp.lss 3 (Go.Operand.tmp 33) (Go.Operand.tmp 35) (env 9) v35_2) noHp fun v36_3 =>
  K ((((env.set 33 (env 9)).set 34 (env 1)).set 35 v35_2).set 36 v36_3) h
@[congr] theorem octroilaw09_RibTakes_r6_congr {env : Env} {h : Hp} {K : Env → Hp → Prop} : octroilaw09_RibTakes_r6 env h K = octroilaw09_RibTakes_r6 env h K := rfl

/-- law.go:122 -/
def octroilaw09_RibTakes_r7 (env : Env) (h : Hp) (K : Env → Hp → Prop) : Prop :=
  rd Try.prog (Instr.indexAt 48 (env 1) (env 9)) noHp fun v41_2 =>
  rd Try.prog (Instr.fieldAt 52 v41_2 0) noHp fun v42_3 =>
  rd Try.prog (Instr.loadAt 3 v42_3) h fun v43_4 =>
  rd Try.prog (bop Go.BinOp.eql 3 (Go.Operand.tmp 43) (Go.Operand.const (Go.Value.int Go.IntKind.i64 1)) v43_4 (Go.Value.int Go.IntKind.i64 1)) noHp fun v44_5 =>
  K ((((((env.set 39 (env 1)).set 40 (env 9)).set 41 v41_2).set 42 v42_3).set 43 v43_4).set 44 v44_5) h
@[congr] theorem octroilaw09_RibTakes_r7_congr {env : Env} {h : Hp} {K : Env → Hp → Prop} : octroilaw09_RibTakes_r7 env h K = octroilaw09_RibTakes_r7 env h K := rfl

/-- law.go:123 (in any order) -/
def octroilaw09_RibTakes_r8 (env : Env) (h : Hp) (K : Env → Hp → Prop) : Prop :=
  rd Try.prog (Instr.indexAt 48 (env 1) (env 9)) noHp fun v48_3 =>
  rd Try.prog (Instr.fieldAt 52 v48_3 1) noHp fun v49_4 =>
  rd Try.prog (Instr.fieldAt 27 v49_4 0) noHp fun v50_5 =>
  rd Try.prog (Instr.loadAt 24 v50_5) h fun v51_6 =>
  rd Try.prog (Instr.indexAt 48 (env 1) (env 9)) noHp fun v54_9 =>
  rd Try.prog (Instr.fieldAt 52 v54_9 1) noHp fun v55_10 =>
  rd Try.prog (Instr.fieldAt 27 v55_10 1) noHp fun v56_11 =>
  rd Try.prog (Instr.loadAt 3 v56_11) h fun v57_12 =>
  Ok Try.prog 23 #[(env 8), v51_6, v57_12] h fun v58_13 h1 =>
  (True) ∧
  K ((((((((((((((env.set 45 (env 8)).set 46 (env 1)).set 47 (env 9)).set 48 v48_3).set 49 v49_4).set 50 v50_5).set 51 v51_6).set 52 (env 1)).set 53 (env 9)).set 54 v54_9).set 55 v55_10).set 56 v56_11).set 57 v57_12).set 58 v58_13) h1
@[congr] theorem octroilaw09_RibTakes_r8_congr {env : Env} {h : Hp} {K : Env → Hp → Prop} : octroilaw09_RibTakes_r8 env h K = octroilaw09_RibTakes_r8 env h K := rfl

/-- law.go:125 -/
def octroilaw09_RibTakes_r9 (env : Env) (h : Hp) (K : Env → Hp → Prop) : Prop :=
  rd Try.prog (Instr.indexAt 48 (env 1) (env 9)) noHp fun v62_3 =>
  rd Try.prog (Instr.fieldAt 52 v62_3 1) noHp fun v63_4 =>
  rd Try.prog (Instr.loadAt 27 v63_4) h fun v64_5 =>
  Ok Try.prog 17 #[(env 8), v64_5] h fun v65_6 h1 =>
  K (((((((env.set 59 (env 8)).set 60 (env 1)).set 61 (env 9)).set 62 v62_3).set 63 v63_4).set 64 v64_5).set 65 v65_6) h1
@[congr] theorem octroilaw09_RibTakes_r9_congr {env : Env} {h : Hp} {K : Env → Hp → Prop} : octroilaw09_RibTakes_r9 env h K = octroilaw09_RibTakes_r9 env h K := rfl

/-- law.go:121 -/
def octroilaw09_RibTakes_r10 (env : Env) (h : Hp) (K : Env → Hp → Prop) : Prop :=
  rd Try.prog (bop Go.BinOp.add 3 (Go.Operand.tmp 37) (Go.Operand.const (Go.Value.int Go.IntKind.i64 1)) (env 9) (Go.Value.int Go.IntKind.i64 1)) noHp fun v38_1 =>
  K (((env.set 37 (env 9)).set 38 v38_1).set 9 v38_1) h
@[congr] theorem octroilaw09_RibTakes_r10_congr {env : Env} {h : Hp} {K : Env → Hp → Prop} : octroilaw09_RibTakes_r10 env h K = octroilaw09_RibTakes_r10 env h K := rfl

def octroilaw09_RibTakes_L0 : Den := (sq (sq (rg octroilaw09_RibTakes_r6) (cnd (Go.Operand.tmp 36) (ex .normal) (ex (.exit 0)))) (sq (blk 1 (sq (rg octroilaw09_RibTakes_r7) (cnd (Go.Operand.tmp 44) (rg octroilaw09_RibTakes_r8) (rg octroilaw09_RibTakes_r9)))) (rg octroilaw09_RibTakes_r10)))

/-- law.go:128 -/
def octroilaw09_RibTakes_r11 (env : Env) (h : Hp) (K : Env → Hp → Prop) : Prop :=
  Ok Try.prog 21 #[(env 8), (env 2)] h fun v69_2 h1 =>
  rd Try.prog (Instr.extract v69_2 0) noHp fun v70_4 =>
  rd Try.prog (Instr.extract v69_2 1) noHp fun v71_5 =>
  arun Try.prog (Instr.alloc 27 true (Go.Value.tuple #[])) h1 fun v10_6 h2 =>
  arun Try.prog (Instr.storeAt 27 v10_6 v70_4) h2 fun _ h3 =>
  K ((((((((env.set 67 (env 8)).set 68 (env 2)).set 69 v69_2).set 66 v69_2).set 70 v70_4).set 71 v71_5).set 10 v10_6).set 11 v71_5) h3
@[congr] theorem octroilaw09_RibTakes_r11_congr {env : Env} {h : Hp} {K : Env → Hp → Prop} : octroilaw09_RibTakes_r11 env h K = octroilaw09_RibTakes_r11 env h K := rfl

/-- law.go:129 -/
def octroilaw09_RibTakes_r12 (env : Env) (h : Hp) (K : Env → Hp → Prop) : Prop :=
  Ok Try.prog 19 #[(env 8)] h fun v73_1 h1 =>
  K (((env.set 72 (env 8)).set 73 v73_1).set 12 v73_1) h1
@[congr] theorem octroilaw09_RibTakes_r12_congr {env : Env} {h : Hp} {K : Env → Hp → Prop} : octroilaw09_RibTakes_r12 env h K = octroilaw09_RibTakes_r12 env h K := rfl

/-- law.go:130 -/
def octroilaw09_RibTakes_r13 (env : Env) (h : Hp) (K : Env → Hp → Prop) : Prop :=
  gd (yb (env 11) == some true) (fun h k => rd Try.prog (Instr.fieldAt 27 (env 10) 0) noHp fun v => k v h) h fun v76_2 h1 =>
  gd (yb (env 11) == some true) (fun h k => rd Try.prog (Instr.loadAt 24 v76_2) h fun v => k v h) h1 fun v77_3 h2 =>
  gd (yb (env 11) == some true) (fun h k => k (env 2) h) h2 fun v78_4 h3 =>
  gd (yb (env 11) == some true) (fun h k => Ok Try.prog 29 #[v77_3, v78_4] h k) h3 fun v79_5 h4 =>
  gd (yb (env 11) == some true) (fun h k => rd Try.prog (Op.unary Go.UnOp.not v79_5) noHp fun v => k v h) h4 fun v80_6 h5 =>
  rd Try.prog (pck (env 11) v80_6 (Go.Value.bool false)) noHp fun v81_7 =>
  gd (yb v81_7 == some false) (fun h k => k (env 12) h) h5 fun v83_9 h6 =>
  gd (yb v81_7 == some false) (fun h k => rd Try.prog (Builtin.len_ #[39] 3 #[v83_9]) h fun v => k v h) h6 fun v84_10 h7 =>
  gd (yb v81_7 == some false) (fun h k => rd Try.prog (bop Go.BinOp.gtr 3 (Go.Operand.tmp 84) (Go.Operand.const (Go.Value.int Go.IntKind.i64 64)) v84_10 (Go.Value.int Go.IntKind.i64 64)) noHp fun v => k v h) h7 fun v85_11 h8 =>
  rd Try.prog (pck v81_7 (Go.Value.bool true) v85_11) noHp fun v86_12 =>
  gd (yb v86_12 == some false) (fun h k => k (env 12) h) h8 fun v88_14 h9 =>
  gd (yb v86_12 == some false) (fun h k => rd Try.prog (Builtin.len_ #[39] 3 #[v88_14]) h fun v => k v h) h9 fun v89_15 h10 =>
  gd (yb v86_12 == some false) (fun h k => rd Try.prog (bop Go.BinOp.gtr 3 (Go.Operand.tmp 89) (Go.Operand.const (Go.Value.int Go.IntKind.i64 0)) v89_15 (Go.Value.int Go.IntKind.i64 0)) noHp fun v => k v h) h10 fun v90_16 h11 =>
  gd (yb v86_12 == some false) (fun h k => k v90_16 h) h11 fun v91_17 h12 =>
  gd (yb v91_17 == some true) (fun h k => k (env 12) h) h12 fun v92_18 h13 =>
  gd (yb v91_17 == some true) (fun h k => rd Try.prog (Builtin.len_ #[39] 3 #[v92_18]) h fun v => k v h) h13 fun v93_19 h14 =>
  gd (yb v91_17 == some true) (fun h k => k (env 0) h) h14 fun v94_20 h15 =>
  gd (yb v91_17 == some true) (fun h k => rd Try.prog (bop Go.BinOp.gtr 3 (Go.Operand.tmp 93) (Go.Operand.tmp 94) v93_19 v94_20) noHp fun v => k v h) h15 fun v95_21 h16 =>
  gd (yb v86_12 == some false) (fun h k => rd Try.prog (pck v91_17 v95_21 (Go.Value.bool false)) noHp fun v => k v h) h16 fun v96_22 h17 =>
  rd Try.prog (pck v86_12 (Go.Value.bool true) v96_22) noHp fun v97_23 =>
  K ((((((((((((((((((((((((env.set 74 (env 11)).set 75 (env 11)).set 76 v76_2).set 77 v77_3).set 78 v78_4).set 79 v79_5).set 80 v80_6).set 81 v81_7).set 82 v81_7).set 83 v83_9).set 84 v84_10).set 85 v85_11).set 86 v86_12).set 87 v86_12).set 88 v88_14).set 89 v89_15).set 90 v90_16).set 91 v91_17).set 92 v92_18).set 93 v93_19).set 94 v94_20).set 95 v95_21).set 96 v96_22).set 97 v97_23) h17
@[congr] theorem octroilaw09_RibTakes_r13_congr {env : Env} {h : Hp} {K : Env → Hp → Prop} : octroilaw09_RibTakes_r13 env h K = octroilaw09_RibTakes_r13 env h K := rfl

/-- law.go:131 -/
def octroilaw09_RibTakes_r14 (env : Env) (h : Hp) (K : Env → Hp → Prop) : Prop :=
  K (env.set 6 (Go.Value.bool false)) h
@[congr] theorem octroilaw09_RibTakes_r14_congr {env : Env} {h : Hp} {K : Env → Hp → Prop} : octroilaw09_RibTakes_r14 env h K = octroilaw09_RibTakes_r14 env h K := rfl

/-- law.go:133 -/
def octroilaw09_RibTakes_r15 (env : Env) (h : Hp) (K : Env → Hp → Prop) : Prop :=
  K (env.set 13 (Go.Value.int Go.IntKind.i64 0)) h
@[congr] theorem octroilaw09_RibTakes_r15_congr {env : Env} {h : Hp} {K : Env → Hp → Prop} : octroilaw09_RibTakes_r15 env h K = octroilaw09_RibTakes_r15 env h K := rfl

/-- law.go:133 -/
def octroilaw09_RibTakes_r16 (env : Env) (h : Hp) (K : Env → Hp → Prop) : Prop :=
  rd Try.prog (Builtin.len_ #[39] 3 #[(env 12)]) h fun v100_2 =>
  rd Try.prog (bop Go.BinOp.lss 3 (Go.Operand.tmp 98) (Go.Operand.tmp 100) (env 13) v100_2) noHp fun v101_3 =>
  K ((((env.set 98 (env 13)).set 99 (env 12)).set 100 v100_2).set 101 v101_3) h
@[congr] theorem octroilaw09_RibTakes_r16_congr {env : Env} {h : Hp} {K : Env → Hp → Prop} : octroilaw09_RibTakes_r16 env h K = octroilaw09_RibTakes_r16 env h K := rfl

/-- law.go:134 (in any order) -/
def octroilaw09_RibTakes_r17 (env : Env) (h : Hp) (K : Env → Hp → Prop) : Prop :=
  rd Try.prog (Instr.indexAt 39 (env 12) (env 13)) noHp fun v106_2 =>
  rd Try.prog (Instr.fieldAt 27 v106_2 0) noHp fun v107_3 =>
  rd Try.prog (Instr.loadAt 24 v107_3) h fun v108_4 =>
  Ok Try.prog 29 #[v108_4, (env 2)] h fun v110_6 h1 =>
  (True) ∧
  gd (yb v110_6 == some true) (fun h k => k (env 11) h) h1 fun v112_8 h2 =>
  gd (yb v110_6 == some true) (fun h k => rd Try.prog (Op.unary Go.UnOp.not v112_8) noHp fun v => k v h) h2 fun v113_9 h3 =>
  gd (yb v110_6 == some true) (fun h k => k v113_9 h) h3 fun v114_10 h4 =>
  gd (yb v114_10 == some false) (fun h k => k (env 12) h) h4 fun v115_11 h5 =>
  gd (yb v114_10 == some false) (fun h k => k (env 13) h) h5 fun v116_12 h6 =>
  gd (yb v114_10 == some false) (fun h k => rd Try.prog (Instr.indexAt 39 v115_11 v116_12) noHp fun v => k v h) h6 fun v117_13 h7 =>
  gd (yb v114_10 == some false) (fun h k => rd Try.prog (Instr.fieldAt 27 v117_13 0) noHp fun v => k v h) h7 fun v118_14 h8 =>
  gd (yb v114_10 == some false) (fun h k => rd Try.prog (Instr.fieldAt 24 v118_14 1) noHp fun v => k v h) h8 fun v119_15 h9 =>
  gd (yb v114_10 == some false) (fun h k => rd Try.prog (Instr.loadAt 3 v119_15) h fun v => k v h) h9 fun v120_16 h10 =>
  gd (yb v114_10 == some false) (fun h k => rd Try.prog (Instr.fieldAt 27 (env 10) 0) noHp fun v => k v h) h10 fun v121_17 h11 =>
  gd (yb v114_10 == some false) (fun h k => rd Try.prog (Instr.fieldAt 24 v121_17 1) noHp fun v => k v h) h11 fun v122_18 h12 =>
  gd (yb v114_10 == some false) (fun h k => rd Try.prog (Instr.loadAt 3 v122_18) h fun v => k v h) h12 fun v123_19 h13 =>
  gd (yb v114_10 == some false) (fun h k => rd Try.prog (bop Go.BinOp.gtr 3 (Go.Operand.tmp 120) (Go.Operand.tmp 123) v120_16 v123_19) noHp fun v => k v h) h13 fun v124_20 h14 =>
  gd (yb v110_6 == some true) (fun h k => rd Try.prog (pck v114_10 (Go.Value.bool true) v124_20) noHp fun v => k v h) h14 fun v125_21 h15 =>
  rd Try.prog (pck v110_6 v125_21 (Go.Value.bool false)) noHp fun v126_22 =>
  gd (yb v126_22 == some false) (fun h k => k (env 11) h) h15 fun v128_24 h16 =>
  gd (yb v126_22 == some false) (fun h k => k v128_24 h) h16 fun v129_25 h17 =>
  gd (yb v129_25 == some true) (fun h k => k (env 12) h) h17 fun v130_26 h18 =>
  gd (yb v129_25 == some true) (fun h k => k (env 13) h) h18 fun v131_27 h19 =>
  gd (yb v129_25 == some true) (fun h k => rd Try.prog (Instr.indexAt 39 v130_26 v131_27) noHp fun v => k v h) h19 fun v132_28 h20 =>
  gd (yb v129_25 == some true) (fun h k => rd Try.prog (Instr.fieldAt 27 v132_28 0) noHp fun v => k v h) h20 fun v133_29 h21 =>
  gd (yb v129_25 == some true) (fun h k => rd Try.prog (Instr.loadAt 24 v133_29) h fun v => k v h) h21 fun v134_30 h22 =>
  gd (yb v129_25 == some true) (fun h k => rd Try.prog (Instr.fieldAt 27 (env 10) 0) noHp fun v => k v h) h22 fun v135_31 h23 =>
  gd (yb v129_25 == some true) (fun h k => rd Try.prog (Instr.loadAt 24 v135_31) h fun v => k v h) h23 fun v136_32 h24 =>
  gd (yb v129_25 == some true) (fun h k => rd Try.prog (bop Go.BinOp.eql 24 (Go.Operand.tmp 134) (Go.Operand.tmp 136) v134_30 v136_32) noHp fun v => k v h) h24 fun v137_33 h25 =>
  gd (yb v126_22 == some false) (fun h k => rd Try.prog (pck v129_25 v137_33 (Go.Value.bool false)) noHp fun v => k v h) h25 fun v138_34 h26 =>
  gd (yb v126_22 == some false) (fun h k => k v138_34 h) h26 fun v139_35 h27 =>
  gd (yb v139_35 == some true) (fun h k => k (env 12) h) h27 fun v140_36 h28 =>
  gd (yb v139_35 == some true) (fun h k => k (env 13) h) h28 fun v141_37 h29 =>
  gd (yb v139_35 == some true) (fun h k => rd Try.prog (Instr.indexAt 39 v140_36 v141_37) noHp fun v => k v h) h29 fun v142_38 h30 =>
  gd (yb v139_35 == some true) (fun h k => rd Try.prog (Instr.loadAt 27 v142_38) h fun v => k v h) h30 fun v143_39 h31 =>
  gd (yb v139_35 == some true) (fun h k => rd Try.prog (Instr.loadAt 27 (env 10)) h fun v => k v h) h31 fun v144_40 h32 =>
  gd (yb v139_35 == some true) (fun h k => Ok Try.prog 13 #[v143_39, v144_40] h k) h32 fun v145_41 h33 =>
  (True) ∧
  gd (yb v126_22 == some false) (fun h k => rd Try.prog (pck v139_35 v145_41 (Go.Value.bool false)) noHp fun v => k v h) h33 fun v146_42 h34 =>
  rd Try.prog (pck v126_22 (Go.Value.bool true) v146_42) noHp fun v147_43 =>
  K ((((((((((((((((((((((((((((((((((((((((((((env.set 104 (env 12)).set 105 (env 13)).set 106 v106_2).set 107 v107_3).set 108 v108_4).set 109 (env 2)).set 110 v110_6).set 111 v110_6).set 112 v112_8).set 113 v113_9).set 114 v114_10).set 115 v115_11).set 116 v116_12).set 117 v117_13).set 118 v118_14).set 119 v119_15).set 120 v120_16).set 121 v121_17).set 122 v122_18).set 123 v123_19).set 124 v124_20).set 125 v125_21).set 126 v126_22).set 127 v126_22).set 128 v128_24).set 129 v129_25).set 130 v130_26).set 131 v131_27).set 132 v132_28).set 133 v133_29).set 134 v134_30).set 135 v135_31).set 136 v136_32).set 137 v137_33).set 138 v138_34).set 139 v139_35).set 140 v140_36).set 141 v141_37).set 142 v142_38).set 143 v143_39).set 144 v144_40).set 145 v145_41).set 146 v146_42).set 147 v147_43) h34
@[congr] theorem octroilaw09_RibTakes_r17_congr {env : Env} {h : Hp} {K : Env → Hp → Prop} : octroilaw09_RibTakes_r17 env h K = octroilaw09_RibTakes_r17 env h K := rfl

/-- law.go:135 -/
def octroilaw09_RibTakes_r18 (env : Env) (h : Hp) (K : Env → Hp → Prop) : Prop :=
  K (env.set 6 (Go.Value.bool false)) h
@[congr] theorem octroilaw09_RibTakes_r18_congr {env : Env} {h : Hp} {K : Env → Hp → Prop} : octroilaw09_RibTakes_r18 env h K = octroilaw09_RibTakes_r18 env h K := rfl

/-- law.go:133 -/
def octroilaw09_RibTakes_r19 (env : Env) (h : Hp) (K : Env → Hp → Prop) : Prop :=
  rd Try.prog (bop Go.BinOp.add 3 (Go.Operand.tmp 102) (Go.Operand.const (Go.Value.int Go.IntKind.i64 1)) (env 13) (Go.Value.int Go.IntKind.i64 1)) noHp fun v103_1 =>
  K (((env.set 102 (env 13)).set 103 v103_1).set 13 v103_1) h
@[congr] theorem octroilaw09_RibTakes_r19_congr {env : Env} {h : Hp} {K : Env → Hp → Prop} : octroilaw09_RibTakes_r19 env h K = octroilaw09_RibTakes_r19 env h K := rfl

def octroilaw09_RibTakes_L1 : Den := (sq (sq (rg octroilaw09_RibTakes_r16) (cnd (Go.Operand.tmp 101) (ex .normal) (ex (.exit 2)))) (sq (blk 3 (sq (rg octroilaw09_RibTakes_r17) (cnd (Go.Operand.tmp 147) (sq (rg octroilaw09_RibTakes_r18) (ex .ret)) (ex .normal)))) (rg octroilaw09_RibTakes_r19)))

/-- law.go:138 -/
def octroilaw09_RibTakes_r20 (env : Env) (h : Hp) (K : Env → Hp → Prop) : Prop :=
  K (env.set 6 (Go.Value.bool true)) h
@[congr] theorem octroilaw09_RibTakes_r20_congr {env : Env} {h : Hp} {K : Env → Hp → Prop} : octroilaw09_RibTakes_r20 env h K = octroilaw09_RibTakes_r20 env h K := rfl

def octroilaw09_RibTakes_D : Den := (sq (rg octroilaw09_RibTakes_r0) (sq (rg octroilaw09_RibTakes_r1) (sq (rg octroilaw09_RibTakes_r2) (sq (sq (rg octroilaw09_RibTakes_r3) (cnd (Go.Operand.tmp 27) (sq (rg octroilaw09_RibTakes_r4) (ex .ret)) (ex .normal))) (sq (sq (rg octroilaw09_RibTakes_r5) (blk 0 (lp octroilaw09_RibTakes_L0))) (sq (rg octroilaw09_RibTakes_r11) (sq (rg octroilaw09_RibTakes_r12) (sq (sq (rg octroilaw09_RibTakes_r13) (cnd (Go.Operand.tmp 97) (sq (rg octroilaw09_RibTakes_r14) (ex .ret)) (ex .normal))) (sq (sq (rg octroilaw09_RibTakes_r15) (blk 2 (lp octroilaw09_RibTakes_L1))) (sq (rg octroilaw09_RibTakes_r20) (ex .ret)))))))))))

theorem octroilaw09_RibTakes_eq : (den Try.prog 148 octroilaw09_RibTakes_code).1 = octroilaw09_RibTakes_D := by kernel_rfl

theorem octroilaw09_RibTakes_ok {args : Array Value} {h : Hp} {Q : Value → Hp → Prop} (hn : args.size ≤ 148) (D : octroilaw09_RibTakes_D (fin Try.prog [(Go.ResultVar.tmp 6)] Q) (env0 args) h) : Ok Try.prog 10 args h Q :=
  ok_of_den progIsOk Try.func10 (c := octroilaw09_RibTakes_code) (by kernel_rfl) hn (by show (den Try.prog 148 octroilaw09_RibTakes_code).1 _ _ _; rw [octroilaw09_RibTakes_eq]; exact D)

/-! ### octroi/octroilaw09.awake: function 11 -/
noncomputable def octroilaw09_awake_code : Code := match Try.f11.body with | some c => c | none => .skip

/-- law.go:18 -/
def octroilaw09_awake_r0 (env : Env) (h : Hp) (K : Env → Hp → Prop) : Prop :=
  K (env.set 0 (Go.Value.bool false)) h
@[congr] theorem octroilaw09_awake_r0_congr {env : Env} {h : Hp} {K : Env → Hp → Prop} : octroilaw09_awake_r0 env h K = octroilaw09_awake_r0 env h K := rfl

/-- law.go:19 -/
def octroilaw09_awake_r1 (env : Env) (h : Hp) (K : Env → Hp → Prop) : Prop :=
  Ok Try.prog 16 #[(Go.Value.int Go.IntKind.i64 5)] h fun v6_0 h1 =>
  K ((env.set 6 v6_0).set 1 v6_0) h1
@[congr] theorem octroilaw09_awake_r1_congr {env : Env} {h : Hp} {K : Env → Hp → Prop} : octroilaw09_awake_r1 env h K = octroilaw09_awake_r1 env h K := rfl

/-- law.go:20 -/
def octroilaw09_awake_r2 (env : Env) (h : Hp) (K : Env → Hp → Prop) : Prop :=
  rd Try.prog (bop Go.BinOp.eql 33 (Go.Operand.tmp 7) (Go.Operand.const (Go.Value.pointer none)) (env 1) (Go.Value.pointer none)) noHp fun v8_1 =>
  K ((env.set 7 (env 1)).set 8 v8_1) h
@[congr] theorem octroilaw09_awake_r2_congr {env : Env} {h : Hp} {K : Env → Hp → Prop} : octroilaw09_awake_r2 env h K = octroilaw09_awake_r2 env h K := rfl

/-- law.go:21 -/
def octroilaw09_awake_r3 (env : Env) (h : Hp) (K : Env → Hp → Prop) : Prop :=
  K (env.set 0 (Go.Value.bool false)) h
@[congr] theorem octroilaw09_awake_r3_congr {env : Env} {h : Hp} {K : Env → Hp → Prop} : octroilaw09_awake_r3 env h K = octroilaw09_awake_r3 env h K := rfl

/-- law.go:23 -/
def octroilaw09_awake_r4 (env : Env) (h : Hp) (K : Env → Hp → Prop) : Prop :=
  rd Try.prog (Instr.build 27 #[(2, (Go.Value.int Go.IntKind.i64 120)), (3, (Go.Value.int Go.IntKind.i64 5))]) noHp fun v10_1 =>
  Ok Try.prog 17 #[(env 1), v10_1] h fun v11_2 h1 =>
  K ((((env.set 9 (env 1)).set 10 v10_1).set 11 v11_2).set 2 v11_2) h1
@[congr] theorem octroilaw09_awake_r4_congr {env : Env} {h : Hp} {K : Env → Hp → Prop} : octroilaw09_awake_r4 env h K = octroilaw09_awake_r4 env h K := rfl

/-- law.go:24 -/
def octroilaw09_awake_r5 (env : Env) (h : Hp) (K : Env → Hp → Prop) : Prop :=
  rd Try.prog (Instr.build 27 #[(1, (Go.Value.int Go.IntKind.i64 1)), (2, (Go.Value.int Go.IntKind.i64 1)), (3, (Go.Value.int Go.IntKind.i64 1)), (5, (Go.Value.int Go.IntKind.u16 4))]) noHp fun v13_1 =>
  Ok Try.prog 17 #[(env 1), v13_1] h fun v14_2 h1 =>
  K ((((env.set 12 (env 1)).set 13 v13_1).set 14 v14_2).set 3 v14_2) h1
@[congr] theorem octroilaw09_awake_r5_congr {env : Env} {h : Hp} {K : Env → Hp → Prop} : octroilaw09_awake_r5 env h K = octroilaw09_awake_r5 env h K := rfl

/-- law.go:25 -/
def octroilaw09_awake_r6 (env : Env) (h : Hp) (K : Env → Hp → Prop) : Prop :=
  rd Try.prog (Instr.build 24 #[]) noHp fun v17_1 =>
  Ok Try.prog 20 #[(env 1), v17_1] h fun v18_2 h1 =>
  rd Try.prog (Instr.extract v18_2 0) noHp fun v19_4 =>
  rd Try.prog (Instr.extract v18_2 1) noHp fun v20_5 =>
  arun Try.prog (Instr.alloc 27 true (Go.Value.tuple #[])) h1 fun v4_6 h2 =>
  arun Try.prog (Instr.storeAt 27 v4_6 v19_4) h2 fun _ h3 =>
  K ((((((((env.set 16 (env 1)).set 17 v17_1).set 18 v18_2).set 15 v18_2).set 19 v19_4).set 20 v20_5).set 4 v4_6).set 5 v20_5) h3
@[congr] theorem octroilaw09_awake_r6_congr {env : Env} {h : Hp} {K : Env → Hp → Prop} : octroilaw09_awake_r6 env h K = octroilaw09_awake_r6 env h K := rfl

/-- law.go:26 -/
def octroilaw09_awake_r7 (env : Env) (h : Hp) (K : Env → Hp → Prop) : Prop :=
  rd Try.prog (bop Go.BinOp.eql 35 (Go.Operand.tmp 21) (Go.Operand.const (Go.Value.int Go.IntKind.i64 0)) (env 2) (Go.Value.int Go.IntKind.i64 0)) noHp fun v22_1 =>
  gd (yb v22_1 == some true) (fun h k => k (env 3) h) h fun v24_3 h1 =>
  gd (yb v22_1 == some true) (fun h k => rd Try.prog (bop Go.BinOp.eql 35 (Go.Operand.tmp 24) (Go.Operand.const (Go.Value.int Go.IntKind.i64 0)) v24_3 (Go.Value.int Go.IntKind.i64 0)) noHp fun v => k v h) h1 fun v25_4 h2 =>
  rd Try.prog (pck v22_1 v25_4 (Go.Value.bool false)) noHp fun v26_5 =>
  gd (yb v26_5 == some true) (fun h k => k (env 5) h) h2 fun v28_7 h3 =>
  rd Try.prog (pck v26_5 v28_7 (Go.Value.bool false)) noHp fun v29_8 =>
  gd (yb v29_8 == some true) (fun h k => rd Try.prog (Instr.fieldAt 27 (env 4) 2) noHp fun v => k v h) h3 fun v31_10 h4 =>
  gd (yb v29_8 == some true) (fun h k => rd Try.prog (Instr.loadAt 3 v31_10) h fun v => k v h) h4 fun v32_11 h5 =>
  gd (yb v29_8 == some true) (fun h k => rd Try.prog (bop Go.BinOp.eql 3 (Go.Operand.tmp 32) (Go.Operand.const (Go.Value.int Go.IntKind.i64 120)) v32_11 (Go.Value.int Go.IntKind.i64 120)) noHp fun v => k v h) h5 fun v33_12 h6 =>
  rd Try.prog (pck v29_8 v33_12 (Go.Value.bool false)) noHp fun v34_13 =>
  gd (yb v34_13 == some true) (fun h k => k (env 1) h) h6 fun v36_15 h7 =>
  gd (yb v34_13 == some true) (fun h k => Ok Try.prog 19 #[v36_15] h k) h7 fun v37_16 h8 =>
  gd (yb v34_13 == some true) (fun h k => rd Try.prog (Builtin.len_ #[39] 3 #[v37_16]) h fun v => k v h) h8 fun v38_17 h9 =>
  gd (yb v34_13 == some true) (fun h k => rd Try.prog (bop Go.BinOp.eql 3 (Go.Operand.tmp 38) (Go.Operand.const (Go.Value.int Go.IntKind.i64 2)) v38_17 (Go.Value.int Go.IntKind.i64 2)) noHp fun v => k v h) h9 fun v39_18 h10 =>
  rd Try.prog (pck v34_13 v39_18 (Go.Value.bool false)) noHp fun v40_19 =>
  K (((((((((((((((((((((env.set 21 (env 2)).set 22 v22_1).set 23 v22_1).set 24 v24_3).set 25 v25_4).set 26 v26_5).set 27 v26_5).set 28 v28_7).set 29 v29_8).set 30 v29_8).set 31 v31_10).set 32 v32_11).set 33 v33_12).set 34 v34_13).set 35 v34_13).set 36 v36_15).set 37 v37_16).set 38 v38_17).set 39 v39_18).set 40 v40_19).set 0 v40_19) h10
@[congr] theorem octroilaw09_awake_r7_congr {env : Env} {h : Hp} {K : Env → Hp → Prop} : octroilaw09_awake_r7 env h K = octroilaw09_awake_r7 env h K := rfl

def octroilaw09_awake_D : Den := (sq (rg octroilaw09_awake_r0) (sq (rg octroilaw09_awake_r1) (sq (sq (rg octroilaw09_awake_r2) (cnd (Go.Operand.tmp 8) (sq (rg octroilaw09_awake_r3) (ex .ret)) (ex .normal))) (sq (rg octroilaw09_awake_r4) (sq (rg octroilaw09_awake_r5) (sq (rg octroilaw09_awake_r6) (sq (rg octroilaw09_awake_r7) (ex .ret))))))))

theorem octroilaw09_awake_eq : (den Try.prog 41 octroilaw09_awake_code).1 = octroilaw09_awake_D := by kernel_rfl

theorem octroilaw09_awake_ok {args : Array Value} {h : Hp} {Q : Value → Hp → Prop} (hn : args.size ≤ 41) (D : octroilaw09_awake_D (fin Try.prog [(Go.ResultVar.tmp 0)] Q) (env0 args) h) : Ok Try.prog 11 args h Q :=
  ok_of_den progIsOk Try.func11 (c := octroilaw09_awake_code) (by kernel_rfl) hn (by show (den Try.prog 41 octroilaw09_awake_code).1 _ _ _; rw [octroilaw09_awake_eq]; exact D)

/-! ### octroi/octroiref09.May: function 12 -/
noncomputable def octroiref09_May_code : Code := match Try.f12.body with | some c => c | none => .skip

/-- ref.go:33 -/
def octroiref09_May_r0 (env : Env) (h : Hp) (K : Env → Hp → Prop) : Prop :=
  arun Try.prog (Instr.box 27 (env 0)) h fun v1_0 h1 =>
  K ((env.set 1 v1_0).set 2 (Go.Value.bool false)) h1
@[congr] theorem octroiref09_May_r0_congr {env : Env} {h : Hp} {K : Env → Hp → Prop} : octroiref09_May_r0 env h K = octroiref09_May_r0 env h K := rfl

/-- ref.go:34 -/
def octroiref09_May_r1 (env : Env) (h : Hp) (K : Env → Hp → Prop) : Prop :=
  rd Try.prog (Instr.fieldAt 27 (env 1) 0) noHp fun v4_0 =>
  rd Try.prog (Instr.loadAt 24 v4_0) h fun v5_1 =>
  Ok Try.prog 30 #[v5_1] h fun v6_2 h1 =>
  K ((((env.set 4 v4_0).set 5 v5_1).set 6 v6_2).set 3 v6_2) h1
@[congr] theorem octroiref09_May_r1_congr {env : Env} {h : Hp} {K : Env → Hp → Prop} : octroiref09_May_r1 env h K = octroiref09_May_r1 env h K := rfl

/-- ref.go:35 -/
def octroiref09_May_r2 (env : Env) (h : Hp) (K : Env → Hp → Prop) : Prop :=
  gd (yb (env 3) == some true) (fun h k => rd Try.prog (Instr.fieldAt 27 (env 1) 1) noHp fun v => k v h) h fun v9_2 h1 =>
  gd (yb (env 3) == some true) (fun h k => rd Try.prog (Instr.loadAt 3 v9_2) h fun v => k v h) h1 fun v10_3 h2 =>
  gd (yb (env 3) == some true) (fun h k => rd Try.prog (bop Go.BinOp.geq 3 (Go.Operand.tmp 10) (Go.Operand.const (Go.Value.int Go.IntKind.i64 0)) v10_3 (Go.Value.int Go.IntKind.i64 0)) noHp fun v => k v h) h2 fun v11_4 h3 =>
  rd Try.prog (pck (env 3) v11_4 (Go.Value.bool false)) noHp fun v12_5 =>
  gd (yb v12_5 == some true) (fun h k => rd Try.prog (Instr.fieldAt 27 (env 1) 1) noHp fun v => k v h) h3 fun v14_7 h4 =>
  gd (yb v12_5 == some true) (fun h k => rd Try.prog (Instr.loadAt 3 v14_7) h fun v => k v h) h4 fun v15_8 h5 =>
  gd (yb v12_5 == some true) (fun h k => rd Try.prog (bop Go.BinOp.lss 3 (Go.Operand.tmp 15) (Go.Operand.const (Go.Value.int Go.IntKind.i64 16)) v15_8 (Go.Value.int Go.IntKind.i64 16)) noHp fun v => k v h) h5 fun v16_9 h6 =>
  rd Try.prog (pck v12_5 v16_9 (Go.Value.bool false)) noHp fun v17_10 =>
  gd (yb v17_10 == some true) (fun h k => rd Try.prog (Instr.fieldAt 27 (env 1) 2) noHp fun v => k v h) h6 fun v19_12 h7 =>
  gd (yb v17_10 == some true) (fun h k => rd Try.prog (Instr.loadAt 3 v19_12) h fun v => k v h) h7 fun v20_13 h8 =>
  gd (yb v17_10 == some true) (fun h k => rd Try.prog (bop Go.BinOp.geq 3 (Go.Operand.tmp 20) (Go.Operand.const (Go.Value.int Go.IntKind.i64 0)) v20_13 (Go.Value.int Go.IntKind.i64 0)) noHp fun v => k v h) h8 fun v21_14 h9 =>
  rd Try.prog (pck v17_10 v21_14 (Go.Value.bool false)) noHp fun v22_15 =>
  gd (yb v22_15 == some true) (fun h k => rd Try.prog (Instr.fieldAt 27 (env 1) 2) noHp fun v => k v h) h9 fun v24_17 h10 =>
  gd (yb v22_15 == some true) (fun h k => rd Try.prog (Instr.loadAt 3 v24_17) h fun v => k v h) h10 fun v25_18 h11 =>
  gd (yb v22_15 == some true) (fun h k => rd Try.prog (bop Go.BinOp.leq 3 (Go.Operand.tmp 25) (Go.Operand.const (Go.Value.int Go.IntKind.i64 255)) v25_18 (Go.Value.int Go.IntKind.i64 255)) noHp fun v => k v h) h11 fun v26_19 h12 =>
  rd Try.prog (pck v22_15 v26_19 (Go.Value.bool false)) noHp fun v27_20 =>
  gd (yb v27_20 == some true) (fun h k => rd Try.prog (Instr.fieldAt 27 (env 1) 3) noHp fun v => k v h) h12 fun v29_22 h13 =>
  gd (yb v27_20 == some true) (fun h k => rd Try.prog (Instr.loadAt 3 v29_22) h fun v => k v h) h13 fun v30_23 h14 =>
  gd (yb v27_20 == some true) (fun h k => rd Try.prog (bop Go.BinOp.geq 3 (Go.Operand.tmp 30) (Go.Operand.const (Go.Value.int Go.IntKind.i64 0)) v30_23 (Go.Value.int Go.IntKind.i64 0)) noHp fun v => k v h) h14 fun v31_24 h15 =>
  rd Try.prog (pck v27_20 v31_24 (Go.Value.bool false)) noHp fun v32_25 =>
  gd (yb v32_25 == some true) (fun h k => rd Try.prog (Instr.fieldAt 27 (env 1) 3) noHp fun v => k v h) h15 fun v34_27 h16 =>
  gd (yb v32_25 == some true) (fun h k => rd Try.prog (Instr.loadAt 3 v34_27) h fun v => k v h) h16 fun v35_28 h17 =>
  gd (yb v32_25 == some true) (fun h k => rd Try.prog (bop Go.BinOp.leq 3 (Go.Operand.tmp 35) (Go.Operand.const (Go.Value.int Go.IntKind.i64 4294967295)) v35_28 (Go.Value.int Go.IntKind.i64 4294967295)) noHp fun v => k v h) h17 fun v36_29 h18 =>
  rd Try.prog (pck v32_25 v36_29 (Go.Value.bool false)) noHp fun v37_30 =>
  gd (yb v37_30 == some true) (fun h k => rd Try.prog (Instr.fieldAt 27 (env 1) 4) noHp fun v => k v h) h18 fun v39_32 h19 =>
  gd (yb v37_30 == some true) (fun h k => rd Try.prog (Instr.loadAt 3 v39_32) h fun v => k v h) h19 fun v40_33 h20 =>
  gd (yb v37_30 == some true) (fun h k => rd Try.prog (bop Go.BinOp.geq 3 (Go.Operand.tmp 40) (Go.Operand.const (Go.Value.int Go.IntKind.i64 0)) v40_33 (Go.Value.int Go.IntKind.i64 0)) noHp fun v => k v h) h20 fun v41_34 h21 =>
  rd Try.prog (pck v37_30 v41_34 (Go.Value.bool false)) noHp fun v42_35 =>
  gd (yb v42_35 == some true) (fun h k => rd Try.prog (Instr.fieldAt 27 (env 1) 4) noHp fun v => k v h) h21 fun v44_37 h22 =>
  gd (yb v42_35 == some true) (fun h k => rd Try.prog (Instr.loadAt 3 v44_37) h fun v => k v h) h22 fun v45_38 h23 =>
  gd (yb v42_35 == some true) (fun h k => rd Try.prog (bop Go.BinOp.leq 3 (Go.Operand.tmp 45) (Go.Operand.const (Go.Value.int Go.IntKind.i64 32)) v45_38 (Go.Value.int Go.IntKind.i64 32)) noHp fun v => k v h) h23 fun v46_39 h24 =>
  rd Try.prog (pck v42_35 v46_39 (Go.Value.bool false)) noHp fun v47_40 =>
  K ((((((((((((((((((((((((((((((((((((((((((env.set 7 (env 3)).set 8 (env 3)).set 9 v9_2).set 10 v10_3).set 11 v11_4).set 12 v12_5).set 13 v12_5).set 14 v14_7).set 15 v15_8).set 16 v16_9).set 17 v17_10).set 18 v17_10).set 19 v19_12).set 20 v20_13).set 21 v21_14).set 22 v22_15).set 23 v22_15).set 24 v24_17).set 25 v25_18).set 26 v26_19).set 27 v27_20).set 28 v27_20).set 29 v29_22).set 30 v30_23).set 31 v31_24).set 32 v32_25).set 33 v32_25).set 34 v34_27).set 35 v35_28).set 36 v36_29).set 37 v37_30).set 38 v37_30).set 39 v39_32).set 40 v40_33).set 41 v41_34).set 42 v42_35).set 43 v42_35).set 44 v44_37).set 45 v45_38).set 46 v46_39).set 47 v47_40).set 2 v47_40) h24
@[congr] theorem octroiref09_May_r2_congr {env : Env} {h : Hp} {K : Env → Hp → Prop} : octroiref09_May_r2 env h K = octroiref09_May_r2 env h K := rfl

def octroiref09_May_D : Den := (sq (rg octroiref09_May_r0) (sq (rg octroiref09_May_r1) (sq (rg octroiref09_May_r2) (ex .ret))))

theorem octroiref09_May_eq : (den Try.prog 48 octroiref09_May_code).1 = octroiref09_May_D := by kernel_rfl

theorem octroiref09_May_ok {args : Array Value} {h : Hp} {Q : Value → Hp → Prop} (hn : args.size ≤ 48) (D : octroiref09_May_D (fin Try.prog [(Go.ResultVar.tmp 2)] Q) (env0 args) h) : Ok Try.prog 12 args h Q :=
  ok_of_den progIsOk Try.func12 (c := octroiref09_May_code) (by kernel_rfl) hn (by show (den Try.prog 48 octroiref09_May_code).1 _ _ _; rw [octroiref09_May_eq]; exact D)

/-! ### octroi/rib.Better: function 13 -/
noncomputable def rib_Better_code : Code := match Try.f13.body with | some c => c | none => .skip

/-- rib.go:26 -/
def rib_Better_r0 (env : Env) (h : Hp) (K : Env → Hp → Prop) : Prop :=
  arun Try.prog (Instr.box 27 (env 0)) h fun v2_0 h1 =>
  arun Try.prog (Instr.box 27 (env 1)) h1 fun v3_1 h2 =>
  K (((env.set 2 v2_0).set 3 v3_1).set 4 (Go.Value.bool false)) h2
@[congr] theorem rib_Better_r0_congr {env : Env} {h : Hp} {K : Env → Hp → Prop} : rib_Better_r0 env h K = rib_Better_r0 env h K := rfl

/-- rib.go:26 -/
def rib_Better_r1 (env : Env) (h : Hp) (K : Env → Hp → Prop) : Prop :=
  rd Try.prog (Instr.loadAt 27 (env 2)) h fun v5_0 =>
  rd Try.prog (Instr.loadAt 27 (env 3)) h fun v6_1 =>
  Ok Try.prog 31 #[v5_0, v6_1] h fun v7_2 h1 =>
  rd Try.prog (bop Go.BinOp.lss 3 (Go.Operand.tmp 7) (Go.Operand.const (Go.Value.int Go.IntKind.i64 0)) v7_2 (Go.Value.int Go.IntKind.i64 0)) noHp fun v8_3 =>
  K (((((env.set 5 v5_0).set 6 v6_1).set 7 v7_2).set 8 v8_3).set 4 v8_3) h1
@[congr] theorem rib_Better_r1_congr {env : Env} {h : Hp} {K : Env → Hp → Prop} : rib_Better_r1 env h K = rib_Better_r1 env h K := rfl

def rib_Better_D : Den := (sq (rg rib_Better_r0) (sq (rg rib_Better_r1) (ex .ret)))

theorem rib_Better_eq : (den Try.prog 9 rib_Better_code).1 = rib_Better_D := by kernel_rfl

theorem rib_Better_ok {args : Array Value} {h : Hp} {Q : Value → Hp → Prop} (hn : args.size ≤ 9) (D : rib_Better_D (fin Try.prog [(Go.ResultVar.tmp 4)] Q) (env0 args) h) : Ok Try.prog 13 args h Q :=
  ok_of_den progIsOk Try.func13 (c := rib_Better_code) (by kernel_rfl) hn (by show (den Try.prog 9 rib_Better_code).1 _ _ _; rw [rib_Better_eq]; exact D)

end Go.Proofs.Ytmbhlbohbpepaaa
