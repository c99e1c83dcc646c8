/- Printed by wip/kit/gen.py out of the translation: formulas of Go functions, and that they are these functions'. -/
import Derived.Test.YtpeoholnlokdcaaZ2

set_option linter.unusedSimpArgs false
set_option linter.unusedVariables false

namespace Go.Proofs.Ytpeoholnlokdcaa
open Go

set_option maxRecDepth 100000
set_option linter.unusedVariables false

/-! ### (*octroi/dual.Dual).Up: function 12 -/
noncomputable def dual_Dual_Up_code : Code := match Try.f12.body with | some c => c | none => .skip

/-- dual.go:173 -/
def dual_Dual_Up_r0 (env : Env) (h : Hp) (K : Env → Hp → Prop) : Prop :=
  arun Try.prog (Instr.box 25 (env 0)) h fun v3_0 h1 =>
  arun Try.prog (Instr.box 3 (env 1)) h1 fun v4_1 h2 =>
  arun Try.prog (Instr.box 23 (env 2)) h2 fun v5_2 h3 =>
  K (((((env.set 3 v3_0).set 4 v4_1).set 5 v5_2).set 6 (Go.Value.slice none 0 0)).set 7 (Go.Value.int Go.IntKind.i64 0)) h3
@[congr] theorem dual_Dual_Up_r0_congr {env : Env} {h : Hp} {K : Env → Hp → Prop} : dual_Dual_Up_r0 env h K = dual_Dual_Up_r0 env h K := rfl

/-- dual.go:174 (in any order) -/
def dual_Dual_Up_r1 (env : Env) (h : Hp) (K : Env → Hp → Prop) : Prop :=
  rd Try.prog (Instr.loadAt 3 (env 4)) h fun v9_0 =>
  rd Try.prog (bop Go.BinOp.lss 3 (Go.Operand.tmp 9) (Go.Operand.const (Go.Value.int Go.IntKind.i64 1)) v9_0 (Go.Value.int Go.IntKind.i64 1)) noHp fun v10_1 =>
  gd (yb v10_1 == some false) (fun h k => rd Try.prog (Instr.loadAt 3 (env 4)) h fun v => k v h) h fun v12_3 h1 =>
  gd (yb v10_1 == some false) (fun h k => rd Try.prog (bop Go.BinOp.gtr 3 (Go.Operand.tmp 12) (Go.Operand.const (Go.Value.int Go.IntKind.i64 32)) v12_3 (Go.Value.int Go.IntKind.i64 32)) noHp fun v => k v h) h1 fun v13_4 h2 =>
  rd Try.prog (pck v10_1 (Go.Value.bool true) v13_4) noHp fun v14_5 =>
  gd (yb v14_5 == some false) (fun h k => rd Try.prog (Instr.loadAt 25 (env 3)) h fun v => k v h) h2 fun v16_7 h3 =>
  gd (yb v14_5 == some false) (fun h k => nck v16_7 (k v16_7 h)) h3 fun v17_8 h4 =>
  gd (yb v14_5 == some false) (fun h k => rd Try.prog (Instr.fieldAt 65 v17_8 2) noHp fun v => k v h) h4 fun v18_9 h5 =>
  gd (yb v14_5 == some false) (fun h k => rd Try.prog (Instr.loadAt 62 v18_9) h fun v => k v h) h5 fun v19_10 h6 =>
  gd (yb v14_5 == some false) (fun h k => rd Try.prog (Instr.loadAt 3 (env 4)) h fun v => k v h) h6 fun v20_11 h7 =>
  gd (yb v14_5 == some false) (fun h k => rd Try.prog (Instr.lookup 62 v19_10 v20_11 false) h fun v => k v h) h7 fun v21_12 h8 =>
  gd (yb v14_5 == some false) (fun h k => rd Try.prog (bop Go.BinOp.neq 66 (Go.Operand.tmp 21) (Go.Operand.const (Go.Value.pointer none)) v21_12 (Go.Value.pointer none)) noHp fun v => k v h) h8 fun v22_13 h9 =>
  rd Try.prog (pck v14_5 (Go.Value.bool true) v22_13) noHp fun v23_14 =>
  gd (yb v23_14 == some false) (fun h k => rd Try.prog (Instr.loadAt 23 (env 5)) h fun v => k v h) h9 fun v25_16 h10 =>
  gd (yb v23_14 == some false) (fun h k => Ok Try.prog 13 #[v25_16] h k) h10 fun v26_17 h11 =>
  (True) ∧
  gd (yb v23_14 == some false) (fun h k => rd Try.prog (Op.unary Go.UnOp.not v26_17) noHp fun v => k v h) h11 fun v27_18 h12 =>
  rd Try.prog (pck v23_14 (Go.Value.bool true) v27_18) noHp fun v28_19 =>
  K ((((((((((((((((((((env.set 9 v9_0).set 10 v10_1).set 11 v10_1).set 12 v12_3).set 13 v13_4).set 14 v14_5).set 15 v14_5).set 16 v16_7).set 17 v17_8).set 18 v18_9).set 19 v19_10).set 20 v20_11).set 21 v21_12).set 22 v22_13).set 23 v23_14).set 24 v23_14).set 25 v25_16).set 26 v26_17).set 27 v27_18).set 28 v28_19) h12
@[congr] theorem dual_Dual_Up_r1_congr {env : Env} {h : Hp} {K : Env → Hp → Prop} : dual_Dual_Up_r1 env h K = dual_Dual_Up_r1 env h K := rfl

/-- dual.go:175 -/
def dual_Dual_Up_r2 (env : Env) (h : Hp) (K : Env → Hp → Prop) : Prop :=
  K ((env.set 6 (Go.Value.slice none 0 0)).set 7 (Go.Value.int Go.IntKind.i64 1)) h
@[congr] theorem dual_Dual_Up_r2_congr {env : Env} {h : Hp} {K : Env → Hp → Prop} : dual_Dual_Up_r2 env h K = dual_Dual_Up_r2 env h K := rfl

/-- dual.go:177 (in any order) -/
def dual_Dual_Up_r3 (env : Env) (h : Hp) (K : Env → Hp → Prop) : Prop :=
  rd Try.prog (Instr.loadAt 25 (env 3)) h fun v29_0 =>
  nck v29_0 (
  rd Try.prog (Instr.fieldAt 65 v29_0 2) noHp fun v31_2 =>
  rd Try.prog (Instr.loadAt 62 v31_2) h fun v32_3 =>
  rd Try.prog (Instr.loadAt 3 (env 4)) h fun v33_4 =>
  rd Try.prog (Instr.loadAt 23 (env 5)) h fun v34_5 =>
  rd Try.prog (Instr.build 68 #[(0, v34_5)]) noHp fun v35_6 =>
  arun Try.prog (Instr.box 68 v35_6) h fun v36_7 h1 =>
  (rrun Try.prog (Instr.loadAt 3 (env 4)) h1 = some v33_4 ∧ rrun Try.prog (Instr.loadAt 62 v31_2) h1 = some v32_3 ∧ rrun Try.prog (Instr.loadAt 25 (env 3)) h1 = some v29_0 ∧ True) ∧
  arun Try.prog (Instr.mapUpdate 62 v32_3 v33_4 v36_7) h1 fun _ h2 =>
  (True) ∧
  K ((((((((env.set 29 v29_0).set 30 v29_0).set 31 v31_2).set 32 v32_3).set 33 v33_4).set 34 v34_5).set 35 v35_6).set 36 v36_7) h2)
@[congr] theorem dual_Dual_Up_r3_congr {env : Env} {h : Hp} {K : Env → Hp → Prop} : dual_Dual_Up_r3 env h K = dual_Dual_Up_r3 env h K := rfl

/-- dual.go:178 -/
def dual_Dual_Up_r4 (env : Env) (h : Hp) (K : Env → Hp → Prop) : Prop :=
  rd Try.prog (Instr.loadAt 25 (env 3)) h fun v37_0 =>
  Ok Try.prog 24 #[v37_0] h fun v38_1 h1 =>
  K ((env.set 37 v37_0).set 38 v38_1) h1
@[congr] theorem dual_Dual_Up_r4_congr {env : Env} {h : Hp} {K : Env → Hp → Prop} : dual_Dual_Up_r4 env h K = dual_Dual_Up_r4 env h K := rfl

/-- dual.go:178 -/
def dual_Dual_Up_r5 (env : Env) (h : Hp) (K : Env → Hp → Prop) : Prop :=
  K (env.set 8 (env 39)) h
@[congr] theorem dual_Dual_Up_r5_congr {env : Env} {h : Hp} {K : Env → Hp → Prop} : dual_Dual_Up_r5 env h K = dual_Dual_Up_r5 env h K := rfl

/-- dual.go:179 -/
def dual_Dual_Up_r6 (env : Env) (h : Hp) (K : Env → Hp → Prop) : Prop :=
  nck (env 8) (
  rd Try.prog (Instr.fieldAt 79 (env 8) 3) noHp fun v42_2 =>
  rd Try.prog (Instr.fieldAt 74 v42_2 0) noHp fun v43_3 =>
  rd Try.prog (Instr.loadAt 23 v43_3) h fun v44_4 =>
  Ok Try.prog 17 #[v44_4] h fun v45_5 h1 =>
  K ((((((env.set 40 (env 8)).set 41 (env 8)).set 42 v42_2).set 43 v43_3).set 44 v44_4).set 45 v45_5) h1)
@[congr] theorem dual_Dual_Up_r6_congr {env : Env} {h : Hp} {K : Env → Hp → Prop} : dual_Dual_Up_r6 env h K = dual_Dual_Up_r6 env h K := rfl

/-- dual.go:180 (in any order) -/
def dual_Dual_Up_r7 (env : Env) (h : Hp) (K : Env → Hp → Prop) : Prop :=
  rd Try.prog (Instr.loadAt 25 (env 3)) h fun v46_0 =>
  rd Try.prog (Instr.loadAt 3 (env 4)) h fun v47_1 =>
  nck (env 8) (
  rd Try.prog (Instr.fieldAt 79 (env 8) 0) noHp fun v50_4 =>
  rd Try.prog (Instr.loadAt 35 v50_4) h fun v51_5 =>
  nck (env 8) (
  rd Try.prog (Instr.fieldAt 79 (env 8) 3) noHp fun v54_8 =>
  rd Try.prog (Instr.loadAt 74 v54_8) h fun v55_9 =>
  Ok Try.prog 25 #[v46_0, v47_1, (Go.Value.int Go.IntKind.i64 1), (Go.Value.int Go.IntKind.u32 0), v51_5, v55_9] h fun v56_10 h1 =>
  (True) ∧
  K (((((((((((env.set 46 v46_0).set 47 v47_1).set 48 (env 8)).set 49 (env 8)).set 50 v50_4).set 51 v51_5).set 52 (env 8)).set 53 (env 8)).set 54 v54_8).set 55 v55_9).set 56 v56_10) h1))
@[congr] theorem dual_Dual_Up_r7_congr {env : Env} {h : Hp} {K : Env → Hp → Prop} : dual_Dual_Up_r7 env h K = dual_Dual_Up_r7 env h K := rfl

def dual_Dual_Up_F0_A : Den := (rg dual_Dual_Up_r5)
def dual_Dual_Up_F0_B : Den := (blk 1 (sq (rg dual_Dual_Up_r6) (cnd (Go.Operand.tmp 45) (rg dual_Dual_Up_r7) (ex .normal))))

noncomputable def dual_Dual_Up_F0_a : Code := subCode [1, 1, 1, 0, 1, 0, 0] dual_Dual_Up_code
noncomputable def dual_Dual_Up_F0_b : Code := subCode [1, 1, 1, 0, 1, 0, 1] dual_Dual_Up_code

theorem dual_Dual_Up_F0_Aeq : (den Try.prog 59 dual_Dual_Up_F0_a).1 = dual_Dual_Up_F0_A := by kernel_rfl
theorem dual_Dual_Up_F0_Beq : (den Try.prog 59 dual_Dual_Up_F0_b).1 = dual_Dual_Up_F0_B := by kernel_rfl

theorem dual_Dual_Up_F0_yok {env : Env} {fn D l : Nat} {g : Hp} {x0 : Value} {k : Value → Hp → Prop} (hl : g l = some (recOf 59 env #[39] dual_Dual_Up_F0_a dual_Dual_Up_F0_b .ready none fn D)) (hu : ∀ t, 59 ≤ t → env t = undef)
    (H : rnd l (recOf 59 env #[39] dual_Dual_Up_F0_a dual_Dual_Up_F0_b .ready none fn D) (recOf 59 env #[39] dual_Dual_Up_F0_a dual_Dual_Up_F0_b .busy none fn D) dual_Dual_Up_F0_A dual_Dual_Up_F0_B (rndK l 59 env #[39] dual_Dual_Up_F0_a dual_Dual_Up_F0_b fn D k) (envPs 59 env [(39, x0)]) g) : YOk Try.prog l #[x0] g k := yok_rnd (args := #[x0]) progIsOk (by kernel_rfl) (by kernel_rfl) dual_Dual_Up_F0_Aeq dual_Dual_Up_F0_Beq hl hu rfl (by rw [show (Array.zip (#[39] : Array Tmp) #[x0]).toList = [(39, x0)] by simp]; exact H)

/-- dual.go:183 -/
def dual_Dual_Up_r8 (env : Env) (h : Hp) (K : Env → Hp → Prop) : Prop :=
  rd Try.prog (Instr.loadAt 25 (env 3)) h fun v57_0 =>
  Ok Try.prog 26 #[v57_0] h fun v58_1 h1 =>
  K ((((env.set 57 v57_0).set 58 v58_1).set 6 v58_1).set 7 (Go.Value.int Go.IntKind.i64 0)) h1
@[congr] theorem dual_Dual_Up_r8_congr {env : Env} {h : Hp} {K : Env → Hp → Prop} : dual_Dual_Up_r8 env h K = dual_Dual_Up_r8 env h K := rfl

def dual_Dual_Up_D : Den := (sq (rg dual_Dual_Up_r0) (sq (sq (rg dual_Dual_Up_r1) (cnd (Go.Operand.tmp 28) (sq (rg dual_Dual_Up_r2) (ex .ret)) (ex .normal))) (sq (rg dual_Dual_Up_r3) (sq (sq (rg dual_Dual_Up_r4) (blk 0 (rfn Try.prog 59 (Go.Operand.tmp 38) #[39] dual_Dual_Up_F0_a dual_Dual_Up_F0_b))) (sq (rg dual_Dual_Up_r8) (ex .ret))))))

theorem dual_Dual_Up_eq : (den Try.prog 59 dual_Dual_Up_code).1 = dual_Dual_Up_D := by kernel_rfl

theorem dual_Dual_Up_ok {args : Array Value} {h : Hp} {Q : Value → Hp → Prop} (hn : args.size ≤ 59) (D : dual_Dual_Up_D (fin Try.prog [(Go.ResultVar.tmp 6), (Go.ResultVar.tmp 7)] Q) (env0 args) h) : Ok Try.prog 12 args h Q :=
  ok_of_den progIsOk Try.func12 (c := dual_Dual_Up_code) (by kernel_rfl) hn (by show (den Try.prog 59 dual_Dual_Up_code).1 _ _ _; rw [dual_Dual_Up_eq]; exact D)

/-! ### octroi/metric.May: function 13 -/
noncomputable def metric_May_code : Code := match Try.f13.body with | some c => c | none => .skip

/-- metric.go:12 -/
def metric_May_r0 (env : Env) (h : Hp) (K : Env → Hp → Prop) : Prop :=
  arun Try.prog (Instr.box 23 (env 0)) h fun v1_0 h1 =>
  K ((env.set 1 v1_0).set 2 (Go.Value.bool false)) h1
@[congr] theorem metric_May_r0_congr {env : Env} {h : Hp} {K : Env → Hp → Prop} : metric_May_r0 env h K = metric_May_r0 env h K := rfl

/-- metric.go:13 -/
def metric_May_r1 (env : Env) (h : Hp) (K : Env → Hp → Prop) : Prop :=
  rd Try.prog (Instr.fieldAt 23 (env 1) 0) noHp fun v3_0 =>
  rd Try.prog (Instr.loadAt 3 v3_0) h fun v4_1 =>
  rd Try.prog (bop Go.BinOp.geq 3 (Go.Operand.tmp 4) (Go.Operand.const (Go.Value.int Go.IntKind.i64 1)) v4_1 (Go.Value.int Go.IntKind.i64 1)) noHp fun v5_2 =>
  gd (yb v5_2 == some true) (fun h k => rd Try.prog (Instr.fieldAt 23 (env 1) 0) noHp fun v => k v h) h fun v7_4 h1 =>
  gd (yb v5_2 == some true) (fun h k => rd Try.prog (Instr.loadAt 3 v7_4) h fun v => k v h) h1 fun v8_5 h2 =>
  gd (yb v5_2 == some true) (fun h k => rd Try.prog (bop Go.BinOp.leq 3 (Go.Operand.tmp 8) (Go.Operand.const (Go.Value.int Go.IntKind.i64 10000000)) v8_5 (Go.Value.int Go.IntKind.i64 10000000)) noHp fun v => k v h) h2 fun v9_6 h3 =>
  rd Try.prog (pck v5_2 v9_6 (Go.Value.bool false)) noHp fun v10_7 =>
  gd (yb v10_7 == some true) (fun h k => rd Try.prog (Instr.fieldAt 23 (env 1) 1) noHp fun v => k v h) h3 fun v12_9 h4 =>
  gd (yb v10_7 == some true) (fun h k => rd Try.prog (Instr.loadAt 3 v12_9) h fun v => k v h) h4 fun v13_10 h5 =>
  gd (yb v10_7 == some true) (fun h k => rd Try.prog (bop Go.BinOp.geq 3 (Go.Operand.tmp 13) (Go.Operand.const (Go.Value.int Go.IntKind.i64 0)) v13_10 (Go.Value.int Go.IntKind.i64 0)) noHp fun v => k v h) h5 fun v14_11 h6 =>
  rd Try.prog (pck v10_7 v14_11 (Go.Value.bool false)) noHp fun v15_12 =>
  gd (yb v15_12 == some true) (fun h k => rd Try.prog (Instr.fieldAt 23 (env 1) 1) noHp fun v => k v h) h6 fun v17_14 h7 =>
  gd (yb v15_12 == some true) (fun h k => rd Try.prog (Instr.loadAt 3 v17_14) h fun v => k v h) h7 fun v18_15 h8 =>
  gd (yb v15_12 == some true) (fun h k => rd Try.prog (bop Go.BinOp.leq 3 (Go.Operand.tmp 18) (Go.Operand.const (Go.Value.int Go.IntKind.i64 16777216)) v18_15 (Go.Value.int Go.IntKind.i64 16777216)) noHp fun v => k v h) h8 fun v19_16 h9 =>
  rd Try.prog (pck v15_12 v19_16 (Go.Value.bool false)) noHp fun v20_17 =>
  gd (yb v20_17 == some true) (fun h k => rd Try.prog (Instr.fieldAt 23 (env 1) 2) noHp fun v => k v h) h9 fun v22_19 h10 =>
  gd (yb v20_17 == some true) (fun h k => rd Try.prog (Instr.loadAt 3 v22_19) h fun v => k v h) h10 fun v23_20 h11 =>
  gd (yb v20_17 == some true) (fun h k => rd Try.prog (bop Go.BinOp.geq 3 (Go.Operand.tmp 23) (Go.Operand.const (Go.Value.int Go.IntKind.i64 0)) v23_20 (Go.Value.int Go.IntKind.i64 0)) noHp fun v => k v h) h11 fun v24_21 h12 =>
  rd Try.prog (pck v20_17 v24_21 (Go.Value.bool false)) noHp fun v25_22 =>
  gd (yb v25_22 == some true) (fun h k => rd Try.prog (Instr.fieldAt 23 (env 1) 2) noHp fun v => k v h) h12 fun v27_24 h13 =>
  gd (yb v25_22 == some true) (fun h k => rd Try.prog (Instr.loadAt 3 v27_24) h fun v => k v h) h13 fun v28_25 h14 =>
  gd (yb v25_22 == some true) (fun h k => rd Try.prog (bop Go.BinOp.leq 3 (Go.Operand.tmp 28) (Go.Operand.const (Go.Value.int Go.IntKind.i64 100)) v28_25 (Go.Value.int Go.IntKind.i64 100)) noHp fun v => k v h) h14 fun v29_26 h15 =>
  rd Try.prog (pck v25_22 v29_26 (Go.Value.bool false)) noHp fun v30_27 =>
  K (((((((((((((((((((((((((((((env.set 3 v3_0).set 4 v4_1).set 5 v5_2).set 6 v5_2).set 7 v7_4).set 8 v8_5).set 9 v9_6).set 10 v10_7).set 11 v10_7).set 12 v12_9).set 13 v13_10).set 14 v14_11).set 15 v15_12).set 16 v15_12).set 17 v17_14).set 18 v18_15).set 19 v19_16).set 20 v20_17).set 21 v20_17).set 22 v22_19).set 23 v23_20).set 24 v24_21).set 25 v25_22).set 26 v25_22).set 27 v27_24).set 28 v28_25).set 29 v29_26).set 30 v30_27).set 2 v30_27) h15
@[congr] theorem metric_May_r1_congr {env : Env} {h : Hp} {K : Env → Hp → Prop} : metric_May_r1 env h K = metric_May_r1 env h K := rfl

def metric_May_D : Den := (sq (rg metric_May_r0) (sq (rg metric_May_r1) (ex .ret)))

theorem metric_May_eq : (den Try.prog 31 metric_May_code).1 = metric_May_D := by kernel_rfl

theorem metric_May_ok {args : Array Value} {h : Hp} {Q : Value → Hp → Prop} (hn : args.size ≤ 31) (D : metric_May_D (fin Try.prog [(Go.ResultVar.tmp 2)] Q) (env0 args) h) : Ok Try.prog 13 args h Q :=
  ok_of_den progIsOk Try.func13 (c := metric_May_code) (by kernel_rfl) hn (by show (den Try.prog 31 metric_May_code).1 _ _ _; rw [metric_May_eq]; exact D)

/-! ### (*octroi/dual.Dual).Hear: function 14 -/
noncomputable def dual_Dual_Hear_code : Code := match Try.f14.body with | some c => c | none => .skip

/-- dual.go:250 -/
def dual_Dual_Hear_r0 (env : Env) (h : Hp) (K : Env → Hp → Prop) : Prop :=
  arun Try.prog (Instr.box 40 (env 2)) h fun v5_0 h1 =>
  K (((env.set 5 v5_0).set 6 (Go.Value.slice none 0 0)).set 7 (Go.Value.int Go.IntKind.i64 0)) h1
@[congr] theorem dual_Dual_Hear_r0_congr {env : Env} {h : Hp} {K : Env → Hp → Prop} : dual_Dual_Hear_r0 env h K = dual_Dual_Hear_r0 env h K := rfl

/-- dual.go:251 -/
def dual_Dual_Hear_r1 (env : Env) (h : Hp) (K : Env → Hp → Prop) : Prop :=
  nck (env 0) (
  rd Try.prog (Instr.fieldAt 65 (env 0) 2) noHp fun v16_2 =>
  rd Try.prog (Instr.loadAt 62 v16_2) h fun v17_3 =>
  rd Try.prog (Instr.lookup 62 v17_3 (env 1) false) h fun v19_5 =>
  K (((((((env.set 14 (env 0)).set 15 (env 0)).set 16 v16_2).set 17 v17_3).set 18 (env 1)).set 19 v19_5).set 8 v19_5) h)
@[congr] theorem dual_Dual_Hear_r1_congr {env : Env} {h : Hp} {K : Env → Hp → Prop} : dual_Dual_Hear_r1 env h K = dual_Dual_Hear_r1 env h K := rfl

/-- dual.go:253 -/
def dual_Dual_Hear_r2 (env : Env) (h : Hp) (K : Env → Hp → Prop) : Prop :=
  rd Try.prog (bop Go.BinOp.eql 66 (Go.Operand.tmp 21) (Go.Operand.const (Go.Value.pointer none)) (env 8) (Go.Value.pointer none)) noHp fun v22_1 =>
  gd (yb v22_1 == some false) (fun h k => rd Try.prog (Instr.fieldAt 40 (env 5) 1) noHp fun v => k v h) h fun v24_3 h1 =>
  gd (yb v22_1 == some false) (fun h k => rd Try.prog (Instr.loadAt 3 v24_3) h fun v => k v h) h1 fun v25_4 h2 =>
  gd (yb v22_1 == some false) (fun h k => rd Try.prog (bop Go.BinOp.lss 3 (Go.Operand.tmp 25) (Go.Operand.const (Go.Value.int Go.IntKind.i64 1)) v25_4 (Go.Value.int Go.IntKind.i64 1)) noHp fun v => k v h) h2 fun v26_5 h3 =>
  rd Try.prog (pck v22_1 (Go.Value.bool true) v26_5) noHp fun v27_6 =>
  gd (yb v27_6 == some false) (fun h k => rd Try.prog (Instr.fieldAt 40 (env 5) 1) noHp fun v => k v h) h3 fun v29_8 h4 =>
  gd (yb v27_6 == some false) (fun h k => rd Try.prog (Instr.loadAt 3 v29_8) h fun v => k v h) h4 fun v30_9 h5 =>
  gd (yb v27_6 == some false) (fun h k => rd Try.prog (bop Go.BinOp.gtr 3 (Go.Operand.tmp 30) (Go.Operand.const (Go.Value.int Go.IntKind.i64 3)) v30_9 (Go.Value.int Go.IntKind.i64 3)) noHp fun v => k v h) h5 fun v31_10 h6 =>
  rd Try.prog (pck v27_6 (Go.Value.bool true) v31_10) noHp fun v32_11 =>
  gd (yb v32_11 == some false) (fun h k => rd Try.prog (Instr.fieldAt 40 (env 5) 4) noHp fun v => k v h) h6 fun v34_13 h7 =>
  gd (yb v32_11 == some false) (fun h k => rd Try.prog (Instr.fieldAt 38 v34_13 0) noHp fun v => k v h) h7 fun v35_14 h8 =>
  gd (yb v32_11 == some false) (fun h k => rd Try.prog (Instr.loadAt 35 v35_14) h fun v => k v h) h8 fun v36_15 h9 =>
  gd (yb v32_11 == some false) (fun h k => Ok Try.prog 27 #[v36_15] h k) h9 fun v37_16 h10 =>
  gd (yb v32_11 == some false) (fun h k => rd Try.prog (Op.unary Go.UnOp.not v37_16) noHp fun v => k v h) h10 fun v38_17 h11 =>
  rd Try.prog (pck v32_11 (Go.Value.bool true) v38_17) noHp fun v39_18 =>
  K ((((((((((((((((((((env.set 21 (env 8)).set 22 v22_1).set 23 v22_1).set 24 v24_3).set 25 v25_4).set 26 v26_5).set 27 v27_6).set 28 v27_6).set 29 v29_8).set 30 v30_9).set 31 v31_10).set 32 v32_11).set 33 v32_11).set 34 v34_13).set 35 v35_14).set 36 v36_15).set 37 v37_16).set 38 v38_17).set 39 v39_18).set 20 v39_18) h11
@[congr] theorem dual_Dual_Hear_r2_congr {env : Env} {h : Hp} {K : Env → Hp → Prop} : dual_Dual_Hear_r2 env h K = dual_Dual_Hear_r2 env h K := rfl

/-- dual.go:254 -/
def dual_Dual_Hear_r3 (env : Env) (h : Hp) (K : Env → Hp → Prop) : Prop :=
  K ((env.set 6 (Go.Value.slice none 0 0)).set 7 (Go.Value.int Go.IntKind.i64 1)) h
@[congr] theorem dual_Dual_Hear_r3_congr {env : Env} {h : Hp} {K : Env → Hp → Prop} : dual_Dual_Hear_r3 env h K = dual_Dual_Hear_r3 env h K := rfl

/-- dual.go:255 (in any order) -/
def dual_Dual_Hear_r4 (env : Env) (h : Hp) (K : Env → Hp → Prop) : Prop :=
  rd Try.prog (Instr.fieldAt 40 (env 5) 2) noHp fun v41_0 =>
  rd Try.prog (Instr.loadAt 33 v41_0) h fun v42_1 =>
  nck (env 8) (
  rd Try.prog (Instr.fieldAt 68 (env 8) 2) noHp fun v45_4 =>
  rd Try.prog (Instr.loadAt 33 v45_4) h fun v46_5 =>
  rd Try.prog (bop Go.BinOp.leq 33 (Go.Operand.tmp 42) (Go.Operand.tmp 46) v42_1 v46_5) noHp fun v47_6 =>
  K ((((((((env.set 41 v41_0).set 42 v42_1).set 43 (env 8)).set 44 (env 8)).set 45 v45_4).set 46 v46_5).set 47 v47_6).set 40 v47_6) h)
@[congr] theorem dual_Dual_Hear_r4_congr {env : Env} {h : Hp} {K : Env → Hp → Prop} : dual_Dual_Hear_r4 env h K = dual_Dual_Hear_r4 env h K := rfl

/-- dual.go:256 -/
def dual_Dual_Hear_r5 (env : Env) (h : Hp) (K : Env → Hp → Prop) : Prop :=
  K ((env.set 6 (Go.Value.slice none 0 0)).set 7 (Go.Value.int Go.IntKind.i64 5)) h
@[congr] theorem dual_Dual_Hear_r5_congr {env : Env} {h : Hp} {K : Env → Hp → Prop} : dual_Dual_Hear_r5 env h K = dual_Dual_Hear_r5 env h K := rfl

/-- dual.go:258 -/
def dual_Dual_Hear_r6 (env : Env) (h : Hp) (K : Env → Hp → Prop) : Prop :=
  rd Try.prog (Instr.fieldAt 40 (env 5) 2) noHp fun v49_1 =>
  rd Try.prog (Instr.loadAt 33 v49_1) h fun v50_2 =>
  nck (env 8) (
  rd Try.prog (Instr.fieldAt 68 (env 8) 2) noHp fun v52_4 =>
  arun Try.prog (Instr.storeAt 33 v52_4 v50_2) h fun _ h1 =>
  K (((((env.set 48 (env 8)).set 49 v49_1).set 50 v50_2).set 51 (env 8)).set 52 v52_4) h1)
@[congr] theorem dual_Dual_Hear_r6_congr {env : Env} {h : Hp} {K : Env → Hp → Prop} : dual_Dual_Hear_r6 env h K = dual_Dual_Hear_r6 env h K := rfl

/-- dual.go:259 -/
def dual_Dual_Hear_r7 (env : Env) (h : Hp) (K : Env → Hp → Prop) : Prop :=
  rd Try.prog (Instr.fieldAt 40 (env 5) 4) noHp fun v56_2 =>
  rd Try.prog (Instr.loadAt 38 v56_2) h fun v57_3 =>
  Ok Try.prog 28 #[(env 0), (env 1), v57_3] h fun v58_4 h1 =>
  rd Try.prog (Instr.extract v58_4 0) noHp fun v59_6 =>
  rd Try.prog (Instr.extract v58_4 1) noHp fun v60_7 =>
  K ((((((((((env.set 54 (env 0)).set 55 (env 1)).set 56 v56_2).set 57 v57_3).set 58 v58_4).set 53 v58_4).set 59 v59_6).set 60 v60_7).set 9 v59_6).set 10 v60_7) h1
@[congr] theorem dual_Dual_Hear_r7_congr {env : Env} {h : Hp} {K : Env → Hp → Prop} : dual_Dual_Hear_r7 env h K = dual_Dual_Hear_r7 env h K := rfl

/-- dual.go:260 -/
def dual_Dual_Hear_r8 (env : Env) (h : Hp) (K : Env → Hp → Prop) : Prop :=
  arun Try.prog (Instr.alloc 74 true (Go.Value.tuple #[])) h fun v11_0 h1 =>
  K (env.set 11 v11_0) h1
@[congr] theorem dual_Dual_Hear_r8_congr {env : Env} {h : Hp} {K : Env → Hp → Prop} : dual_Dual_Hear_r8 env h K = dual_Dual_Hear_r8 env h K := rfl

/-- dual.go:261 -/
def dual_Dual_Hear_r9 (env : Env) (h : Hp) (K : Env → Hp → Prop) : Prop :=
  rd Try.prog (bop Go.BinOp.neq 72 (Go.Operand.tmp 61) (Go.Operand.const (Go.Value.pointer none)) (env 9) (Go.Value.pointer none)) noHp fun v62_1 =>
  K ((env.set 61 (env 9)).set 62 v62_1) h
@[congr] theorem dual_Dual_Hear_r9_congr {env : Env} {h : Hp} {K : Env → Hp → Prop} : dual_Dual_Hear_r9 env h K = dual_Dual_Hear_r9 env h K := rfl

/-- dual.go:262 -/
def dual_Dual_Hear_r10 (env : Env) (h : Hp) (K : Env → Hp → Prop) : Prop :=
  nck (env 9) (
  rd Try.prog (Instr.fieldAt 79 (env 9) 3) noHp fun v65_2 =>
  rd Try.prog (Instr.loadAt 74 v65_2) h fun v66_3 =>
  arun Try.prog (Instr.storeAt 74 (env 11) v66_3) h fun _ h1 =>
  K ((((env.set 63 (env 9)).set 64 (env 9)).set 65 v65_2).set 66 v66_3) h1)
@[congr] theorem dual_Dual_Hear_r10_congr {env : Env} {h : Hp} {K : Env → Hp → Prop} : dual_Dual_Hear_r10 env h K = dual_Dual_Hear_r10 env h K := rfl

/-- dual.go:264 -/
def dual_Dual_Hear_r11 (env : Env) (h : Hp) (K : Env → Hp → Prop) : Prop :=
  rd Try.prog (Instr.fieldAt 40 (env 5) 1) noHp fun v67_0 =>
  rd Try.prog (Instr.loadAt 3 v67_0) h fun v68_1 =>
  rd Try.prog (bop Go.BinOp.eql 3 (Go.Operand.tmp 68) (Go.Operand.const (Go.Value.int Go.IntKind.i64 2)) v68_1 (Go.Value.int Go.IntKind.i64 2)) noHp fun v69_2 =>
  K (((env.set 67 v67_0).set 68 v68_1).set 69 v69_2) h
@[congr] theorem dual_Dual_Hear_r11_congr {env : Env} {h : Hp} {K : Env → Hp → Prop} : dual_Dual_Hear_r11 env h K = dual_Dual_Hear_r11 env h K := rfl

/-- dual.go:265 -/
def dual_Dual_Hear_r12 (env : Env) (h : Hp) (K : Env → Hp → Prop) : Prop :=
  rd Try.prog (Instr.fieldAt 40 (env 5) 2) noHp fun v72_2 =>
  rd Try.prog (Instr.loadAt 33 v72_2) h fun v73_3 =>
  rd Try.prog (Instr.fieldAt 40 (env 5) 4) noHp fun v74_4 =>
  rd Try.prog (Instr.fieldAt 38 v74_4 0) noHp fun v75_5 =>
  rd Try.prog (Instr.loadAt 35 v75_5) h fun v76_6 =>
  rd Try.prog (Instr.loadAt 74 (env 11)) h fun v77_7 =>
  Ok Try.prog 25 #[(env 0), (env 1), (Go.Value.int Go.IntKind.i64 3), v73_3, v76_6, v77_7] h fun v78_8 h1 =>
  K (((((((((env.set 70 (env 0)).set 71 (env 1)).set 72 v72_2).set 73 v73_3).set 74 v74_4).set 75 v75_5).set 76 v76_6).set 77 v77_7).set 78 v78_8) h1
@[congr] theorem dual_Dual_Hear_r12_congr {env : Env} {h : Hp} {K : Env → Hp → Prop} : dual_Dual_Hear_r12 env h K = dual_Dual_Hear_r12 env h K := rfl

/-- dual.go:267 -/
def dual_Dual_Hear_r13 (env : Env) (h : Hp) (K : Env → Hp → Prop) : Prop :=
  rd Try.prog (bop Go.BinOp.neq 72 (Go.Operand.tmp 79) (Go.Operand.const (Go.Value.pointer none)) (env 9) (Go.Value.pointer none)) noHp fun v80_1 =>
  K ((env.set 79 (env 9)).set 80 v80_1) h
@[congr] theorem dual_Dual_Hear_r13_congr {env : Env} {h : Hp} {K : Env → Hp → Prop} : dual_Dual_Hear_r13 env h K = dual_Dual_Hear_r13 env h K := rfl

/-- dual.go:268 -/
def dual_Dual_Hear_r14 (env : Env) (h : Hp) (K : Env → Hp → Prop) : Prop :=
  nck (env 9) (
  rd Try.prog (Instr.fieldAt 79 (env 9) 5) noHp fun v84_2 =>
  rd Try.prog (Instr.loadAt 77 v84_2) h fun v85_3 =>
  rd Try.prog (Instr.lookup 77 v85_3 (env 1) true) h fun v87_5 =>
  rd Try.prog (Instr.extract v87_5 0) noHp fun v88_7 =>
  rd Try.prog (Instr.extract v87_5 1) noHp fun v89_8 =>
  K (((((((((((env.set 82 (env 9)).set 83 (env 9)).set 84 v84_2).set 85 v85_3).set 86 (env 1)).set 87 v87_5).set 81 v87_5).set 88 v88_7).set 89 v89_8).set 12 v88_7).set 13 v89_8) h)
@[congr] theorem dual_Dual_Hear_r14_congr {env : Env} {h : Hp} {K : Env → Hp → Prop} : dual_Dual_Hear_r14 env h K = dual_Dual_Hear_r14 env h K := rfl

/-- dual.go:268 -/
def dual_Dual_Hear_r15 (env : Env) (h : Hp) (K : Env → Hp → Prop) : Prop :=
  gd (yb (env 13) == some true) (fun h k => rd Try.prog (Instr.fieldAt 40 (env 5) 1) noHp fun v => k v h) h fun v92_2 h1 =>
  gd (yb (env 13) == some true) (fun h k => rd Try.prog (Instr.loadAt 3 v92_2) h fun v => k v h) h1 fun v93_3 h2 =>
  gd (yb (env 13) == some true) (fun h k => rd Try.prog (bop Go.BinOp.eql 3 (Go.Operand.tmp 93) (Go.Operand.const (Go.Value.int Go.IntKind.i64 3)) v93_3 (Go.Value.int Go.IntKind.i64 3)) noHp fun v => k v h) h2 fun v94_4 h3 =>
  rd Try.prog (pck (env 13) v94_4 (Go.Value.bool false)) noHp fun v95_5 =>
  gd (yb v95_5 == some true) (fun h k => rd Try.prog (Instr.fieldAt 40 (env 5) 3) noHp fun v => k v h) h3 fun v97_7 h4 =>
  gd (yb v95_5 == some true) (fun h k => rd Try.prog (Instr.loadAt 33 v97_7) h fun v => k v h) h4 fun v98_8 h5 =>
  gd (yb v95_5 == some true) (fun h k => k (env 12) h) h5 fun v99_9 h6 =>
  gd (yb v95_5 == some true) (fun h k => rd Try.prog (bop Go.BinOp.eql 33 (Go.Operand.tmp 98) (Go.Operand.tmp 99) v98_8 v99_9) noHp fun v => k v h) h6 fun v100_10 h7 =>
  rd Try.prog (pck v95_5 v100_10 (Go.Value.bool false)) noHp fun v101_11 =>
  K ((((((((((((env.set 90 (env 13)).set 91 (env 13)).set 92 v92_2).set 93 v93_3).set 94 v94_4).set 95 v95_5).set 96 v95_5).set 97 v97_7).set 98 v98_8).set 99 v99_9).set 100 v100_10).set 101 v101_11) h7
@[congr] theorem dual_Dual_Hear_r15_congr {env : Env} {h : Hp} {K : Env → Hp → Prop} : dual_Dual_Hear_r15 env h K = dual_Dual_Hear_r15 env h K := rfl

/-- dual.go:269 -/
def dual_Dual_Hear_r16 (env : Env) (h : Hp) (K : Env → Hp → Prop) : Prop :=
  Ok Try.prog 29 #[(env 9), (env 1)] h fun v104_2 h1 =>
  K (((env.set 102 (env 9)).set 103 (env 1)).set 104 v104_2) h1
@[congr] theorem dual_Dual_Hear_r16_congr {env : Env} {h : Hp} {K : Env → Hp → Prop} : dual_Dual_Hear_r16 env h K = dual_Dual_Hear_r16 env h K := rfl

/-- dual.go:271 -/
def dual_Dual_Hear_r17 (env : Env) (h : Hp) (K : Env → Hp → Prop) : Prop :=
  Ok Try.prog 30 #[(env 0), (env 9)] h fun v107_2 h1 =>
  K (((env.set 105 (env 0)).set 106 (env 9)).set 107 v107_2) h1
@[congr] theorem dual_Dual_Hear_r17_congr {env : Env} {h : Hp} {K : Env → Hp → Prop} : dual_Dual_Hear_r17 env h K = dual_Dual_Hear_r17 env h K := rfl

/-- dual.go:273 -/
def dual_Dual_Hear_r18 (env : Env) (h : Hp) (K : Env → Hp → Prop) : Prop :=
  Ok Try.prog 26 #[(env 0)] h fun v109_1 h1 =>
  K (((((env.set 108 (env 0)).set 109 v109_1).set 110 (env 10)).set 6 v109_1).set 7 (env 10)) h1
@[congr] theorem dual_Dual_Hear_r18_congr {env : Env} {h : Hp} {K : Env → Hp → Prop} : dual_Dual_Hear_r18 env h K = dual_Dual_Hear_r18 env h K := rfl

def dual_Dual_Hear_D : Den := (sq (rg dual_Dual_Hear_r0) (sq (rg dual_Dual_Hear_r1) (sq (blk 0 (sq (rg dual_Dual_Hear_r2) (cnd (Go.Operand.tmp 20) (sq (rg dual_Dual_Hear_r3) (ex .ret)) (sq (rg dual_Dual_Hear_r4) (cnd (Go.Operand.tmp 40) (sq (rg dual_Dual_Hear_r5) (ex .ret)) (ex .normal)))))) (sq (rg dual_Dual_Hear_r6) (sq (rg dual_Dual_Hear_r7) (sq (rg dual_Dual_Hear_r8) (sq (sq (rg dual_Dual_Hear_r9) (cnd (Go.Operand.tmp 62) (rg dual_Dual_Hear_r10) (ex .normal))) (sq (sq (rg dual_Dual_Hear_r11) (cnd (Go.Operand.tmp 69) (rg dual_Dual_Hear_r12) (ex .normal))) (sq (sq (rg dual_Dual_Hear_r13) (cnd (Go.Operand.tmp 80) (sq (sq (rg dual_Dual_Hear_r14) (sq (rg dual_Dual_Hear_r15) (cnd (Go.Operand.tmp 101) (rg dual_Dual_Hear_r16) (ex .normal)))) (rg dual_Dual_Hear_r17)) (ex .normal))) (sq (rg dual_Dual_Hear_r18) (ex .ret)))))))))))

theorem dual_Dual_Hear_eq : (den Try.prog 111 dual_Dual_Hear_code).1 = dual_Dual_Hear_D := by kernel_rfl

theorem dual_Dual_Hear_ok {args : Array Value} {h : Hp} {Q : Value → Hp → Prop} (hn : args.size ≤ 111) (D : dual_Dual_Hear_D (fin Try.prog [(Go.ResultVar.tmp 6), (Go.ResultVar.tmp 7)] Q) (env0 args) h) : Ok Try.prog 14 args h Q :=
  ok_of_den progIsOk Try.func14 (c := dual_Dual_Hear_code) (by kernel_rfl) hn (by show (den Try.prog 111 dual_Dual_Hear_code).1 _ _ _; rw [dual_Dual_Hear_eq]; exact D)

/-! ### (*octroi/dual.Dual).Least: function 15 -/
noncomputable def dual_Dual_Least_code : Code := match Try.f15.body with | some c => c | none => .skip

/-- dual.go:298 -/
def dual_Dual_Least_r0 (env : Env) (h : Hp) (K : Env → Hp → Prop) : Prop :=
  arun Try.prog (Instr.box 35 (env 1)) h fun v3_0 h1 =>
  K (((env.set 3 v3_0).set 4 (Go.Value.int Go.IntKind.i64 0)).set 5 (Go.Value.bool false)) h1
@[congr] theorem dual_Dual_Least_r0_congr {env : Env} {h : Hp} {K : Env → Hp → Prop} : dual_Dual_Least_r0 env h K = dual_Dual_Least_r0 env h K := rfl

/-- dual.go:299 (in any order) -/
def dual_Dual_Least_r1 (env : Env) (h : Hp) (K : Env → Hp → Prop) : Prop :=
  nck (env 0) (
  rd Try.prog (Instr.fieldAt 65 (env 0) 3) noHp fun v9_2 =>
  rd Try.prog (Instr.loadAt 63 v9_2) h fun v10_3 =>
  rd Try.prog (Instr.loadAt 35 (env 3)) h fun v11_4 =>
  rd Try.prog (Instr.lookup 63 v10_3 v11_4 false) h fun v12_5 =>
  K (((((((env.set 7 (env 0)).set 8 (env 0)).set 9 v9_2).set 10 v10_3).set 11 v11_4).set 12 v12_5).set 6 v12_5) h)
@[congr] theorem dual_Dual_Least_r1_congr {env : Env} {h : Hp} {K : Env → Hp → Prop} : dual_Dual_Least_r1 env h K = dual_Dual_Least_r1 env h K := rfl

/-- dual.go:300 -/
def dual_Dual_Least_r2 (env : Env) (h : Hp) (K : Env → Hp → Prop) : Prop :=
  rd Try.prog (bop Go.BinOp.eql 72 (Go.Operand.tmp 13) (Go.Operand.const (Go.Value.pointer none)) (env 6) (Go.Value.pointer none)) noHp fun v14_1 =>
  K ((env.set 13 (env 6)).set 14 v14_1) h
@[congr] theorem dual_Dual_Least_r2_congr {env : Env} {h : Hp} {K : Env → Hp → Prop} : dual_Dual_Least_r2 env h K = dual_Dual_Least_r2 env h K := rfl

/-- dual.go:301 -/
def dual_Dual_Least_r3 (env : Env) (h : Hp) (K : Env → Hp → Prop) : Prop :=
  K ((env.set 4 (Go.Value.int Go.IntKind.i64 4294967295)).set 5 (Go.Value.bool true)) h
@[congr] theorem dual_Dual_Least_r3_congr {env : Env} {h : Hp} {K : Env → Hp → Prop} : dual_Dual_Least_r3 env h K = dual_Dual_Least_r3 env h K := rfl

/-- dual.go:303 (in any order) -/
def dual_Dual_Least_r4 (env : Env) (h : Hp) (K : Env → Hp → Prop) : Prop :=
  nck (env 6) (
  rd Try.prog (Instr.fieldAt 79 (env 6) 4) noHp fun v17_2 =>
  rd Try.prog (Instr.loadAt 3 v17_2) h fun v18_3 =>
  nck (env 6) (
  rd Try.prog (Instr.fieldAt 79 (env 6) 5) noHp fun v21_6 =>
  rd Try.prog (Instr.loadAt 77 v21_6) h fun v22_7 =>
  rd Try.prog (Builtin.len_ #[77] 3 #[v22_7]) h fun v23_8 =>
  rd Try.prog (bop Go.BinOp.eql 3 (Go.Operand.tmp 23) (Go.Operand.const (Go.Value.int Go.IntKind.i64 0)) v23_8 (Go.Value.int Go.IntKind.i64 0)) noHp fun v24_9 =>
  K ((((((((((((env.set 15 (env 6)).set 16 (env 6)).set 17 v17_2).set 18 v18_3).set 19 (env 6)).set 20 (env 6)).set 21 v21_6).set 22 v22_7).set 23 v23_8).set 24 v24_9).set 4 v18_3).set 5 v24_9) h))
@[congr] theorem dual_Dual_Least_r4_congr {env : Env} {h : Hp} {K : Env → Hp → Prop} : dual_Dual_Least_r4 env h K = dual_Dual_Least_r4 env h K := rfl

def dual_Dual_Least_D : Den := (sq (rg dual_Dual_Least_r0) (sq (rg dual_Dual_Least_r1) (sq (sq (rg dual_Dual_Least_r2) (cnd (Go.Operand.tmp 14) (sq (rg dual_Dual_Least_r3) (ex .ret)) (ex .normal))) (sq (rg dual_Dual_Least_r4) (ex .ret)))))

theorem dual_Dual_Least_eq : (den Try.prog 25 dual_Dual_Least_code).1 = dual_Dual_Least_D := by kernel_rfl

theorem dual_Dual_Least_ok {args : Array Value} {h : Hp} {Q : Value → Hp → Prop} (hn : args.size ≤ 25) (D : dual_Dual_Least_D (fin Try.prog [(Go.ResultVar.tmp 4), (Go.ResultVar.tmp 5)] Q) (env0 args) h) : Ok Try.prog 15 args h Q :=
  ok_of_den progIsOk Try.func15 (c := dual_Dual_Least_code) (by kernel_rfl) hn (by show (den Try.prog 25 dual_Dual_Least_code).1 _ _ _; rw [dual_Dual_Least_eq]; exact D)

/-! ### octroi/metric.Join: function 16 -/
noncomputable def metric_Join_code : Code := match Try.f16.body with | some c => c | none => .skip

/-- metric.go:25 -/
def metric_Join_r0 (env : Env) (h : Hp) (K : Env → Hp → Prop) : Prop :=
  arun Try.prog (Instr.box 23 (env 0)) h fun v2_0 h1 =>
  arun Try.prog (Instr.box 23 (env 1)) h1 fun v3_1 h2 =>
  arun Try.prog (Instr.alloc 23 true (Go.Value.tuple #[])) h2 fun v4_2 h3 =>
  K (((env.set 2 v2_0).set 3 v3_1).set 4 v4_2) h3
@[congr] theorem metric_Join_r0_congr {env : Env} {h : Hp} {K : Env → Hp → Prop} : metric_Join_r0 env h K = metric_Join_r0 env h K := rfl

/-- metric.go:26 (in any order) -/
def metric_Join_r1 (env : Env) (h : Hp) (K : Env → Hp → Prop) : Prop :=
  rd Try.prog (Instr.loadAt 23 (env 2)) h fun v6_0 =>
  rd Try.prog (Instr.loadAt 23 (env 3)) h fun v8_1 =>
  Ok Try.prog 31 #[v6_0] h fun v7_2 h1 =>
  (rrun Try.prog (Instr.loadAt 23 (env 3)) h1 = some v8_1 ∧ True) ∧
  Ok Try.prog 31 #[v8_1] h1 fun v9_3 h2 =>
  (True) ∧
  rd Try.prog (bop Go.BinOp.add 88 (Go.Operand.tmp 7) (Go.Operand.tmp 9) v7_2 v9_3) noHp fun v10_4 =>
  K ((((((env.set 6 v6_0).set 8 v8_1).set 7 v7_2).set 9 v9_3).set 10 v10_4).set 5 v10_4) h2
@[congr] theorem metric_Join_r1_congr {env : Env} {h : Hp} {K : Env → Hp → Prop} : metric_Join_r1 env h K = metric_Join_r1 env h K := rfl

/-- metric.go:27 (in any order) -/
def metric_Join_r2 (env : Env) (h : Hp) (K : Env → Hp → Prop) : Prop :=
  rd Try.prog (Instr.fieldAt 23 (env 2) 0) noHp fun v11_0 =>
  rd Try.prog (Instr.loadAt 3 v11_0) h fun v12_1 =>
  rd Try.prog (Instr.fieldAt 23 (env 3) 0) noHp fun v13_2 =>
  rd Try.prog (Instr.loadAt 3 v13_2) h fun v14_3 =>
  rd Try.prog (Builtin.min_ #[3, 3] 3 #[v12_1, v14_3]) h fun v15_4 =>
  rd Try.prog (Builtin.real_ #[88] 91 #[(env 5)]) h fun v17_6 =>
  rd Try.prog (convert 91 3 v17_6) noHp fun v18_7 =>
  rd Try.prog (Builtin.imag_ #[88] 91 #[(env 5)]) h fun v21_9 =>
  rd Try.prog (convert 91 3 v21_9) noHp fun v22_10 =>
  Ok Try.prog 32 #[v18_7, (Go.Value.int Go.IntKind.i64 16777216)] h fun v19_11 h1 =>
  (rrun Try.prog (Builtin.imag_ #[88] 91 #[(env 5)]) h1 = some v21_9 ∧ rrun Try.prog (Builtin.min_ #[3, 3] 3 #[v12_1, v14_3]) h1 = some v15_4 ∧ rrun Try.prog (Instr.loadAt 3 v13_2) h1 = some v14_3 ∧ rrun Try.prog (Instr.loadAt 3 v11_0) h1 = some v12_1 ∧ True) ∧
  Ok Try.prog 32 #[v22_10, (Go.Value.int Go.IntKind.i64 100)] h1 fun v23_12 h2 =>
  (rrun Try.prog (Builtin.min_ #[3, 3] 3 #[v12_1, v14_3]) h2 = some v15_4 ∧ rrun Try.prog (Instr.loadAt 3 v13_2) h2 = some v14_3 ∧ rrun Try.prog (Instr.loadAt 3 v11_0) h2 = some v12_1 ∧ True) ∧
  rd Try.prog (Instr.build 23 #[(0, v15_4), (1, v19_11), (2, v23_12)]) noHp fun v24_13 =>
  arun Try.prog (Instr.storeAt 23 (env 4) v24_13) h2 fun _ h3 =>
  (True) ∧
  K ((((((((((((((env.set 11 v11_0).set 12 v12_1).set 13 v13_2).set 14 v14_3).set 15 v15_4).set 16 (env 5)).set 17 v17_6).set 18 v18_7).set 20 (env 5)).set 21 v21_9).set 22 v22_10).set 19 v19_11).set 23 v23_12).set 24 v24_13) h3
@[congr] theorem metric_Join_r2_congr {env : Env} {h : Hp} {K : Env → Hp → Prop} : metric_Join_r2 env h K = metric_Join_r2 env h K := rfl

def metric_Join_D : Den := (sq (rg metric_Join_r0) (sq (rg metric_Join_r1) (sq (rg metric_Join_r2) (ex .ret))))

theorem metric_Join_eq : (den Try.prog 25 metric_Join_code).1 = metric_Join_D := by kernel_rfl

theorem metric_Join_ok {args : Array Value} {h : Hp} {Q : Value → Hp → Prop} (hn : args.size ≤ 25) (D : metric_Join_D (fin Try.prog [(Go.ResultVar.cell 4 23)] Q) (env0 args) h) : Ok Try.prog 16 args h Q :=
  ok_of_den progIsOk Try.func16 (c := metric_Join_code) (by kernel_rfl) hn (by show (den Try.prog 25 metric_Join_code).1 _ _ _; rw [metric_Join_eq]; exact D)

/-! ### octroi/metric.Reached: function 17 -/
noncomputable def metric_Reached_code : Code := match Try.f17.body with | some c => c | none => .skip

/-- metric.go:31 -/
def metric_Reached_r0 (env : Env) (h : Hp) (K : Env → Hp → Prop) : Prop :=
  arun Try.prog (Instr.box 23 (env 0)) h fun v1_0 h1 =>
  K ((env.set 1 v1_0).set 2 (Go.Value.bool false)) h1
@[congr] theorem metric_Reached_r0_congr {env : Env} {h : Hp} {K : Env → Hp → Prop} : metric_Reached_r0 env h K = metric_Reached_r0 env h K := rfl

/-- metric.go:31 -/
def metric_Reached_r1 (env : Env) (h : Hp) (K : Env → Hp → Prop) : Prop :=
  rd Try.prog (Instr.loadAt 23 (env 1)) h fun v3_0 =>
  Ok Try.prog 13 #[v3_0] h fun v4_1 h1 =>
  gd (yb v4_1 == some true) (fun h k => rd Try.prog (Instr.fieldAt 23 (env 1) 1) noHp fun v => k v h) h1 fun v6_3 h2 =>
  gd (yb v4_1 == some true) (fun h k => rd Try.prog (Instr.loadAt 3 v6_3) h fun v => k v h) h2 fun v7_4 h3 =>
  gd (yb v4_1 == some true) (fun h k => rd Try.prog (bop Go.BinOp.lss 3 (Go.Operand.tmp 7) (Go.Operand.const (Go.Value.int Go.IntKind.i64 16777216)) v7_4 (Go.Value.int Go.IntKind.i64 16777216)) noHp fun v => k v h) h3 fun v8_5 h4 =>
  rd Try.prog (pck v4_1 v8_5 (Go.Value.bool false)) noHp fun v9_6 =>
  gd (yb v9_6 == some true) (fun h k => rd Try.prog (Instr.fieldAt 23 (env 1) 2) noHp fun v => k v h) h4 fun v11_8 h5 =>
  gd (yb v9_6 == some true) (fun h k => rd Try.prog (Instr.loadAt 3 v11_8) h fun v => k v h) h5 fun v12_9 h6 =>
  gd (yb v9_6 == some true) (fun h k => rd Try.prog (bop Go.BinOp.lss 3 (Go.Operand.tmp 12) (Go.Operand.const (Go.Value.int Go.IntKind.i64 100)) v12_9 (Go.Value.int Go.IntKind.i64 100)) noHp fun v => k v h) h6 fun v13_10 h7 =>
  rd Try.prog (pck v9_6 v13_10 (Go.Value.bool false)) noHp fun v14_11 =>
  K (((((((((((((env.set 3 v3_0).set 4 v4_1).set 5 v4_1).set 6 v6_3).set 7 v7_4).set 8 v8_5).set 9 v9_6).set 10 v9_6).set 11 v11_8).set 12 v12_9).set 13 v13_10).set 14 v14_11).set 2 v14_11) h7
@[congr] theorem metric_Reached_r1_congr {env : Env} {h : Hp} {K : Env → Hp → Prop} : metric_Reached_r1 env h K = metric_Reached_r1 env h K := rfl

def metric_Reached_D : Den := (sq (rg metric_Reached_r0) (sq (rg metric_Reached_r1) (ex .ret)))

theorem metric_Reached_eq : (den Try.prog 15 metric_Reached_code).1 = metric_Reached_D := by kernel_rfl

theorem metric_Reached_ok {args : Array Value} {h : Hp} {Q : Value → Hp → Prop} (hn : args.size ≤ 15) (D : metric_Reached_D (fin Try.prog [(Go.ResultVar.tmp 2)] Q) (env0 args) h) : Ok Try.prog 17 args h Q :=
  ok_of_den progIsOk Try.func17 (c := metric_Reached_code) (by kernel_rfl) hn (by show (den Try.prog 15 metric_Reached_code).1 _ _ _; rw [metric_Reached_eq]; exact D)

/-! ### octroi/metric.Of: function 18 -/
noncomputable def metric_Of_code : Code := match Try.f18.body with | some c => c | none => .skip

/-- metric.go:34 -/
def metric_Of_r0 (env : Env) (h : Hp) (K : Env → Hp → Prop) : Prop :=
  arun Try.prog (Instr.box 23 (env 0)) h fun v1_0 h1 =>
  K ((env.set 1 v1_0).set 2 (Go.Value.int Go.IntKind.i64 0)) h1
@[congr] theorem metric_Of_r0_congr {env : Env} {h : Hp} {K : Env → Hp → Prop} : metric_Of_r0 env h K = metric_Of_r0 env h K := rfl

/-- metric.go:35 -/
def metric_Of_r1 (env : Env) (h : Hp) (K : Env → Hp → Prop) : Prop :=
  rd Try.prog (Instr.loadAt 23 (env 1)) h fun v3_0 =>
  Ok Try.prog 17 #[v3_0] h fun v4_1 h1 =>
  rd Try.prog (Op.unary Go.UnOp.not v4_1) noHp fun v5_2 =>
  K (((env.set 3 v3_0).set 4 v4_1).set 5 v5_2) h1
@[congr] theorem metric_Of_r1_congr {env : Env} {h : Hp} {K : Env → Hp → Prop} : metric_Of_r1 env h K = metric_Of_r1 env h K := rfl

/-- metric.go:36 -/
def metric_Of_r2 (env : Env) (h : Hp) (K : Env → Hp → Prop) : Prop :=
  K (env.set 2 (Go.Value.int Go.IntKind.i64 4294967295)) h
@[congr] theorem metric_Of_r2_congr {env : Env} {h : Hp} {K : Env → Hp → Prop} : metric_Of_r2 env h K = metric_Of_r2 env h K := rfl

/-- metric.go:38 (in any order) -/
def metric_Of_r3 (env : Env) (h : Hp) (K : Env → Hp → Prop) : Prop :=
  rd Try.prog (Instr.fieldAt 23 (env 1) 0) noHp fun v6_0 =>
  rd Try.prog (Instr.loadAt 3 v6_0) h fun v7_1 =>
  rd Try.prog (bop Go.BinOp.quo 3 (Go.Operand.const (Go.Value.int Go.IntKind.i64 10000000)) (Go.Operand.tmp 7) (Go.Value.int Go.IntKind.i64 10000000) v7_1) noHp fun v8_2 =>
  rd Try.prog (Instr.fieldAt 23 (env 1) 1) noHp fun v9_3 =>
  rd Try.prog (Instr.loadAt 3 v9_3) h fun v10_4 =>
  rd Try.prog (bop Go.BinOp.add 3 (Go.Operand.tmp 8) (Go.Operand.tmp 10) v8_2 v10_4) noHp fun v11_5 =>
  rd Try.prog (bop Go.BinOp.mul 3 (Go.Operand.const (Go.Value.int Go.IntKind.i64 256)) (Go.Operand.tmp 11) (Go.Value.int Go.IntKind.i64 256) v11_5) noHp fun v12_6 =>
  rd Try.prog (Builtin.min_ #[3, 3] 3 #[v12_6, (Go.Value.int Go.IntKind.i64 4294967294)]) h fun v13_7 =>
  K (((((((((env.set 6 v6_0).set 7 v7_1).set 8 v8_2).set 9 v9_3).set 10 v10_4).set 11 v11_5).set 12 v12_6).set 13 v13_7).set 2 v13_7) h
@[congr] theorem metric_Of_r3_congr {env : Env} {h : Hp} {K : Env → Hp → Prop} : metric_Of_r3 env h K = metric_Of_r3 env h K := rfl

def metric_Of_D : Den := (sq (rg metric_Of_r0) (sq (sq (rg metric_Of_r1) (cnd (Go.Operand.tmp 5) (sq (rg metric_Of_r2) (ex .ret)) (ex .normal))) (sq (rg metric_Of_r3) (ex .ret))))

theorem metric_Of_eq : (den Try.prog 14 metric_Of_code).1 = metric_Of_D := by kernel_rfl

theorem metric_Of_ok {args : Array Value} {h : Hp} {Q : Value → Hp → Prop} (hn : args.size ≤ 14) (D : metric_Of_D (fin Try.prog [(Go.ResultVar.tmp 2)] Q) (env0 args) h) : Ok Try.prog 18 args h Q :=
  ok_of_den progIsOk Try.func18 (c := metric_Of_code) (by kernel_rfl) hn (by show (den Try.prog 14 metric_Of_code).1 _ _ _; rw [metric_Of_eq]; exact D)

/-! ### (*octroi/dual.Dual).All: function 19 -/
noncomputable def dual_Dual_All_code : Code := match Try.f19.body with | some c => c | none => .skip

/-- dual.go:287 -/
def dual_Dual_All_r0 (env : Env) (h : Hp) (K : Env → Hp → Prop) : Prop :=
  arun Try.prog (Instr.box 25 (env 0)) h fun v1_0 h1 =>
  K ((env.set 1 v1_0).set 2 (Go.Value.slice none 0 0)) h1
@[congr] theorem dual_Dual_All_r0_congr {env : Env} {h : Hp} {K : Env → Hp → Prop} : dual_Dual_All_r0 env h K = dual_Dual_All_r0 env h K := rfl

/-- dual.go:288 -/
def dual_Dual_All_r1 (env : Env) (h : Hp) (K : Env → Hp → Prop) : Prop :=
  arun Try.prog (Instr.alloc 45 true (Go.Value.tuple #[])) h fun v3_0 h1 =>
  K (env.set 3 v3_0) h1
@[congr] theorem dual_Dual_All_r1_congr {env : Env} {h : Hp} {K : Env → Hp → Prop} : dual_Dual_All_r1 env h K = dual_Dual_All_r1 env h K := rfl

/-- dual.go:289 -/
def dual_Dual_All_r2 (env : Env) (h : Hp) (K : Env → Hp → Prop) : Prop :=
  rd Try.prog (Instr.loadAt 25 (env 1)) h fun v7_0 =>
  Ok Try.prog 24 #[v7_0] h fun v8_1 h1 =>
  K ((env.set 7 v7_0).set 8 v8_1) h1
@[congr] theorem dual_Dual_All_r2_congr {env : Env} {h : Hp} {K : Env → Hp → Prop} : dual_Dual_All_r2 env h K = dual_Dual_All_r2 env h K := rfl

/-- dual.go:289 -/
def dual_Dual_All_r3 (env : Env) (h : Hp) (K : Env → Hp → Prop) : Prop :=
  K (env.set 4 (env 9)) h
@[congr] theorem dual_Dual_All_r3_congr {env : Env} {h : Hp} {K : Env → Hp → Prop} : dual_Dual_All_r3 env h K = dual_Dual_All_r3 env h K := rfl

/-- dual.go:290 (in any order) -/
def dual_Dual_All_r4 (env : Env) (h : Hp) (K : Env → Hp → Prop) : Prop :=
  rd Try.prog (Instr.loadAt 25 (env 1)) h fun v11_0 =>
  nck (env 4) (
  rd Try.prog (Instr.fieldAt 79 (env 4) 4) noHp fun v15_4 =>
  rd Try.prog (Instr.loadAt 3 v15_4) h fun v16_5 =>
  (Ok Try.prog 33 #[v11_0, (env 4), v16_5] h fun v17_6 h1 =>
  (True) ∧
  rd Try.prog (Instr.extract v17_6 0) noHp fun v18_8 =>
  rd Try.prog (Instr.extract v17_6 1) noHp fun v19_9 =>
  arun Try.prog (Instr.alloc 74 true (Go.Value.tuple #[])) h1 fun v5_10 h2 =>
  (True) ∧
  arun Try.prog (Instr.storeAt 74 v5_10 v18_8) h2 fun _ h3 =>
  (True) ∧
  K ((((((((((((env.set 11 v11_0).set 12 (env 4)).set 13 (env 4)).set 14 (env 4)).set 15 v15_4).set 16 v16_5).set 17 v17_6).set 10 v17_6).set 18 v18_8).set 19 v19_9).set 5 v5_10).set 6 v19_9) h3) ∧
(arun Try.prog (Instr.alloc 74 true (Go.Value.tuple #[])) h fun v5_13 h4 =>
  (rrun Try.prog (Instr.loadAt 3 v15_4) h4 = some v16_5 ∧ rrun Try.prog (Instr.loadAt 25 (env 1)) h4 = some v11_0 ∧ True) ∧
  Ok Try.prog 33 #[v11_0, (env 4), v16_5] h4 fun v17_14 h5 =>
  (True) ∧
  rd Try.prog (Instr.extract v17_14 0) noHp fun v18_16 =>
  rd Try.prog (Instr.extract v17_14 1) noHp fun v19_17 =>
  arun Try.prog (Instr.storeAt 74 v5_13 v18_16) h5 fun _ h6 =>
  (True) ∧
  K ((((((((((((env.set 11 v11_0).set 12 (env 4)).set 13 (env 4)).set 14 (env 4)).set 15 v15_4).set 16 v16_5).set 5 v5_13).set 17 v17_14).set 10 v17_14).set 18 v18_16).set 19 v19_17).set 6 v19_17) h6))
@[congr] theorem dual_Dual_All_r4_congr {env : Env} {h : Hp} {K : Env → Hp → Prop} : dual_Dual_All_r4 env h K = dual_Dual_All_r4 env h K := rfl

/-- dual.go:290 -/
def dual_Dual_All_r5 (env : Env) (h : Hp) (K : Env → Hp → Prop) : Prop :=
  K (env.set 20 (env 6)) h
@[congr] theorem dual_Dual_All_r5_congr {env : Env} {h : Hp} {K : Env → Hp → Prop} : dual_Dual_All_r5 env h K = dual_Dual_All_r5 env h K := rfl

/-- dual.go:291 (in any order) -/
def dual_Dual_All_r6 (env : Env) (h : Hp) (K : Env → Hp → Prop) : Prop :=
  rd Try.prog (Instr.loadAt 45 (env 3)) h fun v21_0 =>
  nck (env 4) (
  rd Try.prog (Instr.fieldAt 79 (env 4) 0) noHp fun v24_3 =>
  rd Try.prog (Instr.loadAt 35 v24_3) h fun v25_4 =>
  rd Try.prog (Instr.loadAt 25 (env 1)) h fun v26_5 =>
  nck v26_5 (
  rd Try.prog (Instr.fieldAt 65 v26_5 0) noHp fun v28_7 =>
  rd Try.prog (Instr.loadAt 3 v28_7) h fun v29_8 =>
  rd Try.prog (Instr.fieldAt 74 (env 5) 0) noHp fun v30_9 =>
  rd Try.prog (Instr.loadAt 23 v30_9) h fun v31_10 =>
  rd Try.prog (Instr.fieldAt 74 (env 5) 2) noHp fun v33_11 =>
  rd Try.prog (Instr.loadAt 3 v33_11) h fun v34_12 =>
  rd Try.prog (Instr.fieldAt 74 (env 5) 1) noHp fun v35_13 =>
  rd Try.prog (Instr.loadAt 36 v35_13) h fun v36_14 =>
  Ok Try.prog 18 #[v31_10] h fun v32_15 h1 =>
  (rrun Try.prog (Instr.loadAt 36 v35_13) h1 = some v36_14 ∧ rrun Try.prog (Instr.loadAt 3 v33_11) h1 = some v34_12 ∧ rrun Try.prog (Instr.loadAt 3 v28_7) h1 = some v29_8 ∧ rrun Try.prog (Instr.loadAt 25 (env 1)) h1 = some v26_5 ∧ rrun Try.prog (Instr.loadAt 35 v24_3) h1 = some v25_4 ∧ rrun Try.prog (Instr.loadAt 45 (env 3)) h1 = some v21_0 ∧ True) ∧
  rd Try.prog (Instr.build 49 #[(0, v25_4), (1, v29_8), (2, (Go.Value.int Go.IntKind.i64 90)), (3, v32_15), (4, v34_12), (5, v36_14)]) noHp fun v37_16 =>
  arun Try.prog (Instr.buildSlice 45 1 #[(0, v37_16)]) h1 fun v38_17 h2 =>
  (rrun Try.prog (Instr.loadAt 45 (env 3)) h2 = some v21_0 ∧ True) ∧
  arun Try.prog (Builtin.append_ #[45, 45] 45 #[v21_0, v38_17]) h2 fun v39_18 h3 =>
  (True) ∧
  arun Try.prog (Instr.storeAt 45 (env 3) v39_18) h3 fun _ h4 =>
  (True) ∧
  K (((((((((((((((((((env.set 21 v21_0).set 22 (env 4)).set 23 (env 4)).set 24 v24_3).set 25 v25_4).set 26 v26_5).set 27 v26_5).set 28 v28_7).set 29 v29_8).set 30 v30_9).set 31 v31_10).set 33 v33_11).set 34 v34_12).set 35 v35_13).set 36 v36_14).set 32 v32_15).set 37 v37_16).set 38 v38_17).set 39 v39_18) h4))
@[congr] theorem dual_Dual_All_r6_congr {env : Env} {h : Hp} {K : Env → Hp → Prop} : dual_Dual_All_r6 env h K = dual_Dual_All_r6 env h K := rfl

def dual_Dual_All_F0_A : Den := (rg dual_Dual_All_r3)
def dual_Dual_All_F0_B : Den := (blk 1 (sq (rg dual_Dual_All_r4) (sq (rg dual_Dual_All_r5) (cnd (Go.Operand.tmp 20) (rg dual_Dual_All_r6) (ex .normal)))))

noncomputable def dual_Dual_All_F0_a : Code := subCode [1, 1, 0, 1, 0, 0] dual_Dual_All_code
noncomputable def dual_Dual_All_F0_b : Code := subCode [1, 1, 0, 1, 0, 1] dual_Dual_All_code

theorem dual_Dual_All_F0_Aeq : (den Try.prog 41 dual_Dual_All_F0_a).1 = dual_Dual_All_F0_A := by kernel_rfl
theorem dual_Dual_All_F0_Beq : (den Try.prog 41 dual_Dual_All_F0_b).1 = dual_Dual_All_F0_B := by kernel_rfl

theorem dual_Dual_All_F0_yok {env : Env} {fn D l : Nat} {g : Hp} {x0 : Value} {k : Value → Hp → Prop} (hl : g l = some (recOf 41 env #[9] dual_Dual_All_F0_a dual_Dual_All_F0_b .ready none fn D)) (hu : ∀ t, 41 ≤ t → env t = undef)
    (H : rnd l (recOf 41 env #[9] dual_Dual_All_F0_a dual_Dual_All_F0_b .ready none fn D) (recOf 41 env #[9] dual_Dual_All_F0_a dual_Dual_All_F0_b .busy none fn D) dual_Dual_All_F0_A dual_Dual_All_F0_B (rndK l 41 env #[9] dual_Dual_All_F0_a dual_Dual_All_F0_b fn D k) (envPs 41 env [(9, x0)]) g) : YOk Try.prog l #[x0] g k := yok_rnd (args := #[x0]) progIsOk (by kernel_rfl) (by kernel_rfl) dual_Dual_All_F0_Aeq dual_Dual_All_F0_Beq hl hu rfl (by rw [show (Array.zip (#[9] : Array Tmp) #[x0]).toList = [(9, x0)] by simp]; exact H)

/-- dual.go:294 -/
def dual_Dual_All_r7 (env : Env) (h : Hp) (K : Env → Hp → Prop) : Prop :=
  rd Try.prog (Instr.loadAt 45 (env 3)) h fun v40_0 =>
  K ((env.set 40 v40_0).set 2 v40_0) h
@[congr] theorem dual_Dual_All_r7_congr {env : Env} {h : Hp} {K : Env → Hp → Prop} : dual_Dual_All_r7 env h K = dual_Dual_All_r7 env h K := rfl

def dual_Dual_All_D : Den := (sq (rg dual_Dual_All_r0) (sq (rg dual_Dual_All_r1) (sq (sq (rg dual_Dual_All_r2) (blk 0 (rfn Try.prog 41 (Go.Operand.tmp 8) #[9] dual_Dual_All_F0_a dual_Dual_All_F0_b))) (sq (rg dual_Dual_All_r7) (ex .ret)))))

theorem dual_Dual_All_eq : (den Try.prog 41 dual_Dual_All_code).1 = dual_Dual_All_D := by kernel_rfl

theorem dual_Dual_All_ok {args : Array Value} {h : Hp} {Q : Value → Hp → Prop} (hn : args.size ≤ 41) (D : dual_Dual_All_D (fin Try.prog [(Go.ResultVar.tmp 2)] Q) (env0 args) h) : Ok Try.prog 19 args h Q :=
  ok_of_den progIsOk Try.func19 (c := dual_Dual_All_code) (by kernel_rfl) hn (by show (den Try.prog 41 dual_Dual_All_code).1 _ _ _; rw [dual_Dual_All_eq]; exact D)

/-! ### octroi/metric.Better: function 20 -/
noncomputable def metric_Better_code : Code := match Try.f20.body with | some c => c | none => .skip

/-- metric.go:42 -/
def metric_Better_r0 (env : Env) (h : Hp) (K : Env → Hp → Prop) : Prop :=
  arun Try.prog (Instr.box 23 (env 0)) h fun v2_0 h1 =>
  arun Try.prog (Instr.box 23 (env 1)) h1 fun v3_1 h2 =>
  K (((env.set 2 v2_0).set 3 v3_1).set 4 (Go.Value.bool false)) h2
@[congr] theorem metric_Better_r0_congr {env : Env} {h : Hp} {K : Env → Hp → Prop} : metric_Better_r0 env h K = metric_Better_r0 env h K := rfl

/-- metric.go:43 (in any order) -/
def metric_Better_r1 (env : Env) (h : Hp) (K : Env → Hp → Prop) : Prop :=
  rd Try.prog (Instr.loadAt 23 (env 2)) h fun v7_0 =>
  rd Try.prog (Instr.loadAt 23 (env 3)) h fun v9_1 =>
  Ok Try.prog 18 #[v7_0] h fun v8_2 h1 =>
  (rrun Try.prog (Instr.loadAt 23 (env 3)) h1 = some v9_1 ∧ True) ∧
  Ok Try.prog 18 #[v9_1] h1 fun v10_3 h2 =>
  (True) ∧
  K ((((((env.set 7 v7_0).set 9 v9_1).set 8 v8_2).set 10 v10_3).set 5 v8_2).set 6 v10_3) h2
@[congr] theorem metric_Better_r1_congr {env : Env} {h : Hp} {K : Env → Hp → Prop} : metric_Better_r1 env h K = metric_Better_r1 env h K := rfl

/-- metric.go:44 -/
def metric_Better_r2 (env : Env) (h : Hp) (K : Env → Hp → Prop) : Prop :=
  rd Try.prog (bop Go.BinOp.lss 3 (Go.Operand.tmp 11) (Go.Operand.tmp 12) (env 5) (env 6)) noHp fun v13_2 =>
  gd (yb v13_2 == some false) (fun h k => k (env 5) h) h fun v15_4 h1 =>
  gd (yb v13_2 == some false) (fun h k => k (env 6) h) h1 fun v16_5 h2 =>
  gd (yb v13_2 == some false) (fun h k => rd Try.prog (bop Go.BinOp.eql 3 (Go.Operand.tmp 15) (Go.Operand.tmp 16) v15_4 v16_5) noHp fun v => k v h) h2 fun v17_6 h3 =>
  gd (yb v13_2 == some false) (fun h k => k v17_6 h) h3 fun v18_7 h4 =>
  gd (yb v18_7 == some true) (fun h k => rd Try.prog (Instr.fieldAt 23 (env 2) 2) noHp fun v => k v h) h4 fun v19_8 h5 =>
  gd (yb v18_7 == some true) (fun h k => rd Try.prog (Instr.loadAt 3 v19_8) h fun v => k v h) h5 fun v20_9 h6 =>
  gd (yb v18_7 == some true) (fun h k => rd Try.prog (Instr.fieldAt 23 (env 3) 2) noHp fun v => k v h) h6 fun v21_10 h7 =>
  gd (yb v18_7 == some true) (fun h k => rd Try.prog (Instr.loadAt 3 v21_10) h fun v => k v h) h7 fun v22_11 h8 =>
  gd (yb v18_7 == some true) (fun h k => rd Try.prog (bop Go.BinOp.lss 3 (Go.Operand.tmp 20) (Go.Operand.tmp 22) v20_9 v22_11) noHp fun v => k v h) h8 fun v23_12 h9 =>
  gd (yb v13_2 == some false) (fun h k => rd Try.prog (pck v18_7 v23_12 (Go.Value.bool false)) noHp fun v => k v h) h9 fun v24_13 h10 =>
  rd Try.prog (pck v13_2 (Go.Value.bool true) v24_13) noHp fun v25_14 =>
  K ((((((((((((((((env.set 11 (env 5)).set 12 (env 6)).set 13 v13_2).set 14 v13_2).set 15 v15_4).set 16 v16_5).set 17 v17_6).set 18 v18_7).set 19 v19_8).set 20 v20_9).set 21 v21_10).set 22 v22_11).set 23 v23_12).set 24 v24_13).set 25 v25_14).set 4 v25_14) h10
@[congr] theorem metric_Better_r2_congr {env : Env} {h : Hp} {K : Env → Hp → Prop} : metric_Better_r2 env h K = metric_Better_r2 env h K := rfl

def metric_Better_D : Den := (sq (rg metric_Better_r0) (sq (rg metric_Better_r1) (sq (rg metric_Better_r2) (ex .ret))))

theorem metric_Better_eq : (den Try.prog 26 metric_Better_code).1 = metric_Better_D := by kernel_rfl

theorem metric_Better_ok {args : Array Value} {h : Hp} {Q : Value → Hp → Prop} (hn : args.size ≤ 26) (D : metric_Better_D (fin Try.prog [(Go.ResultVar.tmp 4)] Q) (env0 args) h) : Ok Try.prog 20 args h Q :=
  ok_of_den progIsOk Try.func20 (c := metric_Better_code) (by kernel_rfl) hn (by show (den Try.prog 26 metric_Better_code).1 _ _ _; rw [metric_Better_eq]; exact D)

/-! ### octroi/octroilaw18.Does: function 21 -/
noncomputable def octroilaw18_Does_code : Code := match Try.f21.body with | some c => c | none => .skip

/-- law.go:32 -/
def octroilaw18_Does_r0 (env : Env) (h : Hp) (K : Env → Hp → Prop) : Prop :=
  arun Try.prog (Instr.box 55 (env 1)) h fun v3_0 h1 =>
  K (((env.set 3 v3_0).set 4 (Go.Value.slice none 0 0)).set 5 (Go.Value.int Go.IntKind.i64 0)) h1
@[congr] theorem octroilaw18_Does_r0_congr {env : Env} {h : Hp} {K : Env → Hp → Prop} : octroilaw18_Does_r0 env h K = octroilaw18_Does_r0 env h K := rfl

/-- law.go:33 -/
def octroilaw18_Does_r1 (env : Env) (h : Hp) (K : Env → Hp → Prop) : Prop :=
  rd Try.prog (Instr.fieldAt 55 (env 3) 0) noHp fun v14_0 =>
  rd Try.prog (Instr.loadAt 3 v14_0) h fun v15_1 =>
  K ((env.set 14 v14_0).set 15 v15_1) h
@[congr] theorem octroilaw18_Does_r1_congr {env : Env} {h : Hp} {K : Env → Hp → Prop} : octroilaw18_Does_r1 env h K = octroilaw18_Does_r1 env h K := rfl

/-- law.go:34 -/
def octroilaw18_Does_r2 (env : Env) (h : Hp) (K : Env → Hp → Prop) : Prop :=
  rd Try.prog (bop Go.BinOp.eql 3 (Go.Operand.tmp 15) (Go.Operand.const (Go.Value.int Go.IntKind.i64 0)) (env 15) (Go.Value.int Go.IntKind.i64 0)) noHp fun v17_0 =>
  K ((env.set 17 v17_0).set 16 v17_0) h
@[congr] theorem octroilaw18_Does_r2_congr {env : Env} {h : Hp} {K : Env → Hp → Prop} : octroilaw18_Does_r2 env h K = octroilaw18_Does_r2 env h K := rfl

/-- law.go:35 -/
def octroilaw18_Does_r3 (env : Env) (h : Hp) (K : Env → Hp → Prop) : Prop :=
  rd Try.prog (Instr.fieldAt 55 (env 3) 1) noHp fun v20_1 =>
  rd Try.prog (Instr.loadAt 3 v20_1) h fun v21_2 =>
  rd Try.prog (Instr.fieldAt 55 (env 3) 2) noHp fun v22_3 =>
  rd Try.prog (Instr.fieldAt 40 v22_3 4) noHp fun v23_4 =>
  rd Try.prog (Instr.fieldAt 38 v23_4 1) noHp fun v24_5 =>
  rd Try.prog (Instr.loadAt 23 v24_5) h fun v25_6 =>
  Ok Try.prog 12 #[(env 0), v21_2, v25_6] h fun v26_7 h1 =>
  rd Try.prog (Instr.extract v26_7 0) noHp fun v27_9 =>
  rd Try.prog (Instr.extract v26_7 1) noHp fun v28_10 =>
  K (((((((((((((env.set 19 (env 0)).set 20 v20_1).set 21 v21_2).set 22 v22_3).set 23 v23_4).set 24 v24_5).set 25 v25_6).set 26 v26_7).set 18 v26_7).set 27 v27_9).set 28 v28_10).set 6 v27_9).set 7 v28_10) h1
@[congr] theorem octroilaw18_Does_r3_congr {env : Env} {h : Hp} {K : Env → Hp → Prop} : octroilaw18_Does_r3 env h K = octroilaw18_Does_r3 env h K := rfl

/-- law.go:36 -/
def octroilaw18_Does_r4 (env : Env) (h : Hp) (K : Env → Hp → Prop) : Prop :=
  K ((((env.set 29 (env 6)).set 30 (env 7)).set 4 (env 6)).set 5 (env 7)) h
@[congr] theorem octroilaw18_Does_r4_congr {env : Env} {h : Hp} {K : Env → Hp → Prop} : octroilaw18_Does_r4 env h K = octroilaw18_Does_r4 env h K := rfl

/-- law.go:37 -/
def octroilaw18_Does_r5 (env : Env) (h : Hp) (K : Env → Hp → Prop) : Prop :=
  rd Try.prog (bop Go.BinOp.eql 3 (Go.Operand.tmp 15) (Go.Operand.const (Go.Value.int Go.IntKind.i64 1)) (env 15) (Go.Value.int Go.IntKind.i64 1)) noHp fun v32_0 =>
  K ((env.set 32 v32_0).set 31 v32_0) h
@[congr] theorem octroilaw18_Does_r5_congr {env : Env} {h : Hp} {K : Env → Hp → Prop} : octroilaw18_Does_r5 env h K = octroilaw18_Does_r5 env h K := rfl

/-- law.go:38 -/
def octroilaw18_Does_r6 (env : Env) (h : Hp) (K : Env → Hp → Prop) : Prop :=
  rd Try.prog (Instr.fieldAt 55 (env 3) 1) noHp fun v34_1 =>
  rd Try.prog (Instr.loadAt 3 v34_1) h fun v35_2 =>
  Ok Try.prog 34 #[(env 0), v35_2] h fun v36_3 h1 =>
  K ((((((env.set 33 (env 0)).set 34 v34_1).set 35 v35_2).set 36 v36_3).set 4 v36_3).set 5 (Go.Value.int Go.IntKind.i64 0)) h1
@[congr] theorem octroilaw18_Does_r6_congr {env : Env} {h : Hp} {K : Env → Hp → Prop} : octroilaw18_Does_r6 env h K = octroilaw18_Does_r6 env h K := rfl

/-- law.go:39 -/
def octroilaw18_Does_r7 (env : Env) (h : Hp) (K : Env → Hp → Prop) : Prop :=
  rd Try.prog (bop Go.BinOp.eql 3 (Go.Operand.tmp 15) (Go.Operand.const (Go.Value.int Go.IntKind.i64 2)) (env 15) (Go.Value.int Go.IntKind.i64 2)) noHp fun v38_0 =>
  K ((env.set 38 v38_0).set 37 v38_0) h
@[congr] theorem octroilaw18_Does_r7_congr {env : Env} {h : Hp} {K : Env → Hp → Prop} : octroilaw18_Does_r7 env h K = octroilaw18_Does_r7 env h K := rfl

/-- law.go:40 -/
def octroilaw18_Does_r8 (env : Env) (h : Hp) (K : Env → Hp → Prop) : Prop :=
  rd Try.prog (Instr.fieldAt 55 (env 3) 2) noHp fun v41_1 =>
  rd Try.prog (Instr.fieldAt 40 v41_1 4) noHp fun v42_2 =>
  rd Try.prog (Instr.fieldAt 38 v42_2 0) noHp fun v43_3 =>
  rd Try.prog (Instr.loadAt 35 v43_3) h fun v44_4 =>
  rd Try.prog (Instr.fieldAt 55 (env 3) 2) noHp fun v45_5 =>
  rd Try.prog (Instr.fieldAt 40 v45_5 4) noHp fun v46_6 =>
  rd Try.prog (Instr.fieldAt 38 v46_6 1) noHp fun v47_7 =>
  rd Try.prog (Instr.loadAt 23 v47_7) h fun v48_8 =>
  rd Try.prog (Instr.fieldAt 55 (env 3) 2) noHp fun v49_9 =>
  rd Try.prog (Instr.fieldAt 40 v49_9 4) noHp fun v50_10 =>
  rd Try.prog (Instr.fieldAt 38 v50_10 2) noHp fun v51_11 =>
  rd Try.prog (Instr.loadAt 36 v51_11) h fun v52_12 =>
  Ok Try.prog 35 #[(env 0), v44_4, v48_8, v52_12] h fun v53_13 h1 =>
  rd Try.prog (Instr.extract v53_13 0) noHp fun v54_15 =>
  rd Try.prog (Instr.extract v53_13 1) noHp fun v55_16 =>
  K (((((((((((((((((((env.set 40 (env 0)).set 41 v41_1).set 42 v42_2).set 43 v43_3).set 44 v44_4).set 45 v45_5).set 46 v46_6).set 47 v47_7).set 48 v48_8).set 49 v49_9).set 50 v50_10).set 51 v51_11).set 52 v52_12).set 53 v53_13).set 39 v53_13).set 54 v54_15).set 55 v55_16).set 8 v54_15).set 9 v55_16) h1
@[congr] theorem octroilaw18_Does_r8_congr {env : Env} {h : Hp} {K : Env → Hp → Prop} : octroilaw18_Does_r8 env h K = octroilaw18_Does_r8 env h K := rfl

/-- law.go:41 -/
def octroilaw18_Does_r9 (env : Env) (h : Hp) (K : Env → Hp → Prop) : Prop :=
  K ((((env.set 56 (env 8)).set 57 (env 9)).set 4 (env 8)).set 5 (env 9)) h
@[congr] theorem octroilaw18_Does_r9_congr {env : Env} {h : Hp} {K : Env → Hp → Prop} : octroilaw18_Does_r9 env h K = octroilaw18_Does_r9 env h K := rfl

/-- law.go:42 -/
def octroilaw18_Does_r10 (env : Env) (h : Hp) (K : Env → Hp → Prop) : Prop :=
  rd Try.prog (bop Go.BinOp.eql 3 (Go.Operand.tmp 15) (Go.Operand.const (Go.Value.int Go.IntKind.i64 3)) (env 15) (Go.Value.int Go.IntKind.i64 3)) noHp fun v59_0 =>
  K ((env.set 59 v59_0).set 58 v59_0) h
@[congr] theorem octroilaw18_Does_r10_congr {env : Env} {h : Hp} {K : Env → Hp → Prop} : octroilaw18_Does_r10 env h K = octroilaw18_Does_r10 env h K := rfl

/-- law.go:43 -/
def octroilaw18_Does_r11 (env : Env) (h : Hp) (K : Env → Hp → Prop) : Prop :=
  rd Try.prog (Instr.fieldAt 55 (env 3) 2) noHp fun v62_1 =>
  rd Try.prog (Instr.fieldAt 40 v62_1 4) noHp fun v63_2 =>
  rd Try.prog (Instr.fieldAt 38 v63_2 0) noHp fun v64_3 =>
  rd Try.prog (Instr.loadAt 35 v64_3) h fun v65_4 =>
  Ok Try.prog 36 #[(env 0), v65_4] h fun v66_5 h1 =>
  rd Try.prog (Instr.extract v66_5 0) noHp fun v67_7 =>
  rd Try.prog (Instr.extract v66_5 1) noHp fun v68_8 =>
  K (((((((((((env.set 61 (env 0)).set 62 v62_1).set 63 v63_2).set 64 v64_3).set 65 v65_4).set 66 v66_5).set 60 v66_5).set 67 v67_7).set 68 v68_8).set 10 v67_7).set 11 v68_8) h1
@[congr] theorem octroilaw18_Does_r11_congr {env : Env} {h : Hp} {K : Env → Hp → Prop} : octroilaw18_Does_r11 env h K = octroilaw18_Does_r11 env h K := rfl

/-- law.go:44 -/
def octroilaw18_Does_r12 (env : Env) (h : Hp) (K : Env → Hp → Prop) : Prop :=
  K ((((env.set 69 (env 10)).set 70 (env 11)).set 4 (env 10)).set 5 (env 11)) h
@[congr] theorem octroilaw18_Does_r12_congr {env : Env} {h : Hp} {K : Env → Hp → Prop} : octroilaw18_Does_r12 env h K = octroilaw18_Does_r12 env h K := rfl

/-- law.go:45 -/
def octroilaw18_Does_r13 (env : Env) (h : Hp) (K : Env → Hp → Prop) : Prop :=
  rd Try.prog (bop Go.BinOp.eql 3 (Go.Operand.tmp 15) (Go.Operand.const (Go.Value.int Go.IntKind.i64 4)) (env 15) (Go.Value.int Go.IntKind.i64 4)) noHp fun v72_0 =>
  K ((env.set 72 v72_0).set 71 v72_0) h
@[congr] theorem octroilaw18_Does_r13_congr {env : Env} {h : Hp} {K : Env → Hp → Prop} : octroilaw18_Does_r13 env h K = octroilaw18_Does_r13 env h K := rfl

/-- law.go:46 -/
def octroilaw18_Does_r14 (env : Env) (h : Hp) (K : Env → Hp → Prop) : Prop :=
  rd Try.prog (Instr.fieldAt 55 (env 3) 1) noHp fun v75_1 =>
  rd Try.prog (Instr.loadAt 3 v75_1) h fun v76_2 =>
  rd Try.prog (Instr.fieldAt 55 (env 3) 2) noHp fun v77_3 =>
  rd Try.prog (Instr.loadAt 40 v77_3) h fun v78_4 =>
  Ok Try.prog 14 #[(env 0), v76_2, v78_4] h fun v79_5 h1 =>
  rd Try.prog (Instr.extract v79_5 0) noHp fun v80_7 =>
  rd Try.prog (Instr.extract v79_5 1) noHp fun v81_8 =>
  K (((((((((((env.set 74 (env 0)).set 75 v75_1).set 76 v76_2).set 77 v77_3).set 78 v78_4).set 79 v79_5).set 73 v79_5).set 80 v80_7).set 81 v81_8).set 12 v80_7).set 13 v81_8) h1
@[congr] theorem octroilaw18_Does_r14_congr {env : Env} {h : Hp} {K : Env → Hp → Prop} : octroilaw18_Does_r14 env h K = octroilaw18_Does_r14 env h K := rfl

/-- law.go:47 -/
def octroilaw18_Does_r15 (env : Env) (h : Hp) (K : Env → Hp → Prop) : Prop :=
  K ((((env.set 82 (env 12)).set 83 (env 13)).set 4 (env 12)).set 5 (env 13)) h
@[congr] theorem octroilaw18_Does_r15_congr {env : Env} {h : Hp} {K : Env → Hp → Prop} : octroilaw18_Does_r15 env h K = octroilaw18_Does_r15 env h K := rfl

/-- law.go:48 -/
def octroilaw18_Does_r16 (env : Env) (h : Hp) (K : Env → Hp → Prop) : Prop :=
  rd Try.prog (bop Go.BinOp.eql 3 (Go.Operand.tmp 15) (Go.Operand.const (Go.Value.int Go.IntKind.i64 5)) (env 15) (Go.Value.int Go.IntKind.i64 5)) noHp fun v85_0 =>
  K ((env.set 85 v85_0).set 84 v85_0) h
@[congr] theorem octroilaw18_Does_r16_congr {env : Env} {h : Hp} {K : Env → Hp → Prop} : octroilaw18_Does_r16 env h K = octroilaw18_Does_r16 env h K := rfl

/-- law.go:49 -/
def octroilaw18_Does_r17 (env : Env) (h : Hp) (K : Env → Hp → Prop) : Prop :=
  Ok Try.prog 37 #[(env 0)] h fun v87_1 h1 =>
  K ((((env.set 86 (env 0)).set 87 v87_1).set 4 v87_1).set 5 (Go.Value.int Go.IntKind.i64 0)) h1
@[congr] theorem octroilaw18_Does_r17_congr {env : Env} {h : Hp} {K : Env → Hp → Prop} : octroilaw18_Does_r17 env h K = octroilaw18_Does_r17 env h K := rfl

/-- law.go:51 -/
def octroilaw18_Does_r18 (env : Env) (h : Hp) (K : Env → Hp → Prop) : Prop :=
  K ((env.set 4 (Go.Value.slice none 0 0)).set 5 (Go.Value.int Go.IntKind.i64 0)) h
@[congr] theorem octroilaw18_Does_r18_congr {env : Env} {h : Hp} {K : Env → Hp → Prop} : octroilaw18_Does_r18 env h K = octroilaw18_Does_r18 env h K := rfl

def octroilaw18_Does_D : Den := (sq (rg octroilaw18_Does_r0) (sq (sq (rg octroilaw18_Does_r1) (blk 0 (sq (rg octroilaw18_Does_r2) (cnd (Go.Operand.tmp 16) (sq (rg octroilaw18_Does_r3) (sq (rg octroilaw18_Does_r4) (ex .ret))) (sq (rg octroilaw18_Does_r5) (cnd (Go.Operand.tmp 31) (sq (rg octroilaw18_Does_r6) (ex .ret)) (sq (rg octroilaw18_Does_r7) (cnd (Go.Operand.tmp 37) (sq (rg octroilaw18_Does_r8) (sq (rg octroilaw18_Does_r9) (ex .ret))) (sq (rg octroilaw18_Does_r10) (cnd (Go.Operand.tmp 58) (sq (rg octroilaw18_Does_r11) (sq (rg octroilaw18_Does_r12) (ex .ret))) (sq (rg octroilaw18_Does_r13) (cnd (Go.Operand.tmp 71) (sq (rg octroilaw18_Does_r14) (sq (rg octroilaw18_Does_r15) (ex .ret))) (sq (rg octroilaw18_Does_r16) (cnd (Go.Operand.tmp 84) (sq (rg octroilaw18_Does_r17) (ex .ret)) (ex .normal))))))))))))))) (sq (rg octroilaw18_Does_r18) (ex .ret))))

theorem octroilaw18_Does_eq : (den Try.prog 88 octroilaw18_Does_code).1 = octroilaw18_Does_D := by kernel_rfl

theorem octroilaw18_Does_ok {args : Array Value} {h : Hp} {Q : Value → Hp → Prop} (hn : args.size ≤ 88) (D : octroilaw18_Does_D (fin Try.prog [(Go.ResultVar.tmp 4), (Go.ResultVar.tmp 5)] Q) (env0 args) h) : Ok Try.prog 21 args h Q :=
  ok_of_den progIsOk Try.func21 (c := octroilaw18_Does_code) (by kernel_rfl) hn (by show (den Try.prog 88 octroilaw18_Does_code).1 _ _ _; rw [octroilaw18_Does_eq]; exact D)

/-! ### octroi/tags.Has: function 22 -/
noncomputable def tags_Has_code : Code := match Try.f22.body with | some c => c | none => .skip

/-- tags.go:10 -/
def tags_Has_r0 (env : Env) (h : Hp) (K : Env → Hp → Prop) : Prop :=
  K (env.set 4 (Go.Value.bool false)) h
@[congr] theorem tags_Has_r0_congr {env : Env} {h : Hp} {K : Env → Hp → Prop} : tags_Has_r0 env h K = tags_Has_r0 env h K := rfl

/-- tags.go:10 -/
def tags_Has_r1 (env : Env) (h : Hp) (K : Env → Hp → Prop) : Prop :=
  Ok Try.prog 38 #[(env 1)] h fun v6_1 h1 =>
  gd (yb v6_1 == some true) (fun h k => k (env 0) h) h1 fun v8_3 h2 =>
  gd (yb v6_1 == some true) (fun h k => k (env 1) h) h2 fun v9_4 h3 =>
  gd (yb v6_1 == some true) (fun h k => rd Try.prog (bop Go.BinOp.shr 36 (Go.Operand.tmp 8) (Go.Operand.tmp 9) v8_3 v9_4) noHp fun v => k v h) h3 fun v10_5 h4 =>
  gd (yb v6_1 == some true) (fun h k => rd Try.prog (bop Go.BinOp.and 36 (Go.Operand.tmp 10) (Go.Operand.const (Go.Value.int Go.IntKind.u16 1)) v10_5 (Go.Value.int Go.IntKind.u16 1)) noHp fun v => k v h) h4 fun v11_6 h5 =>
  gd (yb v6_1 == some true) (fun h k => rd Try.prog (bop Go.BinOp.eql 36 (Go.Operand.tmp 11) (Go.Operand.const (Go.Value.int Go.IntKind.u16 1)) v11_6 (Go.Value.int Go.IntKind.u16 1)) noHp fun v => k v h) h5 fun v12_7 h6 =>
  rd Try.prog (pck v6_1 v12_7 (Go.Value.bool false)) noHp fun v13_8 =>
  K ((((((((((env.set 5 (env 1)).set 6 v6_1).set 7 v6_1).set 8 v8_3).set 9 v9_4).set 10 v10_5).set 11 v11_6).set 12 v12_7).set 13 v13_8).set 4 v13_8) h6
@[congr] theorem tags_Has_r1_congr {env : Env} {h : Hp} {K : Env → Hp → Prop} : tags_Has_r1 env h K = tags_Has_r1 env h K := rfl

def tags_Has_D : Den := (sq (rg tags_Has_r0) (sq (rg tags_Has_r1) (ex .ret)))

theorem tags_Has_eq : (den Try.prog 14 tags_Has_code).1 = tags_Has_D := by kernel_rfl

theorem tags_Has_ok {args : Array Value} {h : Hp} {Q : Value → Hp → Prop} (hn : args.size ≤ 14) (D : tags_Has_D (fin Try.prog [(Go.ResultVar.tmp 4)] Q) (env0 args) h) : Ok Try.prog 22 args h Q :=
  ok_of_den progIsOk Try.func22 (c := tags_Has_code) (by kernel_rfl) hn (by show (den Try.prog 14 tags_Has_code).1 _ _ _; rw [tags_Has_eq]; exact D)

/-! ### octroi/octroiref04.May: function 23 -/
noncomputable def octroiref04_May_code : Code := match Try.f23.body with | some c => c | none => .skip

/-- ref.go:10 -/
def octroiref04_May_r0 (env : Env) (h : Hp) (K : Env → Hp → Prop) : Prop :=
  arun Try.prog (Instr.box 23 (env 0)) h fun v1_0 h1 =>
  K ((env.set 1 v1_0).set 2 (Go.Value.bool false)) h1
@[congr] theorem octroiref04_May_r0_congr {env : Env} {h : Hp} {K : Env → Hp → Prop} : octroiref04_May_r0 env h K = octroiref04_May_r0 env h K := rfl

/-- ref.go:11 -/
def octroiref04_May_r1 (env : Env) (h : Hp) (K : Env → Hp → Prop) : Prop :=
  rd Try.prog (Instr.fieldAt 23 (env 1) 0) noHp fun v3_0 =>
  rd Try.prog (Instr.loadAt 3 v3_0) h fun v4_1 =>
  rd Try.prog (bop Go.BinOp.geq 3 (Go.Operand.tmp 4) (Go.Operand.const (Go.Value.int Go.IntKind.i64 1)) v4_1 (Go.Value.int Go.IntKind.i64 1)) noHp fun v5_2 =>
  gd (yb v5_2 == some true) (fun h k => rd Try.prog (Instr.fieldAt 23 (env 1) 0) noHp fun v => k v h) h fun v7_4 h1 =>
  gd (yb v5_2 == some true) (fun h k => rd Try.prog (Instr.loadAt 3 v7_4) h fun v => k v h) h1 fun v8_5 h2 =>
  gd (yb v5_2 == some true) (fun h k => rd Try.prog (bop Go.BinOp.leq 3 (Go.Operand.tmp 8) (Go.Operand.const (Go.Value.int Go.IntKind.i64 10000000)) v8_5 (Go.Value.int Go.IntKind.i64 10000000)) noHp fun v => k v h) h2 fun v9_6 h3 =>
  rd Try.prog (pck v5_2 v9_6 (Go.Value.bool false)) noHp fun v10_7 =>
  gd (yb v10_7 == some true) (fun h k => rd Try.prog (Instr.fieldAt 23 (env 1) 1) noHp fun v => k v h) h3 fun v12_9 h4 =>
  gd (yb v10_7 == some true) (fun h k => rd Try.prog (Instr.loadAt 3 v12_9) h fun v => k v h) h4 fun v13_10 h5 =>
  gd (yb v10_7 == some true) (fun h k => rd Try.prog (bop Go.BinOp.geq 3 (Go.Operand.tmp 13) (Go.Operand.const (Go.Value.int Go.IntKind.i64 0)) v13_10 (Go.Value.int Go.IntKind.i64 0)) noHp fun v => k v h) h5 fun v14_11 h6 =>
  rd Try.prog (pck v10_7 v14_11 (Go.Value.bool false)) noHp fun v15_12 =>
  gd (yb v15_12 == some true) (fun h k => rd Try.prog (Instr.fieldAt 23 (env 1) 1) noHp fun v => k v h) h6 fun v17_14 h7 =>
  gd (yb v15_12 == some true) (fun h k => rd Try.prog (Instr.loadAt 3 v17_14) h fun v => k v h) h7 fun v18_15 h8 =>
  gd (yb v15_12 == some true) (fun h k => rd Try.prog (bop Go.BinOp.leq 3 (Go.Operand.tmp 18) (Go.Operand.const (Go.Value.int Go.IntKind.i64 16777216)) v18_15 (Go.Value.int Go.IntKind.i64 16777216)) noHp fun v => k v h) h8 fun v19_16 h9 =>
  rd Try.prog (pck v15_12 v19_16 (Go.Value.bool false)) noHp fun v20_17 =>
  gd (yb v20_17 == some true) (fun h k => rd Try.prog (Instr.fieldAt 23 (env 1) 2) noHp fun v => k v h) h9 fun v22_19 h10 =>
  gd (yb v20_17 == some true) (fun h k => rd Try.prog (Instr.loadAt 3 v22_19) h fun v => k v h) h10 fun v23_20 h11 =>
  gd (yb v20_17 == some true) (fun h k => rd Try.prog (bop Go.BinOp.geq 3 (Go.Operand.tmp 23) (Go.Operand.const (Go.Value.int Go.IntKind.i64 0)) v23_20 (Go.Value.int Go.IntKind.i64 0)) noHp fun v => k v h) h11 fun v24_21 h12 =>
  rd Try.prog (pck v20_17 v24_21 (Go.Value.bool false)) noHp fun v25_22 =>
  gd (yb v25_22 == some true) (fun h k => rd Try.prog (Instr.fieldAt 23 (env 1) 2) noHp fun v => k v h) h12 fun v27_24 h13 =>
  gd (yb v25_22 == some true) (fun h k => rd Try.prog (Instr.loadAt 3 v27_24) h fun v => k v h) h13 fun v28_25 h14 =>
  gd (yb v25_22 == some true) (fun h k => rd Try.prog (bop Go.BinOp.leq 3 (Go.Operand.tmp 28) (Go.Operand.const (Go.Value.int Go.IntKind.i64 100)) v28_25 (Go.Value.int Go.IntKind.i64 100)) noHp fun v => k v h) h14 fun v29_26 h15 =>
  rd Try.prog (pck v25_22 v29_26 (Go.Value.bool false)) noHp fun v30_27 =>
  K (((((((((((((((((((((((((((((env.set 3 v3_0).set 4 v4_1).set 5 v5_2).set 6 v5_2).set 7 v7_4).set 8 v8_5).set 9 v9_6).set 10 v10_7).set 11 v10_7).set 12 v12_9).set 13 v13_10).set 14 v14_11).set 15 v15_12).set 16 v15_12).set 17 v17_14).set 18 v18_15).set 19 v19_16).set 20 v20_17).set 21 v20_17).set 22 v22_19).set 23 v23_20).set 24 v24_21).set 25 v25_22).set 26 v25_22).set 27 v27_24).set 28 v28_25).set 29 v29_26).set 30 v30_27).set 2 v30_27) h15
@[congr] theorem octroiref04_May_r1_congr {env : Env} {h : Hp} {K : Env → Hp → Prop} : octroiref04_May_r1 env h K = octroiref04_May_r1 env h K := rfl

def octroiref04_May_D : Den := (sq (rg octroiref04_May_r0) (sq (rg octroiref04_May_r1) (ex .ret)))

theorem octroiref04_May_eq : (den Try.prog 31 octroiref04_May_code).1 = octroiref04_May_D := by kernel_rfl

theorem octroiref04_May_ok {args : Array Value} {h : Hp} {Q : Value → Hp → Prop} (hn : args.size ≤ 31) (D : octroiref04_May_D (fin Try.prog [(Go.ResultVar.tmp 2)] Q) (env0 args) h) : Ok Try.prog 23 args h Q :=
  ok_of_den progIsOk Try.func23 (c := octroiref04_May_code) (by kernel_rfl) hn (by show (den Try.prog 31 octroiref04_May_code).1 _ _ _; rw [octroiref04_May_eq]; exact D)

/-! ### (*octroi/dual.Dual).all: function 24 -/
noncomputable def dual_Dual_all_code : Code := match Try.f24.body with | some c => c | none => .skip

/-- dual.go:73 -/
def dual_Dual_all_r0 (env : Env) (h : Hp) (K : Env → Hp → Prop) : Prop :=
  arun Try.prog (Instr.box 25 (env 0)) h fun v1_0 h1 =>
  K ((env.set 1 v1_0).set 2 Go.Value.nilFunc) h1
@[congr] theorem dual_Dual_all_r0_congr {env : Env} {h : Hp} {K : Env → Hp → Prop} : dual_Dual_all_r0 env h K = dual_Dual_all_r0 env h K := rfl

/-- dual.go:74 -/
def dual_Dual_all_r1 (env : Env) (h : Hp) (K : Env → Hp → Prop) : Prop :=
  rd Try.prog (Instr.makeFunc (Go.Fn.func 39) #[] #[(env 1)]) noHp fun v3_0 =>
  K ((env.set 3 v3_0).set 2 v3_0) h
@[congr] theorem dual_Dual_all_r1_congr {env : Env} {h : Hp} {K : Env → Hp → Prop} : dual_Dual_all_r1 env h K = dual_Dual_all_r1 env h K := rfl

def dual_Dual_all_D : Den := (sq (rg dual_Dual_all_r0) (sq (rg dual_Dual_all_r1) (ex .ret)))

theorem dual_Dual_all_eq : (den Try.prog 4 dual_Dual_all_code).1 = dual_Dual_all_D := by kernel_rfl

theorem dual_Dual_all_ok {args : Array Value} {h : Hp} {Q : Value → Hp → Prop} (hn : args.size ≤ 4) (D : dual_Dual_all_D (fin Try.prog [(Go.ResultVar.tmp 2)] Q) (env0 args) h) : Ok Try.prog 24 args h Q :=
  ok_of_den progIsOk Try.func24 (c := dual_Dual_all_code) (by kernel_rfl) hn (by show (den Try.prog 4 dual_Dual_all_code).1 _ _ _; rw [dual_Dual_all_eq]; exact D)

/-! ### (*octroi/dual.Dual).send: function 25 -/
noncomputable def dual_Dual_send_code : Code := match Try.f25.body with | some c => c | none => .skip

/-- dual.go:103 -/
def dual_Dual_send_r0 (env : Env) (h : Hp) (K : Env → Hp → Prop) : Prop :=
  arun Try.prog (Instr.box 35 (env 4)) h fun v10_0 h1 =>
  arun Try.prog (Instr.box 74 (env 5)) h1 fun v11_1 h2 =>
  K (((env.set 10 v10_0).set 11 v11_1).set 12 (Go.Value.int Go.IntKind.u32 0)) h2
@[congr] theorem dual_Dual_send_r0_congr {env : Env} {h : Hp} {K : Env → Hp → Prop} : dual_Dual_send_r0 env h K = dual_Dual_send_r0 env h K := rfl

/-- dual.go:104 -/
def dual_Dual_send_r1 (env : Env) (h : Hp) (K : Env → Hp → Prop) : Prop :=
  nck (env 0) (
  rd Try.prog (Instr.fieldAt 65 (env 0) 2) noHp fun v16_2 =>
  rd Try.prog (Instr.loadAt 62 v16_2) h fun v17_3 =>
  rd Try.prog (Instr.lookup 62 v17_3 (env 1) false) h fun v19_5 =>
  K (((((((env.set 14 (env 0)).set 15 (env 0)).set 16 v16_2).set 17 v17_3).set 18 (env 1)).set 19 v19_5).set 13 v19_5) h)
@[congr] theorem dual_Dual_send_r1_congr {env : Env} {h : Hp} {K : Env → Hp → Prop} : dual_Dual_send_r1 env h K = dual_Dual_send_r1 env h K := rfl

/-- dual.go:105 -/
def dual_Dual_send_r2 (env : Env) (h : Hp) (K : Env → Hp → Prop) : Prop :=
  nck (env 13) (
  rd Try.prog (Instr.fieldAt 68 (env 13) 1) noHp fun v22_2 =>
  rd Try.prog (Instr.loadAt 33 v22_2) h fun v23_3 =>
  rd Try.prog (bop Go.BinOp.add 33 (Go.Operand.tmp 23) (Go.Operand.const (Go.Value.int Go.IntKind.u32 1)) v23_3 (Go.Value.int Go.IntKind.u32 1)) noHp fun v24_4 =>
  nck (env 13) (
  rd Try.prog (Instr.fieldAt 68 (env 13) 1) noHp fun v26_6 =>
  arun Try.prog (Instr.storeAt 33 v26_6 v24_4) h fun _ h1 =>
  K (((((((env.set 20 (env 13)).set 21 (env 13)).set 22 v22_2).set 23 v23_3).set 24 v24_4).set 25 (env 13)).set 26 v26_6) h1))
@[congr] theorem dual_Dual_send_r2_congr {env : Env} {h : Hp} {K : Env → Hp → Prop} : dual_Dual_send_r2 env h K = dual_Dual_send_r2 env h K := rfl

/-- dual.go:106 (in any order) -/
def dual_Dual_send_r3 (env : Env) (h : Hp) (K : Env → Hp → Prop) : Prop :=
  nck (env 0) (
  rd Try.prog (Instr.fieldAt 65 (env 0) 4) noHp fun v30_3 =>
  rd Try.prog (Instr.loadAt 28 v30_3) h fun v31_4 =>
  nck (env 13) (
  rd Try.prog (Instr.fieldAt 68 (env 13) 1) noHp fun v36_9 =>
  rd Try.prog (Instr.loadAt 33 v36_9) h fun v37_10 =>
  rd Try.prog (Instr.loadAt 35 (env 10)) h fun v39_12 =>
  rd Try.prog (Instr.fieldAt 74 (env 11) 0) noHp fun v40_13 =>
  rd Try.prog (Instr.loadAt 23 v40_13) h fun v41_14 =>
  rd Try.prog (Instr.fieldAt 74 (env 11) 1) noHp fun v42_15 =>
  rd Try.prog (Instr.loadAt 36 v42_15) h fun v43_16 =>
  rd Try.prog (Instr.build 38 #[(0, v39_12), (1, v41_14), (2, v43_16)]) noHp fun v44_17 =>
  rd Try.prog (Instr.build 40 #[(0, (env 1)), (1, (env 2)), (2, v37_10), (3, (env 3)), (4, v44_17)]) noHp fun v45_18 =>
  arun Try.prog (Instr.buildSlice 28 1 #[(0, v45_18)]) h fun v46_19 h1 =>
  (rrun Try.prog (Instr.loadAt 28 v30_3) h1 = some v31_4 ∧ True) ∧
  arun Try.prog (Builtin.append_ #[28, 28] 28 #[v31_4, v46_19]) h1 fun v47_20 h2 =>
  (True) ∧
  nck (env 0) (
  rd Try.prog (Instr.fieldAt 65 (env 0) 4) noHp fun v49_22 =>
  arun Try.prog (Instr.storeAt 28 v49_22 v47_20) h2 fun _ h3 =>
  (True) ∧
  K (((((((((((((((((((((((env.set 27 (env 0)).set 28 (env 0)).set 29 (env 0)).set 30 v30_3).set 31 v31_4).set 32 (env 1)).set 33 (env 2)).set 34 (env 13)).set 35 (env 13)).set 36 v36_9).set 37 v37_10).set 38 (env 3)).set 39 v39_12).set 40 v40_13).set 41 v41_14).set 42 v42_15).set 43 v43_16).set 44 v44_17).set 45 v45_18).set 46 v46_19).set 47 v47_20).set 48 (env 0)).set 49 v49_22) h3)))
@[congr] theorem dual_Dual_send_r3_congr {env : Env} {h : Hp} {K : Env → Hp → Prop} : dual_Dual_send_r3 env h K = dual_Dual_send_r3 env h K := rfl

/-- dual.go:107 -/
def dual_Dual_send_r4 (env : Env) (h : Hp) (K : Env → Hp → Prop) : Prop :=
  nck (env 13) (
  rd Try.prog (Instr.fieldAt 68 (env 13) 1) noHp fun v52_2 =>
  rd Try.prog (Instr.loadAt 33 v52_2) h fun v53_3 =>
  K (((((env.set 50 (env 13)).set 51 (env 13)).set 52 v52_2).set 53 v53_3).set 12 v53_3) h)
@[congr] theorem dual_Dual_send_r4_congr {env : Env} {h : Hp} {K : Env → Hp → Prop} : dual_Dual_send_r4 env h K = dual_Dual_send_r4 env h K := rfl

def dual_Dual_send_D : Den := (sq (rg dual_Dual_send_r0) (sq (rg dual_Dual_send_r1) (sq (rg dual_Dual_send_r2) (sq (rg dual_Dual_send_r3) (sq (rg dual_Dual_send_r4) (ex .ret))))))

theorem dual_Dual_send_eq : (den Try.prog 54 dual_Dual_send_code).1 = dual_Dual_send_D := by kernel_rfl

theorem dual_Dual_send_ok {args : Array Value} {h : Hp} {Q : Value → Hp → Prop} (hn : args.size ≤ 54) (D : dual_Dual_send_D (fin Try.prog [(Go.ResultVar.tmp 12)] Q) (env0 args) h) : Ok Try.prog 25 args h Q :=
  ok_of_den progIsOk Try.func25 (c := dual_Dual_send_code) (by kernel_rfl) hn (by show (den Try.prog 54 dual_Dual_send_code).1 _ _ _; rw [dual_Dual_send_eq]; exact D)

/-! ### (*octroi/dual.Dual).take: function 26 -/
noncomputable def dual_Dual_take_code : Code := match Try.f26.body with | some c => c | none => .skip

/-- dual.go:156 -/
def dual_Dual_take_r0 (env : Env) (h : Hp) (K : Env → Hp → Prop) : Prop :=
  K (env.set 2 (Go.Value.slice none 0 0)) h
@[congr] theorem dual_Dual_take_r0_congr {env : Env} {h : Hp} {K : Env → Hp → Prop} : dual_Dual_take_r0 env h K = dual_Dual_take_r0 env h K := rfl

/-- dual.go:157 -/
def dual_Dual_take_r1 (env : Env) (h : Hp) (K : Env → Hp → Prop) : Prop :=
  nck (env 0) (
  rd Try.prog (Instr.fieldAt 65 (env 0) 4) noHp fun v6_2 =>
  rd Try.prog (Instr.loadAt 28 v6_2) h fun v7_3 =>
  K (((((env.set 4 (env 0)).set 5 (env 0)).set 6 v6_2).set 7 v7_3).set 3 v7_3) h)
@[congr] theorem dual_Dual_take_r1_congr {env : Env} {h : Hp} {K : Env → Hp → Prop} : dual_Dual_take_r1 env h K = dual_Dual_take_r1 env h K := rfl

/-- dual.go:158 -/
def dual_Dual_take_r2 (env : Env) (h : Hp) (K : Env → Hp → Prop) : Prop :=
  nck (env 0) (
  rd Try.prog (Instr.fieldAt 65 (env 0) 4) noHp fun v10_2 =>
  arun Try.prog (Instr.storeAt 28 v10_2 (Go.Value.slice none 0 0)) h fun _ h1 =>
  K (((env.set 8 (env 0)).set 9 (env 0)).set 10 v10_2) h1)
@[congr] theorem dual_Dual_take_r2_congr {env : Env} {h : Hp} {K : Env → Hp → Prop} : dual_Dual_take_r2 env h K = dual_Dual_take_r2 env h K := rfl

/-- dual.go:159 -/
def dual_Dual_take_r3 (env : Env) (h : Hp) (K : Env → Hp → Prop) : Prop :=
  K ((env.set 11 (env 3)).set 2 (env 3)) h
@[congr] theorem dual_Dual_take_r3_congr {env : Env} {h : Hp} {K : Env → Hp → Prop} : dual_Dual_take_r3 env h K = dual_Dual_take_r3 env h K := rfl

def dual_Dual_take_D : Den := (sq (rg dual_Dual_take_r0) (sq (rg dual_Dual_take_r1) (sq (rg dual_Dual_take_r2) (sq (rg dual_Dual_take_r3) (ex .ret)))))

theorem dual_Dual_take_eq : (den Try.prog 12 dual_Dual_take_code).1 = dual_Dual_take_D := by kernel_rfl

theorem dual_Dual_take_ok {args : Array Value} {h : Hp} {Q : Value → Hp → Prop} (hn : args.size ≤ 12) (D : dual_Dual_take_D (fin Try.prog [(Go.ResultVar.tmp 2)] Q) (env0 args) h) : Ok Try.prog 26 args h Q :=
  ok_of_den progIsOk Try.func26 (c := dual_Dual_take_code) (by kernel_rfl) hn (by show (den Try.prog 12 dual_Dual_take_code).1 _ _ _; rw [dual_Dual_take_eq]; exact D)

/-! ### octroi/prefix.May: function 27 -/
noncomputable def prefix_May_code : Code := match Try.f27.body with | some c => c | none => .skip

/-- prefix.go:39 -/
def prefix_May_r0 (env : Env) (h : Hp) (K : Env → Hp → Prop) : Prop :=
  arun Try.prog (Instr.box 35 (env 0)) h fun v1_0 h1 =>
  K ((env.set 1 v1_0).set 2 (Go.Value.bool false)) h1
@[congr] theorem prefix_May_r0_congr {env : Env} {h : Hp} {K : Env → Hp → Prop} : prefix_May_r0 env h K = prefix_May_r0 env h K := rfl

/-- prefix.go:39 (in any order) -/
def prefix_May_r1 (env : Env) (h : Hp) (K : Env → Hp → Prop) : Prop :=
  rd Try.prog (Instr.fieldAt 35 (env 1) 1) noHp fun v3_0 =>
  rd Try.prog (Instr.loadAt 3 v3_0) h fun v4_1 =>
  rd Try.prog (bop Go.BinOp.geq 3 (Go.Operand.tmp 4) (Go.Operand.const (Go.Value.int Go.IntKind.i64 0)) v4_1 (Go.Value.int Go.IntKind.i64 0)) noHp fun v5_2 =>
  gd (yb v5_2 == some true) (fun h k => rd Try.prog (Instr.fieldAt 35 (env 1) 1) noHp fun v => k v h) h fun v7_4 h1 =>
  gd (yb v5_2 == some true) (fun h k => rd Try.prog (Instr.loadAt 3 v7_4) h fun v => k v h) h1 fun v8_5 h2 =>
  gd (yb v5_2 == some true) (fun h k => rd Try.prog (bop Go.BinOp.leq 3 (Go.Operand.tmp 8) (Go.Operand.const (Go.Value.int Go.IntKind.i64 32)) v8_5 (Go.Value.int Go.IntKind.i64 32)) noHp fun v => k v h) h2 fun v9_6 h3 =>
  rd Try.prog (pck v5_2 v9_6 (Go.Value.bool false)) noHp fun v10_7 =>
  gd (yb v10_7 == some true) (fun h k => rd Try.prog (Instr.fieldAt 35 (env 1) 0) noHp fun v => k v h) h3 fun v12_9 h4 =>
  gd (yb v10_7 == some true) (fun h k => rd Try.prog (Instr.loadAt 33 v12_9) h fun v => k v h) h4 fun v13_10 h5 =>
  gd (yb v10_7 == some true) (fun h k => rd Try.prog (Instr.fieldAt 35 (env 1) 1) noHp fun v => k v h) h5 fun v14_11 h6 =>
  gd (yb v10_7 == some true) (fun h k => rd Try.prog (Instr.loadAt 3 v14_11) h fun v => k v h) h6 fun v15_12 h7 =>
  gd (yb v10_7 == some true) (fun h k => Ok Try.prog 44 #[v15_12] h k) h7 fun v16_13 h8 =>
  (((yb v10_7 == some true) = true → rrun Try.prog (Instr.loadAt 33 v12_9) h8 = some v13_10) ∧ True) ∧
  gd (yb v10_7 == some true) (fun h k => rd Try.prog (bop Go.BinOp.andNot 33 (Go.Operand.tmp 13) (Go.Operand.tmp 16) v13_10 v16_13) noHp fun v => k v h) h8 fun v17_14 h9 =>
  gd (yb v10_7 == some true) (fun h k => rd Try.prog (bop Go.BinOp.eql 33 (Go.Operand.tmp 17) (Go.Operand.const (Go.Value.int Go.IntKind.u32 0)) v17_14 (Go.Value.int Go.IntKind.u32 0)) noHp fun v => k v h) h9 fun v18_15 h10 =>
  rd Try.prog (pck v10_7 v18_15 (Go.Value.bool false)) noHp fun v19_16 =>
  K ((((((((((((((((((env.set 3 v3_0).set 4 v4_1).set 5 v5_2).set 6 v5_2).set 7 v7_4).set 8 v8_5).set 9 v9_6).set 10 v10_7).set 11 v10_7).set 12 v12_9).set 13 v13_10).set 14 v14_11).set 15 v15_12).set 16 v16_13).set 17 v17_14).set 18 v18_15).set 19 v19_16).set 2 v19_16) h10
@[congr] theorem prefix_May_r1_congr {env : Env} {h : Hp} {K : Env → Hp → Prop} : prefix_May_r1 env h K = prefix_May_r1 env h K := rfl

def prefix_May_D : Den := (sq (rg prefix_May_r0) (sq (rg prefix_May_r1) (ex .ret)))

theorem prefix_May_eq : (den Try.prog 20 prefix_May_code).1 = prefix_May_D := by kernel_rfl

theorem prefix_May_ok {args : Array Value} {h : Hp} {Q : Value → Hp → Prop} (hn : args.size ≤ 20) (D : prefix_May_D (fin Try.prog [(Go.ResultVar.tmp 2)] Q) (env0 args) h) : Ok Try.prog 27 args h Q :=
  ok_of_den progIsOk Try.func27 (c := prefix_May_code) (by kernel_rfl) hn (by show (den Try.prog 20 prefix_May_code).1 _ _ _; rw [prefix_May_eq]; exact D)

/-! ### (*octroi/dual.Dual).report: function 28 -/
noncomputable def dual_Dual_report_code : Code := match Try.f28.body with | some c => c | none => .skip

/-- dual.go:229 -/
def dual_Dual_report_r0 (env : Env) (h : Hp) (K : Env → Hp → Prop) : Prop :=
  arun Try.prog (Instr.box 38 (env 2)) h fun v5_0 h1 =>
  K (((env.set 5 v5_0).set 6 (Go.Value.pointer none)).set 7 (Go.Value.int Go.IntKind.i64 0)) h1
@[congr] theorem dual_Dual_report_r0_congr {env : Env} {h : Hp} {K : Env → Hp → Prop} : dual_Dual_report_r0 env h K = dual_Dual_report_r0 env h K := rfl

/-- dual.go:230 -/
def dual_Dual_report_r1 (env : Env) (h : Hp) (K : Env → Hp → Prop) : Prop :=
  rd Try.prog (Instr.fieldAt 38 (env 5) 1) noHp fun v9_0 =>
  rd Try.prog (Instr.loadAt 23 v9_0) h fun v10_1 =>
  Ok Try.prog 17 #[v10_1] h fun v11_2 h1 =>
  K ((((env.set 9 v9_0).set 10 v10_1).set 11 v11_2).set 8 v11_2) h1
@[congr] theorem dual_Dual_report_r1_congr {env : Env} {h : Hp} {K : Env → Hp → Prop} : dual_Dual_report_r1 env h K = dual_Dual_report_r1 env h K := rfl

/-- dual.go:231 (in any order) -/
def dual_Dual_report_r2 (env : Env) (h : Hp) (K : Env → Hp → Prop) : Prop :=
  rd Try.prog (Instr.fieldAt 38 (env 5) 2) noHp fun v12_0 =>
  rd Try.prog (Instr.loadAt 36 v12_0) h fun v13_1 =>
  nck (env 0) (
  rd Try.prog (Instr.fieldAt 65 (env 0) 0) noHp fun v16_4 =>
  rd Try.prog (Instr.loadAt 3 v16_4) h fun v17_5 =>
  Ok Try.prog 22 #[v13_1, v17_5] h fun v18_6 h1 =>
  (True) ∧
  K (((((((env.set 12 v12_0).set 13 v13_1).set 14 (env 0)).set 15 (env 0)).set 16 v16_4).set 17 v17_5).set 18 v18_6) h1)
@[congr] theorem dual_Dual_report_r2_congr {env : Env} {h : Hp} {K : Env → Hp → Prop} : dual_Dual_report_r2 env h K = dual_Dual_report_r2 env h K := rfl

/-- dual.go:232 -/
def dual_Dual_report_r3 (env : Env) (h : Hp) (K : Env → Hp → Prop) : Prop :=
  K ((env.set 8 (Go.Value.bool false)).set 7 (Go.Value.int Go.IntKind.i64 6)) h
@[congr] theorem dual_Dual_report_r3_congr {env : Env} {h : Hp} {K : Env → Hp → Prop} : dual_Dual_report_r3 env h K = dual_Dual_report_r3 env h K := rfl

/-- dual.go:234 (in any order) -/
def dual_Dual_report_r4 (env : Env) (h : Hp) (K : Env → Hp → Prop) : Prop :=
  nck (env 0) (
  rd Try.prog (Instr.fieldAt 65 (env 0) 3) noHp fun v21_2 =>
  rd Try.prog (Instr.loadAt 63 v21_2) h fun v22_3 =>
  rd Try.prog (Instr.fieldAt 38 (env 5) 0) noHp fun v23_4 =>
  rd Try.prog (Instr.loadAt 35 v23_4) h fun v24_5 =>
  rd Try.prog (Instr.lookup 63 v22_3 v24_5 false) h fun v25_6 =>
  K ((((((((env.set 19 (env 0)).set 20 (env 0)).set 21 v21_2).set 22 v22_3).set 23 v23_4).set 24 v24_5).set 25 v25_6).set 6 v25_6) h)
@[congr] theorem dual_Dual_report_r4_congr {env : Env} {h : Hp} {K : Env → Hp → Prop} : dual_Dual_report_r4 env h K = dual_Dual_report_r4 env h K := rfl

/-- dual.go:234 -/
def dual_Dual_report_r5 (env : Env) (h : Hp) (K : Env → Hp → Prop) : Prop :=
  rd Try.prog (bop Go.BinOp.eql 72 (Go.Operand.tmp 26) (Go.Operand.const (Go.Value.pointer none)) (env 6) (Go.Value.pointer none)) noHp fun v27_1 =>
  gd (yb v27_1 == some true) (fun h k => k (env 8) h) h fun v29_3 h1 =>
  rd Try.prog (pck v27_1 v29_3 (Go.Value.bool false)) noHp fun v30_4 =>
  K (((((env.set 26 (env 6)).set 27 v27_1).set 28 v27_1).set 29 v29_3).set 30 v30_4) h1
@[congr] theorem dual_Dual_report_r5_congr {env : Env} {h : Hp} {K : Env → Hp → Prop} : dual_Dual_report_r5 env h K = dual_Dual_report_r5 env h K := rfl

/-- dual.go:235 -/
def dual_Dual_report_r6 (env : Env) (h : Hp) (K : Env → Hp → Prop) : Prop :=
  rd Try.prog (Instr.fieldAt 38 (env 5) 0) noHp fun v32_1 =>
  rd Try.prog (Instr.loadAt 35 v32_1) h fun v33_2 =>
  Ok Try.prog 45 #[(env 0), v33_2] h fun v34_3 h1 =>
  K (((((env.set 31 (env 0)).set 32 v32_1).set 33 v33_2).set 34 v34_3).set 6 v34_3) h1
@[congr] theorem dual_Dual_report_r6_congr {env : Env} {h : Hp} {K : Env → Hp → Prop} : dual_Dual_report_r6 env h K = dual_Dual_report_r6 env h K := rfl

/-- dual.go:235 -/
def dual_Dual_report_r7 (env : Env) (h : Hp) (K : Env → Hp → Prop) : Prop :=
  rd Try.prog (bop Go.BinOp.eql 72 (Go.Operand.tmp 35) (Go.Operand.const (Go.Value.pointer none)) (env 6) (Go.Value.pointer none)) noHp fun v36_1 =>
  K ((env.set 35 (env 6)).set 36 v36_1) h
@[congr] theorem dual_Dual_report_r7_congr {env : Env} {h : Hp} {K : Env → Hp → Prop} : dual_Dual_report_r7 env h K = dual_Dual_report_r7 env h K := rfl

/-- dual.go:236 -/
def dual_Dual_report_r8 (env : Env) (h : Hp) (K : Env → Hp → Prop) : Prop :=
  K (env.set 7 (Go.Value.int Go.IntKind.i64 4)) h
@[congr] theorem dual_Dual_report_r8_congr {env : Env} {h : Hp} {K : Env → Hp → Prop} : dual_Dual_report_r8 env h K = dual_Dual_report_r8 env h K := rfl

/-- dual.go:240 -/
def dual_Dual_report_r9 (env : Env) (h : Hp) (K : Env → Hp → Prop) : Prop :=
  rd Try.prog (bop Go.BinOp.eql 72 (Go.Operand.tmp 43) (Go.Operand.const (Go.Value.pointer none)) (env 6) (Go.Value.pointer none)) noHp fun v44_1 =>
  K (((env.set 43 (env 6)).set 44 v44_1).set 42 v44_1) h
@[congr] theorem dual_Dual_report_r9_congr {env : Env} {h : Hp} {K : Env → Hp → Prop} : dual_Dual_report_r9 env h K = dual_Dual_report_r9 env h K := rfl

/-- dual.go:241 -/
def dual_Dual_report_r10 (env : Env) (h : Hp) (K : Env → Hp → Prop) : Prop :=
  K ((env.set 46 (env 8)).set 45 (env 8)) h
@[congr] theorem dual_Dual_report_r10_congr {env : Env} {h : Hp} {K : Env → Hp → Prop} : dual_Dual_report_r10 env h K = dual_Dual_report_r10 env h K := rfl

/-- dual.go:242 (in any order) -/
def dual_Dual_report_r11 (env : Env) (h : Hp) (K : Env → Hp → Prop) : Prop :=
  nck (env 6) (
  rd Try.prog (Instr.fieldAt 79 (env 6) 2) noHp fun v49_2 =>
  rd Try.prog (Instr.loadAt 76 v49_2) h fun v50_3 =>
  rd Try.prog (Instr.fieldAt 38 (env 5) 1) noHp fun v52_5 =>
  rd Try.prog (Instr.loadAt 23 v52_5) h fun v53_6 =>
  rd Try.prog (Instr.fieldAt 38 (env 5) 2) noHp fun v54_7 =>
  rd Try.prog (Instr.loadAt 36 v54_7) h fun v55_8 =>
  rd Try.prog (Instr.build 74 #[(0, v53_6), (1, v55_8)]) noHp fun v56_9 =>
  arun Try.prog (Instr.mapUpdate 76 v50_3 (env 1) v56_9) h fun _ h1 =>
  (True) ∧
  K ((((((((((env.set 47 (env 6)).set 48 (env 6)).set 49 v49_2).set 50 v50_3).set 51 (env 1)).set 52 v52_5).set 53 v53_6).set 54 v54_7).set 55 v55_8).set 56 v56_9) h1)
@[congr] theorem dual_Dual_report_r11_congr {env : Env} {h : Hp} {K : Env → Hp → Prop} : dual_Dual_report_r11 env h K = dual_Dual_report_r11 env h K := rfl

/-- dual.go:244 -/
def dual_Dual_report_r12 (env : Env) (h : Hp) (K : Env → Hp → Prop) : Prop :=
  nck (env 6) (
  rd Try.prog (Instr.fieldAt 79 (env 6) 2) noHp fun v39_2 =>
  rd Try.prog (Instr.loadAt 76 v39_2) h fun v40_3 =>
  arun Try.prog (Builtin.delete_ #[76, 3] 0 #[v40_3, (env 1)]) h fun _ h1 =>
  K (((((env.set 37 (env 6)).set 38 (env 6)).set 39 v39_2).set 40 v40_3).set 41 (env 1)) h1)
@[congr] theorem dual_Dual_report_r12_congr {env : Env} {h : Hp} {K : Env → Hp → Prop} : dual_Dual_report_r12 env h K = dual_Dual_report_r12 env h K := rfl

/-- dual.go:246 -/
def dual_Dual_report_r13 (env : Env) (h : Hp) (K : Env → Hp → Prop) : Prop :=
  K ((((env.set 57 (env 6)).set 58 (env 7)).set 6 (env 6)).set 7 (env 7)) h
@[congr] theorem dual_Dual_report_r13_congr {env : Env} {h : Hp} {K : Env → Hp → Prop} : dual_Dual_report_r13 env h K = dual_Dual_report_r13 env h K := rfl

def dual_Dual_report_D : Den := (sq (rg dual_Dual_report_r0) (sq (rg dual_Dual_report_r1) (sq (sq (rg dual_Dual_report_r2) (cnd (Go.Operand.tmp 18) (rg dual_Dual_report_r3) (ex .normal))) (sq (sq (rg dual_Dual_report_r4) (sq (rg dual_Dual_report_r5) (cnd (Go.Operand.tmp 30) (sq (rg dual_Dual_report_r6) (sq (rg dual_Dual_report_r7) (cnd (Go.Operand.tmp 36) (rg dual_Dual_report_r8) (ex .normal)))) (ex .normal)))) (sq (blk 0 (sq (rg dual_Dual_report_r9) (cnd (Go.Operand.tmp 42) (ex .normal) (sq (rg dual_Dual_report_r10) (cnd (Go.Operand.tmp 45) (rg dual_Dual_report_r11) (rg dual_Dual_report_r12)))))) (sq (rg dual_Dual_report_r13) (ex .ret)))))))

theorem dual_Dual_report_eq : (den Try.prog 59 dual_Dual_report_code).1 = dual_Dual_report_D := by kernel_rfl

theorem dual_Dual_report_ok {args : Array Value} {h : Hp} {Q : Value → Hp → Prop} (hn : args.size ≤ 59) (D : dual_Dual_report_D (fin Try.prog [(Go.ResultVar.tmp 6), (Go.ResultVar.tmp 7)] Q) (env0 args) h) : Ok Try.prog 28 args h Q :=
  ok_of_den progIsOk Try.func28 (c := dual_Dual_report_code) (by kernel_rfl) hn (by show (den Try.prog 59 dual_Dual_report_code).1 _ _ _; rw [dual_Dual_report_eq]; exact D)

/-! ### (*octroi/dual.known).close: function 29 -/
noncomputable def dual_known_close_code : Code := match Try.f29.body with | some c => c | none => .skip

/-- dual.go:164 -/
def dual_known_close_r0 (env : Env) (h : Hp) (K : Env → Hp → Prop) : Prop :=
  nck (env 0) (
  rd Try.prog (Instr.fieldAt 79 (env 0) 5) noHp fun v9_2 =>
  rd Try.prog (Instr.loadAt 77 v9_2) h fun v10_3 =>
  rd Try.prog (Instr.lookup 77 v10_3 (env 1) true) h fun v12_5 =>
  rd Try.prog (Instr.extract v12_5 0) noHp fun v13_7 =>
  rd Try.prog (Instr.extract v12_5 1) noHp fun v14_8 =>
  K (((((((((((env.set 7 (env 0)).set 8 (env 0)).set 9 v9_2).set 10 v10_3).set 11 (env 1)).set 12 v12_5).set 6 v12_5).set 13 v13_7).set 14 v14_8).set 4 v13_7).set 5 v14_8) h)
@[congr] theorem dual_known_close_r0_congr {env : Env} {h : Hp} {K : Env → Hp → Prop} : dual_known_close_r0 env h K = dual_known_close_r0 env h K := rfl

/-- dual.go:164 -/
def dual_known_close_r1 (env : Env) (h : Hp) (K : Env → Hp → Prop) : Prop :=
  rd Try.prog (Op.unary Go.UnOp.not (env 5)) noHp fun v16_1 =>
  K ((env.set 15 (env 5)).set 16 v16_1) h
@[congr] theorem dual_known_close_r1_congr {env : Env} {h : Hp} {K : Env → Hp → Prop} : dual_known_close_r1 env h K = dual_known_close_r1 env h K := rfl

/-- dual.go:167 -/
def dual_known_close_r2 (env : Env) (h : Hp) (K : Env → Hp → Prop) : Prop :=
  nck (env 0) (
  rd Try.prog (Instr.fieldAt 79 (env 0) 5) noHp fun v19_2 =>
  rd Try.prog (Instr.loadAt 77 v19_2) h fun v20_3 =>
  arun Try.prog (Builtin.delete_ #[77, 3] 0 #[v20_3, (env 1)]) h fun _ h1 =>
  K (((((env.set 17 (env 0)).set 18 (env 0)).set 19 v19_2).set 20 v20_3).set 21 (env 1)) h1)
@[congr] theorem dual_known_close_r2_congr {env : Env} {h : Hp} {K : Env → Hp → Prop} : dual_known_close_r2 env h K = dual_known_close_r2 env h K := rfl

/-- dual.go:167 -/
def dual_known_close_r3 (env : Env) (h : Hp) (K : Env → Hp → Prop) : Prop :=
  nck (env 0) (
  rd Try.prog (Instr.fieldAt 79 (env 0) 5) noHp fun v24_2 =>
  rd Try.prog (Instr.loadAt 77 v24_2) h fun v25_3 =>
  rd Try.prog (Builtin.len_ #[77] 3 #[v25_3]) h fun v26_4 =>
  rd Try.prog (bop Go.BinOp.eql 3 (Go.Operand.tmp 26) (Go.Operand.const (Go.Value.int Go.IntKind.i64 0)) v26_4 (Go.Value.int Go.IntKind.i64 0)) noHp fun v27_5 =>
  K ((((((env.set 22 (env 0)).set 23 (env 0)).set 24 v24_2).set 25 v25_3).set 26 v26_4).set 27 v27_5) h)
@[congr] theorem dual_known_close_r3_congr {env : Env} {h : Hp} {K : Env → Hp → Prop} : dual_known_close_r3 env h K = dual_known_close_r3 env h K := rfl

/-- dual.go:168 -/
def dual_known_close_r4 (env : Env) (h : Hp) (K : Env → Hp → Prop) : Prop :=
  nck (env 0) (
  rd Try.prog (Instr.fieldAt 79 (env 0) 3) noHp fun v31_3 =>
  rd Try.prog (Instr.fieldAt 74 v31_3 0) noHp fun v32_4 =>
  rd Try.prog (Instr.loadAt 23 v32_4) h fun v33_5 =>
  Ok Try.prog 18 #[v33_5] h fun v34_6 h1 =>
  nck (env 0) (
  rd Try.prog (Instr.fieldAt 79 (env 0) 4) noHp fun v36_8 =>
  arun Try.prog (Instr.storeAt 3 v36_8 v34_6) h1 fun _ h2 =>
  K (((((((((env.set 28 (env 0)).set 29 (env 0)).set 30 (env 0)).set 31 v31_3).set 32 v32_4).set 33 v33_5).set 34 v34_6).set 35 (env 0)).set 36 v36_8) h2))
@[congr] theorem dual_known_close_r4_congr {env : Env} {h : Hp} {K : Env → Hp → Prop} : dual_known_close_r4 env h K = dual_known_close_r4 env h K := rfl

def dual_known_close_D : Den := (sq (sq (rg dual_known_close_r0) (sq (rg dual_known_close_r1) (cnd (Go.Operand.tmp 16) (ex .ret) (ex .normal)))) (sq (rg dual_known_close_r2) (sq (rg dual_known_close_r3) (cnd (Go.Operand.tmp 27) (rg dual_known_close_r4) (ex .normal)))))

theorem dual_known_close_eq : (den Try.prog 37 dual_known_close_code).1 = dual_known_close_D := by kernel_rfl

theorem dual_known_close_ok {args : Array Value} {h : Hp} {Q : Value → Hp → Prop} (hn : args.size ≤ 37) (D : dual_known_close_D (fin Try.prog [] Q) (env0 args) h) : Ok Try.prog 29 args h Q :=
  ok_of_den progIsOk Try.func29 (c := dual_known_close_code) (by kernel_rfl) hn (by show (den Try.prog 37 dual_known_close_code).1 _ _ _; rw [dual_known_close_eq]; exact D)

/-! ### (*octroi/dual.Dual).settle: function 30 -/
noncomputable def dual_Dual_settle_code : Code := match Try.f30.body with | some c => c | none => .skip

/-- dual.go:129 -/
def dual_Dual_settle_r0 (env : Env) (h : Hp) (K : Env → Hp → Prop) : Prop :=
  arun Try.prog (Instr.box 25 (env 0)) h fun v2_0 h1 =>
  arun Try.prog (Instr.box 72 (env 1)) h1 fun v3_1 h2 =>
  K ((env.set 2 v2_0).set 3 v3_1) h2
@[congr] theorem dual_Dual_settle_r0_congr {env : Env} {h : Hp} {K : Env → Hp → Prop} : dual_Dual_settle_r0 env h K = dual_Dual_settle_r0 env h K := rfl

/-- dual.go:130 -/
def dual_Dual_settle_r1 (env : Env) (h : Hp) (K : Env → Hp → Prop) : Prop :=
  rd Try.prog (Instr.loadAt 25 (env 2)) h fun v12_0 =>
  rd Try.prog (Instr.loadAt 72 (env 3)) h fun v13_1 =>
  Ok Try.prog 33 #[v12_0, v13_1, (Go.Value.int Go.IntKind.i64 4294967295)] h fun v14_2 h1 =>
  rd Try.prog (Instr.extract v14_2 0) noHp fun v15_4 =>
  rd Try.prog (Instr.extract v14_2 1) noHp fun v16_5 =>
  arun Try.prog (Instr.alloc 74 true (Go.Value.tuple #[])) h1 fun v4_6 h2 =>
  arun Try.prog (Instr.storeAt 74 v4_6 v15_4) h2 fun _ h3 =>
  K ((((((((env.set 12 v12_0).set 13 v13_1).set 14 v14_2).set 11 v14_2).set 15 v15_4).set 16 v16_5).set 4 v4_6).set 5 v16_5) h3
@[congr] theorem dual_Dual_settle_r1_congr {env : Env} {h : Hp} {K : Env → Hp → Prop} : dual_Dual_settle_r1 env h K = dual_Dual_settle_r1 env h K := rfl

/-- dual.go:131 -/
def dual_Dual_settle_r2 (env : Env) (h : Hp) (K : Env → Hp → Prop) : Prop :=
  rd Try.prog (Instr.fieldAt 74 (env 4) 2) noHp fun v17_0 =>
  arun Try.prog (Instr.storeAt 3 v17_0 (Go.Value.int Go.IntKind.i64 0)) h fun _ h1 =>
  K (env.set 17 v17_0) h1
@[congr] theorem dual_Dual_settle_r2_congr {env : Env} {h : Hp} {K : Env → Hp → Prop} : dual_Dual_settle_r2 env h K = dual_Dual_settle_r2 env h K := rfl

/-- dual.go:132 (in any order) -/
def dual_Dual_settle_r3 (env : Env) (h : Hp) (K : Env → Hp → Prop) : Prop :=
  rd Try.prog (Instr.loadAt 72 (env 3)) h fun v18_0 =>
  nck v18_0 (
  rd Try.prog (Instr.fieldAt 79 v18_0 5) noHp fun v20_2 =>
  rd Try.prog (Instr.loadAt 77 v20_2) h fun v21_3 =>
  rd Try.prog (Builtin.len_ #[77] 3 #[v21_3]) h fun v22_4 =>
  rd Try.prog (bop Go.BinOp.gtr 3 (Go.Operand.tmp 22) (Go.Operand.const (Go.Value.int Go.IntKind.i64 0)) v22_4 (Go.Value.int Go.IntKind.i64 0)) noHp fun v23_5 =>
  gd (yb v23_5 == some false) (fun h k => rd Try.prog (Instr.loadAt 74 (env 4)) h fun v => k v h) h fun v25_7 h1 =>
  gd (yb v23_5 == some false) (fun h k => rd Try.prog (Instr.loadAt 72 (env 3)) h fun v => k v h) h1 fun v26_8 h2 =>
  gd (yb v23_5 == some false) (fun h k => nck v26_8 (k v26_8 h)) h2 fun v27_9 h3 =>
  gd (yb v23_5 == some false) (fun h k => rd Try.prog (Instr.fieldAt 79 v27_9 3) noHp fun v => k v h) h3 fun v28_10 h4 =>
  gd (yb v23_5 == some false) (fun h k => rd Try.prog (Instr.loadAt 74 v28_10) h fun v => k v h) h4 fun v29_11 h5 =>
  gd (yb v23_5 == some false) (fun h k => rd Try.prog (bop Go.BinOp.eql 74 (Go.Operand.tmp 25) (Go.Operand.tmp 29) v25_7 v29_11) noHp fun v => k v h) h5 fun v30_12 h6 =>
  rd Try.prog (pck v23_5 (Go.Value.bool true) v30_12) noHp fun v31_13 =>
  K ((((((((((((((env.set 18 v18_0).set 19 v18_0).set 20 v20_2).set 21 v21_3).set 22 v22_4).set 23 v23_5).set 24 v23_5).set 25 v25_7).set 26 v26_8).set 27 v27_9).set 28 v28_10).set 29 v29_11).set 30 v30_12).set 31 v31_13) h6)
@[congr] theorem dual_Dual_settle_r3_congr {env : Env} {h : Hp} {K : Env → Hp → Prop} : dual_Dual_settle_r3 env h K = dual_Dual_settle_r3 env h K := rfl

/-- dual.go:135 (in any order) -/
def dual_Dual_settle_r4 (env : Env) (h : Hp) (K : Env → Hp → Prop) : Prop :=
  rd Try.prog (Instr.loadAt 72 (env 3)) h fun v32_0 =>
  nck v32_0 (
  rd Try.prog (Instr.fieldAt 79 v32_0 3) noHp fun v34_2 =>
  rd Try.prog (Instr.fieldAt 74 v34_2 0) noHp fun v35_3 =>
  rd Try.prog (Instr.loadAt 23 v35_3) h fun v36_4 =>
  rd Try.prog (Instr.fieldAt 74 (env 4) 0) noHp fun v38_5 =>
  rd Try.prog (Instr.loadAt 23 v38_5) h fun v39_6 =>
  Ok Try.prog 18 #[v36_4] h fun v37_7 h1 =>
  (rrun Try.prog (Instr.loadAt 23 v38_5) h1 = some v39_6 ∧ True) ∧
  Ok Try.prog 18 #[v39_6] h1 fun v40_8 h2 =>
  (True) ∧
  K (((((((((((env.set 32 v32_0).set 33 v32_0).set 34 v34_2).set 35 v35_3).set 36 v36_4).set 38 v38_5).set 39 v39_6).set 37 v37_7).set 40 v40_8).set 6 v37_7).set 7 v40_8) h2)
@[congr] theorem dual_Dual_settle_r4_congr {env : Env} {h : Hp} {K : Env → Hp → Prop} : dual_Dual_settle_r4 env h K = dual_Dual_settle_r4 env h K := rfl

/-- dual.go:136 -/
def dual_Dual_settle_r5 (env : Env) (h : Hp) (K : Env → Hp → Prop) : Prop :=
  rd Try.prog (Instr.loadAt 72 (env 3)) h fun v41_0 =>
  rd Try.prog (Instr.loadAt 74 (env 4)) h fun v42_1 =>
  nck v41_0 (
  rd Try.prog (Instr.fieldAt 79 v41_0 3) noHp fun v44_3 =>
  arun Try.prog (Instr.storeAt 74 v44_3 v42_1) h fun _ h1 =>
  K ((((env.set 41 v41_0).set 42 v42_1).set 43 v41_0).set 44 v44_3) h1)
@[congr] theorem dual_Dual_settle_r5_congr {env : Env} {h : Hp} {K : Env → Hp → Prop} : dual_Dual_settle_r5 env h K = dual_Dual_settle_r5 env h K := rfl

/-- dual.go:137 -/
def dual_Dual_settle_r6 (env : Env) (h : Hp) (K : Env → Hp → Prop) : Prop :=
  arun Try.prog (Instr.alloc 3 true (Go.Value.tuple #[])) h fun v8_0 h1 =>
  arun Try.prog (Instr.storeAt 3 v8_0 (Go.Value.int Go.IntKind.i64 1)) h1 fun _ h2 =>
  K (env.set 8 v8_0) h2
@[congr] theorem dual_Dual_settle_r6_congr {env : Env} {h : Hp} {K : Env → Hp → Prop} : dual_Dual_settle_r6 env h K = dual_Dual_settle_r6 env h K := rfl

/-- dual.go:138 -/
def dual_Dual_settle_r7 (env : Env) (h : Hp) (K : Env → Hp → Prop) : Prop :=
  rd Try.prog (bop Go.BinOp.gtr 3 (Go.Operand.tmp 45) (Go.Operand.tmp 46) (env 7) (env 6)) noHp fun v47_2 =>
  K (((env.set 45 (env 7)).set 46 (env 6)).set 47 v47_2) h
@[congr] theorem dual_Dual_settle_r7_congr {env : Env} {h : Hp} {K : Env → Hp → Prop} : dual_Dual_settle_r7 env h K = dual_Dual_settle_r7 env h K := rfl

/-- dual.go:139 -/
def dual_Dual_settle_r8 (env : Env) (h : Hp) (K : Env → Hp → Prop) : Prop :=
  arun Try.prog (Instr.storeAt 3 (env 8) (Go.Value.int Go.IntKind.i64 2)) h fun _ h1 =>
  K env h1
@[congr] theorem dual_Dual_settle_r8_congr {env : Env} {h : Hp} {K : Env → Hp → Prop} : dual_Dual_settle_r8 env h K = dual_Dual_settle_r8 env h K := rfl

/-- dual.go:141 -/
def dual_Dual_settle_r9 (env : Env) (h : Hp) (K : Env → Hp → Prop) : Prop :=
  rd Try.prog (Instr.loadAt 25 (env 2)) h fun v48_0 =>
  Ok Try.prog 46 #[v48_0] h fun v49_1 h1 =>
  K ((env.set 48 v48_0).set 49 v49_1) h1
@[congr] theorem dual_Dual_settle_r9_congr {env : Env} {h : Hp} {K : Env → Hp → Prop} : dual_Dual_settle_r9 env h K = dual_Dual_settle_r9 env h K := rfl

/-- dual.go:141 -/
def dual_Dual_settle_r10 (env : Env) (h : Hp) (K : Env → Hp → Prop) : Prop :=
  K (env.set 9 (env 50)) h
@[congr] theorem dual_Dual_settle_r10_congr {env : Env} {h : Hp} {K : Env → Hp → Prop} : dual_Dual_settle_r10 env h K = dual_Dual_settle_r10 env h K := rfl

/-- dual.go:142 (in any order) -/
def dual_Dual_settle_r11 (env : Env) (h : Hp) (K : Env → Hp → Prop) : Prop :=
  rd Try.prog (Instr.loadAt 25 (env 2)) h fun v52_0 =>
  rd Try.prog (Instr.loadAt 3 (env 8)) h fun v54_2 =>
  rd Try.prog (Instr.loadAt 72 (env 3)) h fun v55_3 =>
  nck v55_3 (
  rd Try.prog (Instr.fieldAt 79 v55_3 0) noHp fun v57_5 =>
  rd Try.prog (Instr.loadAt 35 v57_5) h fun v58_6 =>
  rd Try.prog (Instr.loadAt 74 (env 4)) h fun v59_7 =>
  Ok Try.prog 25 #[v52_0, (env 9), v54_2, (Go.Value.int Go.IntKind.u32 0), v58_6, v59_7] h fun v60_8 h1 =>
  (True) ∧
  K ((((((((((env.set 52 v52_0).set 53 (env 9)).set 54 v54_2).set 55 v55_3).set 56 v55_3).set 57 v57_5).set 58 v58_6).set 59 v59_7).set 60 v60_8).set 10 v60_8) h1)
@[congr] theorem dual_Dual_settle_r11_congr {env : Env} {h : Hp} {K : Env → Hp → Prop} : dual_Dual_settle_r11 env h K = dual_Dual_settle_r11 env h K := rfl

/-- dual.go:143 -/
def dual_Dual_settle_r12 (env : Env) (h : Hp) (K : Env → Hp → Prop) : Prop :=
  rd Try.prog (Instr.loadAt 3 (env 8)) h fun v61_0 =>
  rd Try.prog (bop Go.BinOp.eql 3 (Go.Operand.tmp 61) (Go.Operand.const (Go.Value.int Go.IntKind.i64 2)) v61_0 (Go.Value.int Go.IntKind.i64 2)) noHp fun v62_1 =>
  K ((env.set 61 v61_0).set 62 v62_1) h
@[congr] theorem dual_Dual_settle_r12_congr {env : Env} {h : Hp} {K : Env → Hp → Prop} : dual_Dual_settle_r12 env h K = dual_Dual_settle_r12 env h K := rfl

/-- dual.go:144 -/
def dual_Dual_settle_r13 (env : Env) (h : Hp) (K : Env → Hp → Prop) : Prop :=
  rd Try.prog (Instr.loadAt 72 (env 3)) h fun v63_0 =>
  nck v63_0 (
  rd Try.prog (Instr.fieldAt 79 v63_0 5) noHp fun v65_2 =>
  rd Try.prog (Instr.loadAt 77 v65_2) h fun v66_3 =>
  arun Try.prog (Instr.mapUpdate 77 v66_3 (env 9) (env 10)) h fun _ h1 =>
  K ((((((env.set 63 v63_0).set 64 v63_0).set 65 v65_2).set 66 v66_3).set 67 (env 9)).set 68 (env 10)) h1)
@[congr] theorem dual_Dual_settle_r13_congr {env : Env} {h : Hp} {K : Env → Hp → Prop} : dual_Dual_settle_r13 env h K = dual_Dual_settle_r13 env h K := rfl

def dual_Dual_settle_F0_A : Den := (rg dual_Dual_settle_r10)
def dual_Dual_settle_F0_B : Den := (blk 1 (sq (rg dual_Dual_settle_r11) (sq (rg dual_Dual_settle_r12) (cnd (Go.Operand.tmp 62) (rg dual_Dual_settle_r13) (ex .normal)))))

noncomputable def dual_Dual_settle_F0_a : Code := subCode [1, 1, 1, 1, 1, 1, 1, 1, 0, 1, 0, 0] dual_Dual_settle_code
noncomputable def dual_Dual_settle_F0_b : Code := subCode [1, 1, 1, 1, 1, 1, 1, 1, 0, 1, 0, 1] dual_Dual_settle_code

theorem dual_Dual_settle_F0_Aeq : (den Try.prog 92 dual_Dual_settle_F0_a).1 = dual_Dual_settle_F0_A := by kernel_rfl
theorem dual_Dual_settle_F0_Beq : (den Try.prog 92 dual_Dual_settle_F0_b).1 = dual_Dual_settle_F0_B := by kernel_rfl

theorem dual_Dual_settle_F0_yok {env : Env} {fn D l : Nat} {g : Hp} {x0 x1 : Value} {k : Value → Hp → Prop} (hl : g l = some (recOf 92 env #[50, 51] dual_Dual_settle_F0_a dual_Dual_settle_F0_b .ready none fn D)) (hu : ∀ t, 92 ≤ t → env t = undef)
    (H : rnd l (recOf 92 env #[50, 51] dual_Dual_settle_F0_a dual_Dual_settle_F0_b .ready none fn D) (recOf 92 env #[50, 51] dual_Dual_settle_F0_a dual_Dual_settle_F0_b .busy none fn D) dual_Dual_settle_F0_A dual_Dual_settle_F0_B (rndK l 92 env #[50, 51] dual_Dual_settle_F0_a dual_Dual_settle_F0_b fn D k) (envPs 92 env [(50, x0), (51, x1)]) g) : YOk Try.prog l #[x0, x1] g k := yok_rnd (args := #[x0, x1]) progIsOk (by kernel_rfl) (by kernel_rfl) dual_Dual_settle_F0_Aeq dual_Dual_settle_F0_Beq hl hu rfl (by rw [show (Array.zip (#[50, 51] : Array Tmp) #[x0, x1]).toList = [(50, x0), (51, x1)] by simp]; exact H)

/-- dual.go:148 -/
def dual_Dual_settle_r14 (env : Env) (h : Hp) (K : Env → Hp → Prop) : Prop :=
  rd Try.prog (Instr.loadAt 25 (env 2)) h fun v70_0 =>
  nck v70_0 (
  rd Try.prog (Instr.fieldAt 65 v70_0 2) noHp fun v72_2 =>
  rd Try.prog (Instr.loadAt 62 v72_2) h fun v73_3 =>
  rd Try.prog (Builtin.len_ #[62] 3 #[v73_3]) h fun v74_4 =>
  rd Try.prog (bop Go.BinOp.eql 3 (Go.Operand.tmp 74) (Go.Operand.const (Go.Value.int Go.IntKind.i64 0)) v74_4 (Go.Value.int Go.IntKind.i64 0)) noHp fun v75_5 =>
  K (((((((env.set 70 v70_0).set 71 v70_0).set 72 v72_2).set 73 v73_3).set 74 v74_4).set 75 v75_5).set 69 v75_5) h)
@[congr] theorem dual_Dual_settle_r14_congr {env : Env} {h : Hp} {K : Env → Hp → Prop} : dual_Dual_settle_r14 env h K = dual_Dual_settle_r14 env h K := rfl

/-- dual.go:149 -/
def dual_Dual_settle_r15 (env : Env) (h : Hp) (K : Env → Hp → Prop) : Prop :=
  rd Try.prog (Instr.loadAt 72 (env 3)) h fun v76_0 =>
  nck v76_0 (
  rd Try.prog (Instr.fieldAt 79 v76_0 4) noHp fun v79_3 =>
  arun Try.prog (Instr.storeAt 3 v79_3 (env 7)) h fun _ h1 =>
  K ((((env.set 76 v76_0).set 77 (env 7)).set 78 v76_0).set 79 v79_3) h1)
@[congr] theorem dual_Dual_settle_r15_congr {env : Env} {h : Hp} {K : Env → Hp → Prop} : dual_Dual_settle_r15 env h K = dual_Dual_settle_r15 env h K := rfl

/-- dual.go:150 -/
def dual_Dual_settle_r16 (env : Env) (h : Hp) (K : Env → Hp → Prop) : Prop :=
  rd Try.prog (Instr.loadAt 3 (env 8)) h fun v81_0 =>
  rd Try.prog (bop Go.BinOp.eql 3 (Go.Operand.tmp 81) (Go.Operand.const (Go.Value.int Go.IntKind.i64 1)) v81_0 (Go.Value.int Go.IntKind.i64 1)) noHp fun v82_1 =>
  K (((env.set 81 v81_0).set 82 v82_1).set 80 v82_1) h
@[congr] theorem dual_Dual_settle_r16_congr {env : Env} {h : Hp} {K : Env → Hp → Prop} : dual_Dual_settle_r16 env h K = dual_Dual_settle_r16 env h K := rfl

/-- dual.go:151 (in any order) -/
def dual_Dual_settle_r17 (env : Env) (h : Hp) (K : Env → Hp → Prop) : Prop :=
  rd Try.prog (Instr.loadAt 72 (env 3)) h fun v83_0 =>
  rd Try.prog (Instr.loadAt 72 (env 3)) h fun v84_1 =>
  nck v84_1 (
  rd Try.prog (Instr.fieldAt 79 v84_1 4) noHp fun v86_3 =>
  rd Try.prog (Instr.loadAt 3 v86_3) h fun v87_4 =>
  rd Try.prog (Builtin.min_ #[3, 3] 3 #[v87_4, (env 7)]) h fun v89_6 =>
  nck v83_0 (
  rd Try.prog (Instr.fieldAt 79 v83_0 4) noHp fun v91_8 =>
  arun Try.prog (Instr.storeAt 3 v91_8 v89_6) h fun _ h1 =>
  (True) ∧
  K (((((((((env.set 83 v83_0).set 84 v84_1).set 85 v84_1).set 86 v86_3).set 87 v87_4).set 88 (env 7)).set 89 v89_6).set 90 v83_0).set 91 v91_8) h1))
@[congr] theorem dual_Dual_settle_r17_congr {env : Env} {h : Hp} {K : Env → Hp → Prop} : dual_Dual_settle_r17 env h K = dual_Dual_settle_r17 env h K := rfl

def dual_Dual_settle_D : Den := (sq (rg dual_Dual_settle_r0) (sq (rg dual_Dual_settle_r1) (sq (rg dual_Dual_settle_r2) (sq (sq (rg dual_Dual_settle_r3) (cnd (Go.Operand.tmp 31) (ex .ret) (ex .normal))) (sq (rg dual_Dual_settle_r4) (sq (rg dual_Dual_settle_r5) (sq (rg dual_Dual_settle_r6) (sq (sq (rg dual_Dual_settle_r7) (cnd (Go.Operand.tmp 47) (rg dual_Dual_settle_r8) (ex .normal))) (sq (sq (rg dual_Dual_settle_r9) (blk 0 (rfn Try.prog 92 (Go.Operand.tmp 49) #[50, 51] dual_Dual_settle_F0_a dual_Dual_settle_F0_b))) (blk 2 (sq (rg dual_Dual_settle_r14) (cnd (Go.Operand.tmp 69) (rg dual_Dual_settle_r15) (sq (rg dual_Dual_settle_r16) (cnd (Go.Operand.tmp 80) (rg dual_Dual_settle_r17) (ex .normal)))))))))))))))

theorem dual_Dual_settle_eq : (den Try.prog 92 dual_Dual_settle_code).1 = dual_Dual_settle_D := by kernel_rfl

theorem dual_Dual_settle_ok {args : Array Value} {h : Hp} {Q : Value → Hp → Prop} (hn : args.size ≤ 92) (D : dual_Dual_settle_D (fin Try.prog [] Q) (env0 args) h) : Ok Try.prog 30 args h Q :=
  ok_of_den progIsOk Try.func30 (c := dual_Dual_settle_code) (by kernel_rfl) hn (by show (den Try.prog 92 dual_Dual_settle_code).1 _ _ _; rw [dual_Dual_settle_eq]; exact D)

/-! ### octroi/metric.length: function 31 -/
noncomputable def metric_length_code : Code := match Try.f31.body with | some c => c | none => .skip

/-- metric.go:20 -/
def metric_length_r0 (env : Env) (h : Hp) (K : Env → Hp → Prop) : Prop :=
  arun Try.prog (Instr.box 23 (env 0)) h fun v1_0 h1 =>
  K ((env.set 1 v1_0).set 2 (Go.Value.complex Go.FloatKind.f64 0 0)) h1
@[congr] theorem metric_length_r0_congr {env : Env} {h : Hp} {K : Env → Hp → Prop} : metric_length_r0 env h K = metric_length_r0 env h K := rfl

/-- metric.go:21 (in any order) -/
def metric_length_r1 (env : Env) (h : Hp) (K : Env → Hp → Prop) : Prop :=
  rd Try.prog (Instr.fieldAt 23 (env 1) 1) noHp fun v3_0 =>
  rd Try.prog (Instr.loadAt 3 v3_0) h fun v4_1 =>
  rd Try.prog (Instr.fieldAt 23 (env 1) 2) noHp fun v7_2 =>
  rd Try.prog (Instr.loadAt 3 v7_2) h fun v8_3 =>
  Ok Try.prog 32 #[v4_1, (Go.Value.int Go.IntKind.i64 16777216)] h fun v5_4 h1 =>
  (rrun Try.prog (Instr.loadAt 3 v7_2) h1 = some v8_3 ∧ True) ∧
  rd Try.prog (convert 3 91 v5_4) noHp fun v6_5 =>
  Ok Try.prog 32 #[v8_3, (Go.Value.int Go.IntKind.i64 100)] h1 fun v9_6 h2 =>
  (True) ∧
  rd Try.prog (convert 3 91 v9_6) noHp fun v10_7 =>
  rd Try.prog (Builtin.complex_ #[91, 91] 88 #[v6_5, v10_7]) h2 fun v11_8 =>
  K ((((((((((env.set 3 v3_0).set 4 v4_1).set 7 v7_2).set 8 v8_3).set 5 v5_4).set 6 v6_5).set 9 v9_6).set 10 v10_7).set 11 v11_8).set 2 v11_8) h2
@[congr] theorem metric_length_r1_congr {env : Env} {h : Hp} {K : Env → Hp → Prop} : metric_length_r1 env h K = metric_length_r1 env h K := rfl

def metric_length_D : Den := (sq (rg metric_length_r0) (sq (rg metric_length_r1) (ex .ret)))

theorem metric_length_eq : (den Try.prog 12 metric_length_code).1 = metric_length_D := by kernel_rfl

theorem metric_length_ok {args : Array Value} {h : Hp} {Q : Value → Hp → Prop} (hn : args.size ≤ 12) (D : metric_length_D (fin Try.prog [(Go.ResultVar.tmp 2)] Q) (env0 args) h) : Ok Try.prog 31 args h Q :=
  ok_of_den progIsOk Try.func31 (c := metric_length_code) (by kernel_rfl) hn (by show (den Try.prog 12 metric_length_code).1 _ _ _; rw [metric_length_eq]; exact D)

/-! ### octroi/metric.within: function 32 -/
noncomputable def metric_within_code : Code := match Try.f32.body with | some c => c | none => .skip

/-- metric.go:17 -/
def metric_within_r0 (env : Env) (h : Hp) (K : Env → Hp → Prop) : Prop :=
  K (env.set 4 (Go.Value.int Go.IntKind.i64 0)) h
@[congr] theorem metric_within_r0_congr {env : Env} {h : Hp} {K : Env → Hp → Prop} : metric_within_r0 env h K = metric_within_r0 env h K := rfl

/-- metric.go:17 -/
def metric_within_r1 (env : Env) (h : Hp) (K : Env → Hp → Prop) : Prop :=
  rd Try.prog (Builtin.min_ #[3, 3] 3 #[(env 0), (env 1)]) h fun v7_2 =>
  rd Try.prog (Builtin.max_ #[3, 3] 3 #[(Go.Value.int Go.IntKind.i64 0), v7_2]) h fun v8_3 =>
  K (((((env.set 5 (env 0)).set 6 (env 1)).set 7 v7_2).set 8 v8_3).set 4 v8_3) h
@[congr] theorem metric_within_r1_congr {env : Env} {h : Hp} {K : Env → Hp → Prop} : metric_within_r1 env h K = metric_within_r1 env h K := rfl

def metric_within_D : Den := (sq (rg metric_within_r0) (sq (rg metric_within_r1) (ex .ret)))

theorem metric_within_eq : (den Try.prog 9 metric_within_code).1 = metric_within_D := by kernel_rfl

theorem metric_within_ok {args : Array Value} {h : Hp} {Q : Value → Hp → Prop} (hn : args.size ≤ 9) (D : metric_within_D (fin Try.prog [(Go.ResultVar.tmp 4)] Q) (env0 args) h) : Ok Try.prog 32 args h Q :=
  ok_of_den progIsOk Try.func32 (c := metric_within_code) (by kernel_rfl) hn (by show (den Try.prog 9 metric_within_code).1 _ _ _; rw [metric_within_eq]; exact D)

/-! ### (*octroi/dual.Dual).best: function 33 -/
noncomputable def dual_Dual_best_code : Code := match Try.f33.body with | some c => c | none => .skip

/-- dual.go:111 -/
def dual_Dual_best_r0 (env : Env) (h : Hp) (K : Env → Hp → Prop) : Prop :=
  arun Try.prog (Instr.box 72 (env 1)) h fun v4_0 h1 =>
  arun Try.prog (Instr.box 3 (env 2)) h1 fun v5_1 h2 =>
  arun Try.prog (Instr.alloc 74 true (Go.Value.tuple #[])) h2 fun v6_2 h3 =>
  arun Try.prog (Instr.alloc 4 true (Go.Value.tuple #[])) h3 fun v7_3 h4 =>
  K ((((env.set 4 v4_0).set 5 v5_1).set 6 v6_2).set 7 v7_3) h4
@[congr] theorem dual_Dual_best_r0_congr {env : Env} {h : Hp} {K : Env → Hp → Prop} : dual_Dual_best_r0 env h K = dual_Dual_best_r0 env h K := rfl

/-- dual.go:112 -/
def dual_Dual_best_r1 (env : Env) (h : Hp) (K : Env → Hp → Prop) : Prop :=
  rd Try.prog (Instr.loadAt 72 (env 4)) h fun v13_0 =>
  nck v13_0 (
  rd Try.prog (Instr.fieldAt 79 v13_0 1) noHp fun v15_2 =>
  rd Try.prog (Instr.loadAt 75 v15_2) h fun v16_3 =>
  rd Try.prog (bop Go.BinOp.neq 75 (Go.Operand.tmp 16) (Go.Operand.const (Go.Value.pointer none)) v16_3 (Go.Value.pointer none)) noHp fun v17_4 =>
  K (((((env.set 13 v13_0).set 14 v13_0).set 15 v15_2).set 16 v16_3).set 17 v17_4) h)
@[congr] theorem dual_Dual_best_r1_congr {env : Env} {h : Hp} {K : Env → Hp → Prop} : dual_Dual_best_r1 env h K = dual_Dual_best_r1 env h K := rfl

/-- dual.go:113 -/
def dual_Dual_best_r2 (env : Env) (h : Hp) (K : Env → Hp → Prop) : Prop :=
  rd Try.prog (Instr.loadAt 72 (env 4)) h fun v18_0 =>
  nck v18_0 (
  rd Try.prog (Instr.fieldAt 79 v18_0 1) noHp fun v20_2 =>
  rd Try.prog (Instr.loadAt 75 v20_2) h fun v21_3 =>
  nck v21_3 (
  rd Try.prog (Instr.loadAt 74 v21_3) h fun v23_5 =>
  arun Try.prog (Instr.storeAt 74 (env 6) v23_5) h fun _ h1 =>
  arun Try.prog (Instr.storeAt 4 (env 7) (Go.Value.bool true)) h1 fun _ h2 =>
  K ((((((env.set 18 v18_0).set 19 v18_0).set 20 v20_2).set 21 v21_3).set 22 v21_3).set 23 v23_5) h2))
@[congr] theorem dual_Dual_best_r2_congr {env : Env} {h : Hp} {K : Env → Hp → Prop} : dual_Dual_best_r2 env h K = dual_Dual_best_r2 env h K := rfl

/-- dual.go:115 -/
def dual_Dual_best_r3 (env : Env) (h : Hp) (K : Env → Hp → Prop) : Prop :=
  Ok Try.prog 46 #[(env 0)] h fun v25_1 h1 =>
  K ((env.set 24 (env 0)).set 25 v25_1) h1
@[congr] theorem dual_Dual_best_r3_congr {env : Env} {h : Hp} {K : Env → Hp → Prop} : dual_Dual_best_r3 env h K = dual_Dual_best_r3 env h K := rfl

/-- dual.go:115 -/
def dual_Dual_best_r4 (env : Env) (h : Hp) (K : Env → Hp → Prop) : Prop :=
  K (env.set 8 (env 26)) h
@[congr] theorem dual_Dual_best_r4_congr {env : Env} {h : Hp} {K : Env → Hp → Prop} : dual_Dual_best_r4 env h K = dual_Dual_best_r4 env h K := rfl

/-- dual.go:115 -/
def dual_Dual_best_r5 (env : Env) (h : Hp) (K : Env → Hp → Prop) : Prop :=
  K (env.set 9 (env 27)) h
@[congr] theorem dual_Dual_best_r5_congr {env : Env} {h : Hp} {K : Env → Hp → Prop} : dual_Dual_best_r5 env h K = dual_Dual_best_r5 env h K := rfl

/-- dual.go:116 -/
def dual_Dual_best_r6 (env : Env) (h : Hp) (K : Env → Hp → Prop) : Prop :=
  rd Try.prog (Instr.loadAt 72 (env 4)) h fun v29_0 =>
  nck v29_0 (
  rd Try.prog (Instr.fieldAt 79 v29_0 2) noHp fun v31_2 =>
  rd Try.prog (Instr.loadAt 76 v31_2) h fun v32_3 =>
  rd Try.prog (Instr.lookup 76 v32_3 (env 8) true) h fun v34_5 =>
  rd Try.prog (Instr.extract v34_5 0) noHp fun v35_7 =>
  rd Try.prog (Instr.extract v34_5 1) noHp fun v36_8 =>
  arun Try.prog (Instr.alloc 74 true (Go.Value.tuple #[])) h fun v10_9 h1 =>
  arun Try.prog (Instr.storeAt 74 v10_9 v35_7) h1 fun _ h2 =>
  K (((((((((((env.set 29 v29_0).set 30 v29_0).set 31 v31_2).set 32 v32_3).set 33 (env 8)).set 34 v34_5).set 28 v34_5).set 35 v35_7).set 36 v36_8).set 10 v10_9).set 11 v36_8) h2)
@[congr] theorem dual_Dual_best_r6_congr {env : Env} {h : Hp} {K : Env → Hp → Prop} : dual_Dual_best_r6 env h K = dual_Dual_best_r6 env h K := rfl

/-- dual.go:117 (in any order) -/
def dual_Dual_best_r7 (env : Env) (h : Hp) (K : Env → Hp → Prop) : Prop :=
  rd Try.prog (Op.unary Go.UnOp.not (env 11)) noHp fun v38_1 =>
  gd (yb v38_1 == some false) (fun h k => rd Try.prog (Instr.fieldAt 74 (env 10) 0) noHp fun v => k v h) h fun v40_3 h1 =>
  gd (yb v38_1 == some false) (fun h k => rd Try.prog (Instr.loadAt 23 v40_3) h fun v => k v h) h1 fun v41_4 h2 =>
  gd (yb v38_1 == some false) (fun h k => rd Try.prog (Instr.loadAt 3 (env 5)) h fun v => k v h) h2 fun v43_5 h3 =>
  gd (yb v38_1 == some false) (fun h k => Ok Try.prog 18 #[v41_4] h k) h3 fun v42_6 h4 =>
  (((yb v38_1 == some false) = true → rrun Try.prog (Instr.loadAt 3 (env 5)) h4 = some v43_5) ∧ True) ∧
  gd (yb v38_1 == some false) (fun h k => rd Try.prog (bop Go.BinOp.geq 3 (Go.Operand.tmp 42) (Go.Operand.tmp 43) v42_6 v43_5) noHp fun v => k v h) h4 fun v44_7 h5 =>
  rd Try.prog (pck v38_1 (Go.Value.bool true) v44_7) noHp fun v45_8 =>
  K (((((((((env.set 37 (env 11)).set 38 v38_1).set 39 v38_1).set 40 v40_3).set 41 v41_4).set 43 v43_5).set 42 v42_6).set 44 v44_7).set 45 v45_8) h5
@[congr] theorem dual_Dual_best_r7_congr {env : Env} {h : Hp} {K : Env → Hp → Prop} : dual_Dual_best_r7 env h K = dual_Dual_best_r7 env h K := rfl

/-- dual.go:120 (in any order) -/
def dual_Dual_best_r8 (env : Env) (h : Hp) (K : Env → Hp → Prop) : Prop :=
  rd Try.prog (Instr.fieldAt 74 (env 10) 0) noHp fun v46_0 =>
  rd Try.prog (Instr.loadAt 23 v46_0) h fun v47_1 =>
  nck (env 9) (
  rd Try.prog (Instr.fieldAt 68 (env 9) 0) noHp fun v50_4 =>
  rd Try.prog (Instr.loadAt 23 v50_4) h fun v51_5 =>
  rd Try.prog (Instr.fieldAt 74 (env 10) 1) noHp fun v53_6 =>
  rd Try.prog (Instr.loadAt 36 v53_6) h fun v54_7 =>
  (Ok Try.prog 16 #[v47_1, v51_5] h fun v52_9 h1 =>
  (rrun Try.prog (Instr.loadAt 36 v53_6) h1 = some v54_7 ∧ True) ∧
  rd Try.prog (Instr.build 74 #[(0, v52_9), (1, v54_7), (2, (env 8))]) noHp fun v56_10 =>
  arun Try.prog (Instr.alloc 74 true (Go.Value.tuple #[])) h1 fun v12_11 h2 =>
  (rrun Try.prog (Instr.loadAt 36 v53_6) h2 = some v54_7 ∧ True) ∧
  arun Try.prog (Instr.storeAt 74 v12_11 v56_10) h2 fun _ h3 =>
  (True) ∧
  K ((((((((((((env.set 46 v46_0).set 47 v47_1).set 48 (env 9)).set 49 (env 9)).set 50 v50_4).set 51 v51_5).set 53 v53_6).set 54 v54_7).set 55 (env 8)).set 52 v52_9).set 56 v56_10).set 12 v12_11) h3) ∧
(arun Try.prog (Instr.alloc 74 true (Go.Value.tuple #[])) h fun v12_13 h4 =>
  (rrun Try.prog (Instr.loadAt 36 v53_6) h4 = some v54_7 ∧ rrun Try.prog (Instr.loadAt 23 v50_4) h4 = some v51_5 ∧ rrun Try.prog (Instr.loadAt 23 v46_0) h4 = some v47_1 ∧ True) ∧
  Ok Try.prog 16 #[v47_1, v51_5] h4 fun v52_14 h5 =>
  (rrun Try.prog (Instr.loadAt 36 v53_6) h5 = some v54_7 ∧ True) ∧
  rd Try.prog (Instr.build 74 #[(0, v52_14), (1, v54_7), (2, (env 8))]) noHp fun v56_15 =>
  arun Try.prog (Instr.storeAt 74 v12_13 v56_15) h5 fun _ h6 =>
  (True) ∧
  K ((((((((((((env.set 46 v46_0).set 47 v47_1).set 48 (env 9)).set 49 (env 9)).set 50 v50_4).set 51 v51_5).set 53 v53_6).set 54 v54_7).set 55 (env 8)).set 12 v12_13).set 52 v52_14).set 56 v56_15) h6))
@[congr] theorem dual_Dual_best_r8_congr {env : Env} {h : Hp} {K : Env → Hp → Prop} : dual_Dual_best_r8 env h K = dual_Dual_best_r8 env h K := rfl

/-- dual.go:121 -/
def dual_Dual_best_r9 (env : Env) (h : Hp) (K : Env → Hp → Prop) : Prop :=
  rd Try.prog (Instr.fieldAt 74 (env 12) 0) noHp fun v57_0 =>
  rd Try.prog (Instr.loadAt 23 v57_0) h fun v58_1 =>
  Ok Try.prog 17 #[v58_1] h fun v59_2 h1 =>
  gd (yb v59_2 == some true) (fun h k => rd Try.prog (Instr.loadAt 4 (env 7)) h fun v => k v h) h1 fun v61_4 h2 =>
  gd (yb v59_2 == some true) (fun h k => rd Try.prog (Op.unary Go.UnOp.not v61_4) noHp fun v => k v h) h2 fun v62_5 h3 =>
  gd (yb v59_2 == some true) (fun h k => k v62_5 h) h3 fun v63_6 h4 =>
  gd (yb v63_6 == some false) (fun h k => rd Try.prog (Instr.loadAt 74 (env 12)) h fun v => k v h) h4 fun v64_7 h5 =>
  gd (yb v63_6 == some false) (fun h k => rd Try.prog (Instr.loadAt 74 (env 6)) h fun v => k v h) h5 fun v65_8 h6 =>
  gd (yb v63_6 == some false) (fun h k => Ok Try.prog 47 #[v64_7, v65_8] h k) h6 fun v66_9 h7 =>
  gd (yb v59_2 == some true) (fun h k => rd Try.prog (pck v63_6 (Go.Value.bool true) v66_9) noHp fun v => k v h) h7 fun v67_10 h8 =>
  rd Try.prog (pck v59_2 v67_10 (Go.Value.bool false)) noHp fun v68_11 =>
  K ((((((((((((env.set 57 v57_0).set 58 v58_1).set 59 v59_2).set 60 v59_2).set 61 v61_4).set 62 v62_5).set 63 v63_6).set 64 v64_7).set 65 v65_8).set 66 v66_9).set 67 v67_10).set 68 v68_11) h8
@[congr] theorem dual_Dual_best_r9_congr {env : Env} {h : Hp} {K : Env → Hp → Prop} : dual_Dual_best_r9 env h K = dual_Dual_best_r9 env h K := rfl

/-- dual.go:122 -/
def dual_Dual_best_r10 (env : Env) (h : Hp) (K : Env → Hp → Prop) : Prop :=
  rd Try.prog (Instr.loadAt 74 (env 12)) h fun v69_0 =>
  arun Try.prog (Instr.storeAt 74 (env 6) v69_0) h fun _ h1 =>
  arun Try.prog (Instr.storeAt 4 (env 7) (Go.Value.bool true)) h1 fun _ h2 =>
  K (env.set 69 v69_0) h2
@[congr] theorem dual_Dual_best_r10_congr {env : Env} {h : Hp} {K : Env → Hp → Prop} : dual_Dual_best_r10 env h K = dual_Dual_best_r10 env h K := rfl

def dual_Dual_best_F0_A : Den := (sq (rg dual_Dual_best_r4) (rg dual_Dual_best_r5))
def dual_Dual_best_F0_B : Den := (blk 1 (sq (rg dual_Dual_best_r6) (sq (sq (rg dual_Dual_best_r7) (cnd (Go.Operand.tmp 45) (ex (.exit 1)) (ex .normal))) (sq (rg dual_Dual_best_r8) (sq (rg dual_Dual_best_r9) (cnd (Go.Operand.tmp 68) (rg dual_Dual_best_r10) (ex .normal)))))))

noncomputable def dual_Dual_best_F0_a : Code := subCode [1, 1, 0, 1, 0, 0] dual_Dual_best_code
noncomputable def dual_Dual_best_F0_b : Code := subCode [1, 1, 0, 1, 0, 1] dual_Dual_best_code

theorem dual_Dual_best_F0_Aeq : (den Try.prog 72 dual_Dual_best_F0_a).1 = dual_Dual_best_F0_A := by kernel_rfl
theorem dual_Dual_best_F0_Beq : (den Try.prog 72 dual_Dual_best_F0_b).1 = dual_Dual_best_F0_B := by kernel_rfl

theorem dual_Dual_best_F0_yok {env : Env} {fn D l : Nat} {g : Hp} {x0 x1 : Value} {k : Value → Hp → Prop} (hl : g l = some (recOf 72 env #[26, 27] dual_Dual_best_F0_a dual_Dual_best_F0_b .ready none fn D)) (hu : ∀ t, 72 ≤ t → env t = undef)
    (H : rnd l (recOf 72 env #[26, 27] dual_Dual_best_F0_a dual_Dual_best_F0_b .ready none fn D) (recOf 72 env #[26, 27] dual_Dual_best_F0_a dual_Dual_best_F0_b .busy none fn D) dual_Dual_best_F0_A dual_Dual_best_F0_B (rndK l 72 env #[26, 27] dual_Dual_best_F0_a dual_Dual_best_F0_b fn D k) (envPs 72 env [(26, x0), (27, x1)]) g) : YOk Try.prog l #[x0, x1] g k := yok_rnd (args := #[x0, x1]) progIsOk (by kernel_rfl) (by kernel_rfl) dual_Dual_best_F0_Aeq dual_Dual_best_F0_Beq hl hu rfl (by rw [show (Array.zip (#[26, 27] : Array Tmp) #[x0, x1]).toList = [(26, x0), (27, x1)] by simp]; exact H)

/-- dual.go:125 (in any order) -/
def dual_Dual_best_r11 (env : Env) (h : Hp) (K : Env → Hp → Prop) : Prop :=
  rd Try.prog (Instr.loadAt 74 (env 6)) h fun v70_0 =>
  rd Try.prog (Instr.loadAt 4 (env 7)) h fun v71_1 =>
  arun Try.prog (Instr.storeAt 74 (env 6) v70_0) h fun _ h1 =>
  (rrun Try.prog (Instr.loadAt 4 (env 7)) h1 = some v71_1 ∧ True) ∧
  arun Try.prog (Instr.storeAt 4 (env 7) v71_1) h1 fun _ h2 =>
  (True) ∧
  K ((env.set 70 v70_0).set 71 v71_1) h2
@[congr] theorem dual_Dual_best_r11_congr {env : Env} {h : Hp} {K : Env → Hp → Prop} : dual_Dual_best_r11 env h K = dual_Dual_best_r11 env h K := rfl

def dual_Dual_best_D : Den := (sq (rg dual_Dual_best_r0) (sq (sq (rg dual_Dual_best_r1) (cnd (Go.Operand.tmp 17) (rg dual_Dual_best_r2) (ex .normal))) (sq (sq (rg dual_Dual_best_r3) (blk 0 (rfn Try.prog 72 (Go.Operand.tmp 25) #[26, 27] dual_Dual_best_F0_a dual_Dual_best_F0_b))) (sq (rg dual_Dual_best_r11) (ex .ret)))))

theorem dual_Dual_best_eq : (den Try.prog 72 dual_Dual_best_code).1 = dual_Dual_best_D := by kernel_rfl

theorem dual_Dual_best_ok {args : Array Value} {h : Hp} {Q : Value → Hp → Prop} (hn : args.size ≤ 72) (D : dual_Dual_best_D (fin Try.prog [(Go.ResultVar.cell 6 74), (Go.ResultVar.cell 7 4)] Q) (env0 args) h) : Ok Try.prog 33 args h Q :=
  ok_of_den progIsOk Try.func33 (c := dual_Dual_best_code) (by kernel_rfl) hn (by show (den Try.prog 72 dual_Dual_best_code).1 _ _ _; rw [dual_Dual_best_eq]; exact D)

/-! ### (*octroi/dual.Dual).Down: function 34 -/
noncomputable def dual_Dual_Down_code : Code := match Try.f34.body with | some c => c | none => .skip

/-- dual.go:187 -/
def dual_Dual_Down_r0 (env : Env) (h : Hp) (K : Env → Hp → Prop) : Prop :=
  arun Try.prog (Instr.box 25 (env 0)) h fun v2_0 h1 =>
  arun Try.prog (Instr.box 3 (env 1)) h1 fun v3_1 h2 =>
  K (((env.set 2 v2_0).set 3 v3_1).set 4 (Go.Value.slice none 0 0)) h2
@[congr] theorem dual_Dual_Down_r0_congr {env : Env} {h : Hp} {K : Env → Hp → Prop} : dual_Dual_Down_r0 env h K = dual_Dual_Down_r0 env h K := rfl

/-- dual.go:188 (in any order) -/
def dual_Dual_Down_r1 (env : Env) (h : Hp) (K : Env → Hp → Prop) : Prop :=
  rd Try.prog (Instr.loadAt 25 (env 2)) h fun v6_0 =>
  nck v6_0 (
  rd Try.prog (Instr.fieldAt 65 v6_0 2) noHp fun v8_2 =>
  rd Try.prog (Instr.loadAt 62 v8_2) h fun v9_3 =>
  rd Try.prog (Instr.loadAt 3 (env 3)) h fun v10_4 =>
  rd Try.prog (Instr.lookup 62 v9_3 v10_4 false) h fun v11_5 =>
  rd Try.prog (bop Go.BinOp.eql 66 (Go.Operand.tmp 11) (Go.Operand.const (Go.Value.pointer none)) v11_5 (Go.Value.pointer none)) noHp fun v12_6 =>
  K (((((((env.set 6 v6_0).set 7 v6_0).set 8 v8_2).set 9 v9_3).set 10 v10_4).set 11 v11_5).set 12 v12_6) h)
@[congr] theorem dual_Dual_Down_r1_congr {env : Env} {h : Hp} {K : Env → Hp → Prop} : dual_Dual_Down_r1 env h K = dual_Dual_Down_r1 env h K := rfl

/-- dual.go:189 -/
def dual_Dual_Down_r2 (env : Env) (h : Hp) (K : Env → Hp → Prop) : Prop :=
  K (env.set 4 (Go.Value.slice none 0 0)) h
@[congr] theorem dual_Dual_Down_r2_congr {env : Env} {h : Hp} {K : Env → Hp → Prop} : dual_Dual_Down_r2 env h K = dual_Dual_Down_r2 env h K := rfl

/-- dual.go:191 (in any order) -/
def dual_Dual_Down_r3 (env : Env) (h : Hp) (K : Env → Hp → Prop) : Prop :=
  rd Try.prog (Instr.loadAt 25 (env 2)) h fun v13_0 =>
  nck v13_0 (
  rd Try.prog (Instr.fieldAt 65 v13_0 2) noHp fun v15_2 =>
  rd Try.prog (Instr.loadAt 62 v15_2) h fun v16_3 =>
  rd Try.prog (Instr.loadAt 3 (env 3)) h fun v17_4 =>
  arun Try.prog (Builtin.delete_ #[62, 3] 0 #[v16_3, v17_4]) h fun _ h1 =>
  (True) ∧
  K (((((env.set 13 v13_0).set 14 v13_0).set 15 v15_2).set 16 v16_3).set 17 v17_4) h1)
@[congr] theorem dual_Dual_Down_r3_congr {env : Env} {h : Hp} {K : Env → Hp → Prop} : dual_Dual_Down_r3 env h K = dual_Dual_Down_r3 env h K := rfl

/-- dual.go:192 -/
def dual_Dual_Down_r4 (env : Env) (h : Hp) (K : Env → Hp → Prop) : Prop :=
  rd Try.prog (Instr.loadAt 25 (env 2)) h fun v18_0 =>
  Ok Try.prog 24 #[v18_0] h fun v19_1 h1 =>
  K ((env.set 18 v18_0).set 19 v19_1) h1
@[congr] theorem dual_Dual_Down_r4_congr {env : Env} {h : Hp} {K : Env → Hp → Prop} : dual_Dual_Down_r4 env h K = dual_Dual_Down_r4 env h K := rfl

/-- dual.go:192 -/
def dual_Dual_Down_r5 (env : Env) (h : Hp) (K : Env → Hp → Prop) : Prop :=
  K (env.set 5 (env 20)) h
@[congr] theorem dual_Dual_Down_r5_congr {env : Env} {h : Hp} {K : Env → Hp → Prop} : dual_Dual_Down_r5 env h K = dual_Dual_Down_r5 env h K := rfl

/-- dual.go:193 (in any order) -/
def dual_Dual_Down_r6 (env : Env) (h : Hp) (K : Env → Hp → Prop) : Prop :=
  nck (env 5) (
  rd Try.prog (Instr.fieldAt 79 (env 5) 2) noHp fun v23_2 =>
  rd Try.prog (Instr.loadAt 76 v23_2) h fun v24_3 =>
  rd Try.prog (Instr.loadAt 3 (env 3)) h fun v25_4 =>
  arun Try.prog (Builtin.delete_ #[76, 3] 0 #[v24_3, v25_4]) h fun _ h1 =>
  (True) ∧
  K (((((env.set 21 (env 5)).set 22 (env 5)).set 23 v23_2).set 24 v24_3).set 25 v25_4) h1)
@[congr] theorem dual_Dual_Down_r6_congr {env : Env} {h : Hp} {K : Env → Hp → Prop} : dual_Dual_Down_r6 env h K = dual_Dual_Down_r6 env h K := rfl

/-- dual.go:194 -/
def dual_Dual_Down_r7 (env : Env) (h : Hp) (K : Env → Hp → Prop) : Prop :=
  rd Try.prog (Instr.loadAt 3 (env 3)) h fun v27_1 =>
  Ok Try.prog 29 #[(env 5), v27_1] h fun v28_2 h1 =>
  K (((env.set 26 (env 5)).set 27 v27_1).set 28 v28_2) h1
@[congr] theorem dual_Dual_Down_r7_congr {env : Env} {h : Hp} {K : Env → Hp → Prop} : dual_Dual_Down_r7 env h K = dual_Dual_Down_r7 env h K := rfl

/-- dual.go:195 -/
def dual_Dual_Down_r8 (env : Env) (h : Hp) (K : Env → Hp → Prop) : Prop :=
  rd Try.prog (Instr.loadAt 25 (env 2)) h fun v29_0 =>
  Ok Try.prog 30 #[v29_0, (env 5)] h fun v31_2 h1 =>
  K (((env.set 29 v29_0).set 30 (env 5)).set 31 v31_2) h1
@[congr] theorem dual_Dual_Down_r8_congr {env : Env} {h : Hp} {K : Env → Hp → Prop} : dual_Dual_Down_r8 env h K = dual_Dual_Down_r8 env h K := rfl

def dual_Dual_Down_F0_A : Den := (rg dual_Dual_Down_r5)
def dual_Dual_Down_F0_B : Den := (blk 1 (sq (rg dual_Dual_Down_r6) (sq (rg dual_Dual_Down_r7) (rg dual_Dual_Down_r8))))

noncomputable def dual_Dual_Down_F0_a : Code := subCode [1, 1, 1, 0, 1, 0, 0] dual_Dual_Down_code
noncomputable def dual_Dual_Down_F0_b : Code := subCode [1, 1, 1, 0, 1, 0, 1] dual_Dual_Down_code

theorem dual_Dual_Down_F0_Aeq : (den Try.prog 34 dual_Dual_Down_F0_a).1 = dual_Dual_Down_F0_A := by kernel_rfl
theorem dual_Dual_Down_F0_Beq : (den Try.prog 34 dual_Dual_Down_F0_b).1 = dual_Dual_Down_F0_B := by kernel_rfl

theorem dual_Dual_Down_F0_yok {env : Env} {fn D l : Nat} {g : Hp} {x0 : Value} {k : Value → Hp → Prop} (hl : g l = some (recOf 34 env #[20] dual_Dual_Down_F0_a dual_Dual_Down_F0_b .ready none fn D)) (hu : ∀ t, 34 ≤ t → env t = undef)
    (H : rnd l (recOf 34 env #[20] dual_Dual_Down_F0_a dual_Dual_Down_F0_b .ready none fn D) (recOf 34 env #[20] dual_Dual_Down_F0_a dual_Dual_Down_F0_b .busy none fn D) dual_Dual_Down_F0_A dual_Dual_Down_F0_B (rndK l 34 env #[20] dual_Dual_Down_F0_a dual_Dual_Down_F0_b fn D k) (envPs 34 env [(20, x0)]) g) : YOk Try.prog l #[x0] g k := yok_rnd (args := #[x0]) progIsOk (by kernel_rfl) (by kernel_rfl) dual_Dual_Down_F0_Aeq dual_Dual_Down_F0_Beq hl hu rfl (by rw [show (Array.zip (#[20] : Array Tmp) #[x0]).toList = [(20, x0)] by simp]; exact H)

/-- dual.go:197 -/
def dual_Dual_Down_r9 (env : Env) (h : Hp) (K : Env → Hp → Prop) : Prop :=
  rd Try.prog (Instr.loadAt 25 (env 2)) h fun v32_0 =>
  Ok Try.prog 26 #[v32_0] h fun v33_1 h1 =>
  K (((env.set 32 v32_0).set 33 v33_1).set 4 v33_1) h1
@[congr] theorem dual_Dual_Down_r9_congr {env : Env} {h : Hp} {K : Env → Hp → Prop} : dual_Dual_Down_r9 env h K = dual_Dual_Down_r9 env h K := rfl

def dual_Dual_Down_D : Den := (sq (rg dual_Dual_Down_r0) (sq (sq (rg dual_Dual_Down_r1) (cnd (Go.Operand.tmp 12) (sq (rg dual_Dual_Down_r2) (ex .ret)) (ex .normal))) (sq (rg dual_Dual_Down_r3) (sq (sq (rg dual_Dual_Down_r4) (blk 0 (rfn Try.prog 34 (Go.Operand.tmp 19) #[20] dual_Dual_Down_F0_a dual_Dual_Down_F0_b))) (sq (rg dual_Dual_Down_r9) (ex .ret))))))

theorem dual_Dual_Down_eq : (den Try.prog 34 dual_Dual_Down_code).1 = dual_Dual_Down_D := by kernel_rfl

theorem dual_Dual_Down_ok {args : Array Value} {h : Hp} {Q : Value → Hp → Prop} (hn : args.size ≤ 34) (D : dual_Dual_Down_D (fin Try.prog [(Go.ResultVar.tmp 4)] Q) (env0 args) h) : Ok Try.prog 34 args h Q :=
  ok_of_den progIsOk Try.func34 (c := dual_Dual_Down_code) (by kernel_rfl) hn (by show (den Try.prog 34 dual_Dual_Down_code).1 _ _ _; rw [dual_Dual_Down_eq]; exact D)

end Go.Proofs.Ytpeoholnlokdcaa
