/- Printed by wip/kit/gen.py out of the translation: formulas of Go functions, and that they are these functions'. -/
import Derived.Test.YtmbhlbohbpepaaaZ1

namespace Go.Proofs.Ytmbhlbohbpepaaa
open Go

set_option maxRecDepth 100000
set_option linter.unusedVariables false

/-! ### octroi/octroiref09.Better: function 14 -/
noncomputable def octroiref09_Better_code : Code := match Try.f14.body with | some c => c | none => .skip

/-- ref.go:11 -/
def octroiref09_Better_r0 (env : Env) (h : Hp) (K : Env → Hp → Prop) : Prop :=
  arun Try.prog (Instr.box 27 (env 0)) h fun v2_0 h1 =>
  arun Try.prog (Instr.box 27 (env 1)) h1 fun v3_1 h2 =>
  K (((env.set 2 v2_0).set 3 v3_1).set 4 (Go.Value.bool false)) h2
@[congr] theorem octroiref09_Better_r0_congr {env : Env} {h : Hp} {K : Env → Hp → Prop} : octroiref09_Better_r0 env h K = octroiref09_Better_r0 env h K := rfl

/-- ref.go:12 -/
def octroiref09_Better_r1 (env : Env) (h : Hp) (K : Env → Hp → Prop) : Prop :=
  rd Try.prog (Instr.fieldAt 27 (env 2) 5) noHp fun v7_0 =>
  rd Try.prog (Instr.loadAt 25 v7_0) h fun v8_1 =>
  Ok Try.prog 32 #[v8_1] h fun v9_2 h1 =>
  K ((((env.set 7 v7_0).set 8 v8_1).set 9 v9_2).set 5 v9_2) h1
@[congr] theorem octroiref09_Better_r1_congr {env : Env} {h : Hp} {K : Env → Hp → Prop} : octroiref09_Better_r1 env h K = octroiref09_Better_r1 env h K := rfl

/-- ref.go:13 -/
def octroiref09_Better_r2 (env : Env) (h : Hp) (K : Env → Hp → Prop) : Prop :=
  rd Try.prog (Instr.fieldAt 27 (env 3) 5) noHp fun v10_0 =>
  rd Try.prog (Instr.loadAt 25 v10_0) h fun v11_1 =>
  Ok Try.prog 32 #[v11_1] h fun v12_2 h1 =>
  K ((((env.set 10 v10_0).set 11 v11_1).set 12 v12_2).set 6 v12_2) h1
@[congr] theorem octroiref09_Better_r2_congr {env : Env} {h : Hp} {K : Env → Hp → Prop} : octroiref09_Better_r2 env h K = octroiref09_Better_r2 env h K := rfl

/-- ref.go:14 -/
def octroiref09_Better_r3 (env : Env) (h : Hp) (K : Env → Hp → Prop) : Prop :=
  rd Try.prog (bop Go.BinOp.neq 3 (Go.Operand.tmp 13) (Go.Operand.tmp 14) (env 5) (env 6)) noHp fun v15_2 =>
  K (((env.set 13 (env 5)).set 14 (env 6)).set 15 v15_2) h
@[congr] theorem octroiref09_Better_r3_congr {env : Env} {h : Hp} {K : Env → Hp → Prop} : octroiref09_Better_r3 env h K = octroiref09_Better_r3 env h K := rfl

/-- ref.go:15 -/
def octroiref09_Better_r4 (env : Env) (h : Hp) (K : Env → Hp → Prop) : Prop :=
  rd Try.prog (bop Go.BinOp.lss 3 (Go.Operand.tmp 16) (Go.Operand.tmp 17) (env 5) (env 6)) noHp fun v18_2 =>
  K ((((env.set 16 (env 5)).set 17 (env 6)).set 18 v18_2).set 4 v18_2) h
@[congr] theorem octroiref09_Better_r4_congr {env : Env} {h : Hp} {K : Env → Hp → Prop} : octroiref09_Better_r4 env h K = octroiref09_Better_r4 env h K := rfl

/-- ref.go:17 -/
def octroiref09_Better_r5 (env : Env) (h : Hp) (K : Env → Hp → Prop) : Prop :=
  rd Try.prog (Instr.fieldAt 27 (env 2) 2) noHp fun v19_0 =>
  rd Try.prog (Instr.loadAt 3 v19_0) h fun v20_1 =>
  rd Try.prog (Instr.fieldAt 27 (env 3) 2) noHp fun v21_2 =>
  rd Try.prog (Instr.loadAt 3 v21_2) h fun v22_3 =>
  rd Try.prog (bop Go.BinOp.neq 3 (Go.Operand.tmp 20) (Go.Operand.tmp 22) v20_1 v22_3) noHp fun v23_4 =>
  K (((((env.set 19 v19_0).set 20 v20_1).set 21 v21_2).set 22 v22_3).set 23 v23_4) h
@[congr] theorem octroiref09_Better_r5_congr {env : Env} {h : Hp} {K : Env → Hp → Prop} : octroiref09_Better_r5 env h K = octroiref09_Better_r5 env h K := rfl

/-- ref.go:18 -/
def octroiref09_Better_r6 (env : Env) (h : Hp) (K : Env → Hp → Prop) : Prop :=
  rd Try.prog (Instr.fieldAt 27 (env 2) 2) noHp fun v24_0 =>
  rd Try.prog (Instr.loadAt 3 v24_0) h fun v25_1 =>
  rd Try.prog (Instr.fieldAt 27 (env 3) 2) noHp fun v26_2 =>
  rd Try.prog (Instr.loadAt 3 v26_2) h fun v27_3 =>
  rd Try.prog (bop Go.BinOp.lss 3 (Go.Operand.tmp 25) (Go.Operand.tmp 27) v25_1 v27_3) noHp fun v28_4 =>
  K ((((((env.set 24 v24_0).set 25 v25_1).set 26 v26_2).set 27 v27_3).set 28 v28_4).set 4 v28_4) h
@[congr] theorem octroiref09_Better_r6_congr {env : Env} {h : Hp} {K : Env → Hp → Prop} : octroiref09_Better_r6 env h K = octroiref09_Better_r6 env h K := rfl

/-- ref.go:20 -/
def octroiref09_Better_r7 (env : Env) (h : Hp) (K : Env → Hp → Prop) : Prop :=
  rd Try.prog (Instr.fieldAt 27 (env 2) 3) noHp fun v29_0 =>
  rd Try.prog (Instr.loadAt 3 v29_0) h fun v30_1 =>
  rd Try.prog (Instr.fieldAt 27 (env 3) 3) noHp fun v31_2 =>
  rd Try.prog (Instr.loadAt 3 v31_2) h fun v32_3 =>
  rd Try.prog (bop Go.BinOp.neq 3 (Go.Operand.tmp 30) (Go.Operand.tmp 32) v30_1 v32_3) noHp fun v33_4 =>
  K (((((env.set 29 v29_0).set 30 v30_1).set 31 v31_2).set 32 v32_3).set 33 v33_4) h
@[congr] theorem octroiref09_Better_r7_congr {env : Env} {h : Hp} {K : Env → Hp → Prop} : octroiref09_Better_r7 env h K = octroiref09_Better_r7 env h K := rfl

/-- ref.go:21 -/
def octroiref09_Better_r8 (env : Env) (h : Hp) (K : Env → Hp → Prop) : Prop :=
  rd Try.prog (Instr.fieldAt 27 (env 2) 3) noHp fun v34_0 =>
  rd Try.prog (Instr.loadAt 3 v34_0) h fun v35_1 =>
  rd Try.prog (Instr.fieldAt 27 (env 3) 3) noHp fun v36_2 =>
  rd Try.prog (Instr.loadAt 3 v36_2) h fun v37_3 =>
  rd Try.prog (bop Go.BinOp.lss 3 (Go.Operand.tmp 35) (Go.Operand.tmp 37) v35_1 v37_3) noHp fun v38_4 =>
  K ((((((env.set 34 v34_0).set 35 v35_1).set 36 v36_2).set 37 v37_3).set 38 v38_4).set 4 v38_4) h
@[congr] theorem octroiref09_Better_r8_congr {env : Env} {h : Hp} {K : Env → Hp → Prop} : octroiref09_Better_r8 env h K = octroiref09_Better_r8 env h K := rfl

/-- ref.go:23 -/
def octroiref09_Better_r9 (env : Env) (h : Hp) (K : Env → Hp → Prop) : Prop :=
  rd Try.prog (Instr.fieldAt 27 (env 2) 1) noHp fun v39_0 =>
  rd Try.prog (Instr.loadAt 3 v39_0) h fun v40_1 =>
  rd Try.prog (Instr.fieldAt 27 (env 3) 1) noHp fun v41_2 =>
  rd Try.prog (Instr.loadAt 3 v41_2) h fun v42_3 =>
  rd Try.prog (bop Go.BinOp.neq 3 (Go.Operand.tmp 40) (Go.Operand.tmp 42) v40_1 v42_3) noHp fun v43_4 =>
  K (((((env.set 39 v39_0).set 40 v40_1).set 41 v41_2).set 42 v42_3).set 43 v43_4) h
@[congr] theorem octroiref09_Better_r9_congr {env : Env} {h : Hp} {K : Env → Hp → Prop} : octroiref09_Better_r9 env h K = octroiref09_Better_r9 env h K := rfl

/-- ref.go:24 -/
def octroiref09_Better_r10 (env : Env) (h : Hp) (K : Env → Hp → Prop) : Prop :=
  rd Try.prog (Instr.fieldAt 27 (env 2) 1) noHp fun v44_0 =>
  rd Try.prog (Instr.loadAt 3 v44_0) h fun v45_1 =>
  rd Try.prog (Instr.fieldAt 27 (env 3) 1) noHp fun v46_2 =>
  rd Try.prog (Instr.loadAt 3 v46_2) h fun v47_3 =>
  rd Try.prog (bop Go.BinOp.lss 3 (Go.Operand.tmp 45) (Go.Operand.tmp 47) v45_1 v47_3) noHp fun v48_4 =>
  K ((((((env.set 44 v44_0).set 45 v45_1).set 46 v46_2).set 47 v47_3).set 48 v48_4).set 4 v48_4) h
@[congr] theorem octroiref09_Better_r10_congr {env : Env} {h : Hp} {K : Env → Hp → Prop} : octroiref09_Better_r10 env h K = octroiref09_Better_r10 env h K := rfl

/-- ref.go:26 -/
def octroiref09_Better_r11 (env : Env) (h : Hp) (K : Env → Hp → Prop) : Prop :=
  rd Try.prog (Instr.fieldAt 27 (env 2) 4) noHp fun v49_0 =>
  rd Try.prog (Instr.loadAt 3 v49_0) h fun v50_1 =>
  rd Try.prog (Instr.fieldAt 27 (env 3) 4) noHp fun v51_2 =>
  rd Try.prog (Instr.loadAt 3 v51_2) h fun v52_3 =>
  rd Try.prog (bop Go.BinOp.neq 3 (Go.Operand.tmp 50) (Go.Operand.tmp 52) v50_1 v52_3) noHp fun v53_4 =>
  K (((((env.set 49 v49_0).set 50 v50_1).set 51 v51_2).set 52 v52_3).set 53 v53_4) h
@[congr] theorem octroiref09_Better_r11_congr {env : Env} {h : Hp} {K : Env → Hp → Prop} : octroiref09_Better_r11 env h K = octroiref09_Better_r11 env h K := rfl

/-- ref.go:27 -/
def octroiref09_Better_r12 (env : Env) (h : Hp) (K : Env → Hp → Prop) : Prop :=
  rd Try.prog (Instr.fieldAt 27 (env 2) 4) noHp fun v54_0 =>
  rd Try.prog (Instr.loadAt 3 v54_0) h fun v55_1 =>
  rd Try.prog (Instr.fieldAt 27 (env 3) 4) noHp fun v56_2 =>
  rd Try.prog (Instr.loadAt 3 v56_2) h fun v57_3 =>
  rd Try.prog (bop Go.BinOp.lss 3 (Go.Operand.tmp 55) (Go.Operand.tmp 57) v55_1 v57_3) noHp fun v58_4 =>
  K ((((((env.set 54 v54_0).set 55 v55_1).set 56 v56_2).set 57 v57_3).set 58 v58_4).set 4 v58_4) h
@[congr] theorem octroiref09_Better_r12_congr {env : Env} {h : Hp} {K : Env → Hp → Prop} : octroiref09_Better_r12 env h K = octroiref09_Better_r12 env h K := rfl

/-- ref.go:29 -/
def octroiref09_Better_r13 (env : Env) (h : Hp) (K : Env → Hp → Prop) : Prop :=
  rd Try.prog (Instr.fieldAt 27 (env 2) 5) noHp fun v59_0 =>
  rd Try.prog (Instr.loadAt 25 v59_0) h fun v60_1 =>
  rd Try.prog (Instr.fieldAt 27 (env 3) 5) noHp fun v61_2 =>
  rd Try.prog (Instr.loadAt 25 v61_2) h fun v62_3 =>
  rd Try.prog (bop Go.BinOp.lss 25 (Go.Operand.tmp 60) (Go.Operand.tmp 62) v60_1 v62_3) noHp fun v63_4 =>
  K ((((((env.set 59 v59_0).set 60 v60_1).set 61 v61_2).set 62 v62_3).set 63 v63_4).set 4 v63_4) h
@[congr] theorem octroiref09_Better_r13_congr {env : Env} {h : Hp} {K : Env → Hp → Prop} : octroiref09_Better_r13 env h K = octroiref09_Better_r13 env h K := rfl

def octroiref09_Better_D : Den := (sq (rg octroiref09_Better_r0) (sq (rg octroiref09_Better_r1) (sq (rg octroiref09_Better_r2) (sq (sq (rg octroiref09_Better_r3) (cnd (Go.Operand.tmp 15) (sq (rg octroiref09_Better_r4) (ex .ret)) (ex .normal))) (sq (sq (rg octroiref09_Better_r5) (cnd (Go.Operand.tmp 23) (sq (rg octroiref09_Better_r6) (ex .ret)) (ex .normal))) (sq (sq (rg octroiref09_Better_r7) (cnd (Go.Operand.tmp 33) (sq (rg octroiref09_Better_r8) (ex .ret)) (ex .normal))) (sq (sq (rg octroiref09_Better_r9) (cnd (Go.Operand.tmp 43) (sq (rg octroiref09_Better_r10) (ex .ret)) (ex .normal))) (sq (sq (rg octroiref09_Better_r11) (cnd (Go.Operand.tmp 53) (sq (rg octroiref09_Better_r12) (ex .ret)) (ex .normal))) (sq (rg octroiref09_Better_r13) (ex .ret))))))))))

theorem octroiref09_Better_eq : (den Try.prog 64 octroiref09_Better_code).1 = octroiref09_Better_D := by kernel_rfl

theorem octroiref09_Better_ok {args : Array Value} {h : Hp} {Q : Value → Hp → Prop} (hn : args.size ≤ 64) (D : octroiref09_Better_D (fin Try.prog [(Go.ResultVar.tmp 4)] Q) (env0 args) h) : Ok Try.prog 14 args h Q :=
  ok_of_den progIsOk Try.func14 (c := octroiref09_Better_code) (by kernel_rfl) hn (by show (den Try.prog 64 octroiref09_Better_code).1 _ _ _; rw [octroiref09_Better_eq]; exact D)

/-! ### octroi/tags.Depth: function 15 -/
noncomputable def tags_Depth_code : Code := match Try.f15.body with | some c => c | none => .skip

/-- tags.go:24 -/
def tags_Depth_r0 (env : Env) (h : Hp) (K : Env → Hp → Prop) : Prop :=
  K (env.set 2 (Go.Value.int Go.IntKind.i64 0)) h
@[congr] theorem tags_Depth_r0_congr {env : Env} {h : Hp} {K : Env → Hp → Prop} : tags_Depth_r0 env h K = tags_Depth_r0 env h K := rfl

/-- tags.go:25 -/
def tags_Depth_r1 (env : Env) (h : Hp) (K : Env → Hp → Prop) : Prop :=
  K (env.set 3 (Go.Value.int Go.IntKind.i64 0)) h
@[congr] theorem tags_Depth_r1_congr {env : Env} {h : Hp} {K : Env → Hp → Prop} : tags_Depth_r1 env h K = tags_Depth_r1 env h K := rfl

/-- tags.go:27 -/
def tags_Depth_r2 (env : Env) (h : Hp) (K : Env → Hp → Prop) : Prop :=
  rd Try.prog (bop Go.BinOp.neq 25 (Go.Operand.tmp 4) (Go.Operand.const (Go.Value.int Go.IntKind.u16 0)) (env 0) (Go.Value.int Go.IntKind.u16 0)) noHp fun v5_1 =>
  K ((env.set 4 (env 0)).set 5 v5_1) h
@[congr] theorem tags_Depth_r2_congr {env : Env} {h : Hp} {K : Env → Hp → Prop} : tags_Depth_r2 env h K = tags_Depth_r2 env h K := rfl

/-- tags.go:28 -/
def tags_Depth_r3 (env : Env) (h : Hp) (K : Env → Hp → Prop) : Prop :=
  rd Try.prog (bop Go.BinOp.sub 25 (Go.Operand.tmp 7) (Go.Operand.const (Go.Value.int Go.IntKind.u16 1)) (env 0) (Go.Value.int Go.IntKind.u16 1)) noHp fun v8_2 =>
  rd Try.prog (bop Go.BinOp.and 25 (Go.Operand.tmp 6) (Go.Operand.tmp 8) (env 0) v8_2) noHp fun v9_3 =>
  K (((((env.set 6 (env 0)).set 7 (env 0)).set 8 v8_2).set 9 v9_3).set 0 v9_3) h
@[congr] theorem tags_Depth_r3_congr {env : Env} {h : Hp} {K : Env → Hp → Prop} : tags_Depth_r3 env h K = tags_Depth_r3 env h K := rfl

/-- tags.go:29 -/
def tags_Depth_r4 (env : Env) (h : Hp) (K : Env → Hp → Prop) : Prop :=
  rd Try.prog (bop Go.BinOp.add 3 (Go.Operand.tmp 10) (Go.Operand.const (Go.Value.int Go.IntKind.i64 1)) (env 3) (Go.Value.int Go.IntKind.i64 1)) noHp fun v11_1 =>
  K (((env.set 10 (env 3)).set 11 v11_1).set 3 v11_1) h
@[congr] theorem tags_Depth_r4_congr {env : Env} {h : Hp} {K : Env → Hp → Prop} : tags_Depth_r4 env h K = tags_Depth_r4 env h K := rfl

/-- tags.go:32 -/
def tags_Depth_r5 (env : Env) (h : Hp) (K : Env → Hp → Prop) : Prop :=
  K ((env.set 12 (env 3)).set 2 (env 3)) h
@[congr] theorem tags_Depth_r5_congr {env : Env} {h : Hp} {K : Env → Hp → Prop} : tags_Depth_r5 env h K = tags_Depth_r5 env h K := rfl

def tags_Depth_S0 : Den := (sq (rg tags_Depth_r1) (sq (ex .normal) (sq (sq (rg tags_Depth_r2) (cnd (Go.Operand.tmp 5) (sq (rg tags_Depth_r3) (sq (rg tags_Depth_r4) (ex (.goto 0)))) (ex .normal))) (sq (rg tags_Depth_r5) (ex .ret)))))

noncomputable def tags_Depth_S0_code : Code := subCode [1, 0] tags_Depth_code

def tags_Depth_S0_at0 : Den := (sq (ex .normal) (sq (sq (rg tags_Depth_r2) (cnd (Go.Operand.tmp 5) (sq (rg tags_Depth_r3) (sq (rg tags_Depth_r4) (ex (.goto 0)))) (ex .normal))) (sq (rg tags_Depth_r5) (ex .ret))))

theorem tags_Depth_S0_lab0 : (den Try.prog 13 tags_Depth_S0_code).2 0 = some tags_Depth_S0_at0 := by kernel_rfl

def tags_Depth_D : Den := (sq (rg tags_Depth_r0) (scp tags_Depth_S0 (den Try.prog 13 tags_Depth_S0_code).2))

theorem tags_Depth_eq : (den Try.prog 13 tags_Depth_code).1 = tags_Depth_D := by kernel_rfl

theorem tags_Depth_ok {args : Array Value} {h : Hp} {Q : Value → Hp → Prop} (hn : args.size ≤ 13) (D : tags_Depth_D (fin Try.prog [(Go.ResultVar.tmp 2)] Q) (env0 args) h) : Ok Try.prog 15 args h Q :=
  ok_of_den progIsOk Try.func15 (c := tags_Depth_code) (by kernel_rfl) hn (by show (den Try.prog 13 tags_Depth_code).1 _ _ _; rw [tags_Depth_eq]; exact D)

/-! ### octroi/rib.New: function 16 -/
noncomputable def rib_New_code : Code := match Try.f16.body with | some c => c | none => .skip

/-- rib.go:48 -/
def rib_New_r0 (env : Env) (h : Hp) (K : Env → Hp → Prop) : Prop :=
  K (env.set 2 (Go.Value.pointer none)) h
@[congr] theorem rib_New_r0_congr {env : Env} {h : Hp} {K : Env → Hp → Prop} : rib_New_r0 env h K = rib_New_r0 env h K := rfl

/-- rib.go:49 -/
def rib_New_r1 (env : Env) (h : Hp) (K : Env → Hp → Prop) : Prop :=
  rd Try.prog (Builtin.min_ #[3, 3] 3 #[(env 0), (Go.Value.int Go.IntKind.i64 64)]) h fun v4_1 =>
  arun Try.prog (Instr.makeMap 59 none) h fun v5_2 h1 =>
  Ok Try.prog 33 #[(Go.Value.int Go.IntKind.i64 64)] h1 fun v6_3 h2 =>
  rd Try.prog (Instr.build 63 #[(0, v4_1), (2, v5_2), (3, v6_3)]) noHp fun v7_4 =>
  arun Try.prog (Instr.box 63 v7_4) h2 fun v8_5 h3 =>
  K (((((((env.set 3 (env 0)).set 4 v4_1).set 5 v5_2).set 6 v6_3).set 7 v7_4).set 8 v8_5).set 2 v8_5) h3
@[congr] theorem rib_New_r1_congr {env : Env} {h : Hp} {K : Env → Hp → Prop} : rib_New_r1 env h K = rib_New_r1 env h K := rfl

def rib_New_D : Den := (sq (rg rib_New_r0) (sq (rg rib_New_r1) (ex .ret)))

theorem rib_New_eq : (den Try.prog 9 rib_New_code).1 = rib_New_D := by kernel_rfl

theorem rib_New_ok {args : Array Value} {h : Hp} {Q : Value → Hp → Prop} (hn : args.size ≤ 9) (D : rib_New_D (fin Try.prog [(Go.ResultVar.tmp 2)] Q) (env0 args) h) : Ok Try.prog 16 args h Q :=
  ok_of_den progIsOk Try.func16 (c := rib_New_code) (by kernel_rfl) hn (by show (den Try.prog 9 rib_New_code).1 _ _ _; rw [rib_New_eq]; exact D)

/-! ### (*octroi/rib.Rib).Put: function 17 -/
noncomputable def rib_Rib_Put_code : Code := match Try.f17.body with | some c => c | none => .skip

/-- rib.go:53 -/
def rib_Rib_Put_r0 (env : Env) (h : Hp) (K : Env → Hp → Prop) : Prop :=
  arun Try.prog (Instr.box 27 (env 1)) h fun v3_0 h1 =>
  K ((env.set 3 v3_0).set 4 (Go.Value.int Go.IntKind.i64 0)) h1
@[congr] theorem rib_Rib_Put_r0_congr {env : Env} {h : Hp} {K : Env → Hp → Prop} : rib_Rib_Put_r0 env h K = rib_Rib_Put_r0 env h K := rfl

/-- rib.go:54 -/
def rib_Rib_Put_r1 (env : Env) (h : Hp) (K : Env → Hp → Prop) : Prop :=
  rd Try.prog (Instr.fieldAt 27 (env 3) 0) noHp fun v10_0 =>
  rd Try.prog (Instr.loadAt 24 v10_0) h fun v11_1 =>
  rd Try.prog (Instr.fieldAt 27 (env 3) 1) noHp fun v12_2 =>
  rd Try.prog (Instr.loadAt 3 v12_2) h fun v13_3 =>
  rd Try.prog (Instr.build 65 #[(0, v11_1), (1, v13_3)]) noHp fun v14_4 =>
  arun Try.prog (Instr.alloc 65 true (Go.Value.tuple #[])) h fun v5_5 h1 =>
  arun Try.prog (Instr.storeAt 65 v5_5 v14_4) h1 fun _ h2 =>
  K ((((((env.set 10 v10_0).set 11 v11_1).set 12 v12_2).set 13 v13_3).set 14 v14_4).set 5 v5_5) h2
@[congr] theorem rib_Rib_Put_r1_congr {env : Env} {h : Hp} {K : Env → Hp → Prop} : rib_Rib_Put_r1 env h K = rib_Rib_Put_r1 env h K := rfl

/-- rib.go:55 (in any order) -/
def rib_Rib_Put_r2 (env : Env) (h : Hp) (K : Env → Hp → Prop) : Prop :=
  nck (env 0) (
  rd Try.prog (Instr.fieldAt 63 (env 0) 2) noHp fun v18_2 =>
  rd Try.prog (Instr.loadAt 59 v18_2) h fun v19_3 =>
  rd Try.prog (Instr.loadAt 65 (env 5)) h fun v20_4 =>
  rd Try.prog (Instr.lookup 59 v19_3 v20_4 true) h fun v21_5 =>
  rd Try.prog (Instr.extract v21_5 0) noHp fun v22_7 =>
  rd Try.prog (Instr.extract v21_5 1) noHp fun v23_8 =>
  arun Try.prog (Instr.alloc 27 true (Go.Value.tuple #[])) h fun v6_9 h1 =>
  (rrun Try.prog (Instr.lookup 59 v19_3 v20_4 true) h1 = some v21_5 ∧ rrun Try.prog (Instr.loadAt 65 (env 5)) h1 = some v20_4 ∧ rrun Try.prog (Instr.loadAt 59 v18_2) h1 = some v19_3 ∧ True) ∧
  arun Try.prog (Instr.storeAt 27 v6_9 v22_7) h1 fun _ h2 =>
  (True) ∧
  K (((((((((((env.set 16 (env 0)).set 17 (env 0)).set 18 v18_2).set 19 v19_3).set 20 v20_4).set 21 v21_5).set 15 v21_5).set 22 v22_7).set 23 v23_8).set 6 v6_9).set 7 v23_8) h2)
@[congr] theorem rib_Rib_Put_r2_congr {env : Env} {h : Hp} {K : Env → Hp → Prop} : rib_Rib_Put_r2 env h K = rib_Rib_Put_r2 env h K := rfl

/-- rib.go:57 -/
def rib_Rib_Put_r3 (env : Env) (h : Hp) (K : Env → Hp → Prop) : Prop :=
  rd Try.prog (Instr.loadAt 27 (env 3)) h fun v25_0 =>
  Ok Try.prog 34 #[v25_0] h fun v26_1 h1 =>
  rd Try.prog (Op.unary Go.UnOp.not v26_1) noHp fun v27_2 =>
  K ((((env.set 25 v25_0).set 26 v26_1).set 27 v27_2).set 24 v27_2) h1
@[congr] theorem rib_Rib_Put_r3_congr {env : Env} {h : Hp} {K : Env → Hp → Prop} : rib_Rib_Put_r3 env h K = rib_Rib_Put_r3 env h K := rfl

/-- rib.go:58 -/
def rib_Rib_Put_r4 (env : Env) (h : Hp) (K : Env → Hp → Prop) : Prop :=
  K (env.set 4 (Go.Value.int Go.IntKind.i64 1)) h
@[congr] theorem rib_Rib_Put_r4_congr {env : Env} {h : Hp} {K : Env → Hp → Prop} : rib_Rib_Put_r4 env h K = rib_Rib_Put_r4 env h K := rfl

/-- rib.go:59 (in any order) -/
def rib_Rib_Put_r5 (env : Env) (h : Hp) (K : Env → Hp → Prop) : Prop :=
  rd Try.prog (Op.unary Go.UnOp.not (env 7)) noHp fun v30_1 =>
  gd (yb v30_1 == some true) (fun h k => k (env 0) h) h fun v32_3 h1 =>
  gd (yb v30_1 == some true) (fun h k => nck v32_3 (k v32_3 h)) h1 fun v33_4 h2 =>
  gd (yb v30_1 == some true) (fun h k => rd Try.prog (Instr.fieldAt 63 v33_4 2) noHp fun v => k v h) h2 fun v34_5 h3 =>
  gd (yb v30_1 == some true) (fun h k => rd Try.prog (Instr.loadAt 59 v34_5) h fun v => k v h) h3 fun v35_6 h4 =>
  gd (yb v30_1 == some true) (fun h k => rd Try.prog (Builtin.len_ #[59] 3 #[v35_6]) h fun v => k v h) h4 fun v36_7 h5 =>
  gd (yb v30_1 == some true) (fun h k => k (env 0) h) h5 fun v37_8 h6 =>
  gd (yb v30_1 == some true) (fun h k => nck v37_8 (k v37_8 h)) h6 fun v38_9 h7 =>
  gd (yb v30_1 == some true) (fun h k => rd Try.prog (Instr.fieldAt 63 v38_9 0) noHp fun v => k v h) h7 fun v39_10 h8 =>
  gd (yb v30_1 == some true) (fun h k => rd Try.prog (Instr.loadAt 3 v39_10) h fun v => k v h) h8 fun v40_11 h9 =>
  gd (yb v30_1 == some true) (fun h k => rd Try.prog (bop Go.BinOp.geq 3 (Go.Operand.tmp 36) (Go.Operand.tmp 40) v36_7 v40_11) noHp fun v => k v h) h9 fun v41_12 h10 =>
  rd Try.prog (pck v30_1 v41_12 (Go.Value.bool false)) noHp fun v42_13 =>
  K (((((((((((((((env.set 29 (env 7)).set 30 v30_1).set 31 v30_1).set 32 v32_3).set 33 v33_4).set 34 v34_5).set 35 v35_6).set 36 v36_7).set 37 v37_8).set 38 v38_9).set 39 v39_10).set 40 v40_11).set 41 v41_12).set 42 v42_13).set 28 v42_13) h10
@[congr] theorem rib_Rib_Put_r5_congr {env : Env} {h : Hp} {K : Env → Hp → Prop} : rib_Rib_Put_r5 env h K = rib_Rib_Put_r5 env h K := rfl

/-- rib.go:60 -/
def rib_Rib_Put_r6 (env : Env) (h : Hp) (K : Env → Hp → Prop) : Prop :=
  nck (env 0) (
  rd Try.prog (Instr.fieldAt 63 (env 0) 1) noHp fun v45_2 =>
  rd Try.prog (Instr.loadAt 3 v45_2) h fun v46_3 =>
  rd Try.prog (bop Go.BinOp.add 3 (Go.Operand.tmp 46) (Go.Operand.const (Go.Value.int Go.IntKind.i64 1)) v46_3 (Go.Value.int Go.IntKind.i64 1)) noHp fun v47_4 =>
  nck (env 0) (
  rd Try.prog (Instr.fieldAt 63 (env 0) 1) noHp fun v49_6 =>
  arun Try.prog (Instr.storeAt 3 v49_6 v47_4) h fun _ h1 =>
  K (((((((env.set 43 (env 0)).set 44 (env 0)).set 45 v45_2).set 46 v46_3).set 47 v47_4).set 48 (env 0)).set 49 v49_6) h1))
@[congr] theorem rib_Rib_Put_r6_congr {env : Env} {h : Hp} {K : Env → Hp → Prop} : rib_Rib_Put_r6 env h K = rib_Rib_Put_r6 env h K := rfl

/-- rib.go:61 -/
def rib_Rib_Put_r7 (env : Env) (h : Hp) (K : Env → Hp → Prop) : Prop :=
  K (env.set 4 (Go.Value.int Go.IntKind.i64 4)) h
@[congr] theorem rib_Rib_Put_r7_congr {env : Env} {h : Hp} {K : Env → Hp → Prop} : rib_Rib_Put_r7 env h K = rib_Rib_Put_r7 env h K := rfl

/-- rib.go:62 -/
def rib_Rib_Put_r8 (env : Env) (h : Hp) (K : Env → Hp → Prop) : Prop :=
  rd Try.prog (Op.unary Go.UnOp.not (env 7)) noHp fun v52_1 =>
  K (((env.set 51 (env 7)).set 52 v52_1).set 50 v52_1) h
@[congr] theorem rib_Rib_Put_r8_congr {env : Env} {h : Hp} {K : Env → Hp → Prop} : rib_Rib_Put_r8 env h K = rib_Rib_Put_r8 env h K := rfl

/-- rib.go:63 (in any order) -/
def rib_Rib_Put_r9 (env : Env) (h : Hp) (K : Env → Hp → Prop) : Prop :=
  nck (env 0) (
  rd Try.prog (Instr.fieldAt 63 (env 0) 3) noHp fun v56_2 =>
  rd Try.prog (Instr.loadAt 60 v56_2) h fun v57_3 =>
  rd Try.prog (Instr.fieldAt 27 (env 3) 0) noHp fun v58_4 =>
  rd Try.prog (Instr.loadAt 24 v58_4) h fun v59_5 =>
  Ok Try.prog 35 #[v57_3, v59_5] h fun v60_6 h1 =>
  (True) ∧
  rd Try.prog (Instr.extract v60_6 0) noHp fun v61_8 =>
  rd Try.prog (Instr.extract v60_6 1) noHp fun v62_9 =>
  K ((((((((((((env.set 54 (env 0)).set 55 (env 0)).set 56 v56_2).set 57 v57_3).set 58 v58_4).set 59 v59_5).set 60 v60_6).set 53 v60_6).set 61 v61_8).set 62 v62_9).set 8 v61_8).set 9 v62_9) h1)
@[congr] theorem rib_Rib_Put_r9_congr {env : Env} {h : Hp} {K : Env → Hp → Prop} : rib_Rib_Put_r9 env h K = rib_Rib_Put_r9 env h K := rfl

/-- rib.go:64 (in any order) -/
def rib_Rib_Put_r10 (env : Env) (h : Hp) (K : Env → Hp → Prop) : Prop :=
  nck (env 0) (
  rd Try.prog (Instr.fieldAt 63 (env 0) 3) noHp fun v65_2 =>
  rd Try.prog (Instr.loadAt 60 v65_2) h fun v66_3 =>
  rd Try.prog (Instr.fieldAt 27 (env 3) 0) noHp fun v67_4 =>
  rd Try.prog (Instr.loadAt 24 v67_4) h fun v68_5 =>
  rd Try.prog (bop Go.BinOp.add 3 (Go.Operand.tmp 69) (Go.Operand.const (Go.Value.int Go.IntKind.i64 1)) (env 8) (Go.Value.int Go.IntKind.i64 1)) noHp fun v70_7 =>
  Ok Try.prog 36 #[v66_3, v68_5, v70_7] h fun v71_8 h1 =>
  (True) ∧
  K (((((((((env.set 63 (env 0)).set 64 (env 0)).set 65 v65_2).set 66 v66_3).set 67 v67_4).set 68 v68_5).set 69 (env 8)).set 70 v70_7).set 71 v71_8) h1)
@[congr] theorem rib_Rib_Put_r10_congr {env : Env} {h : Hp} {K : Env → Hp → Prop} : rib_Rib_Put_r10 env h K = rib_Rib_Put_r10 env h K := rfl

/-- rib.go:66 (in any order) -/
def rib_Rib_Put_r11 (env : Env) (h : Hp) (K : Env → Hp → Prop) : Prop :=
  nck (env 0) (
  rd Try.prog (Instr.fieldAt 63 (env 0) 2) noHp fun v74_2 =>
  rd Try.prog (Instr.loadAt 59 v74_2) h fun v75_3 =>
  rd Try.prog (Instr.loadAt 65 (env 5)) h fun v76_4 =>
  rd Try.prog (Instr.loadAt 27 (env 3)) h fun v77_5 =>
  arun Try.prog (Instr.mapUpdate 59 v75_3 v76_4 v77_5) h fun _ h1 =>
  (True) ∧
  K ((((((env.set 72 (env 0)).set 73 (env 0)).set 74 v74_2).set 75 v75_3).set 76 v76_4).set 77 v77_5) h1)
@[congr] theorem rib_Rib_Put_r11_congr {env : Env} {h : Hp} {K : Env → Hp → Prop} : rib_Rib_Put_r11 env h K = rib_Rib_Put_r11 env h K := rfl

/-- rib.go:67 -/
def rib_Rib_Put_r12 (env : Env) (h : Hp) (K : Env → Hp → Prop) : Prop :=
  K (env.set 4 (Go.Value.int Go.IntKind.i64 0)) h
@[congr] theorem rib_Rib_Put_r12_congr {env : Env} {h : Hp} {K : Env → Hp → Prop} : rib_Rib_Put_r12 env h K = rib_Rib_Put_r12 env h K := rfl

def rib_Rib_Put_D : Den := (sq (rg rib_Rib_Put_r0) (sq (rg rib_Rib_Put_r1) (sq (rg rib_Rib_Put_r2) (sq (blk 0 (sq (rg rib_Rib_Put_r3) (cnd (Go.Operand.tmp 24) (sq (rg rib_Rib_Put_r4) (ex .ret)) (sq (rg rib_Rib_Put_r5) (cnd (Go.Operand.tmp 28) (sq (rg rib_Rib_Put_r6) (sq (rg rib_Rib_Put_r7) (ex .ret))) (sq (rg rib_Rib_Put_r8) (cnd (Go.Operand.tmp 50) (sq (rg rib_Rib_Put_r9) (rg rib_Rib_Put_r10)) (ex .normal)))))))) (sq (rg rib_Rib_Put_r11) (sq (rg rib_Rib_Put_r12) (ex .ret)))))))

theorem rib_Rib_Put_eq : (den Try.prog 78 rib_Rib_Put_code).1 = rib_Rib_Put_D := by kernel_rfl

theorem rib_Rib_Put_ok {args : Array Value} {h : Hp} {Q : Value → Hp → Prop} (hn : args.size ≤ 78) (D : rib_Rib_Put_D (fin Try.prog [(Go.ResultVar.tmp 4)] Q) (env0 args) h) : Ok Try.prog 17 args h Q :=
  ok_of_den progIsOk Try.func17 (c := rib_Rib_Put_code) (by kernel_rfl) hn (by show (den Try.prog 78 rib_Rib_Put_code).1 _ _ _; rw [rib_Rib_Put_eq]; exact D)

/-! ### (*octroi/rib.Rib).Refused: function 18 -/
noncomputable def rib_Rib_Refused_code : Code := match Try.f18.body with | some c => c | none => .skip

/-- rib.go:124 -/
def rib_Rib_Refused_r0 (env : Env) (h : Hp) (K : Env → Hp → Prop) : Prop :=
  K (env.set 2 (Go.Value.int Go.IntKind.i64 0)) h
@[congr] theorem rib_Rib_Refused_r0_congr {env : Env} {h : Hp} {K : Env → Hp → Prop} : rib_Rib_Refused_r0 env h K = rib_Rib_Refused_r0 env h K := rfl

/-- rib.go:124 -/
def rib_Rib_Refused_r1 (env : Env) (h : Hp) (K : Env → Hp → Prop) : Prop :=
  nck (env 0) (
  rd Try.prog (Instr.fieldAt 63 (env 0) 1) noHp fun v5_2 =>
  rd Try.prog (Instr.loadAt 3 v5_2) h fun v6_3 =>
  K (((((env.set 3 (env 0)).set 4 (env 0)).set 5 v5_2).set 6 v6_3).set 2 v6_3) h)
@[congr] theorem rib_Rib_Refused_r1_congr {env : Env} {h : Hp} {K : Env → Hp → Prop} : rib_Rib_Refused_r1 env h K = rib_Rib_Refused_r1 env h K := rfl

def rib_Rib_Refused_D : Den := (sq (rg rib_Rib_Refused_r0) (sq (rg rib_Rib_Refused_r1) (ex .ret)))

theorem rib_Rib_Refused_eq : (den Try.prog 7 rib_Rib_Refused_code).1 = rib_Rib_Refused_D := by kernel_rfl

theorem rib_Rib_Refused_ok {args : Array Value} {h : Hp} {Q : Value → Hp → Prop} (hn : args.size ≤ 7) (D : rib_Rib_Refused_D (fin Try.prog [(Go.ResultVar.tmp 2)] Q) (env0 args) h) : Ok Try.prog 18 args h Q :=
  ok_of_den progIsOk Try.func18 (c := rib_Rib_Refused_code) (by kernel_rfl) hn (by show (den Try.prog 7 rib_Rib_Refused_code).1 _ _ _; rw [rib_Rib_Refused_eq]; exact D)

/-! ### (*octroi/rib.Rib).All: function 19 -/
noncomputable def rib_Rib_All_code : Code := match Try.f19.body with | some c => c | none => .skip

/-- rib.go:115 -/
def rib_Rib_All_r0 (env : Env) (h : Hp) (K : Env → Hp → Prop) : Prop :=
  K (env.set 2 (Go.Value.slice none 0 0)) h
@[congr] theorem rib_Rib_All_r0_congr {env : Env} {h : Hp} {K : Env → Hp → Prop} : rib_Rib_All_r0 env h K = rib_Rib_All_r0 env h K := rfl

/-- rib.go:116 -/
def rib_Rib_All_r1 (env : Env) (h : Hp) (K : Env → Hp → Prop) : Prop :=
  K (env.set 3 (Go.Value.slice none 0 0)) h
@[congr] theorem rib_Rib_All_r1_congr {env : Env} {h : Hp} {K : Env → Hp → Prop} : rib_Rib_All_r1 env h K = rib_Rib_All_r1 env h K := rfl

/-- rib.go:117 -/
def rib_Rib_All_r2 (env : Env) (h : Hp) (K : Env → Hp → Prop) : Prop :=
  nck (env 0) (
  rd Try.prog (Instr.fieldAt 63 (env 0) 3) noHp fun v8_2 =>
  rd Try.prog (Instr.loadAt 60 v8_2) h fun v9_3 =>
  Ok Try.prog 37 #[v9_3] h fun v10_4 h1 =>
  rd Try.prog (Builtin.len_ #[68] 3 #[v10_4]) h1 fun v11_5 =>
  K (((((((env.set 6 (env 0)).set 7 (env 0)).set 8 v8_2).set 9 v9_3).set 10 v10_4).set 11 v11_5).set 12 (Go.Value.int Go.IntKind.i64 0)) h1)
@[congr] theorem rib_Rib_All_r2_congr {env : Env} {h : Hp} {K : Env → Hp → Prop} : rib_Rib_All_r2 env h K = rib_Rib_All_r2 env h K := rfl

/-- rib.go:117 -/
def rib_Rib_All_r3 (env : Env) (h : Hp) (K : Env → Hp → Prop) : Prop :=
  rd Try.prog (bop Go.BinOp.lss 3 (Go.Operand.tmp 12) (Go.Operand.tmp 11) (env 12) (env 11)) noHp fun v13_0 =>
  K (env.set 13 v13_0) h
@[congr] theorem rib_Rib_All_r3_congr {env : Env} {h : Hp} {K : Env → Hp → Prop} : rib_Rib_All_r3 env h K = rib_Rib_All_r3 env h K := rfl

/-- rib.go:117 -/
def rib_Rib_All_r4 (env : Env) (h : Hp) (K : Env → Hp → Prop) : Prop :=
  rd Try.prog (Instr.indexAt 68 (env 10) (env 12)) noHp fun v14_0 =>
  rd Try.prog (Instr.loadAt 24 v14_0) h fun v15_1 =>
  arun Try.prog (Instr.alloc 24 true (Go.Value.tuple #[])) h fun v5_2 h1 =>
  arun Try.prog (Instr.storeAt 24 v5_2 v15_1) h1 fun _ h2 =>
  K (((env.set 14 v14_0).set 15 v15_1).set 5 v5_2) h2
@[congr] theorem rib_Rib_All_r4_congr {env : Env} {h : Hp} {K : Env → Hp → Prop} : rib_Rib_All_r4 env h K = rib_Rib_All_r4 env h K := rfl

/-- rib.go:118 -/
def rib_Rib_All_r5 (env : Env) (h : Hp) (K : Env → Hp → Prop) : Prop :=
  rd Try.prog (Instr.loadAt 24 (env 5)) h fun v18_2 =>
  Ok Try.prog 38 #[(env 0), v18_2] h fun v19_3 h1 =>
  arun Try.prog (Builtin.append_ #[39, 39] 39 #[(env 3), v19_3]) h1 fun v20_4 h2 =>
  K ((((((env.set 16 (env 3)).set 17 (env 0)).set 18 v18_2).set 19 v19_3).set 20 v20_4).set 3 v20_4) h2
@[congr] theorem rib_Rib_All_r5_congr {env : Env} {h : Hp} {K : Env → Hp → Prop} : rib_Rib_All_r5 env h K = rib_Rib_All_r5 env h K := rfl

/-- rib.go:117 -/
def rib_Rib_All_r6 (env : Env) (h : Hp) (K : Env → Hp → Prop) : Prop :=
  rd Try.prog (bop Go.BinOp.add 3 (Go.Operand.tmp 12) (Go.Operand.const (Go.Value.int Go.IntKind.i64 1)) (env 12) (Go.Value.int Go.IntKind.i64 1)) noHp fun v21_0 =>
  K ((env.set 21 v21_0).set 12 v21_0) h
@[congr] theorem rib_Rib_All_r6_congr {env : Env} {h : Hp} {K : Env → Hp → Prop} : rib_Rib_All_r6 env h K = rib_Rib_All_r6 env h K := rfl

def rib_Rib_All_L0 : Den := (sq (rg rib_Rib_All_r3) (sq (cnd (Go.Operand.tmp 13) (ex .normal) (ex (.exit 0))) (sq (blk 1 (sq (rg rib_Rib_All_r4) (rg rib_Rib_All_r5))) (rg rib_Rib_All_r6))))

/-- rib.go:120 -/
def rib_Rib_All_r7 (env : Env) (h : Hp) (K : Env → Hp → Prop) : Prop :=
  K ((env.set 22 (env 3)).set 2 (env 3)) h
@[congr] theorem rib_Rib_All_r7_congr {env : Env} {h : Hp} {K : Env → Hp → Prop} : rib_Rib_All_r7 env h K = rib_Rib_All_r7 env h K := rfl

def rib_Rib_All_D : Den := (sq (rg rib_Rib_All_r0) (sq (rg rib_Rib_All_r1) (sq (sq (rg rib_Rib_All_r2) (blk 0 (lp rib_Rib_All_L0))) (sq (rg rib_Rib_All_r7) (ex .ret)))))

theorem rib_Rib_All_eq : (den Try.prog 23 rib_Rib_All_code).1 = rib_Rib_All_D := by kernel_rfl

theorem rib_Rib_All_ok {args : Array Value} {h : Hp} {Q : Value → Hp → Prop} (hn : args.size ≤ 23) (D : rib_Rib_All_D (fin Try.prog [(Go.ResultVar.tmp 2)] Q) (env0 args) h) : Ok Try.prog 19 args h Q :=
  ok_of_den progIsOk Try.func19 (c := rib_Rib_All_code) (by kernel_rfl) hn (by show (den Try.prog 23 rib_Rib_All_code).1 _ _ _; rw [rib_Rib_All_eq]; exact D)

/-! ### (*octroi/rib.Rib).Best: function 20 -/
noncomputable def rib_Rib_Best_code : Code := match Try.f20.body with | some c => c | none => .skip

/-- rib.go:97 -/
def rib_Rib_Best_r0 (env : Env) (h : Hp) (K : Env → Hp → Prop) : Prop :=
  arun Try.prog (Instr.box 24 (env 1)) h fun v3_0 h1 =>
  arun Try.prog (Instr.alloc 27 true (Go.Value.tuple #[])) h1 fun v4_1 h2 =>
  K (((env.set 3 v3_0).set 4 v4_1).set 5 (Go.Value.bool false)) h2
@[congr] theorem rib_Rib_Best_r0_congr {env : Env} {h : Hp} {K : Env → Hp → Prop} : rib_Rib_Best_r0 env h K = rib_Rib_Best_r0 env h K := rfl

/-- rib.go:98 -/
def rib_Rib_Best_r1 (env : Env) (h : Hp) (K : Env → Hp → Prop) : Prop :=
  rd Try.prog (Instr.loadAt 24 (env 3)) h fun v8_1 =>
  Ok Try.prog 38 #[(env 0), v8_1] h fun v9_2 h1 =>
  K ((((env.set 7 (env 0)).set 8 v8_1).set 9 v9_2).set 6 v9_2) h1
@[congr] theorem rib_Rib_Best_r1_congr {env : Env} {h : Hp} {K : Env → Hp → Prop} : rib_Rib_Best_r1 env h K = rib_Rib_Best_r1 env h K := rfl

/-- rib.go:99 -/
def rib_Rib_Best_r2 (env : Env) (h : Hp) (K : Env → Hp → Prop) : Prop :=
  rd Try.prog (Builtin.len_ #[39] 3 #[(env 6)]) h fun v11_1 =>
  rd Try.prog (bop Go.BinOp.eql 3 (Go.Operand.tmp 11) (Go.Operand.const (Go.Value.int Go.IntKind.i64 0)) v11_1 (Go.Value.int Go.IntKind.i64 0)) noHp fun v12_2 =>
  K (((env.set 10 (env 6)).set 11 v11_1).set 12 v12_2) h
@[congr] theorem rib_Rib_Best_r2_congr {env : Env} {h : Hp} {K : Env → Hp → Prop} : rib_Rib_Best_r2 env h K = rib_Rib_Best_r2 env h K := rfl

/-- rib.go:100 -/
def rib_Rib_Best_r3 (env : Env) (h : Hp) (K : Env → Hp → Prop) : Prop :=
  rd Try.prog (Instr.build 27 #[]) noHp fun v13_0 =>
  arun Try.prog (Instr.storeAt 27 (env 4) v13_0) h fun _ h1 =>
  K ((env.set 13 v13_0).set 5 (Go.Value.bool false)) h1
@[congr] theorem rib_Rib_Best_r3_congr {env : Env} {h : Hp} {K : Env → Hp → Prop} : rib_Rib_Best_r3 env h K = rib_Rib_Best_r3 env h K := rfl

/-- rib.go:102 -/
def rib_Rib_Best_r4 (env : Env) (h : Hp) (K : Env → Hp → Prop) : Prop :=
  Ok Try.prog 39 #[(env 6), (Go.Value.func (Go.Fn.func 31) #[] #[])] h fun v15_1 h1 =>
  arun Try.prog (Instr.storeAt 27 (env 4) v15_1) h1 fun _ h2 =>
  K (((env.set 14 (env 6)).set 15 v15_1).set 5 (Go.Value.bool true)) h2
@[congr] theorem rib_Rib_Best_r4_congr {env : Env} {h : Hp} {K : Env → Hp → Prop} : rib_Rib_Best_r4 env h K = rib_Rib_Best_r4 env h K := rfl

def rib_Rib_Best_D : Den := (sq (rg rib_Rib_Best_r0) (sq (rg rib_Rib_Best_r1) (sq (sq (rg rib_Rib_Best_r2) (cnd (Go.Operand.tmp 12) (sq (rg rib_Rib_Best_r3) (ex .ret)) (ex .normal))) (sq (rg rib_Rib_Best_r4) (ex .ret)))))

theorem rib_Rib_Best_eq : (den Try.prog 16 rib_Rib_Best_code).1 = rib_Rib_Best_D := by kernel_rfl

theorem rib_Rib_Best_ok {args : Array Value} {h : Hp} {Q : Value → Hp → Prop} (hn : args.size ≤ 16) (D : rib_Rib_Best_D (fin Try.prog [(Go.ResultVar.cell 4 27), (Go.ResultVar.tmp 5)] Q) (env0 args) h) : Ok Try.prog 20 args h Q :=
  ok_of_den progIsOk Try.func20 (c := rib_Rib_Best_code) (by kernel_rfl) hn (by show (den Try.prog 16 rib_Rib_Best_code).1 _ _ _; rw [rib_Rib_Best_eq]; exact D)

/-! ### (*octroi/rib.Rib).Find: function 21 -/
noncomputable def rib_Rib_Find_code : Code := match Try.f21.body with | some c => c | none => .skip

/-- rib.go:106 -/
def rib_Rib_Find_r0 (env : Env) (h : Hp) (K : Env → Hp → Prop) : Prop :=
  arun Try.prog (Instr.alloc 27 true (Go.Value.tuple #[])) h fun v4_0 h1 =>
  K ((env.set 4 v4_0).set 5 (Go.Value.bool false)) h1
@[congr] theorem rib_Rib_Find_r0_congr {env : Env} {h : Hp} {K : Env → Hp → Prop} : rib_Rib_Find_r0 env h K = rib_Rib_Find_r0 env h K := rfl

/-- rib.go:107 -/
def rib_Rib_Find_r1 (env : Env) (h : Hp) (K : Env → Hp → Prop) : Prop :=
  nck (env 0) (
  rd Try.prog (Instr.fieldAt 63 (env 0) 3) noHp fun v12_2 =>
  rd Try.prog (Instr.loadAt 60 v12_2) h fun v13_3 =>
  Ok Try.prog 40 #[v13_3, (env 1)] h fun v15_5 h1 =>
  rd Try.prog (Instr.extract v15_5 0) noHp fun v16_7 =>
  rd Try.prog (Instr.extract v15_5 1) noHp fun v17_8 =>
  rd Try.prog (Instr.extract v15_5 2) noHp fun v18_9 =>
  arun Try.prog (Instr.alloc 24 true (Go.Value.tuple #[])) h1 fun v6_10 h2 =>
  arun Try.prog (Instr.storeAt 24 v6_10 v16_7) h2 fun _ h3 =>
  K (((((((((((((env.set 10 (env 0)).set 11 (env 0)).set 12 v12_2).set 13 v13_3).set 14 (env 1)).set 15 v15_5).set 9 v15_5).set 16 v16_7).set 17 v17_8).set 18 v18_9).set 6 v6_10).set 7 v17_8).set 8 v18_9) h3)
@[congr] theorem rib_Rib_Find_r1_congr {env : Env} {h : Hp} {K : Env → Hp → Prop} : rib_Rib_Find_r1 env h K = rib_Rib_Find_r1 env h K := rfl

/-- rib.go:108 -/
def rib_Rib_Find_r2 (env : Env) (h : Hp) (K : Env → Hp → Prop) : Prop :=
  rd Try.prog (Op.unary Go.UnOp.not (env 8)) noHp fun v20_1 =>
  K ((env.set 19 (env 8)).set 20 v20_1) h
@[congr] theorem rib_Rib_Find_r2_congr {env : Env} {h : Hp} {K : Env → Hp → Prop} : rib_Rib_Find_r2 env h K = rib_Rib_Find_r2 env h K := rfl

/-- rib.go:109 -/
def rib_Rib_Find_r3 (env : Env) (h : Hp) (K : Env → Hp → Prop) : Prop :=
  rd Try.prog (Instr.build 27 #[]) noHp fun v21_0 =>
  arun Try.prog (Instr.storeAt 27 (env 4) v21_0) h fun _ h1 =>
  K ((env.set 21 v21_0).set 5 (Go.Value.bool false)) h1
@[congr] theorem rib_Rib_Find_r3_congr {env : Env} {h : Hp} {K : Env → Hp → Prop} : rib_Rib_Find_r3 env h K = rib_Rib_Find_r3 env h K := rfl

/-- rib.go:111 -/
def rib_Rib_Find_r4 (env : Env) (h : Hp) (K : Env → Hp → Prop) : Prop :=
  rd Try.prog (Instr.loadAt 24 (env 6)) h fun v23_1 =>
  Ok Try.prog 20 #[(env 0), v23_1] h fun v24_2 h1 =>
  rd Try.prog (Instr.extract v24_2 0) noHp fun v25_3 =>
  rd Try.prog (Instr.extract v24_2 1) noHp fun v26_4 =>
  arun Try.prog (Instr.storeAt 27 (env 4) v25_3) h1 fun _ h2 =>
  K ((((((env.set 22 (env 0)).set 23 v23_1).set 24 v24_2).set 25 v25_3).set 26 v26_4).set 5 v26_4) h2
@[congr] theorem rib_Rib_Find_r4_congr {env : Env} {h : Hp} {K : Env → Hp → Prop} : rib_Rib_Find_r4 env h K = rib_Rib_Find_r4 env h K := rfl

def rib_Rib_Find_D : Den := (sq (rg rib_Rib_Find_r0) (sq (rg rib_Rib_Find_r1) (sq (sq (rg rib_Rib_Find_r2) (cnd (Go.Operand.tmp 20) (sq (rg rib_Rib_Find_r3) (ex .ret)) (ex .normal))) (sq (rg rib_Rib_Find_r4) (ex .ret)))))

theorem rib_Rib_Find_eq : (den Try.prog 27 rib_Rib_Find_code).1 = rib_Rib_Find_D := by kernel_rfl

theorem rib_Rib_Find_ok {args : Array Value} {h : Hp} {Q : Value → Hp → Prop} (hn : args.size ≤ 27) (D : rib_Rib_Find_D (fin Try.prog [(Go.ResultVar.cell 4 27), (Go.ResultVar.tmp 5)] Q) (env0 args) h) : Ok Try.prog 21 args h Q :=
  ok_of_den progIsOk Try.func21 (c := rib_Rib_Find_code) (by kernel_rfl) hn (by show (den Try.prog 27 rib_Rib_Find_code).1 _ _ _; rw [rib_Rib_Find_eq]; exact D)

/-! ### octroi/octroiref09.Same: function 22 -/
noncomputable def octroiref09_Same_code : Code := match Try.f22.body with | some c => c | none => .skip

/-- ref.go:151 -/
def octroiref09_Same_r0 (env : Env) (h : Hp) (K : Env → Hp → Prop) : Prop :=
  K (env.set 4 (Go.Value.bool false)) h
@[congr] theorem octroiref09_Same_r0_congr {env : Env} {h : Hp} {K : Env → Hp → Prop} : octroiref09_Same_r0 env h K = octroiref09_Same_r0 env h K := rfl

/-- ref.go:152 -/
def octroiref09_Same_r1 (env : Env) (h : Hp) (K : Env → Hp → Prop) : Prop :=
  rd Try.prog (Builtin.len_ #[39] 3 #[(env 0)]) h fun v7_1 =>
  rd Try.prog (Builtin.len_ #[39] 3 #[(env 1)]) h fun v9_3 =>
  rd Try.prog (bop Go.BinOp.neq 3 (Go.Operand.tmp 7) (Go.Operand.tmp 9) v7_1 v9_3) noHp fun v10_4 =>
  K (((((env.set 6 (env 0)).set 7 v7_1).set 8 (env 1)).set 9 v9_3).set 10 v10_4) h
@[congr] theorem octroiref09_Same_r1_congr {env : Env} {h : Hp} {K : Env → Hp → Prop} : octroiref09_Same_r1 env h K = octroiref09_Same_r1 env h K := rfl

/-- ref.go:153 -/
def octroiref09_Same_r2 (env : Env) (h : Hp) (K : Env → Hp → Prop) : Prop :=
  K (env.set 4 (Go.Value.bool false)) h
@[congr] theorem octroiref09_Same_r2_congr {env : Env} {h : Hp} {K : Env → Hp → Prop} : octroiref09_Same_r2 env h K = octroiref09_Same_r2 env h K := rfl

/-- ref.go:155 -/
def octroiref09_Same_r3 (env : Env) (h : Hp) (K : Env → Hp → Prop) : Prop :=
  K (env.set 5 (Go.Value.int Go.IntKind.i64 0)) h
@[congr] theorem octroiref09_Same_r3_congr {env : Env} {h : Hp} {K : Env → Hp → Prop} : octroiref09_Same_r3 env h K = octroiref09_Same_r3 env h K := rfl

/-- ref.go:155 -/
def octroiref09_Same_r4 (env : Env) (h : Hp) (K : Env → Hp → Prop) : Prop :=
  rd Try.prog (Builtin.len_ #[39] 3 #[(env 0)]) h fun v13_2 =>
  rd Try.prog (bop Go.BinOp.lss 3 (Go.Operand.tmp 11) (Go.Operand.tmp 13) (env 5) v13_2) noHp fun v14_3 =>
  K ((((env.set 11 (env 5)).set 12 (env 0)).set 13 v13_2).set 14 v14_3) h
@[congr] theorem octroiref09_Same_r4_congr {env : Env} {h : Hp} {K : Env → Hp → Prop} : octroiref09_Same_r4 env h K = octroiref09_Same_r4 env h K := rfl

/-- ref.go:156 (in any order) -/
def octroiref09_Same_r5 (env : Env) (h : Hp) (K : Env → Hp → Prop) : Prop :=
  rd Try.prog (Instr.indexAt 39 (env 0) (env 5)) noHp fun v19_2 =>
  rd Try.prog (Instr.loadAt 27 v19_2) h fun v20_3 =>
  rd Try.prog (Instr.indexAt 39 (env 1) (env 5)) noHp fun v23_6 =>
  rd Try.prog (Instr.loadAt 27 v23_6) h fun v24_7 =>
  rd Try.prog (bop Go.BinOp.neq 27 (Go.Operand.tmp 20) (Go.Operand.tmp 24) v20_3 v24_7) noHp fun v25_8 =>
  K (((((((((env.set 17 (env 0)).set 18 (env 5)).set 19 v19_2).set 20 v20_3).set 21 (env 1)).set 22 (env 5)).set 23 v23_6).set 24 v24_7).set 25 v25_8) h
@[congr] theorem octroiref09_Same_r5_congr {env : Env} {h : Hp} {K : Env → Hp → Prop} : octroiref09_Same_r5 env h K = octroiref09_Same_r5 env h K := rfl

/-- ref.go:157 -/
def octroiref09_Same_r6 (env : Env) (h : Hp) (K : Env → Hp → Prop) : Prop :=
  K (env.set 4 (Go.Value.bool false)) h
@[congr] theorem octroiref09_Same_r6_congr {env : Env} {h : Hp} {K : Env → Hp → Prop} : octroiref09_Same_r6 env h K = octroiref09_Same_r6 env h K := rfl

/-- ref.go:155 -/
def octroiref09_Same_r7 (env : Env) (h : Hp) (K : Env → Hp → Prop) : Prop :=
  rd Try.prog (bop Go.BinOp.add 3 (Go.Operand.tmp 15) (Go.Operand.const (Go.Value.int Go.IntKind.i64 1)) (env 5) (Go.Value.int Go.IntKind.i64 1)) noHp fun v16_1 =>
  K (((env.set 15 (env 5)).set 16 v16_1).set 5 v16_1) h
@[congr] theorem octroiref09_Same_r7_congr {env : Env} {h : Hp} {K : Env → Hp → Prop} : octroiref09_Same_r7 env h K = octroiref09_Same_r7 env h K := rfl

def octroiref09_Same_L0 : Den := (sq (sq (rg octroiref09_Same_r4) (cnd (Go.Operand.tmp 14) (ex .normal) (ex (.exit 0)))) (sq (blk 1 (sq (rg octroiref09_Same_r5) (cnd (Go.Operand.tmp 25) (sq (rg octroiref09_Same_r6) (ex .ret)) (ex .normal)))) (rg octroiref09_Same_r7)))

/-- ref.go:160 -/
def octroiref09_Same_r8 (env : Env) (h : Hp) (K : Env → Hp → Prop) : Prop :=
  K (env.set 4 (Go.Value.bool true)) h
@[congr] theorem octroiref09_Same_r8_congr {env : Env} {h : Hp} {K : Env → Hp → Prop} : octroiref09_Same_r8 env h K = octroiref09_Same_r8 env h K := rfl

def octroiref09_Same_D : Den := (sq (rg octroiref09_Same_r0) (sq (sq (rg octroiref09_Same_r1) (cnd (Go.Operand.tmp 10) (sq (rg octroiref09_Same_r2) (ex .ret)) (ex .normal))) (sq (sq (rg octroiref09_Same_r3) (blk 0 (lp octroiref09_Same_L0))) (sq (rg octroiref09_Same_r8) (ex .ret)))))

theorem octroiref09_Same_eq : (den Try.prog 26 octroiref09_Same_code).1 = octroiref09_Same_D := by kernel_rfl

theorem octroiref09_Same_ok {args : Array Value} {h : Hp} {Q : Value → Hp → Prop} (hn : args.size ≤ 26) (D : octroiref09_Same_D (fin Try.prog [(Go.ResultVar.tmp 4)] Q) (env0 args) h) : Ok Try.prog 22 args h Q :=
  ok_of_den progIsOk Try.func22 (c := octroiref09_Same_code) (by kernel_rfl) hn (by show (den Try.prog 26 octroiref09_Same_code).1 _ _ _; rw [octroiref09_Same_eq]; exact D)

/-! ### (*octroi/rib.Rib).Take: function 23 -/
noncomputable def rib_Rib_Take_code : Code := match Try.f23.body with | some c => c | none => .skip

/-- rib.go:71 -/
def rib_Rib_Take_r0 (env : Env) (h : Hp) (K : Env → Hp → Prop) : Prop :=
  arun Try.prog (Instr.box 24 (env 1)) h fun v4_0 h1 =>
  K ((env.set 4 v4_0).set 6 (Go.Value.int Go.IntKind.i64 0)) h1
@[congr] theorem rib_Rib_Take_r0_congr {env : Env} {h : Hp} {K : Env → Hp → Prop} : rib_Rib_Take_r0 env h K = rib_Rib_Take_r0 env h K := rfl

/-- rib.go:72 -/
def rib_Rib_Take_r1 (env : Env) (h : Hp) (K : Env → Hp → Prop) : Prop :=
  rd Try.prog (Instr.loadAt 24 (env 4)) h fun v12_0 =>
  rd Try.prog (Instr.build 65 #[(0, v12_0), (1, (env 2))]) noHp fun v14_2 =>
  arun Try.prog (Instr.alloc 65 true (Go.Value.tuple #[])) h fun v7_3 h1 =>
  arun Try.prog (Instr.storeAt 65 v7_3 v14_2) h1 fun _ h2 =>
  K ((((env.set 12 v12_0).set 13 (env 2)).set 14 v14_2).set 7 v7_3) h2
@[congr] theorem rib_Rib_Take_r1_congr {env : Env} {h : Hp} {K : Env → Hp → Prop} : rib_Rib_Take_r1 env h K = rib_Rib_Take_r1 env h K := rfl

/-- rib.go:73 (in any order) -/
def rib_Rib_Take_r2 (env : Env) (h : Hp) (K : Env → Hp → Prop) : Prop :=
  nck (env 0) (
  rd Try.prog (Instr.fieldAt 63 (env 0) 2) noHp fun v18_2 =>
  rd Try.prog (Instr.loadAt 59 v18_2) h fun v19_3 =>
  rd Try.prog (Instr.loadAt 65 (env 7)) h fun v20_4 =>
  rd Try.prog (Instr.lookup 59 v19_3 v20_4 true) h fun v21_5 =>
  rd Try.prog (Instr.extract v21_5 0) noHp fun v22_7 =>
  rd Try.prog (Instr.extract v21_5 1) noHp fun v23_8 =>
  arun Try.prog (Instr.alloc 27 true (Go.Value.tuple #[])) h fun v8_9 h1 =>
  (rrun Try.prog (Instr.lookup 59 v19_3 v20_4 true) h1 = some v21_5 ∧ rrun Try.prog (Instr.loadAt 65 (env 7)) h1 = some v20_4 ∧ rrun Try.prog (Instr.loadAt 59 v18_2) h1 = some v19_3 ∧ True) ∧
  arun Try.prog (Instr.storeAt 27 v8_9 v22_7) h1 fun _ h2 =>
  (True) ∧
  K (((((((((((env.set 16 (env 0)).set 17 (env 0)).set 18 v18_2).set 19 v19_3).set 20 v20_4).set 21 v21_5).set 15 v21_5).set 22 v22_7).set 23 v23_8).set 8 v8_9).set 9 v23_8) h2)
@[congr] theorem rib_Rib_Take_r2_congr {env : Env} {h : Hp} {K : Env → Hp → Prop} : rib_Rib_Take_r2 env h K = rib_Rib_Take_r2 env h K := rfl

/-- rib.go:73 -/
def rib_Rib_Take_r3 (env : Env) (h : Hp) (K : Env → Hp → Prop) : Prop :=
  rd Try.prog (Op.unary Go.UnOp.not (env 9)) noHp fun v25_1 =>
  K ((env.set 24 (env 9)).set 25 v25_1) h
@[congr] theorem rib_Rib_Take_r3_congr {env : Env} {h : Hp} {K : Env → Hp → Prop} : rib_Rib_Take_r3 env h K = rib_Rib_Take_r3 env h K := rfl

/-- rib.go:74 -/
def rib_Rib_Take_r4 (env : Env) (h : Hp) (K : Env → Hp → Prop) : Prop :=
  K (env.set 6 (Go.Value.int Go.IntKind.i64 5)) h
@[congr] theorem rib_Rib_Take_r4_congr {env : Env} {h : Hp} {K : Env → Hp → Prop} : rib_Rib_Take_r4 env h K = rib_Rib_Take_r4 env h K := rfl

/-- rib.go:76 (in any order) -/
def rib_Rib_Take_r5 (env : Env) (h : Hp) (K : Env → Hp → Prop) : Prop :=
  nck (env 0) (
  rd Try.prog (Instr.fieldAt 63 (env 0) 2) noHp fun v28_2 =>
  rd Try.prog (Instr.loadAt 59 v28_2) h fun v29_3 =>
  rd Try.prog (Instr.loadAt 65 (env 7)) h fun v30_4 =>
  arun Try.prog (Builtin.delete_ #[59, 65] 0 #[v29_3, v30_4]) h fun _ h1 =>
  (True) ∧
  K (((((env.set 26 (env 0)).set 27 (env 0)).set 28 v28_2).set 29 v29_3).set 30 v30_4) h1)
@[congr] theorem rib_Rib_Take_r5_congr {env : Env} {h : Hp} {K : Env → Hp → Prop} : rib_Rib_Take_r5 env h K = rib_Rib_Take_r5 env h K := rfl

/-- rib.go:77 (in any order) -/
def rib_Rib_Take_r6 (env : Env) (h : Hp) (K : Env → Hp → Prop) : Prop :=
  nck (env 0) (
  rd Try.prog (Instr.fieldAt 63 (env 0) 3) noHp fun v34_2 =>
  rd Try.prog (Instr.loadAt 60 v34_2) h fun v35_3 =>
  rd Try.prog (Instr.loadAt 24 (env 4)) h fun v36_4 =>
  Ok Try.prog 35 #[v35_3, v36_4] h fun v37_5 h1 =>
  (True) ∧
  rd Try.prog (Instr.extract v37_5 0) noHp fun v38_7 =>
  rd Try.prog (Instr.extract v37_5 1) noHp fun v39_8 =>
  K (((((((((((env.set 32 (env 0)).set 33 (env 0)).set 34 v34_2).set 35 v35_3).set 36 v36_4).set 37 v37_5).set 31 v37_5).set 38 v38_7).set 39 v39_8).set 10 v38_7).set 11 v39_8) h1)
@[congr] theorem rib_Rib_Take_r6_congr {env : Env} {h : Hp} {K : Env → Hp → Prop} : rib_Rib_Take_r6 env h K = rib_Rib_Take_r6 env h K := rfl

/-- rib.go:77 -/
def rib_Rib_Take_r7 (env : Env) (h : Hp) (K : Env → Hp → Prop) : Prop :=
  rd Try.prog (bop Go.BinOp.gtr 3 (Go.Operand.tmp 40) (Go.Operand.const (Go.Value.int Go.IntKind.i64 1)) (env 10) (Go.Value.int Go.IntKind.i64 1)) noHp fun v41_1 =>
  K ((env.set 40 (env 10)).set 41 v41_1) h
@[congr] theorem rib_Rib_Take_r7_congr {env : Env} {h : Hp} {K : Env → Hp → Prop} : rib_Rib_Take_r7 env h K = rib_Rib_Take_r7 env h K := rfl

/-- rib.go:78 (in any order) -/
def rib_Rib_Take_r8 (env : Env) (h : Hp) (K : Env → Hp → Prop) : Prop :=
  nck (env 0) (
  rd Try.prog (Instr.fieldAt 63 (env 0) 3) noHp fun v44_2 =>
  rd Try.prog (Instr.loadAt 60 v44_2) h fun v45_3 =>
  rd Try.prog (Instr.loadAt 24 (env 4)) h fun v46_4 =>
  rd Try.prog (bop Go.BinOp.sub 3 (Go.Operand.tmp 47) (Go.Operand.const (Go.Value.int Go.IntKind.i64 1)) (env 10) (Go.Value.int Go.IntKind.i64 1)) noHp fun v48_6 =>
  Ok Try.prog 36 #[v45_3, v46_4, v48_6] h fun v49_7 h1 =>
  (True) ∧
  K ((((((((env.set 42 (env 0)).set 43 (env 0)).set 44 v44_2).set 45 v45_3).set 46 v46_4).set 47 (env 10)).set 48 v48_6).set 49 v49_7) h1)
@[congr] theorem rib_Rib_Take_r8_congr {env : Env} {h : Hp} {K : Env → Hp → Prop} : rib_Rib_Take_r8 env h K = rib_Rib_Take_r8 env h K := rfl

/-- rib.go:80 (in any order) -/
def rib_Rib_Take_r9 (env : Env) (h : Hp) (K : Env → Hp → Prop) : Prop :=
  nck (env 0) (
  rd Try.prog (Instr.fieldAt 63 (env 0) 3) noHp fun v52_2 =>
  rd Try.prog (Instr.loadAt 60 v52_2) h fun v53_3 =>
  rd Try.prog (Instr.loadAt 24 (env 4)) h fun v54_4 =>
  Ok Try.prog 41 #[v53_3, v54_4] h fun v55_5 h1 =>
  (True) ∧
  K ((((((env.set 50 (env 0)).set 51 (env 0)).set 52 v52_2).set 53 v53_3).set 54 v54_4).set 55 v55_5) h1)
@[congr] theorem rib_Rib_Take_r9_congr {env : Env} {h : Hp} {K : Env → Hp → Prop} : rib_Rib_Take_r9 env h K = rib_Rib_Take_r9 env h K := rfl

/-- rib.go:82 -/
def rib_Rib_Take_r10 (env : Env) (h : Hp) (K : Env → Hp → Prop) : Prop :=
  K (env.set 6 (Go.Value.int Go.IntKind.i64 0)) h
@[congr] theorem rib_Rib_Take_r10_congr {env : Env} {h : Hp} {K : Env → Hp → Prop} : rib_Rib_Take_r10 env h K = rib_Rib_Take_r10 env h K := rfl

def rib_Rib_Take_D : Den := (sq (rg rib_Rib_Take_r0) (sq (rg rib_Rib_Take_r1) (sq (sq (rg rib_Rib_Take_r2) (sq (rg rib_Rib_Take_r3) (cnd (Go.Operand.tmp 25) (sq (rg rib_Rib_Take_r4) (ex .ret)) (ex .normal)))) (sq (rg rib_Rib_Take_r5) (sq (sq (rg rib_Rib_Take_r6) (sq (rg rib_Rib_Take_r7) (cnd (Go.Operand.tmp 41) (rg rib_Rib_Take_r8) (rg rib_Rib_Take_r9)))) (sq (rg rib_Rib_Take_r10) (ex .ret)))))))

theorem rib_Rib_Take_eq : (den Try.prog 56 rib_Rib_Take_code).1 = rib_Rib_Take_D := by kernel_rfl

theorem rib_Rib_Take_ok {args : Array Value} {h : Hp} {Q : Value → Hp → Prop} (hn : args.size ≤ 56) (D : rib_Rib_Take_D (fin Try.prog [(Go.ResultVar.tmp 6)] Q) (env0 args) h) : Ok Try.prog 23 args h Q :=
  ok_of_den progIsOk Try.func23 (c := rib_Rib_Take_code) (by kernel_rfl) hn (by show (den Try.prog 56 rib_Rib_Take_code).1 _ _ _; rw [rib_Rib_Take_eq]; exact D)

/-! ### octroi/octroiref09.New: function 24 -/
noncomputable def octroiref09_New_code : Code := match Try.f24.body with | some c => c | none => .skip

/-- ref.go:46 -/
def octroiref09_New_r0 (env : Env) (h : Hp) (K : Env → Hp → Prop) : Prop :=
  K (env.set 2 (Go.Value.pointer none)) h
@[congr] theorem octroiref09_New_r0_congr {env : Env} {h : Hp} {K : Env → Hp → Prop} : octroiref09_New_r0 env h K = octroiref09_New_r0 env h K := rfl

/-- ref.go:47 -/
def octroiref09_New_r1 (env : Env) (h : Hp) (K : Env → Hp → Prop) : Prop :=
  rd Try.prog (bop Go.BinOp.gtr 3 (Go.Operand.tmp 3) (Go.Operand.const (Go.Value.int Go.IntKind.i64 64)) (env 0) (Go.Value.int Go.IntKind.i64 64)) noHp fun v4_1 =>
  K ((env.set 3 (env 0)).set 4 v4_1) h
@[congr] theorem octroiref09_New_r1_congr {env : Env} {h : Hp} {K : Env → Hp → Prop} : octroiref09_New_r1 env h K = octroiref09_New_r1 env h K := rfl

/-- ref.go:48 -/
def octroiref09_New_r2 (env : Env) (h : Hp) (K : Env → Hp → Prop) : Prop :=
  K (env.set 0 (Go.Value.int Go.IntKind.i64 64)) h
@[congr] theorem octroiref09_New_r2_congr {env : Env} {h : Hp} {K : Env → Hp → Prop} : octroiref09_New_r2 env h K = octroiref09_New_r2 env h K := rfl

/-- ref.go:50 -/
def octroiref09_New_r3 (env : Env) (h : Hp) (K : Env → Hp → Prop) : Prop :=
  rd Try.prog (Instr.build 54 #[(0, (env 0))]) noHp fun v6_1 =>
  arun Try.prog (Instr.box 54 v6_1) h fun v7_2 h1 =>
  K ((((env.set 5 (env 0)).set 6 v6_1).set 7 v7_2).set 2 v7_2) h1
@[congr] theorem octroiref09_New_r3_congr {env : Env} {h : Hp} {K : Env → Hp → Prop} : octroiref09_New_r3 env h K = octroiref09_New_r3 env h K := rfl

def octroiref09_New_D : Den := (sq (rg octroiref09_New_r0) (sq (sq (rg octroiref09_New_r1) (cnd (Go.Operand.tmp 4) (rg octroiref09_New_r2) (ex .normal))) (sq (rg octroiref09_New_r3) (ex .ret))))

theorem octroiref09_New_eq : (den Try.prog 8 octroiref09_New_code).1 = octroiref09_New_D := by kernel_rfl

theorem octroiref09_New_ok {args : Array Value} {h : Hp} {Q : Value → Hp → Prop} (hn : args.size ≤ 8) (D : octroiref09_New_D (fin Try.prog [(Go.ResultVar.tmp 2)] Q) (env0 args) h) : Ok Try.prog 24 args h Q :=
  ok_of_den progIsOk Try.func24 (c := octroiref09_New_code) (by kernel_rfl) hn (by show (den Try.prog 8 octroiref09_New_code).1 _ _ _; rw [octroiref09_New_eq]; exact D)

/-! ### (*octroi/octroiref09.Rib).Put: function 25 -/
noncomputable def octroiref09_Rib_Put_code : Code := match Try.f25.body with | some c => c | none => .skip

/-- ref.go:70 -/
def octroiref09_Rib_Put_r0 (env : Env) (h : Hp) (K : Env → Hp → Prop) : Prop :=
  arun Try.prog (Instr.box 27 (env 1)) h fun v3_0 h1 =>
  K ((env.set 3 v3_0).set 4 (Go.Value.int Go.IntKind.i64 0)) h1
@[congr] theorem octroiref09_Rib_Put_r0_congr {env : Env} {h : Hp} {K : Env → Hp → Prop} : octroiref09_Rib_Put_r0 env h K = octroiref09_Rib_Put_r0 env h K := rfl

/-- ref.go:71 -/
def octroiref09_Rib_Put_r1 (env : Env) (h : Hp) (K : Env → Hp → Prop) : Prop :=
  rd Try.prog (Instr.loadAt 27 (env 3)) h fun v11_0 =>
  Ok Try.prog 12 #[v11_0] h fun v12_1 h1 =>
  K (((env.set 11 v11_0).set 12 v12_1).set 5 v12_1) h1
@[congr] theorem octroiref09_Rib_Put_r1_congr {env : Env} {h : Hp} {K : Env → Hp → Prop} : octroiref09_Rib_Put_r1 env h K = octroiref09_Rib_Put_r1 env h K := rfl

/-- ref.go:72 -/
def octroiref09_Rib_Put_r2 (env : Env) (h : Hp) (K : Env → Hp → Prop) : Prop :=
  rd Try.prog (Op.unary Go.UnOp.not (env 5)) noHp fun v14_1 =>
  K ((env.set 13 (env 5)).set 14 v14_1) h
@[congr] theorem octroiref09_Rib_Put_r2_congr {env : Env} {h : Hp} {K : Env → Hp → Prop} : octroiref09_Rib_Put_r2 env h K = octroiref09_Rib_Put_r2 env h K := rfl

/-- ref.go:73 -/
def octroiref09_Rib_Put_r3 (env : Env) (h : Hp) (K : Env → Hp → Prop) : Prop :=
  K (env.set 4 (Go.Value.int Go.IntKind.i64 1)) h
@[congr] theorem octroiref09_Rib_Put_r3_congr {env : Env} {h : Hp} {K : Env → Hp → Prop} : octroiref09_Rib_Put_r3 env h K = octroiref09_Rib_Put_r3 env h K := rfl

/-- ref.go:75 -/
def octroiref09_Rib_Put_r4 (env : Env) (h : Hp) (K : Env → Hp → Prop) : Prop :=
  rd Try.prog (Instr.fieldAt 27 (env 3) 0) noHp fun v16_1 =>
  rd Try.prog (Instr.loadAt 24 v16_1) h fun v17_2 =>
  rd Try.prog (Instr.fieldAt 27 (env 3) 1) noHp fun v18_3 =>
  rd Try.prog (Instr.loadAt 3 v18_3) h fun v19_4 =>
  Ok Try.prog 42 #[(env 0), v17_2, v19_4] h fun v20_5 h1 =>
  K (((((((env.set 15 (env 0)).set 16 v16_1).set 17 v17_2).set 18 v18_3).set 19 v19_4).set 20 v20_5).set 6 v20_5) h1
@[congr] theorem octroiref09_Rib_Put_r4_congr {env : Env} {h : Hp} {K : Env → Hp → Prop} : octroiref09_Rib_Put_r4 env h K = octroiref09_Rib_Put_r4 env h K := rfl

/-- ref.go:76 -/
def octroiref09_Rib_Put_r5 (env : Env) (h : Hp) (K : Env → Hp → Prop) : Prop :=
  rd Try.prog (bop Go.BinOp.geq 3 (Go.Operand.tmp 21) (Go.Operand.const (Go.Value.int Go.IntKind.i64 0)) (env 6) (Go.Value.int Go.IntKind.i64 0)) noHp fun v22_1 =>
  K ((env.set 21 (env 6)).set 22 v22_1) h
@[congr] theorem octroiref09_Rib_Put_r5_congr {env : Env} {h : Hp} {K : Env → Hp → Prop} : octroiref09_Rib_Put_r5 env h K = octroiref09_Rib_Put_r5 env h K := rfl

/-- ref.go:77 (in any order) -/
def octroiref09_Rib_Put_r6 (env : Env) (h : Hp) (K : Env → Hp → Prop) : Prop :=
  nck (env 0) (
  rd Try.prog (Instr.fieldAt 54 (env 0) 1) noHp fun v25_2 =>
  rd Try.prog (Instr.loadAt 39 v25_2) h fun v26_3 =>
  rd Try.prog (Instr.loadAt 27 (env 3)) h fun v28_5 =>
  rd Try.prog (Instr.indexAt 39 v26_3 (env 6)) noHp fun v29_6 =>
  arun Try.prog (Instr.storeAt 27 v29_6 v28_5) h fun _ h1 =>
  (True) ∧
  K (((((((env.set 23 (env 0)).set 24 (env 0)).set 25 v25_2).set 26 v26_3).set 27 (env 6)).set 28 v28_5).set 29 v29_6) h1)
@[congr] theorem octroiref09_Rib_Put_r6_congr {env : Env} {h : Hp} {K : Env → Hp → Prop} : octroiref09_Rib_Put_r6 env h K = octroiref09_Rib_Put_r6 env h K := rfl

/-- ref.go:78 -/
def octroiref09_Rib_Put_r7 (env : Env) (h : Hp) (K : Env → Hp → Prop) : Prop :=
  K (env.set 4 (Go.Value.int Go.IntKind.i64 0)) h
@[congr] theorem octroiref09_Rib_Put_r7_congr {env : Env} {h : Hp} {K : Env → Hp → Prop} : octroiref09_Rib_Put_r7 env h K = octroiref09_Rib_Put_r7 env h K := rfl

/-- ref.go:80 (in any order) -/
def octroiref09_Rib_Put_r8 (env : Env) (h : Hp) (K : Env → Hp → Prop) : Prop :=
  nck (env 0) (
  rd Try.prog (Instr.fieldAt 54 (env 0) 1) noHp fun v32_2 =>
  rd Try.prog (Instr.loadAt 39 v32_2) h fun v33_3 =>
  rd Try.prog (Builtin.len_ #[39] 3 #[v33_3]) h fun v34_4 =>
  nck (env 0) (
  rd Try.prog (Instr.fieldAt 54 (env 0) 0) noHp fun v37_7 =>
  rd Try.prog (Instr.loadAt 3 v37_7) h fun v38_8 =>
  rd Try.prog (bop Go.BinOp.geq 3 (Go.Operand.tmp 34) (Go.Operand.tmp 38) v34_4 v38_8) noHp fun v39_9 =>
  K ((((((((((env.set 30 (env 0)).set 31 (env 0)).set 32 v32_2).set 33 v33_3).set 34 v34_4).set 35 (env 0)).set 36 (env 0)).set 37 v37_7).set 38 v38_8).set 39 v39_9) h))
@[congr] theorem octroiref09_Rib_Put_r8_congr {env : Env} {h : Hp} {K : Env → Hp → Prop} : octroiref09_Rib_Put_r8 env h K = octroiref09_Rib_Put_r8 env h K := rfl

/-- ref.go:81 -/
def octroiref09_Rib_Put_r9 (env : Env) (h : Hp) (K : Env → Hp → Prop) : Prop :=
  nck (env 0) (
  rd Try.prog (Instr.fieldAt 54 (env 0) 2) noHp fun v42_2 =>
  rd Try.prog (Instr.loadAt 3 v42_2) h fun v43_3 =>
  rd Try.prog (bop Go.BinOp.add 3 (Go.Operand.tmp 43) (Go.Operand.const (Go.Value.int Go.IntKind.i64 1)) v43_3 (Go.Value.int Go.IntKind.i64 1)) noHp fun v44_4 =>
  nck (env 0) (
  rd Try.prog (Instr.fieldAt 54 (env 0) 2) noHp fun v46_6 =>
  arun Try.prog (Instr.storeAt 3 v46_6 v44_4) h fun _ h1 =>
  K (((((((env.set 40 (env 0)).set 41 (env 0)).set 42 v42_2).set 43 v43_3).set 44 v44_4).set 45 (env 0)).set 46 v46_6) h1))
@[congr] theorem octroiref09_Rib_Put_r9_congr {env : Env} {h : Hp} {K : Env → Hp → Prop} : octroiref09_Rib_Put_r9 env h K = octroiref09_Rib_Put_r9 env h K := rfl

/-- ref.go:82 -/
def octroiref09_Rib_Put_r10 (env : Env) (h : Hp) (K : Env → Hp → Prop) : Prop :=
  K (env.set 4 (Go.Value.int Go.IntKind.i64 4)) h
@[congr] theorem octroiref09_Rib_Put_r10_congr {env : Env} {h : Hp} {K : Env → Hp → Prop} : octroiref09_Rib_Put_r10 env h K = octroiref09_Rib_Put_r10 env h K := rfl

/-- ref.go:84 -/
def octroiref09_Rib_Put_r11 (env : Env) (h : Hp) (K : Env → Hp → Prop) : Prop :=
  K (env.set 7 (Go.Value.slice none 0 0)) h
@[congr] theorem octroiref09_Rib_Put_r11_congr {env : Env} {h : Hp} {K : Env → Hp → Prop} : octroiref09_Rib_Put_r11 env h K = octroiref09_Rib_Put_r11 env h K := rfl

/-- ref.go:85 -/
def octroiref09_Rib_Put_r12 (env : Env) (h : Hp) (K : Env → Hp → Prop) : Prop :=
  K (env.set 8 (Go.Value.bool false)) h
@[congr] theorem octroiref09_Rib_Put_r12_congr {env : Env} {h : Hp} {K : Env → Hp → Prop} : octroiref09_Rib_Put_r12 env h K = octroiref09_Rib_Put_r12 env h K := rfl

/-- ref.go:86 -/
def octroiref09_Rib_Put_r13 (env : Env) (h : Hp) (K : Env → Hp → Prop) : Prop :=
  K (env.set 9 (Go.Value.int Go.IntKind.i64 0)) h
@[congr] theorem octroiref09_Rib_Put_r13_congr {env : Env} {h : Hp} {K : Env → Hp → Prop} : octroiref09_Rib_Put_r13 env h K = octroiref09_Rib_Put_r13 env h K := rfl

/-- ref.go:86 -/
def octroiref09_Rib_Put_r14 (env : Env) (h : Hp) (K : Env → Hp → Prop) : Prop :=
  nck (env 0) (
  rd Try.prog (Instr.fieldAt 54 (env 0) 1) noHp fun v50_3 =>
  rd Try.prog (Instr.loadAt 39 v50_3) h fun v51_4 =>
  rd Try.prog (Builtin.len_ #[39] 3 #[v51_4]) h fun v52_5 =>
  rd Try.prog (bop Go.BinOp.lss 3 (Go.Operand.tmp 47) (Go.Operand.tmp 52) (env 9) v52_5) noHp fun v53_6 =>
  K (((((((env.set 47 (env 9)).set 48 (env 0)).set 49 (env 0)).set 50 v50_3).set 51 v51_4).set 52 v52_5).set 53 v53_6) h)
@[congr] theorem octroiref09_Rib_Put_r14_congr {env : Env} {h : Hp} {K : Env → Hp → Prop} : octroiref09_Rib_Put_r14 env h K = octroiref09_Rib_Put_r14 env h K := rfl

/-- ref.go:87 (in any order) -/
def octroiref09_Rib_Put_r15 (env : Env) (h : Hp) (K : Env → Hp → Prop) : Prop :=
  rd Try.prog (Instr.loadAt 27 (env 3)) h fun v56_0 =>
  nck (env 0) (
  rd Try.prog (Instr.fieldAt 54 (env 0) 1) noHp fun v59_3 =>
  rd Try.prog (Instr.loadAt 39 v59_3) h fun v60_4 =>
  rd Try.prog (Instr.indexAt 39 v60_4 (env 9)) noHp fun v62_6 =>
  rd Try.prog (Instr.loadAt 27 v62_6) h fun v63_7 =>
  Ok Try.prog 43 #[v56_0, v63_7] h fun v64_8 h1 =>
  (True) ∧
  K ((((((((((env.set 56 v56_0).set 57 (env 0)).set 58 (env 0)).set 59 v59_3).set 60 v60_4).set 61 (env 9)).set 62 v62_6).set 63 v63_7).set 64 v64_8).set 10 v64_8) h1)
@[congr] theorem octroiref09_Rib_Put_r15_congr {env : Env} {h : Hp} {K : Env → Hp → Prop} : octroiref09_Rib_Put_r15 env h K = octroiref09_Rib_Put_r15 env h K := rfl

/-- ref.go:88 -/
def octroiref09_Rib_Put_r16 (env : Env) (h : Hp) (K : Env → Hp → Prop) : Prop :=
  rd Try.prog (Op.unary Go.UnOp.not (env 8)) noHp fun v66_1 =>
  gd (yb v66_1 == some true) (fun h k => k (env 10) h) h fun v68_3 h1 =>
  rd Try.prog (pck v66_1 v68_3 (Go.Value.bool false)) noHp fun v69_4 =>
  K (((((env.set 65 (env 8)).set 66 v66_1).set 67 v66_1).set 68 v68_3).set 69 v69_4) h1
@[congr] theorem octroiref09_Rib_Put_r16_congr {env : Env} {h : Hp} {K : Env → Hp → Prop} : octroiref09_Rib_Put_r16 env h K = octroiref09_Rib_Put_r16 env h K := rfl

/-- ref.go:89 -/
def octroiref09_Rib_Put_r17 (env : Env) (h : Hp) (K : Env → Hp → Prop) : Prop :=
  rd Try.prog (Instr.loadAt 27 (env 3)) h fun v71_1 =>
  arun Try.prog (Instr.buildSlice 39 1 #[(0, v71_1)]) h fun v72_2 h1 =>
  arun Try.prog (Builtin.append_ #[39, 39] 39 #[(env 7), v72_2]) h1 fun v73_3 h2 =>
  K (((((env.set 70 (env 7)).set 71 v71_1).set 72 v72_2).set 73 v73_3).set 7 v73_3) h2
@[congr] theorem octroiref09_Rib_Put_r17_congr {env : Env} {h : Hp} {K : Env → Hp → Prop} : octroiref09_Rib_Put_r17 env h K = octroiref09_Rib_Put_r17 env h K := rfl

/-- ref.go:90 -/
def octroiref09_Rib_Put_r18 (env : Env) (h : Hp) (K : Env → Hp → Prop) : Prop :=
  K (env.set 8 (Go.Value.bool true)) h
@[congr] theorem octroiref09_Rib_Put_r18_congr {env : Env} {h : Hp} {K : Env → Hp → Prop} : octroiref09_Rib_Put_r18 env h K = octroiref09_Rib_Put_r18 env h K := rfl

/-- ref.go:92 -/
def octroiref09_Rib_Put_r19 (env : Env) (h : Hp) (K : Env → Hp → Prop) : Prop :=
  nck (env 0) (
  rd Try.prog (Instr.fieldAt 54 (env 0) 1) noHp fun v77_3 =>
  rd Try.prog (Instr.loadAt 39 v77_3) h fun v78_4 =>
  rd Try.prog (Instr.indexAt 39 v78_4 (env 9)) noHp fun v80_6 =>
  rd Try.prog (Instr.loadAt 27 v80_6) h fun v81_7 =>
  arun Try.prog (Instr.buildSlice 39 1 #[(0, v81_7)]) h fun v82_8 h1 =>
  arun Try.prog (Builtin.append_ #[39, 39] 39 #[(env 7), v82_8]) h1 fun v83_9 h2 =>
  K (((((((((((env.set 74 (env 7)).set 75 (env 0)).set 76 (env 0)).set 77 v77_3).set 78 v78_4).set 79 (env 9)).set 80 v80_6).set 81 v81_7).set 82 v82_8).set 83 v83_9).set 7 v83_9) h2)
@[congr] theorem octroiref09_Rib_Put_r19_congr {env : Env} {h : Hp} {K : Env → Hp → Prop} : octroiref09_Rib_Put_r19 env h K = octroiref09_Rib_Put_r19 env h K := rfl

/-- ref.go:86 -/
def octroiref09_Rib_Put_r20 (env : Env) (h : Hp) (K : Env → Hp → Prop) : Prop :=
  rd Try.prog (bop Go.BinOp.add 3 (Go.Operand.tmp 54) (Go.Operand.const (Go.Value.int Go.IntKind.i64 1)) (env 9) (Go.Value.int Go.IntKind.i64 1)) noHp fun v55_1 =>
  K (((env.set 54 (env 9)).set 55 v55_1).set 9 v55_1) h
@[congr] theorem octroiref09_Rib_Put_r20_congr {env : Env} {h : Hp} {K : Env → Hp → Prop} : octroiref09_Rib_Put_r20 env h K = octroiref09_Rib_Put_r20 env h K := rfl

def octroiref09_Rib_Put_L0 : Den := (sq (sq (rg octroiref09_Rib_Put_r14) (cnd (Go.Operand.tmp 53) (ex .normal) (ex (.exit 0)))) (sq (blk 1 (sq (rg octroiref09_Rib_Put_r15) (sq (sq (rg octroiref09_Rib_Put_r16) (cnd (Go.Operand.tmp 69) (sq (rg octroiref09_Rib_Put_r17) (rg octroiref09_Rib_Put_r18)) (ex .normal))) (rg octroiref09_Rib_Put_r19)))) (rg octroiref09_Rib_Put_r20)))

/-- ref.go:94 -/
def octroiref09_Rib_Put_r21 (env : Env) (h : Hp) (K : Env → Hp → Prop) : Prop :=
  rd Try.prog (Op.unary Go.UnOp.not (env 8)) noHp fun v85_1 =>
  K ((env.set 84 (env 8)).set 85 v85_1) h
@[congr] theorem octroiref09_Rib_Put_r21_congr {env : Env} {h : Hp} {K : Env → Hp → Prop} : octroiref09_Rib_Put_r21 env h K = octroiref09_Rib_Put_r21 env h K := rfl

/-- ref.go:95 -/
def octroiref09_Rib_Put_r22 (env : Env) (h : Hp) (K : Env → Hp → Prop) : Prop :=
  rd Try.prog (Instr.loadAt 27 (env 3)) h fun v87_1 =>
  arun Try.prog (Instr.buildSlice 39 1 #[(0, v87_1)]) h fun v88_2 h1 =>
  arun Try.prog (Builtin.append_ #[39, 39] 39 #[(env 7), v88_2]) h1 fun v89_3 h2 =>
  K (((((env.set 86 (env 7)).set 87 v87_1).set 88 v88_2).set 89 v89_3).set 7 v89_3) h2
@[congr] theorem octroiref09_Rib_Put_r22_congr {env : Env} {h : Hp} {K : Env → Hp → Prop} : octroiref09_Rib_Put_r22 env h K = octroiref09_Rib_Put_r22 env h K := rfl

/-- ref.go:97 -/
def octroiref09_Rib_Put_r23 (env : Env) (h : Hp) (K : Env → Hp → Prop) : Prop :=
  nck (env 0) (
  rd Try.prog (Instr.fieldAt 54 (env 0) 1) noHp fun v93_3 =>
  arun Try.prog (Instr.storeAt 39 v93_3 (env 7)) h fun _ h1 =>
  K ((((env.set 90 (env 0)).set 91 (env 7)).set 92 (env 0)).set 93 v93_3) h1)
@[congr] theorem octroiref09_Rib_Put_r23_congr {env : Env} {h : Hp} {K : Env → Hp → Prop} : octroiref09_Rib_Put_r23 env h K = octroiref09_Rib_Put_r23 env h K := rfl

/-- ref.go:98 -/
def octroiref09_Rib_Put_r24 (env : Env) (h : Hp) (K : Env → Hp → Prop) : Prop :=
  K (env.set 4 (Go.Value.int Go.IntKind.i64 0)) h
@[congr] theorem octroiref09_Rib_Put_r24_congr {env : Env} {h : Hp} {K : Env → Hp → Prop} : octroiref09_Rib_Put_r24 env h K = octroiref09_Rib_Put_r24 env h K := rfl

def octroiref09_Rib_Put_D : Den := (sq (rg octroiref09_Rib_Put_r0) (sq (rg octroiref09_Rib_Put_r1) (sq (sq (rg octroiref09_Rib_Put_r2) (cnd (Go.Operand.tmp 14) (sq (rg octroiref09_Rib_Put_r3) (ex .ret)) (ex .normal))) (sq (rg octroiref09_Rib_Put_r4) (sq (sq (rg octroiref09_Rib_Put_r5) (cnd (Go.Operand.tmp 22) (sq (rg octroiref09_Rib_Put_r6) (sq (rg octroiref09_Rib_Put_r7) (ex .ret))) (ex .normal))) (sq (sq (rg octroiref09_Rib_Put_r8) (cnd (Go.Operand.tmp 39) (sq (rg octroiref09_Rib_Put_r9) (sq (rg octroiref09_Rib_Put_r10) (ex .ret))) (ex .normal))) (sq (rg octroiref09_Rib_Put_r11) (sq (rg octroiref09_Rib_Put_r12) (sq (sq (rg octroiref09_Rib_Put_r13) (blk 0 (lp octroiref09_Rib_Put_L0))) (sq (sq (rg octroiref09_Rib_Put_r21) (cnd (Go.Operand.tmp 85) (rg octroiref09_Rib_Put_r22) (ex .normal))) (sq (rg octroiref09_Rib_Put_r23) (sq (rg octroiref09_Rib_Put_r24) (ex .ret)))))))))))))

theorem octroiref09_Rib_Put_eq : (den Try.prog 94 octroiref09_Rib_Put_code).1 = octroiref09_Rib_Put_D := by kernel_rfl

theorem octroiref09_Rib_Put_ok {args : Array Value} {h : Hp} {Q : Value → Hp → Prop} (hn : args.size ≤ 94) (D : octroiref09_Rib_Put_D (fin Try.prog [(Go.ResultVar.tmp 4)] Q) (env0 args) h) : Ok Try.prog 25 args h Q :=
  ok_of_den progIsOk Try.func25 (c := octroiref09_Rib_Put_code) (by kernel_rfl) hn (by show (den Try.prog 94 octroiref09_Rib_Put_code).1 _ _ _; rw [octroiref09_Rib_Put_eq]; exact D)

/-! ### (*octroi/octroiref09.Rib).Take: function 26 -/
noncomputable def octroiref09_Rib_Take_code : Code := match Try.f26.body with | some c => c | none => .skip

/-- ref.go:102 -/
def octroiref09_Rib_Take_r0 (env : Env) (h : Hp) (K : Env → Hp → Prop) : Prop :=
  arun Try.prog (Instr.box 24 (env 1)) h fun v4_0 h1 =>
  K ((env.set 4 v4_0).set 6 (Go.Value.int Go.IntKind.i64 0)) h1
@[congr] theorem octroiref09_Rib_Take_r0_congr {env : Env} {h : Hp} {K : Env → Hp → Prop} : octroiref09_Rib_Take_r0 env h K = octroiref09_Rib_Take_r0 env h K := rfl

/-- ref.go:103 -/
def octroiref09_Rib_Take_r1 (env : Env) (h : Hp) (K : Env → Hp → Prop) : Prop :=
  rd Try.prog (Instr.loadAt 24 (env 4)) h fun v10_1 =>
  Ok Try.prog 42 #[(env 0), v10_1, (env 2)] h fun v12_3 h1 =>
  K (((((env.set 9 (env 0)).set 10 v10_1).set 11 (env 2)).set 12 v12_3).set 7 v12_3) h1
@[congr] theorem octroiref09_Rib_Take_r1_congr {env : Env} {h : Hp} {K : Env → Hp → Prop} : octroiref09_Rib_Take_r1 env h K = octroiref09_Rib_Take_r1 env h K := rfl

/-- ref.go:104 -/
def octroiref09_Rib_Take_r2 (env : Env) (h : Hp) (K : Env → Hp → Prop) : Prop :=
  rd Try.prog (bop Go.BinOp.lss 3 (Go.Operand.tmp 13) (Go.Operand.const (Go.Value.int Go.IntKind.i64 0)) (env 7) (Go.Value.int Go.IntKind.i64 0)) noHp fun v14_1 =>
  K ((env.set 13 (env 7)).set 14 v14_1) h
@[congr] theorem octroiref09_Rib_Take_r2_congr {env : Env} {h : Hp} {K : Env → Hp → Prop} : octroiref09_Rib_Take_r2 env h K = octroiref09_Rib_Take_r2 env h K := rfl

/-- ref.go:105 -/
def octroiref09_Rib_Take_r3 (env : Env) (h : Hp) (K : Env → Hp → Prop) : Prop :=
  K (env.set 6 (Go.Value.int Go.IntKind.i64 5)) h
@[congr] theorem octroiref09_Rib_Take_r3_congr {env : Env} {h : Hp} {K : Env → Hp → Prop} : octroiref09_Rib_Take_r3 env h K = octroiref09_Rib_Take_r3 env h K := rfl

/-- ref.go:107 -/
def octroiref09_Rib_Take_r4 (env : Env) (h : Hp) (K : Env → Hp → Prop) : Prop :=
  nck (env 0) (
  rd Try.prog (Instr.fieldAt 54 (env 0) 1) noHp fun v17_2 =>
  rd Try.prog (Instr.loadAt 39 v17_2) h fun v18_3 =>
  rd Try.prog (Instr.sliceAt 39 v18_3 none (some (env 7)) none) noHp fun v20_5 =>
  arun Try.prog (Builtin.append_ #[39, 39] 39 #[(Go.Value.slice none 0 0), v20_5]) h fun v21_6 h1 =>
  K ((((((((env.set 15 (env 0)).set 16 (env 0)).set 17 v17_2).set 18 v18_3).set 19 (env 7)).set 20 v20_5).set 21 v21_6).set 8 v21_6) h1)
@[congr] theorem octroiref09_Rib_Take_r4_congr {env : Env} {h : Hp} {K : Env → Hp → Prop} : octroiref09_Rib_Take_r4 env h K = octroiref09_Rib_Take_r4 env h K := rfl

/-- ref.go:108 -/
def octroiref09_Rib_Take_r5 (env : Env) (h : Hp) (K : Env → Hp → Prop) : Prop :=
  nck (env 0) (
  rd Try.prog (Instr.fieldAt 54 (env 0) 1) noHp fun v25_3 =>
  rd Try.prog (Instr.loadAt 39 v25_3) h fun v26_4 =>
  rd Try.prog (bop Go.BinOp.add 3 (Go.Operand.tmp 27) (Go.Operand.const (Go.Value.int Go.IntKind.i64 1)) (env 7) (Go.Value.int Go.IntKind.i64 1)) noHp fun v28_6 =>
  rd Try.prog (Instr.sliceAt 39 v26_4 (some v28_6) none none) noHp fun v29_7 =>
  arun Try.prog (Builtin.append_ #[39, 39] 39 #[(env 8), v29_7]) h fun v30_8 h1 =>
  K ((((((((((env.set 22 (env 8)).set 23 (env 0)).set 24 (env 0)).set 25 v25_3).set 26 v26_4).set 27 (env 7)).set 28 v28_6).set 29 v29_7).set 30 v30_8).set 8 v30_8) h1)
@[congr] theorem octroiref09_Rib_Take_r5_congr {env : Env} {h : Hp} {K : Env → Hp → Prop} : octroiref09_Rib_Take_r5 env h K = octroiref09_Rib_Take_r5 env h K := rfl

/-- ref.go:109 -/
def octroiref09_Rib_Take_r6 (env : Env) (h : Hp) (K : Env → Hp → Prop) : Prop :=
  nck (env 0) (
  rd Try.prog (Instr.fieldAt 54 (env 0) 1) noHp fun v34_3 =>
  arun Try.prog (Instr.storeAt 39 v34_3 (env 8)) h fun _ h1 =>
  K ((((env.set 31 (env 0)).set 32 (env 8)).set 33 (env 0)).set 34 v34_3) h1)
@[congr] theorem octroiref09_Rib_Take_r6_congr {env : Env} {h : Hp} {K : Env → Hp → Prop} : octroiref09_Rib_Take_r6 env h K = octroiref09_Rib_Take_r6 env h K := rfl

/-- ref.go:110 -/
def octroiref09_Rib_Take_r7 (env : Env) (h : Hp) (K : Env → Hp → Prop) : Prop :=
  K (env.set 6 (Go.Value.int Go.IntKind.i64 0)) h
@[congr] theorem octroiref09_Rib_Take_r7_congr {env : Env} {h : Hp} {K : Env → Hp → Prop} : octroiref09_Rib_Take_r7 env h K = octroiref09_Rib_Take_r7 env h K := rfl

def octroiref09_Rib_Take_D : Den := (sq (rg octroiref09_Rib_Take_r0) (sq (rg octroiref09_Rib_Take_r1) (sq (sq (rg octroiref09_Rib_Take_r2) (cnd (Go.Operand.tmp 14) (sq (rg octroiref09_Rib_Take_r3) (ex .ret)) (ex .normal))) (sq (rg octroiref09_Rib_Take_r4) (sq (rg octroiref09_Rib_Take_r5) (sq (rg octroiref09_Rib_Take_r6) (sq (rg octroiref09_Rib_Take_r7) (ex .ret))))))))

theorem octroiref09_Rib_Take_eq : (den Try.prog 35 octroiref09_Rib_Take_code).1 = octroiref09_Rib_Take_D := by kernel_rfl

theorem octroiref09_Rib_Take_ok {args : Array Value} {h : Hp} {Q : Value → Hp → Prop} (hn : args.size ≤ 35) (D : octroiref09_Rib_Take_D (fin Try.prog [(Go.ResultVar.tmp 6)] Q) (env0 args) h) : Ok Try.prog 26 args h Q :=
  ok_of_den progIsOk Try.func26 (c := octroiref09_Rib_Take_code) (by kernel_rfl) hn (by show (den Try.prog 35 octroiref09_Rib_Take_code).1 _ _ _; rw [octroiref09_Rib_Take_eq]; exact D)

/-! ### (*octroi/octroiref09.Rib).Best: function 27 -/
noncomputable def octroiref09_Rib_Best_code : Code := match Try.f27.body with | some c => c | none => .skip

/-- ref.go:114 -/
def octroiref09_Rib_Best_r0 (env : Env) (h : Hp) (K : Env → Hp → Prop) : Prop :=
  arun Try.prog (Instr.box 24 (env 1)) h fun v3_0 h1 =>
  arun Try.prog (Instr.alloc 27 true (Go.Value.tuple #[])) h1 fun v4_1 h2 =>
  K (((env.set 3 v3_0).set 4 v4_1).set 5 (Go.Value.bool false)) h2
@[congr] theorem octroiref09_Rib_Best_r0_congr {env : Env} {h : Hp} {K : Env → Hp → Prop} : octroiref09_Rib_Best_r0 env h K = octroiref09_Rib_Best_r0 env h K := rfl

/-- ref.go:115 -/
def octroiref09_Rib_Best_r1 (env : Env) (h : Hp) (K : Env → Hp → Prop) : Prop :=
  K (env.set 6 (Go.Value.int Go.IntKind.i64 (-1))) h
@[congr] theorem octroiref09_Rib_Best_r1_congr {env : Env} {h : Hp} {K : Env → Hp → Prop} : octroiref09_Rib_Best_r1 env h K = octroiref09_Rib_Best_r1 env h K := rfl

/-- ref.go:116 -/
def octroiref09_Rib_Best_r2 (env : Env) (h : Hp) (K : Env → Hp → Prop) : Prop :=
  K (env.set 7 (Go.Value.int Go.IntKind.i64 0)) h
@[congr] theorem octroiref09_Rib_Best_r2_congr {env : Env} {h : Hp} {K : Env → Hp → Prop} : octroiref09_Rib_Best_r2 env h K = octroiref09_Rib_Best_r2 env h K := rfl

/-- ref.go:116 -/
def octroiref09_Rib_Best_r3 (env : Env) (h : Hp) (K : Env → Hp → Prop) : Prop :=
  nck (env 0) (
  rd Try.prog (Instr.fieldAt 54 (env 0) 1) noHp fun v12_3 =>
  rd Try.prog (Instr.loadAt 39 v12_3) h fun v13_4 =>
  rd Try.prog (Builtin.len_ #[39] 3 #[v13_4]) h fun v14_5 =>
  rd Try.prog (bop Go.BinOp.lss 3 (Go.Operand.tmp 9) (Go.Operand.tmp 14) (env 7) v14_5) noHp fun v15_6 =>
  K (((((((env.set 9 (env 7)).set 10 (env 0)).set 11 (env 0)).set 12 v12_3).set 13 v13_4).set 14 v14_5).set 15 v15_6) h)
@[congr] theorem octroiref09_Rib_Best_r3_congr {env : Env} {h : Hp} {K : Env → Hp → Prop} : octroiref09_Rib_Best_r3 env h K = octroiref09_Rib_Best_r3 env h K := rfl

/-- ref.go:117 (in any order) -/
def octroiref09_Rib_Best_r4 (env : Env) (h : Hp) (K : Env → Hp → Prop) : Prop :=
  nck (env 0) (
  rd Try.prog (Instr.fieldAt 54 (env 0) 1) noHp fun v20_2 =>
  rd Try.prog (Instr.loadAt 39 v20_2) h fun v21_3 =>
  rd Try.prog (Instr.indexAt 39 v21_3 (env 7)) noHp fun v23_5 =>
  rd Try.prog (Instr.fieldAt 27 v23_5 0) noHp fun v24_6 =>
  rd Try.prog (Instr.loadAt 24 v24_6) h fun v25_7 =>
  rd Try.prog (Instr.loadAt 24 (env 3)) h fun v26_8 =>
  rd Try.prog (bop Go.BinOp.neq 24 (Go.Operand.tmp 25) (Go.Operand.tmp 26) v25_7 v26_8) noHp fun v27_9 =>
  K ((((((((((env.set 18 (env 0)).set 19 (env 0)).set 20 v20_2).set 21 v21_3).set 22 (env 7)).set 23 v23_5).set 24 v24_6).set 25 v25_7).set 26 v26_8).set 27 v27_9) h)
@[congr] theorem octroiref09_Rib_Best_r4_congr {env : Env} {h : Hp} {K : Env → Hp → Prop} : octroiref09_Rib_Best_r4 env h K = octroiref09_Rib_Best_r4 env h K := rfl

/-- ref.go:120 -/
def octroiref09_Rib_Best_r5 (env : Env) (h : Hp) (K : Env → Hp → Prop) : Prop :=
  rd Try.prog (bop Go.BinOp.lss 3 (Go.Operand.tmp 28) (Go.Operand.const (Go.Value.int Go.IntKind.i64 0)) (env 6) (Go.Value.int Go.IntKind.i64 0)) noHp fun v29_1 =>
  K ((env.set 28 (env 6)).set 29 v29_1) h
@[congr] theorem octroiref09_Rib_Best_r5_congr {env : Env} {h : Hp} {K : Env → Hp → Prop} : octroiref09_Rib_Best_r5 env h K = octroiref09_Rib_Best_r5 env h K := rfl

/-- ref.go:121 -/
def octroiref09_Rib_Best_r6 (env : Env) (h : Hp) (K : Env → Hp → Prop) : Prop :=
  K ((env.set 30 (env 7)).set 6 (env 7)) h
@[congr] theorem octroiref09_Rib_Best_r6_congr {env : Env} {h : Hp} {K : Env → Hp → Prop} : octroiref09_Rib_Best_r6 env h K = octroiref09_Rib_Best_r6 env h K := rfl

/-- ref.go:123 (in any order) -/
def octroiref09_Rib_Best_r7 (env : Env) (h : Hp) (K : Env → Hp → Prop) : Prop :=
  nck (env 0) (
  rd Try.prog (Instr.fieldAt 54 (env 0) 1) noHp fun v33_2 =>
  rd Try.prog (Instr.loadAt 39 v33_2) h fun v34_3 =>
  rd Try.prog (Instr.indexAt 39 v34_3 (env 7)) noHp fun v36_5 =>
  rd Try.prog (Instr.loadAt 27 v36_5) h fun v37_6 =>
  nck (env 0) (
  rd Try.prog (Instr.fieldAt 54 (env 0) 1) noHp fun v40_9 =>
  rd Try.prog (Instr.loadAt 39 v40_9) h fun v41_10 =>
  rd Try.prog (Instr.indexAt 39 v41_10 (env 6)) noHp fun v43_12 =>
  rd Try.prog (Instr.loadAt 27 v43_12) h fun v44_13 =>
  Ok Try.prog 14 #[v37_6, v44_13] h fun v45_14 h1 =>
  (True) ∧
  K ((((((((((((((((env.set 31 (env 0)).set 32 (env 0)).set 33 v33_2).set 34 v34_3).set 35 (env 7)).set 36 v36_5).set 37 v37_6).set 38 (env 0)).set 39 (env 0)).set 40 v40_9).set 41 v41_10).set 42 (env 6)).set 43 v43_12).set 44 v44_13).set 45 v45_14).set 8 v45_14) h1))
@[congr] theorem octroiref09_Rib_Best_r7_congr {env : Env} {h : Hp} {K : Env → Hp → Prop} : octroiref09_Rib_Best_r7 env h K = octroiref09_Rib_Best_r7 env h K := rfl

/-- ref.go:124 -/
def octroiref09_Rib_Best_r8 (env : Env) (h : Hp) (K : Env → Hp → Prop) : Prop :=
  K (env.set 46 (env 8)) h
@[congr] theorem octroiref09_Rib_Best_r8_congr {env : Env} {h : Hp} {K : Env → Hp → Prop} : octroiref09_Rib_Best_r8 env h K = octroiref09_Rib_Best_r8 env h K := rfl

/-- ref.go:125 -/
def octroiref09_Rib_Best_r9 (env : Env) (h : Hp) (K : Env → Hp → Prop) : Prop :=
  K ((env.set 47 (env 7)).set 6 (env 7)) h
@[congr] theorem octroiref09_Rib_Best_r9_congr {env : Env} {h : Hp} {K : Env → Hp → Prop} : octroiref09_Rib_Best_r9 env h K = octroiref09_Rib_Best_r9 env h K := rfl

/-- ref.go:116 -/
def octroiref09_Rib_Best_r10 (env : Env) (h : Hp) (K : Env → Hp → Prop) : Prop :=
  rd Try.prog (bop Go.BinOp.add 3 (Go.Operand.tmp 16) (Go.Operand.const (Go.Value.int Go.IntKind.i64 1)) (env 7) (Go.Value.int Go.IntKind.i64 1)) noHp fun v17_1 =>
  K (((env.set 16 (env 7)).set 17 v17_1).set 7 v17_1) h
@[congr] theorem octroiref09_Rib_Best_r10_congr {env : Env} {h : Hp} {K : Env → Hp → Prop} : octroiref09_Rib_Best_r10 env h K = octroiref09_Rib_Best_r10 env h K := rfl

def octroiref09_Rib_Best_L0 : Den := (sq (sq (rg octroiref09_Rib_Best_r3) (cnd (Go.Operand.tmp 15) (ex .normal) (ex (.exit 0)))) (sq (blk 1 (sq (sq (rg octroiref09_Rib_Best_r4) (cnd (Go.Operand.tmp 27) (ex (.exit 1)) (ex .normal))) (sq (sq (rg octroiref09_Rib_Best_r5) (cnd (Go.Operand.tmp 29) (rg octroiref09_Rib_Best_r6) (ex .normal))) (sq (rg octroiref09_Rib_Best_r7) (sq (rg octroiref09_Rib_Best_r8) (cnd (Go.Operand.tmp 46) (rg octroiref09_Rib_Best_r9) (ex .normal))))))) (rg octroiref09_Rib_Best_r10)))

/-- ref.go:128 -/
def octroiref09_Rib_Best_r11 (env : Env) (h : Hp) (K : Env → Hp → Prop) : Prop :=
  rd Try.prog (bop Go.BinOp.lss 3 (Go.Operand.tmp 48) (Go.Operand.const (Go.Value.int Go.IntKind.i64 0)) (env 6) (Go.Value.int Go.IntKind.i64 0)) noHp fun v49_1 =>
  K ((env.set 48 (env 6)).set 49 v49_1) h
@[congr] theorem octroiref09_Rib_Best_r11_congr {env : Env} {h : Hp} {K : Env → Hp → Prop} : octroiref09_Rib_Best_r11 env h K = octroiref09_Rib_Best_r11 env h K := rfl

/-- ref.go:129 -/
def octroiref09_Rib_Best_r12 (env : Env) (h : Hp) (K : Env → Hp → Prop) : Prop :=
  rd Try.prog (Instr.build 27 #[]) noHp fun v50_0 =>
  arun Try.prog (Instr.storeAt 27 (env 4) v50_0) h fun _ h1 =>
  K ((env.set 50 v50_0).set 5 (Go.Value.bool false)) h1
@[congr] theorem octroiref09_Rib_Best_r12_congr {env : Env} {h : Hp} {K : Env → Hp → Prop} : octroiref09_Rib_Best_r12 env h K = octroiref09_Rib_Best_r12 env h K := rfl

/-- ref.go:131 -/
def octroiref09_Rib_Best_r13 (env : Env) (h : Hp) (K : Env → Hp → Prop) : Prop :=
  nck (env 0) (
  rd Try.prog (Instr.fieldAt 54 (env 0) 1) noHp fun v53_2 =>
  rd Try.prog (Instr.loadAt 39 v53_2) h fun v54_3 =>
  rd Try.prog (Instr.indexAt 39 v54_3 (env 6)) noHp fun v56_5 =>
  rd Try.prog (Instr.loadAt 27 v56_5) h fun v57_6 =>
  arun Try.prog (Instr.storeAt 27 (env 4) v57_6) h fun _ h1 =>
  K ((((((((env.set 51 (env 0)).set 52 (env 0)).set 53 v53_2).set 54 v54_3).set 55 (env 6)).set 56 v56_5).set 57 v57_6).set 5 (Go.Value.bool true)) h1)
@[congr] theorem octroiref09_Rib_Best_r13_congr {env : Env} {h : Hp} {K : Env → Hp → Prop} : octroiref09_Rib_Best_r13 env h K = octroiref09_Rib_Best_r13 env h K := rfl

def octroiref09_Rib_Best_D : Den := (sq (rg octroiref09_Rib_Best_r0) (sq (rg octroiref09_Rib_Best_r1) (sq (sq (rg octroiref09_Rib_Best_r2) (blk 0 (lp octroiref09_Rib_Best_L0))) (sq (sq (rg octroiref09_Rib_Best_r11) (cnd (Go.Operand.tmp 49) (sq (rg octroiref09_Rib_Best_r12) (ex .ret)) (ex .normal))) (sq (rg octroiref09_Rib_Best_r13) (ex .ret))))))

theorem octroiref09_Rib_Best_eq : (den Try.prog 58 octroiref09_Rib_Best_code).1 = octroiref09_Rib_Best_D := by kernel_rfl

theorem octroiref09_Rib_Best_ok {args : Array Value} {h : Hp} {Q : Value → Hp → Prop} (hn : args.size ≤ 58) (D : octroiref09_Rib_Best_D (fin Try.prog [(Go.ResultVar.cell 4 27), (Go.ResultVar.tmp 5)] Q) (env0 args) h) : Ok Try.prog 27 args h Q :=
  ok_of_den progIsOk Try.func27 (c := octroiref09_Rib_Best_code) (by kernel_rfl) hn (by show (den Try.prog 58 octroiref09_Rib_Best_code).1 _ _ _; rw [octroiref09_Rib_Best_eq]; exact D)

/-! ### (*octroi/octroiref09.Rib).Find: function 28 -/
noncomputable def octroiref09_Rib_Find_code : Code := match Try.f28.body with | some c => c | none => .skip

/-- ref.go:135 -/
def octroiref09_Rib_Find_r0 (env : Env) (h : Hp) (K : Env → Hp → Prop) : Prop :=
  arun Try.prog (Instr.alloc 27 true (Go.Value.tuple #[])) h fun v4_0 h1 =>
  K ((env.set 4 v4_0).set 5 (Go.Value.bool false)) h1
@[congr] theorem octroiref09_Rib_Find_r0_congr {env : Env} {h : Hp} {K : Env → Hp → Prop} : octroiref09_Rib_Find_r0 env h K = octroiref09_Rib_Find_r0 env h K := rfl

/-- ref.go:136 -/
def octroiref09_Rib_Find_r1 (env : Env) (h : Hp) (K : Env → Hp → Prop) : Prop :=
  K (env.set 6 (Go.Value.int Go.IntKind.i64 (-1))) h
@[congr] theorem octroiref09_Rib_Find_r1_congr {env : Env} {h : Hp} {K : Env → Hp → Prop} : octroiref09_Rib_Find_r1 env h K = octroiref09_Rib_Find_r1 env h K := rfl

/-- ref.go:137 -/
def octroiref09_Rib_Find_r2 (env : Env) (h : Hp) (K : Env → Hp → Prop) : Prop :=
  K (env.set 7 (Go.Value.int Go.IntKind.i64 0)) h
@[congr] theorem octroiref09_Rib_Find_r2_congr {env : Env} {h : Hp} {K : Env → Hp → Prop} : octroiref09_Rib_Find_r2 env h K = octroiref09_Rib_Find_r2 env h K := rfl

/-- ref.go:137 -/
def octroiref09_Rib_Find_r3 (env : Env) (h : Hp) (K : Env → Hp → Prop) : Prop :=
  nck (env 0) (
  rd Try.prog (Instr.fieldAt 54 (env 0) 1) noHp fun v14_3 =>
  rd Try.prog (Instr.loadAt 39 v14_3) h fun v15_4 =>
  rd Try.prog (Builtin.len_ #[39] 3 #[v15_4]) h fun v16_5 =>
  rd Try.prog (bop Go.BinOp.lss 3 (Go.Operand.tmp 11) (Go.Operand.tmp 16) (env 7) v16_5) noHp fun v17_6 =>
  K (((((((env.set 11 (env 7)).set 12 (env 0)).set 13 (env 0)).set 14 v14_3).set 15 v15_4).set 16 v16_5).set 17 v17_6) h)
@[congr] theorem octroiref09_Rib_Find_r3_congr {env : Env} {h : Hp} {K : Env → Hp → Prop} : octroiref09_Rib_Find_r3 env h K = octroiref09_Rib_Find_r3 env h K := rfl

/-- ref.go:138 -/
def octroiref09_Rib_Find_r4 (env : Env) (h : Hp) (K : Env → Hp → Prop) : Prop :=
  nck (env 0) (
  rd Try.prog (Instr.fieldAt 54 (env 0) 1) noHp fun v22_2 =>
  rd Try.prog (Instr.loadAt 39 v22_2) h fun v23_3 =>
  rd Try.prog (Instr.indexAt 39 v23_3 (env 7)) noHp fun v25_5 =>
  rd Try.prog (Instr.fieldAt 27 v25_5 0) noHp fun v26_6 =>
  rd Try.prog (Instr.loadAt 24 v26_6) h fun v27_7 =>
  Ok Try.prog 44 #[v27_7, (env 1)] h fun v29_9 h1 =>
  K (((((((((((env.set 20 (env 0)).set 21 (env 0)).set 22 v22_2).set 23 v23_3).set 24 (env 7)).set 25 v25_5).set 26 v26_6).set 27 v27_7).set 28 (env 1)).set 29 v29_9).set 8 v29_9) h1)
@[congr] theorem octroiref09_Rib_Find_r4_congr {env : Env} {h : Hp} {K : Env → Hp → Prop} : octroiref09_Rib_Find_r4 env h K = octroiref09_Rib_Find_r4 env h K := rfl

/-- ref.go:139 (in any order) -/
def octroiref09_Rib_Find_r5 (env : Env) (h : Hp) (K : Env → Hp → Prop) : Prop :=
  gd (yb (env 8) == some true) (fun h k => k (env 6) h) h fun v32_2 h1 =>
  gd (yb (env 8) == some true) (fun h k => rd Try.prog (bop Go.BinOp.lss 3 (Go.Operand.tmp 32) (Go.Operand.const (Go.Value.int Go.IntKind.i64 0)) v32_2 (Go.Value.int Go.IntKind.i64 0)) noHp fun v => k v h) h1 fun v33_3 h2 =>
  gd (yb (env 8) == some true) (fun h k => k v33_3 h) h2 fun v34_4 h3 =>
  gd (yb v34_4 == some false) (fun h k => k (env 0) h) h3 fun v35_5 h4 =>
  gd (yb v34_4 == some false) (fun h k => nck v35_5 (k v35_5 h)) h4 fun v36_6 h5 =>
  gd (yb v34_4 == some false) (fun h k => rd Try.prog (Instr.fieldAt 54 v36_6 1) noHp fun v => k v h) h5 fun v37_7 h6 =>
  gd (yb v34_4 == some false) (fun h k => rd Try.prog (Instr.loadAt 39 v37_7) h fun v => k v h) h6 fun v38_8 h7 =>
  gd (yb v34_4 == some false) (fun h k => k (env 7) h) h7 fun v39_9 h8 =>
  gd (yb v34_4 == some false) (fun h k => rd Try.prog (Instr.indexAt 39 v38_8 v39_9) noHp fun v => k v h) h8 fun v40_10 h9 =>
  gd (yb v34_4 == some false) (fun h k => rd Try.prog (Instr.fieldAt 27 v40_10 0) noHp fun v => k v h) h9 fun v41_11 h10 =>
  gd (yb v34_4 == some false) (fun h k => rd Try.prog (Instr.fieldAt 24 v41_11 1) noHp fun v => k v h) h10 fun v42_12 h11 =>
  gd (yb v34_4 == some false) (fun h k => rd Try.prog (Instr.loadAt 3 v42_12) h fun v => k v h) h11 fun v43_13 h12 =>
  gd (yb v34_4 == some false) (fun h k => k (env 0) h) h12 fun v44_14 h13 =>
  gd (yb v34_4 == some false) (fun h k => nck v44_14 (k v44_14 h)) h13 fun v45_15 h14 =>
  gd (yb v34_4 == some false) (fun h k => rd Try.prog (Instr.fieldAt 54 v45_15 1) noHp fun v => k v h) h14 fun v46_16 h15 =>
  gd (yb v34_4 == some false) (fun h k => rd Try.prog (Instr.loadAt 39 v46_16) h fun v => k v h) h15 fun v47_17 h16 =>
  gd (yb v34_4 == some false) (fun h k => k (env 6) h) h16 fun v48_18 h17 =>
  gd (yb v34_4 == some false) (fun h k => rd Try.prog (Instr.indexAt 39 v47_17 v48_18) noHp fun v => k v h) h17 fun v49_19 h18 =>
  gd (yb v34_4 == some false) (fun h k => rd Try.prog (Instr.fieldAt 27 v49_19 0) noHp fun v => k v h) h18 fun v50_20 h19 =>
  gd (yb v34_4 == some false) (fun h k => rd Try.prog (Instr.fieldAt 24 v50_20 1) noHp fun v => k v h) h19 fun v51_21 h20 =>
  gd (yb v34_4 == some false) (fun h k => rd Try.prog (Instr.loadAt 3 v51_21) h fun v => k v h) h20 fun v52_22 h21 =>
  gd (yb v34_4 == some false) (fun h k => rd Try.prog (bop Go.BinOp.gtr 3 (Go.Operand.tmp 43) (Go.Operand.tmp 52) v43_13 v52_22) noHp fun v => k v h) h21 fun v53_23 h22 =>
  gd (yb (env 8) == some true) (fun h k => rd Try.prog (pck v34_4 (Go.Value.bool true) v53_23) noHp fun v => k v h) h22 fun v54_24 h23 =>
  rd Try.prog (pck (env 8) v54_24 (Go.Value.bool false)) noHp fun v55_25 =>
  K ((((((((((((((((((((((((((env.set 30 (env 8)).set 31 (env 8)).set 32 v32_2).set 33 v33_3).set 34 v34_4).set 35 v35_5).set 36 v36_6).set 37 v37_7).set 38 v38_8).set 39 v39_9).set 40 v40_10).set 41 v41_11).set 42 v42_12).set 43 v43_13).set 44 v44_14).set 45 v45_15).set 46 v46_16).set 47 v47_17).set 48 v48_18).set 49 v49_19).set 50 v50_20).set 51 v51_21).set 52 v52_22).set 53 v53_23).set 54 v54_24).set 55 v55_25) h23
@[congr] theorem octroiref09_Rib_Find_r5_congr {env : Env} {h : Hp} {K : Env → Hp → Prop} : octroiref09_Rib_Find_r5 env h K = octroiref09_Rib_Find_r5 env h K := rfl

/-- ref.go:140 -/
def octroiref09_Rib_Find_r6 (env : Env) (h : Hp) (K : Env → Hp → Prop) : Prop :=
  K ((env.set 56 (env 7)).set 6 (env 7)) h
@[congr] theorem octroiref09_Rib_Find_r6_congr {env : Env} {h : Hp} {K : Env → Hp → Prop} : octroiref09_Rib_Find_r6 env h K = octroiref09_Rib_Find_r6 env h K := rfl

/-- ref.go:137 -/
def octroiref09_Rib_Find_r7 (env : Env) (h : Hp) (K : Env → Hp → Prop) : Prop :=
  rd Try.prog (bop Go.BinOp.add 3 (Go.Operand.tmp 18) (Go.Operand.const (Go.Value.int Go.IntKind.i64 1)) (env 7) (Go.Value.int Go.IntKind.i64 1)) noHp fun v19_1 =>
  K (((env.set 18 (env 7)).set 19 v19_1).set 7 v19_1) h
@[congr] theorem octroiref09_Rib_Find_r7_congr {env : Env} {h : Hp} {K : Env → Hp → Prop} : octroiref09_Rib_Find_r7 env h K = octroiref09_Rib_Find_r7 env h K := rfl

def octroiref09_Rib_Find_L0 : Den := (sq (sq (rg octroiref09_Rib_Find_r3) (cnd (Go.Operand.tmp 17) (ex .normal) (ex (.exit 0)))) (sq (blk 1 (sq (rg octroiref09_Rib_Find_r4) (sq (rg octroiref09_Rib_Find_r5) (cnd (Go.Operand.tmp 55) (rg octroiref09_Rib_Find_r6) (ex .normal))))) (rg octroiref09_Rib_Find_r7)))

/-- ref.go:143 -/
def octroiref09_Rib_Find_r8 (env : Env) (h : Hp) (K : Env → Hp → Prop) : Prop :=
  rd Try.prog (bop Go.BinOp.lss 3 (Go.Operand.tmp 57) (Go.Operand.const (Go.Value.int Go.IntKind.i64 0)) (env 6) (Go.Value.int Go.IntKind.i64 0)) noHp fun v58_1 =>
  K ((env.set 57 (env 6)).set 58 v58_1) h
@[congr] theorem octroiref09_Rib_Find_r8_congr {env : Env} {h : Hp} {K : Env → Hp → Prop} : octroiref09_Rib_Find_r8 env h K = octroiref09_Rib_Find_r8 env h K := rfl

/-- ref.go:144 -/
def octroiref09_Rib_Find_r9 (env : Env) (h : Hp) (K : Env → Hp → Prop) : Prop :=
  rd Try.prog (Instr.build 27 #[]) noHp fun v59_0 =>
  arun Try.prog (Instr.storeAt 27 (env 4) v59_0) h fun _ h1 =>
  K ((env.set 59 v59_0).set 5 (Go.Value.bool false)) h1
@[congr] theorem octroiref09_Rib_Find_r9_congr {env : Env} {h : Hp} {K : Env → Hp → Prop} : octroiref09_Rib_Find_r9 env h K = octroiref09_Rib_Find_r9 env h K := rfl

/-- ref.go:146 -/
def octroiref09_Rib_Find_r10 (env : Env) (h : Hp) (K : Env → Hp → Prop) : Prop :=
  nck (env 0) (
  rd Try.prog (Instr.fieldAt 54 (env 0) 1) noHp fun v64_3 =>
  rd Try.prog (Instr.loadAt 39 v64_3) h fun v65_4 =>
  rd Try.prog (Instr.indexAt 39 v65_4 (env 6)) noHp fun v67_6 =>
  rd Try.prog (Instr.fieldAt 27 v67_6 0) noHp fun v68_7 =>
  rd Try.prog (Instr.loadAt 24 v68_7) h fun v69_8 =>
  Ok Try.prog 27 #[(env 0), v69_8] h fun v70_9 h1 =>
  rd Try.prog (Instr.extract v70_9 0) noHp fun v71_11 =>
  rd Try.prog (Instr.extract v70_9 1) noHp fun v72_12 =>
  arun Try.prog (Instr.alloc 27 true (Go.Value.tuple #[])) h1 fun v9_13 h2 =>
  arun Try.prog (Instr.storeAt 27 v9_13 v71_11) h2 fun _ h3 =>
  K (((((((((((((((env.set 61 (env 0)).set 62 (env 0)).set 63 (env 0)).set 64 v64_3).set 65 v65_4).set 66 (env 6)).set 67 v67_6).set 68 v68_7).set 69 v69_8).set 70 v70_9).set 60 v70_9).set 71 v71_11).set 72 v72_12).set 9 v9_13).set 10 v72_12) h3)
@[congr] theorem octroiref09_Rib_Find_r10_congr {env : Env} {h : Hp} {K : Env → Hp → Prop} : octroiref09_Rib_Find_r10 env h K = octroiref09_Rib_Find_r10 env h K := rfl

/-- ref.go:147 -/
def octroiref09_Rib_Find_r11 (env : Env) (h : Hp) (K : Env → Hp → Prop) : Prop :=
  rd Try.prog (Instr.loadAt 27 (env 9)) h fun v73_0 =>
  arun Try.prog (Instr.storeAt 27 (env 4) v73_0) h fun _ h1 =>
  K (((env.set 73 v73_0).set 74 (env 10)).set 5 (env 10)) h1
@[congr] theorem octroiref09_Rib_Find_r11_congr {env : Env} {h : Hp} {K : Env → Hp → Prop} : octroiref09_Rib_Find_r11 env h K = octroiref09_Rib_Find_r11 env h K := rfl

def octroiref09_Rib_Find_D : Den := (sq (rg octroiref09_Rib_Find_r0) (sq (rg octroiref09_Rib_Find_r1) (sq (sq (rg octroiref09_Rib_Find_r2) (blk 0 (lp octroiref09_Rib_Find_L0))) (sq (sq (rg octroiref09_Rib_Find_r8) (cnd (Go.Operand.tmp 58) (sq (rg octroiref09_Rib_Find_r9) (ex .ret)) (ex .normal))) (sq (rg octroiref09_Rib_Find_r10) (sq (rg octroiref09_Rib_Find_r11) (ex .ret)))))))

theorem octroiref09_Rib_Find_eq : (den Try.prog 75 octroiref09_Rib_Find_code).1 = octroiref09_Rib_Find_D := by kernel_rfl

theorem octroiref09_Rib_Find_ok {args : Array Value} {h : Hp} {Q : Value → Hp → Prop} (hn : args.size ≤ 75) (D : octroiref09_Rib_Find_D (fin Try.prog [(Go.ResultVar.cell 4 27), (Go.ResultVar.tmp 5)] Q) (env0 args) h) : Ok Try.prog 28 args h Q :=
  ok_of_den progIsOk Try.func28 (c := octroiref09_Rib_Find_code) (by kernel_rfl) hn (by show (den Try.prog 75 octroiref09_Rib_Find_code).1 _ _ _; rw [octroiref09_Rib_Find_eq]; exact D)

/-! ### octroi/prefix.Has: function 29 -/
noncomputable def prefix_Has_code : Code := match Try.f29.body with | some c => c | none => .skip

/-- prefix.go:42 -/
def prefix_Has_r0 (env : Env) (h : Hp) (K : Env → Hp → Prop) : Prop :=
  arun Try.prog (Instr.box 24 (env 0)) h fun v2_0 h1 =>
  K ((env.set 2 v2_0).set 4 (Go.Value.bool false)) h1
@[congr] theorem prefix_Has_r0_congr {env : Env} {h : Hp} {K : Env → Hp → Prop} : prefix_Has_r0 env h K = prefix_Has_r0 env h K := rfl

/-- prefix.go:42 (in any order) -/
def prefix_Has_r1 (env : Env) (h : Hp) (K : Env → Hp → Prop) : Prop :=
  rd Try.prog (Instr.loadAt 24 (env 2)) h fun v5_0 =>
  Ok Try.prog 45 #[v5_0] h fun v6_1 h1 =>
  (True) ∧
  gd (yb v6_1 == some true) (fun h k => k (env 1) h) h1 fun v8_3 h2 =>
  gd (yb v6_1 == some true) (fun h k => rd Try.prog (Instr.fieldAt 24 (env 2) 0) noHp fun v => k v h) h2 fun v9_4 h3 =>
  gd (yb v6_1 == some true) (fun h k => rd Try.prog (Instr.loadAt 22 v9_4) h fun v => k v h) h3 fun v10_5 h4 =>
  gd (yb v6_1 == some true) (fun h k => rd Try.prog (bop Go.BinOp.xor 22 (Go.Operand.tmp 8) (Go.Operand.tmp 10) v8_3 v10_5) noHp fun v => k v h) h4 fun v11_6 h5 =>
  gd (yb v6_1 == some true) (fun h k => rd Try.prog (Instr.fieldAt 24 (env 2) 1) noHp fun v => k v h) h5 fun v12_7 h6 =>
  gd (yb v6_1 == some true) (fun h k => rd Try.prog (Instr.loadAt 3 v12_7) h fun v => k v h) h6 fun v13_8 h7 =>
  gd (yb v6_1 == some true) (fun h k => Ok Try.prog 46 #[v13_8] h k) h7 fun v14_9 h8 =>
  (((yb v6_1 == some true) = true → rrun Try.prog (Instr.loadAt 22 v9_4) h8 = some v10_5) ∧ True) ∧
  gd (yb v6_1 == some true) (fun h k => rd Try.prog (bop Go.BinOp.and 22 (Go.Operand.tmp 11) (Go.Operand.tmp 14) v11_6 v14_9) noHp fun v => k v h) h8 fun v15_10 h9 =>
  gd (yb v6_1 == some true) (fun h k => rd Try.prog (bop Go.BinOp.eql 22 (Go.Operand.tmp 15) (Go.Operand.const (Go.Value.int Go.IntKind.u32 0)) v15_10 (Go.Value.int Go.IntKind.u32 0)) noHp fun v => k v h) h9 fun v16_11 h10 =>
  rd Try.prog (pck v6_1 v16_11 (Go.Value.bool false)) noHp fun v17_12 =>
  K ((((((((((((((env.set 5 v5_0).set 6 v6_1).set 7 v6_1).set 8 v8_3).set 9 v9_4).set 10 v10_5).set 11 v11_6).set 12 v12_7).set 13 v13_8).set 14 v14_9).set 15 v15_10).set 16 v16_11).set 17 v17_12).set 4 v17_12) h10
@[congr] theorem prefix_Has_r1_congr {env : Env} {h : Hp} {K : Env → Hp → Prop} : prefix_Has_r1 env h K = prefix_Has_r1 env h K := rfl

def prefix_Has_D : Den := (sq (rg prefix_Has_r0) (sq (rg prefix_Has_r1) (ex .ret)))

theorem prefix_Has_eq : (den Try.prog 18 prefix_Has_code).1 = prefix_Has_D := by kernel_rfl

theorem prefix_Has_ok {args : Array Value} {h : Hp} {Q : Value → Hp → Prop} (hn : args.size ≤ 18) (D : prefix_Has_D (fin Try.prog [(Go.ResultVar.tmp 4)] Q) (env0 args) h) : Ok Try.prog 29 args h Q :=
  ok_of_den progIsOk Try.func29 (c := prefix_Has_code) (by kernel_rfl) hn (by show (den Try.prog 18 prefix_Has_code).1 _ _ _; rw [prefix_Has_eq]; exact D)

/-! ### octroi/octroiref02.May: function 30 -/
noncomputable def octroiref02_May_code : Code := match Try.f30.body with | some c => c | none => .skip

/-- ref.go:36 -/
def octroiref02_May_r0 (env : Env) (h : Hp) (K : Env → Hp → Prop) : Prop :=
  arun Try.prog (Instr.box 24 (env 0)) h fun v1_0 h1 =>
  K ((env.set 1 v1_0).set 2 (Go.Value.bool false)) h1
@[congr] theorem octroiref02_May_r0_congr {env : Env} {h : Hp} {K : Env → Hp → Prop} : octroiref02_May_r0 env h K = octroiref02_May_r0 env h K := rfl

/-- ref.go:37 (in any order) -/
def octroiref02_May_r1 (env : Env) (h : Hp) (K : Env → Hp → Prop) : Prop :=
  rd Try.prog (Instr.fieldAt 24 (env 1) 1) noHp fun v3_0 =>
  rd Try.prog (Instr.loadAt 3 v3_0) h fun v4_1 =>
  rd Try.prog (bop Go.BinOp.geq 3 (Go.Operand.tmp 4) (Go.Operand.const (Go.Value.int Go.IntKind.i64 0)) v4_1 (Go.Value.int Go.IntKind.i64 0)) noHp fun v5_2 =>
  gd (yb v5_2 == some true) (fun h k => rd Try.prog (Instr.fieldAt 24 (env 1) 1) noHp fun v => k v h) h fun v7_4 h1 =>
  gd (yb v5_2 == some true) (fun h k => rd Try.prog (Instr.loadAt 3 v7_4) h fun v => k v h) h1 fun v8_5 h2 =>
  gd (yb v5_2 == some true) (fun h k => rd Try.prog (bop Go.BinOp.leq 3 (Go.Operand.tmp 8) (Go.Operand.const (Go.Value.int Go.IntKind.i64 32)) v8_5 (Go.Value.int Go.IntKind.i64 32)) noHp fun v => k v h) h2 fun v9_6 h3 =>
  rd Try.prog (pck v5_2 v9_6 (Go.Value.bool false)) noHp fun v10_7 =>
  gd (yb v10_7 == some true) (fun h k => rd Try.prog (Instr.fieldAt 24 (env 1) 0) noHp fun v => k v h) h3 fun v12_9 h4 =>
  gd (yb v10_7 == some true) (fun h k => rd Try.prog (Instr.loadAt 22 v12_9) h fun v => k v h) h4 fun v13_10 h5 =>
  gd (yb v10_7 == some true) (fun h k => rd Try.prog (Instr.fieldAt 24 (env 1) 1) noHp fun v => k v h) h5 fun v14_11 h6 =>
  gd (yb v10_7 == some true) (fun h k => rd Try.prog (Instr.loadAt 3 v14_11) h fun v => k v h) h6 fun v15_12 h7 =>
  gd (yb v10_7 == some true) (fun h k => rd Try.prog (Instr.fieldAt 24 (env 1) 0) noHp fun v => k v h) h7 fun v18_13 h8 =>
  gd (yb v10_7 == some true) (fun h k => rd Try.prog (Instr.loadAt 22 v18_13) h fun v => k v h) h8 fun v19_14 h9 =>
  gd (yb v10_7 == some true) (fun h k => Ok Try.prog 47 #[v15_12] h k) h9 fun v16_15 h10 =>
  (((yb v10_7 == some true) = true → rrun Try.prog (Instr.loadAt 22 v18_13) h10 = some v19_14) ∧ ((yb v10_7 == some true) = true → rrun Try.prog (Instr.loadAt 22 v12_9) h10 = some v13_10) ∧ True) ∧
  gd (yb v10_7 == some true) (fun h k => rd Try.prog (bop Go.BinOp.and 22 (Go.Operand.tmp 13) (Go.Operand.tmp 16) v13_10 v16_15) noHp fun v => k v h) h10 fun v17_16 h11 =>
  gd (yb v10_7 == some true) (fun h k => rd Try.prog (bop Go.BinOp.eql 22 (Go.Operand.tmp 17) (Go.Operand.tmp 19) v17_16 v19_14) noHp fun v => k v h) h11 fun v20_17 h12 =>
  rd Try.prog (pck v10_7 v20_17 (Go.Value.bool false)) noHp fun v21_18 =>
  K ((((((((((((((((((((env.set 3 v3_0).set 4 v4_1).set 5 v5_2).set 6 v5_2).set 7 v7_4).set 8 v8_5).set 9 v9_6).set 10 v10_7).set 11 v10_7).set 12 v12_9).set 13 v13_10).set 14 v14_11).set 15 v15_12).set 18 v18_13).set 19 v19_14).set 16 v16_15).set 17 v17_16).set 20 v20_17).set 21 v21_18).set 2 v21_18) h12
@[congr] theorem octroiref02_May_r1_congr {env : Env} {h : Hp} {K : Env → Hp → Prop} : octroiref02_May_r1 env h K = octroiref02_May_r1 env h K := rfl

def octroiref02_May_D : Den := (sq (rg octroiref02_May_r0) (sq (rg octroiref02_May_r1) (ex .ret)))

theorem octroiref02_May_eq : (den Try.prog 22 octroiref02_May_code).1 = octroiref02_May_D := by kernel_rfl

theorem octroiref02_May_ok {args : Array Value} {h : Hp} {Q : Value → Hp → Prop} (hn : args.size ≤ 22) (D : octroiref02_May_D (fin Try.prog [(Go.ResultVar.tmp 2)] Q) (env0 args) h) : Ok Try.prog 30 args h Q :=
  ok_of_den progIsOk Try.func30 (c := octroiref02_May_code) (by kernel_rfl) hn (by show (den Try.prog 22 octroiref02_May_code).1 _ _ _; rw [octroiref02_May_eq]; exact D)

/-! ### octroi/rib.compare: function 31 -/
noncomputable def rib_compare_code : Code := match Try.f31.body with | some c => c | none => .skip

/-- rib.go:20 -/
def rib_compare_r0 (env : Env) (h : Hp) (K : Env → Hp → Prop) : Prop :=
  arun Try.prog (Instr.box 27 (env 0)) h fun v2_0 h1 =>
  arun Try.prog (Instr.box 27 (env 1)) h1 fun v3_1 h2 =>
  K (((env.set 2 v2_0).set 3 v3_1).set 4 (Go.Value.int Go.IntKind.i64 0)) h2
@[congr] theorem rib_compare_r0_congr {env : Env} {h : Hp} {K : Env → Hp → Prop} : rib_compare_r0 env h K = rib_compare_r0 env h K := rfl

/-- rib.go:21 (in any order) -/
def rib_compare_r1 (env : Env) (h : Hp) (K : Env → Hp → Prop) : Prop :=
  rd Try.prog (Instr.fieldAt 27 (env 2) 5) noHp fun v5_0 =>
  rd Try.prog (Instr.loadAt 25 v5_0) h fun v6_1 =>
  rd Try.prog (Instr.fieldAt 27 (env 3) 5) noHp fun v8_2 =>
  rd Try.prog (Instr.loadAt 25 v8_2) h fun v9_3 =>
  rd Try.prog (Instr.fieldAt 27 (env 2) 2) noHp fun v12_4 =>
  rd Try.prog (Instr.loadAt 3 v12_4) h fun v13_5 =>
  rd Try.prog (Instr.fieldAt 27 (env 3) 2) noHp fun v14_6 =>
  rd Try.prog (Instr.loadAt 3 v14_6) h fun v15_7 =>
  rd Try.prog (Instr.fieldAt 27 (env 2) 3) noHp fun v17_8 =>
  rd Try.prog (Instr.loadAt 3 v17_8) h fun v18_9 =>
  rd Try.prog (Instr.fieldAt 27 (env 3) 3) noHp fun v19_10 =>
  rd Try.prog (Instr.loadAt 3 v19_10) h fun v20_11 =>
  rd Try.prog (Instr.fieldAt 27 (env 2) 1) noHp fun v22_12 =>
  rd Try.prog (Instr.loadAt 3 v22_12) h fun v23_13 =>
  rd Try.prog (Instr.fieldAt 27 (env 3) 1) noHp fun v24_14 =>
  rd Try.prog (Instr.loadAt 3 v24_14) h fun v25_15 =>
  rd Try.prog (Instr.fieldAt 27 (env 2) 4) noHp fun v27_16 =>
  rd Try.prog (Instr.loadAt 3 v27_16) h fun v28_17 =>
  rd Try.prog (Instr.fieldAt 27 (env 3) 4) noHp fun v29_18 =>
  rd Try.prog (Instr.loadAt 3 v29_18) h fun v30_19 =>
  rd Try.prog (Instr.fieldAt 27 (env 2) 5) noHp fun v32_20 =>
  rd Try.prog (Instr.loadAt 25 v32_20) h fun v33_21 =>
  rd Try.prog (Instr.fieldAt 27 (env 3) 5) noHp fun v34_22 =>
  rd Try.prog (Instr.loadAt 25 v34_22) h fun v35_23 =>
  Ok Try.prog 15 #[v6_1] h fun v7_24 h1 =>
  (rrun Try.prog (Instr.loadAt 25 v34_22) h1 = some v35_23 ∧ rrun Try.prog (Instr.loadAt 25 v32_20) h1 = some v33_21 ∧ rrun Try.prog (Instr.loadAt 3 v29_18) h1 = some v30_19 ∧ rrun Try.prog (Instr.loadAt 3 v27_16) h1 = some v28_17 ∧ rrun Try.prog (Instr.loadAt 3 v24_14) h1 = some v25_15 ∧ rrun Try.prog (Instr.loadAt 3 v22_12) h1 = some v23_13 ∧ rrun Try.prog (Instr.loadAt 3 v19_10) h1 = some v20_11 ∧ rrun Try.prog (Instr.loadAt 3 v17_8) h1 = some v18_9 ∧ rrun Try.prog (Instr.loadAt 3 v14_6) h1 = some v15_7 ∧ rrun Try.prog (Instr.loadAt 3 v12_4) h1 = some v13_5 ∧ rrun Try.prog (Instr.loadAt 25 v8_2) h1 = some v9_3 ∧ True) ∧
  Ok Try.prog 15 #[v9_3] h1 fun v10_25 h2 =>
  (rrun Try.prog (Instr.loadAt 25 v34_22) h2 = some v35_23 ∧ rrun Try.prog (Instr.loadAt 25 v32_20) h2 = some v33_21 ∧ rrun Try.prog (Instr.loadAt 3 v29_18) h2 = some v30_19 ∧ rrun Try.prog (Instr.loadAt 3 v27_16) h2 = some v28_17 ∧ rrun Try.prog (Instr.loadAt 3 v24_14) h2 = some v25_15 ∧ rrun Try.prog (Instr.loadAt 3 v22_12) h2 = some v23_13 ∧ rrun Try.prog (Instr.loadAt 3 v19_10) h2 = some v20_11 ∧ rrun Try.prog (Instr.loadAt 3 v17_8) h2 = some v18_9 ∧ rrun Try.prog (Instr.loadAt 3 v14_6) h2 = some v15_7 ∧ rrun Try.prog (Instr.loadAt 3 v12_4) h2 = some v13_5 ∧ True) ∧
  Ok Try.prog 49 #[v7_24, v10_25] h2 fun v11_26 h3 =>
  (rrun Try.prog (Instr.loadAt 25 v34_22) h3 = some v35_23 ∧ rrun Try.prog (Instr.loadAt 25 v32_20) h3 = some v33_21 ∧ rrun Try.prog (Instr.loadAt 3 v29_18) h3 = some v30_19 ∧ rrun Try.prog (Instr.loadAt 3 v27_16) h3 = some v28_17 ∧ rrun Try.prog (Instr.loadAt 3 v24_14) h3 = some v25_15 ∧ rrun Try.prog (Instr.loadAt 3 v22_12) h3 = some v23_13 ∧ rrun Try.prog (Instr.loadAt 3 v19_10) h3 = some v20_11 ∧ rrun Try.prog (Instr.loadAt 3 v17_8) h3 = some v18_9 ∧ rrun Try.prog (Instr.loadAt 3 v14_6) h3 = some v15_7 ∧ rrun Try.prog (Instr.loadAt 3 v12_4) h3 = some v13_5 ∧ True) ∧
  Ok Try.prog 49 #[v13_5, v15_7] h3 fun v16_27 h4 =>
  (rrun Try.prog (Instr.loadAt 25 v34_22) h4 = some v35_23 ∧ rrun Try.prog (Instr.loadAt 25 v32_20) h4 = some v33_21 ∧ rrun Try.prog (Instr.loadAt 3 v29_18) h4 = some v30_19 ∧ rrun Try.prog (Instr.loadAt 3 v27_16) h4 = some v28_17 ∧ rrun Try.prog (Instr.loadAt 3 v24_14) h4 = some v25_15 ∧ rrun Try.prog (Instr.loadAt 3 v22_12) h4 = some v23_13 ∧ rrun Try.prog (Instr.loadAt 3 v19_10) h4 = some v20_11 ∧ rrun Try.prog (Instr.loadAt 3 v17_8) h4 = some v18_9 ∧ True) ∧
  Ok Try.prog 49 #[v18_9, v20_11] h4 fun v21_28 h5 =>
  (rrun Try.prog (Instr.loadAt 25 v34_22) h5 = some v35_23 ∧ rrun Try.prog (Instr.loadAt 25 v32_20) h5 = some v33_21 ∧ rrun Try.prog (Instr.loadAt 3 v29_18) h5 = some v30_19 ∧ rrun Try.prog (Instr.loadAt 3 v27_16) h5 = some v28_17 ∧ rrun Try.prog (Instr.loadAt 3 v24_14) h5 = some v25_15 ∧ rrun Try.prog (Instr.loadAt 3 v22_12) h5 = some v23_13 ∧ True) ∧
  Ok Try.prog 49 #[v23_13, v25_15] h5 fun v26_29 h6 =>
  (rrun Try.prog (Instr.loadAt 25 v34_22) h6 = some v35_23 ∧ rrun Try.prog (Instr.loadAt 25 v32_20) h6 = some v33_21 ∧ rrun Try.prog (Instr.loadAt 3 v29_18) h6 = some v30_19 ∧ rrun Try.prog (Instr.loadAt 3 v27_16) h6 = some v28_17 ∧ True) ∧
  Ok Try.prog 49 #[v28_17, v30_19] h6 fun v31_30 h7 =>
  (rrun Try.prog (Instr.loadAt 25 v34_22) h7 = some v35_23 ∧ rrun Try.prog (Instr.loadAt 25 v32_20) h7 = some v33_21 ∧ True) ∧
  Ok Try.prog 50 #[v33_21, v35_23] h7 fun v36_31 h8 =>
  (True) ∧
  arun Try.prog (Instr.buildSlice 92 6 #[(0, v11_26), (1, v16_27), (2, v21_28), (3, v26_29), (4, v31_30), (5, v36_31)]) h8 fun v37_32 h9 =>
  (True) ∧
  Ok Try.prog 48 #[v37_32] h9 fun v38_33 h10 =>
  (True) ∧
  K (((((((((((((((((((((((((((((((((((env.set 5 v5_0).set 6 v6_1).set 8 v8_2).set 9 v9_3).set 12 v12_4).set 13 v13_5).set 14 v14_6).set 15 v15_7).set 17 v17_8).set 18 v18_9).set 19 v19_10).set 20 v20_11).set 22 v22_12).set 23 v23_13).set 24 v24_14).set 25 v25_15).set 27 v27_16).set 28 v28_17).set 29 v29_18).set 30 v30_19).set 32 v32_20).set 33 v33_21).set 34 v34_22).set 35 v35_23).set 7 v7_24).set 10 v10_25).set 11 v11_26).set 16 v16_27).set 21 v21_28).set 26 v26_29).set 31 v31_30).set 36 v36_31).set 37 v37_32).set 38 v38_33).set 4 v38_33) h10
@[congr] theorem rib_compare_r1_congr {env : Env} {h : Hp} {K : Env → Hp → Prop} : rib_compare_r1 env h K = rib_compare_r1 env h K := rfl

def rib_compare_D : Den := (sq (rg rib_compare_r0) (sq (rg rib_compare_r1) (ex .ret)))

theorem rib_compare_eq : (den Try.prog 39 rib_compare_code).1 = rib_compare_D := by kernel_rfl

theorem rib_compare_ok {args : Array Value} {h : Hp} {Q : Value → Hp → Prop} (hn : args.size ≤ 39) (D : rib_compare_D (fin Try.prog [(Go.ResultVar.tmp 4)] Q) (env0 args) h) : Ok Try.prog 31 args h Q :=
  ok_of_den progIsOk Try.func31 (c := rib_compare_code) (by kernel_rfl) hn (by show (den Try.prog 39 rib_compare_code).1 _ _ _; rw [rib_compare_eq]; exact D)

/-! ### octroi/octroiref03.Depth: function 32 -/
noncomputable def octroiref03_Depth_code : Code := match Try.f32.body with | some c => c | none => .skip

/-- ref.go:37 -/
def octroiref03_Depth_r0 (env : Env) (h : Hp) (K : Env → Hp → Prop) : Prop :=
  K (env.set 2 (Go.Value.int Go.IntKind.i64 0)) h
@[congr] theorem octroiref03_Depth_r0_congr {env : Env} {h : Hp} {K : Env → Hp → Prop} : octroiref03_Depth_r0 env h K = octroiref03_Depth_r0 env h K := rfl

/-- ref.go:38 -/
def octroiref03_Depth_r1 (env : Env) (h : Hp) (K : Env → Hp → Prop) : Prop :=
  K (env.set 3 (Go.Value.int Go.IntKind.i64 0)) h
@[congr] theorem octroiref03_Depth_r1_congr {env : Env} {h : Hp} {K : Env → Hp → Prop} : octroiref03_Depth_r1 env h K = octroiref03_Depth_r1 env h K := rfl

/-- ref.go:39 -/
def octroiref03_Depth_r2 (env : Env) (h : Hp) (K : Env → Hp → Prop) : Prop :=
  rd Try.prog (convert 25 3 (env 0)) noHp fun v6_1 =>
  K (((env.set 5 (env 0)).set 6 v6_1).set 4 v6_1) h
@[congr] theorem octroiref03_Depth_r2_congr {env : Env} {h : Hp} {K : Env → Hp → Prop} : octroiref03_Depth_r2 env h K = octroiref03_Depth_r2 env h K := rfl

/-- ref.go:39 -/
def octroiref03_Depth_r3 (env : Env) (h : Hp) (K : Env → Hp → Prop) : Prop :=
  rd Try.prog (bop Go.BinOp.gtr 3 (Go.Operand.tmp 7) (Go.Operand.const (Go.Value.int Go.IntKind.i64 0)) (env 4) (Go.Value.int Go.IntKind.i64 0)) noHp fun v8_1 =>
  K ((env.set 7 (env 4)).set 8 v8_1) h
@[congr] theorem octroiref03_Depth_r3_congr {env : Env} {h : Hp} {K : Env → Hp → Prop} : octroiref03_Depth_r3 env h K = octroiref03_Depth_r3 env h K := rfl

/-- ref.go:40 -/
def octroiref03_Depth_r4 (env : Env) (h : Hp) (K : Env → Hp → Prop) : Prop :=
  rd Try.prog (bop Go.BinOp.rem 3 (Go.Operand.tmp 12) (Go.Operand.const (Go.Value.int Go.IntKind.i64 2)) (env 4) (Go.Value.int Go.IntKind.i64 2)) noHp fun v13_2 =>
  rd Try.prog (bop Go.BinOp.add 3 (Go.Operand.tmp 11) (Go.Operand.tmp 13) (env 3) v13_2) noHp fun v14_3 =>
  K (((((env.set 11 (env 3)).set 12 (env 4)).set 13 v13_2).set 14 v14_3).set 3 v14_3) h
@[congr] theorem octroiref03_Depth_r4_congr {env : Env} {h : Hp} {K : Env → Hp → Prop} : octroiref03_Depth_r4 env h K = octroiref03_Depth_r4 env h K := rfl

/-- ref.go:39 -/
def octroiref03_Depth_r5 (env : Env) (h : Hp) (K : Env → Hp → Prop) : Prop :=
  rd Try.prog (bop Go.BinOp.quo 3 (Go.Operand.tmp 9) (Go.Operand.const (Go.Value.int Go.IntKind.i64 2)) (env 4) (Go.Value.int Go.IntKind.i64 2)) noHp fun v10_1 =>
  K (((env.set 9 (env 4)).set 10 v10_1).set 4 v10_1) h
@[congr] theorem octroiref03_Depth_r5_congr {env : Env} {h : Hp} {K : Env → Hp → Prop} : octroiref03_Depth_r5 env h K = octroiref03_Depth_r5 env h K := rfl

def octroiref03_Depth_L0 : Den := (sq (sq (rg octroiref03_Depth_r3) (cnd (Go.Operand.tmp 8) (ex .normal) (ex (.exit 0)))) (sq (blk 1 (rg octroiref03_Depth_r4)) (rg octroiref03_Depth_r5)))

/-- ref.go:42 -/
def octroiref03_Depth_r6 (env : Env) (h : Hp) (K : Env → Hp → Prop) : Prop :=
  K ((env.set 15 (env 3)).set 2 (env 3)) h
@[congr] theorem octroiref03_Depth_r6_congr {env : Env} {h : Hp} {K : Env → Hp → Prop} : octroiref03_Depth_r6 env h K = octroiref03_Depth_r6 env h K := rfl

def octroiref03_Depth_D : Den := (sq (rg octroiref03_Depth_r0) (sq (rg octroiref03_Depth_r1) (sq (sq (rg octroiref03_Depth_r2) (blk 0 (lp octroiref03_Depth_L0))) (sq (rg octroiref03_Depth_r6) (ex .ret)))))

theorem octroiref03_Depth_eq : (den Try.prog 16 octroiref03_Depth_code).1 = octroiref03_Depth_D := by kernel_rfl

theorem octroiref03_Depth_ok {args : Array Value} {h : Hp} {Q : Value → Hp → Prop} (hn : args.size ≤ 16) (D : octroiref03_Depth_D (fin Try.prog [(Go.ResultVar.tmp 2)] Q) (env0 args) h) : Ok Try.prog 32 args h Q :=
  ok_of_den progIsOk Try.func32 (c := octroiref03_Depth_code) (by kernel_rfl) hn (by show (den Try.prog 16 octroiref03_Depth_code).1 _ _ _; rw [octroiref03_Depth_eq]; exact D)

/-! ### octroi/trie.New: function 33 -/
noncomputable def trie_New_code : Code := match Try.f33.body with | some c => c | none => .skip

/-- trie.go:28 -/
def trie_New_r0 (env : Env) (h : Hp) (K : Env → Hp → Prop) : Prop :=
  K (env.set 2 (Go.Value.pointer none)) h
@[congr] theorem trie_New_r0_congr {env : Env} {h : Hp} {K : Env → Hp → Prop} : trie_New_r0 env h K = trie_New_r0 env h K := rfl

/-- trie.go:28 -/
def trie_New_r1 (env : Env) (h : Hp) (K : Env → Hp → Prop) : Prop :=
  arun Try.prog (Instr.makeSlice 80 (Go.Value.int Go.IntKind.i64 1) (Go.Value.int Go.IntKind.i64 1)) h fun v4_1 h1 =>
  rd Try.prog (Instr.build 82 #[(0, (env 0)), (2, v4_1)]) noHp fun v5_2 =>
  arun Try.prog (Instr.box 82 v5_2) h1 fun v6_3 h2 =>
  K (((((env.set 3 (env 0)).set 4 v4_1).set 5 v5_2).set 6 v6_3).set 2 v6_3) h2
@[congr] theorem trie_New_r1_congr {env : Env} {h : Hp} {K : Env → Hp → Prop} : trie_New_r1 env h K = trie_New_r1 env h K := rfl

def trie_New_D : Den := (sq (rg trie_New_r0) (sq (rg trie_New_r1) (ex .ret)))

theorem trie_New_eq : (den Try.prog 7 trie_New_code).1 = trie_New_D := by kernel_rfl

theorem trie_New_ok {args : Array Value} {h : Hp} {Q : Value → Hp → Prop} (hn : args.size ≤ 7) (D : trie_New_D (fin Try.prog [(Go.ResultVar.tmp 2)] Q) (env0 args) h) : Ok Try.prog 33 args h Q :=
  ok_of_den progIsOk Try.func33 (c := trie_New_code) (by kernel_rfl) hn (by show (den Try.prog 7 trie_New_code).1 _ _ _; rw [trie_New_eq]; exact D)

/-! ### octroi/rib.may: function 34 -/
noncomputable def rib_may_code : Code := match Try.f34.body with | some c => c | none => .skip

/-- rib.go:29 -/
def rib_may_r0 (env : Env) (h : Hp) (K : Env → Hp → Prop) : Prop :=
  arun Try.prog (Instr.box 27 (env 0)) h fun v1_0 h1 =>
  K ((env.set 1 v1_0).set 2 (Go.Value.bool false)) h1
@[congr] theorem rib_may_r0_congr {env : Env} {h : Hp} {K : Env → Hp → Prop} : rib_may_r0 env h K = rib_may_r0 env h K := rfl

/-- rib.go:30 -/
def rib_may_r1 (env : Env) (h : Hp) (K : Env → Hp → Prop) : Prop :=
  rd Try.prog (Instr.fieldAt 27 (env 1) 0) noHp fun v3_0 =>
  rd Try.prog (Instr.loadAt 24 v3_0) h fun v4_1 =>
  Ok Try.prog 45 #[v4_1] h fun v5_2 h1 =>
  gd (yb v5_2 == some true) (fun h k => rd Try.prog (Instr.fieldAt 27 (env 1) 1) noHp fun v => k v h) h1 fun v7_4 h2 =>
  gd (yb v5_2 == some true) (fun h k => rd Try.prog (Instr.loadAt 3 v7_4) h fun v => k v h) h2 fun v8_5 h3 =>
  gd (yb v5_2 == some true) (fun h k => rd Try.prog (bop Go.BinOp.geq 3 (Go.Operand.tmp 8) (Go.Operand.const (Go.Value.int Go.IntKind.i64 0)) v8_5 (Go.Value.int Go.IntKind.i64 0)) noHp fun v => k v h) h3 fun v9_6 h4 =>
  rd Try.prog (pck v5_2 v9_6 (Go.Value.bool false)) noHp fun v10_7 =>
  gd (yb v10_7 == some true) (fun h k => rd Try.prog (Instr.fieldAt 27 (env 1) 1) noHp fun v => k v h) h4 fun v12_9 h5 =>
  gd (yb v10_7 == some true) (fun h k => rd Try.prog (Instr.loadAt 3 v12_9) h fun v => k v h) h5 fun v13_10 h6 =>
  gd (yb v10_7 == some true) (fun h k => rd Try.prog (bop Go.BinOp.lss 3 (Go.Operand.tmp 13) (Go.Operand.const (Go.Value.int Go.IntKind.i64 16)) v13_10 (Go.Value.int Go.IntKind.i64 16)) noHp fun v => k v h) h6 fun v14_11 h7 =>
  rd Try.prog (pck v10_7 v14_11 (Go.Value.bool false)) noHp fun v15_12 =>
  gd (yb v15_12 == some true) (fun h k => rd Try.prog (Instr.fieldAt 27 (env 1) 2) noHp fun v => k v h) h7 fun v17_14 h8 =>
  gd (yb v15_12 == some true) (fun h k => rd Try.prog (Instr.loadAt 3 v17_14) h fun v => k v h) h8 fun v18_15 h9 =>
  gd (yb v15_12 == some true) (fun h k => rd Try.prog (bop Go.BinOp.geq 3 (Go.Operand.tmp 18) (Go.Operand.const (Go.Value.int Go.IntKind.i64 0)) v18_15 (Go.Value.int Go.IntKind.i64 0)) noHp fun v => k v h) h9 fun v19_16 h10 =>
  rd Try.prog (pck v15_12 v19_16 (Go.Value.bool false)) noHp fun v20_17 =>
  gd (yb v20_17 == some true) (fun h k => rd Try.prog (Instr.fieldAt 27 (env 1) 2) noHp fun v => k v h) h10 fun v22_19 h11 =>
  gd (yb v20_17 == some true) (fun h k => rd Try.prog (Instr.loadAt 3 v22_19) h fun v => k v h) h11 fun v23_20 h12 =>
  gd (yb v20_17 == some true) (fun h k => rd Try.prog (bop Go.BinOp.leq 3 (Go.Operand.tmp 23) (Go.Operand.const (Go.Value.int Go.IntKind.i64 255)) v23_20 (Go.Value.int Go.IntKind.i64 255)) noHp fun v => k v h) h12 fun v24_21 h13 =>
  rd Try.prog (pck v20_17 v24_21 (Go.Value.bool false)) noHp fun v25_22 =>
  gd (yb v25_22 == some true) (fun h k => rd Try.prog (Instr.fieldAt 27 (env 1) 3) noHp fun v => k v h) h13 fun v27_24 h14 =>
  gd (yb v25_22 == some true) (fun h k => rd Try.prog (Instr.loadAt 3 v27_24) h fun v => k v h) h14 fun v28_25 h15 =>
  gd (yb v25_22 == some true) (fun h k => rd Try.prog (bop Go.BinOp.geq 3 (Go.Operand.tmp 28) (Go.Operand.const (Go.Value.int Go.IntKind.i64 0)) v28_25 (Go.Value.int Go.IntKind.i64 0)) noHp fun v => k v h) h15 fun v29_26 h16 =>
  rd Try.prog (pck v25_22 v29_26 (Go.Value.bool false)) noHp fun v30_27 =>
  gd (yb v30_27 == some true) (fun h k => rd Try.prog (Instr.fieldAt 27 (env 1) 3) noHp fun v => k v h) h16 fun v32_29 h17 =>
  gd (yb v30_27 == some true) (fun h k => rd Try.prog (Instr.loadAt 3 v32_29) h fun v => k v h) h17 fun v33_30 h18 =>
  gd (yb v30_27 == some true) (fun h k => rd Try.prog (bop Go.BinOp.leq 3 (Go.Operand.tmp 33) (Go.Operand.const (Go.Value.int Go.IntKind.i64 4294967295)) v33_30 (Go.Value.int Go.IntKind.i64 4294967295)) noHp fun v => k v h) h18 fun v34_31 h19 =>
  rd Try.prog (pck v30_27 v34_31 (Go.Value.bool false)) noHp fun v35_32 =>
  gd (yb v35_32 == some true) (fun h k => rd Try.prog (Instr.fieldAt 27 (env 1) 4) noHp fun v => k v h) h19 fun v37_34 h20 =>
  gd (yb v35_32 == some true) (fun h k => rd Try.prog (Instr.loadAt 3 v37_34) h fun v => k v h) h20 fun v38_35 h21 =>
  gd (yb v35_32 == some true) (fun h k => rd Try.prog (bop Go.BinOp.geq 3 (Go.Operand.tmp 38) (Go.Operand.const (Go.Value.int Go.IntKind.i64 0)) v38_35 (Go.Value.int Go.IntKind.i64 0)) noHp fun v => k v h) h21 fun v39_36 h22 =>
  rd Try.prog (pck v35_32 v39_36 (Go.Value.bool false)) noHp fun v40_37 =>
  gd (yb v40_37 == some true) (fun h k => rd Try.prog (Instr.fieldAt 27 (env 1) 4) noHp fun v => k v h) h22 fun v42_39 h23 =>
  gd (yb v40_37 == some true) (fun h k => rd Try.prog (Instr.loadAt 3 v42_39) h fun v => k v h) h23 fun v43_40 h24 =>
  gd (yb v40_37 == some true) (fun h k => rd Try.prog (bop Go.BinOp.leq 3 (Go.Operand.tmp 43) (Go.Operand.const (Go.Value.int Go.IntKind.i64 32)) v43_40 (Go.Value.int Go.IntKind.i64 32)) noHp fun v => k v h) h24 fun v44_41 h25 =>
  rd Try.prog (pck v40_37 v44_41 (Go.Value.bool false)) noHp fun v45_42 =>
  K ((((((((((((((((((((((((((((((((((((((((((((env.set 3 v3_0).set 4 v4_1).set 5 v5_2).set 6 v5_2).set 7 v7_4).set 8 v8_5).set 9 v9_6).set 10 v10_7).set 11 v10_7).set 12 v12_9).set 13 v13_10).set 14 v14_11).set 15 v15_12).set 16 v15_12).set 17 v17_14).set 18 v18_15).set 19 v19_16).set 20 v20_17).set 21 v20_17).set 22 v22_19).set 23 v23_20).set 24 v24_21).set 25 v25_22).set 26 v25_22).set 27 v27_24).set 28 v28_25).set 29 v29_26).set 30 v30_27).set 31 v30_27).set 32 v32_29).set 33 v33_30).set 34 v34_31).set 35 v35_32).set 36 v35_32).set 37 v37_34).set 38 v38_35).set 39 v39_36).set 40 v40_37).set 41 v40_37).set 42 v42_39).set 43 v43_40).set 44 v44_41).set 45 v45_42).set 2 v45_42) h25
@[congr] theorem rib_may_r1_congr {env : Env} {h : Hp} {K : Env → Hp → Prop} : rib_may_r1 env h K = rib_may_r1 env h K := rfl

def rib_may_D : Den := (sq (rg rib_may_r0) (sq (rg rib_may_r1) (ex .ret)))

theorem rib_may_eq : (den Try.prog 46 rib_may_code).1 = rib_may_D := by kernel_rfl

theorem rib_may_ok {args : Array Value} {h : Hp} {Q : Value → Hp → Prop} (hn : args.size ≤ 46) (D : rib_may_D (fin Try.prog [(Go.ResultVar.tmp 2)] Q) (env0 args) h) : Ok Try.prog 34 args h Q :=
  ok_of_den progIsOk Try.func34 (c := rib_may_code) (by kernel_rfl) hn (by show (den Try.prog 46 rib_may_code).1 _ _ _; rw [rib_may_eq]; exact D)

/-! ### (*octroi/trie.Trie).Get: function 35 -/
noncomputable def trie_Trie_Get_code : Code := match Try.f35.body with | some c => c | none => .skip

/-- trie.go:95 -/
def trie_Trie_Get_r0 (env : Env) (h : Hp) (K : Env → Hp → Prop) : Prop :=
  arun Try.prog (Instr.box 24 (env 1)) h fun v3_0 h1 =>
  K (((env.set 3 v3_0).set 4 (Go.Value.int Go.IntKind.i64 0)).set 5 (Go.Value.bool false)) h1
@[congr] theorem trie_Trie_Get_r0_congr {env : Env} {h : Hp} {K : Env → Hp → Prop} : trie_Trie_Get_r0 env h K = trie_Trie_Get_r0 env h K := rfl

/-- trie.go:96 -/
def trie_Trie_Get_r1 (env : Env) (h : Hp) (K : Env → Hp → Prop) : Prop :=
  rd Try.prog (Instr.loadAt 24 (env 3)) h fun v8_1 =>
  Ok Try.prog 51 #[(env 0), v8_1] h fun v9_2 h1 =>
  K ((((env.set 7 (env 0)).set 8 v8_1).set 9 v9_2).set 6 v9_2) h1
@[congr] theorem trie_Trie_Get_r1_congr {env : Env} {h : Hp} {K : Env → Hp → Prop} : trie_Trie_Get_r1 env h K = trie_Trie_Get_r1 env h K := rfl

/-- trie.go:97 -/
def trie_Trie_Get_r2 (env : Env) (h : Hp) (K : Env → Hp → Prop) : Prop :=
  rd Try.prog (bop Go.BinOp.eql 83 (Go.Operand.tmp 10) (Go.Operand.const (Go.Value.pointer none)) (env 6) (Go.Value.pointer none)) noHp fun v11_1 =>
  K ((env.set 10 (env 6)).set 11 v11_1) h
@[congr] theorem trie_Trie_Get_r2_congr {env : Env} {h : Hp} {K : Env → Hp → Prop} : trie_Trie_Get_r2 env h K = trie_Trie_Get_r2 env h K := rfl

/-- trie.go:98 -/
def trie_Trie_Get_r3 (env : Env) (h : Hp) (K : Env → Hp → Prop) : Prop :=
  K ((env.set 4 (Go.Value.int Go.IntKind.i64 0)).set 5 (Go.Value.bool false)) h
@[congr] theorem trie_Trie_Get_r3_congr {env : Env} {h : Hp} {K : Env → Hp → Prop} : trie_Trie_Get_r3 env h K = trie_Trie_Get_r3 env h K := rfl

/-- trie.go:100 -/
def trie_Trie_Get_r4 (env : Env) (h : Hp) (K : Env → Hp → Prop) : Prop :=
  nck (env 6) (
  rd Try.prog (Instr.fieldAt 87 (env 6) 1) noHp fun v14_2 =>
  rd Try.prog (Instr.loadAt 3 v14_2) h fun v15_3 =>
  K ((((((env.set 12 (env 6)).set 13 (env 6)).set 14 v14_2).set 15 v15_3).set 4 v15_3).set 5 (Go.Value.bool true)) h)
@[congr] theorem trie_Trie_Get_r4_congr {env : Env} {h : Hp} {K : Env → Hp → Prop} : trie_Trie_Get_r4 env h K = trie_Trie_Get_r4 env h K := rfl

def trie_Trie_Get_D : Den := (sq (rg trie_Trie_Get_r0) (sq (rg trie_Trie_Get_r1) (sq (sq (rg trie_Trie_Get_r2) (cnd (Go.Operand.tmp 11) (sq (rg trie_Trie_Get_r3) (ex .ret)) (ex .normal))) (sq (rg trie_Trie_Get_r4) (ex .ret)))))

theorem trie_Trie_Get_eq : (den Try.prog 16 trie_Trie_Get_code).1 = trie_Trie_Get_D := by kernel_rfl

theorem trie_Trie_Get_ok {args : Array Value} {h : Hp} {Q : Value → Hp → Prop} (hn : args.size ≤ 16) (D : trie_Trie_Get_D (fin Try.prog [(Go.ResultVar.tmp 4), (Go.ResultVar.tmp 5)] Q) (env0 args) h) : Ok Try.prog 35 args h Q :=
  ok_of_den progIsOk Try.func35 (c := trie_Trie_Get_code) (by kernel_rfl) hn (by show (den Try.prog 16 trie_Trie_Get_code).1 _ _ _; rw [trie_Trie_Get_eq]; exact D)

/-! ### (*octroi/trie.Trie).Put: function 36 -/
noncomputable def trie_Trie_Put_code : Code := match Try.f36.body with | some c => c | none => .skip

/-- trie.go:66 -/
def trie_Trie_Put_r0 (env : Env) (h : Hp) (K : Env → Hp → Prop) : Prop :=
  arun Try.prog (Instr.box 24 (env 1)) h fun v4_0 h1 =>
  K ((env.set 4 v4_0).set 6 (Go.Value.int Go.IntKind.i64 0)) h1
@[congr] theorem trie_Trie_Put_r0_congr {env : Env} {h : Hp} {K : Env → Hp → Prop} : trie_Trie_Put_r0 env h K = trie_Trie_Put_r0 env h K := rfl

/-- trie.go:67 -/
def trie_Trie_Put_r1 (env : Env) (h : Hp) (K : Env → Hp → Prop) : Prop :=
  rd Try.prog (Instr.loadAt 24 (env 4)) h fun v11_1 =>
  Ok Try.prog 51 #[(env 0), v11_1] h fun v12_2 h1 =>
  K ((((env.set 10 (env 0)).set 11 v11_1).set 12 v12_2).set 7 v12_2) h1
@[congr] theorem trie_Trie_Put_r1_congr {env : Env} {h : Hp} {K : Env → Hp → Prop} : trie_Trie_Put_r1 env h K = trie_Trie_Put_r1 env h K := rfl

/-- trie.go:69 -/
def trie_Trie_Put_r2 (env : Env) (h : Hp) (K : Env → Hp → Prop) : Prop :=
  rd Try.prog (Instr.loadAt 24 (env 4)) h fun v14_0 =>
  Ok Try.prog 45 #[v14_0] h fun v15_1 h1 =>
  rd Try.prog (Op.unary Go.UnOp.not v15_1) noHp fun v16_2 =>
  K ((((env.set 14 v14_0).set 15 v15_1).set 16 v16_2).set 13 v16_2) h1
@[congr] theorem trie_Trie_Put_r2_congr {env : Env} {h : Hp} {K : Env → Hp → Prop} : trie_Trie_Put_r2 env h K = trie_Trie_Put_r2 env h K := rfl

/-- trie.go:70 -/
def trie_Trie_Put_r3 (env : Env) (h : Hp) (K : Env → Hp → Prop) : Prop :=
  K (env.set 6 (Go.Value.int Go.IntKind.i64 1)) h
@[congr] theorem trie_Trie_Put_r3_congr {env : Env} {h : Hp} {K : Env → Hp → Prop} : trie_Trie_Put_r3 env h K = trie_Trie_Put_r3 env h K := rfl

/-- trie.go:71 -/
def trie_Trie_Put_r4 (env : Env) (h : Hp) (K : Env → Hp → Prop) : Prop :=
  rd Try.prog (bop Go.BinOp.neq 83 (Go.Operand.tmp 18) (Go.Operand.const (Go.Value.pointer none)) (env 7) (Go.Value.pointer none)) noHp fun v19_1 =>
  K (((env.set 18 (env 7)).set 19 v19_1).set 17 v19_1) h
@[congr] theorem trie_Trie_Put_r4_congr {env : Env} {h : Hp} {K : Env → Hp → Prop} : trie_Trie_Put_r4 env h K = trie_Trie_Put_r4 env h K := rfl

/-- trie.go:72 -/
def trie_Trie_Put_r5 (env : Env) (h : Hp) (K : Env → Hp → Prop) : Prop :=
  nck (env 7) (
  rd Try.prog (Instr.fieldAt 87 (env 7) 1) noHp fun v23_3 =>
  arun Try.prog (Instr.storeAt 3 v23_3 (env 2)) h fun _ h1 =>
  K ((((env.set 20 (env 7)).set 21 (env 2)).set 22 (env 7)).set 23 v23_3) h1)
@[congr] theorem trie_Trie_Put_r5_congr {env : Env} {h : Hp} {K : Env → Hp → Prop} : trie_Trie_Put_r5 env h K = trie_Trie_Put_r5 env h K := rfl

/-- trie.go:73 -/
def trie_Trie_Put_r6 (env : Env) (h : Hp) (K : Env → Hp → Prop) : Prop :=
  K (env.set 6 (Go.Value.int Go.IntKind.i64 0)) h
@[congr] theorem trie_Trie_Put_r6_congr {env : Env} {h : Hp} {K : Env → Hp → Prop} : trie_Trie_Put_r6 env h K = trie_Trie_Put_r6 env h K := rfl

/-- trie.go:74 (in any order) -/
def trie_Trie_Put_r7 (env : Env) (h : Hp) (K : Env → Hp → Prop) : Prop :=
  nck (env 0) (
  rd Try.prog (Instr.fieldAt 82 (env 0) 1) noHp fun v27_2 =>
  rd Try.prog (Instr.loadAt 3 v27_2) h fun v28_3 =>
  nck (env 0) (
  rd Try.prog (Instr.fieldAt 82 (env 0) 0) noHp fun v31_6 =>
  rd Try.prog (Instr.loadAt 3 v31_6) h fun v32_7 =>
  rd Try.prog (bop Go.BinOp.geq 3 (Go.Operand.tmp 28) (Go.Operand.tmp 32) v28_3 v32_7) noHp fun v33_8 =>
  K ((((((((((env.set 25 (env 0)).set 26 (env 0)).set 27 v27_2).set 28 v28_3).set 29 (env 0)).set 30 (env 0)).set 31 v31_6).set 32 v32_7).set 33 v33_8).set 24 v33_8) h))
@[congr] theorem trie_Trie_Put_r7_congr {env : Env} {h : Hp} {K : Env → Hp → Prop} : trie_Trie_Put_r7 env h K = trie_Trie_Put_r7 env h K := rfl

/-- trie.go:75 -/
def trie_Trie_Put_r8 (env : Env) (h : Hp) (K : Env → Hp → Prop) : Prop :=
  K (env.set 6 (Go.Value.int Go.IntKind.i64 4)) h
@[congr] theorem trie_Trie_Put_r8_congr {env : Env} {h : Hp} {K : Env → Hp → Prop} : trie_Trie_Put_r8 env h K = trie_Trie_Put_r8 env h K := rfl

/-- trie.go:77 -/
def trie_Trie_Put_r9 (env : Env) (h : Hp) (K : Env → Hp → Prop) : Prop :=
  rd Try.prog (Instr.loadAt 24 (env 4)) h fun v36_1 =>
  Ok Try.prog 52 #[(env 0), v36_1, (Go.Value.bool true)] h fun v37_2 h1 =>
  rd Try.prog (Instr.extract v37_2 0) noHp fun v38_4 =>
  rd Try.prog (Instr.extract v37_2 1) noHp fun v39_5 =>
  K ((((((((env.set 35 (env 0)).set 36 v36_1).set 37 v37_2).set 34 v37_2).set 38 v38_4).set 39 v39_5).set 8 v38_4).set 9 v39_5) h1
@[congr] theorem trie_Trie_Put_r9_congr {env : Env} {h : Hp} {K : Env → Hp → Prop} : trie_Trie_Put_r9 env h K = trie_Trie_Put_r9 env h K := rfl

/-- trie.go:78 (in any order) -/
def trie_Trie_Put_r10 (env : Env) (h : Hp) (K : Env → Hp → Prop) : Prop :=
  nck (env 0) (
  rd Try.prog (Instr.fieldAt 82 (env 0) 2) noHp fun v42_2 =>
  rd Try.prog (Instr.loadAt 80 v42_2) h fun v43_3 =>
  nck (env 0) (
  rd Try.prog (Instr.fieldAt 82 (env 0) 2) noHp fun v47_7 =>
  rd Try.prog (Instr.loadAt 80 v47_7) h fun v48_8 =>
  rd Try.prog (Instr.indexAt 80 v43_3 (env 8)) noHp fun v51_11 =>
  rd Try.prog (Instr.fieldAt 87 v51_11 1) noHp fun v52_12 =>
  arun Try.prog (Instr.storeAt 3 v52_12 (env 2)) h fun _ h1 =>
  (True) ∧
  rd Try.prog (Instr.indexAt 80 v48_8 (env 8)) noHp fun v53_14 =>
  rd Try.prog (Instr.fieldAt 87 v53_14 2) noHp fun v54_15 =>
  arun Try.prog (Instr.storeAt 4 v54_15 (Go.Value.bool true)) h1 fun _ h2 =>
  (True) ∧
  K (((((((((((((((env.set 40 (env 0)).set 41 (env 0)).set 42 v42_2).set 43 v43_3).set 44 (env 8)).set 45 (env 0)).set 46 (env 0)).set 47 v47_7).set 48 v48_8).set 49 (env 8)).set 50 (env 2)).set 51 v51_11).set 52 v52_12).set 53 v53_14).set 54 v54_15) h2))
@[congr] theorem trie_Trie_Put_r10_congr {env : Env} {h : Hp} {K : Env → Hp → Prop} : trie_Trie_Put_r10 env h K = trie_Trie_Put_r10 env h K := rfl

/-- trie.go:79 -/
def trie_Trie_Put_r11 (env : Env) (h : Hp) (K : Env → Hp → Prop) : Prop :=
  nck (env 0) (
  rd Try.prog (Instr.fieldAt 82 (env 0) 1) noHp fun v57_2 =>
  rd Try.prog (Instr.loadAt 3 v57_2) h fun v58_3 =>
  rd Try.prog (bop Go.BinOp.add 3 (Go.Operand.tmp 58) (Go.Operand.const (Go.Value.int Go.IntKind.i64 1)) v58_3 (Go.Value.int Go.IntKind.i64 1)) noHp fun v59_4 =>
  nck (env 0) (
  rd Try.prog (Instr.fieldAt 82 (env 0) 1) noHp fun v61_6 =>
  arun Try.prog (Instr.storeAt 3 v61_6 v59_4) h fun _ h1 =>
  K (((((((env.set 55 (env 0)).set 56 (env 0)).set 57 v57_2).set 58 v58_3).set 59 v59_4).set 60 (env 0)).set 61 v61_6) h1))
@[congr] theorem trie_Trie_Put_r11_congr {env : Env} {h : Hp} {K : Env → Hp → Prop} : trie_Trie_Put_r11 env h K = trie_Trie_Put_r11 env h K := rfl

/-- trie.go:80 -/
def trie_Trie_Put_r12 (env : Env) (h : Hp) (K : Env → Hp → Prop) : Prop :=
  K (env.set 6 (Go.Value.int Go.IntKind.i64 0)) h
@[congr] theorem trie_Trie_Put_r12_congr {env : Env} {h : Hp} {K : Env → Hp → Prop} : trie_Trie_Put_r12 env h K = trie_Trie_Put_r12 env h K := rfl

def trie_Trie_Put_D : Den := (sq (rg trie_Trie_Put_r0) (sq (rg trie_Trie_Put_r1) (sq (blk 0 (sq (rg trie_Trie_Put_r2) (cnd (Go.Operand.tmp 13) (sq (rg trie_Trie_Put_r3) (ex .ret)) (sq (rg trie_Trie_Put_r4) (cnd (Go.Operand.tmp 17) (sq (rg trie_Trie_Put_r5) (sq (rg trie_Trie_Put_r6) (ex .ret))) (sq (rg trie_Trie_Put_r7) (cnd (Go.Operand.tmp 24) (sq (rg trie_Trie_Put_r8) (ex .ret)) (ex .normal)))))))) (sq (rg trie_Trie_Put_r9) (sq (rg trie_Trie_Put_r10) (sq (rg trie_Trie_Put_r11) (sq (rg trie_Trie_Put_r12) (ex .ret))))))))

theorem trie_Trie_Put_eq : (den Try.prog 62 trie_Trie_Put_code).1 = trie_Trie_Put_D := by kernel_rfl

theorem trie_Trie_Put_ok {args : Array Value} {h : Hp} {Q : Value → Hp → Prop} (hn : args.size ≤ 62) (D : trie_Trie_Put_D (fin Try.prog [(Go.ResultVar.tmp 6)] Q) (env0 args) h) : Ok Try.prog 36 args h Q :=
  ok_of_den progIsOk Try.func36 (c := trie_Trie_Put_code) (by kernel_rfl) hn (by show (den Try.prog 62 trie_Trie_Put_code).1 _ _ _; rw [trie_Trie_Put_eq]; exact D)

/-! ### (*octroi/trie.Trie).All: function 37 -/
noncomputable def trie_Trie_All_code : Code := match Try.f37.body with | some c => c | none => .skip

/-- trie.go:134 -/
def trie_Trie_All_r0 (env : Env) (h : Hp) (K : Env → Hp → Prop) : Prop :=
  K (env.set 2 (Go.Value.slice none 0 0)) h
@[congr] theorem trie_Trie_All_r0_congr {env : Env} {h : Hp} {K : Env → Hp → Prop} : trie_Trie_All_r0 env h K = trie_Trie_All_r0 env h K := rfl

/-- trie.go:134 -/
def trie_Trie_All_r1 (env : Env) (h : Hp) (K : Env → Hp → Prop) : Prop :=
  rd Try.prog (Instr.build 24 #[]) noHp fun v4_1 =>
  Ok Try.prog 53 #[(env 0), (Go.Value.slice none 0 0), (Go.Value.int Go.IntKind.i64 0), v4_1] h fun v5_2 h1 =>
  K ((((env.set 3 (env 0)).set 4 v4_1).set 5 v5_2).set 2 v5_2) h1
@[congr] theorem trie_Trie_All_r1_congr {env : Env} {h : Hp} {K : Env → Hp → Prop} : trie_Trie_All_r1 env h K = trie_Trie_All_r1 env h K := rfl

def trie_Trie_All_D : Den := (sq (rg trie_Trie_All_r0) (sq (rg trie_Trie_All_r1) (ex .ret)))

theorem trie_Trie_All_eq : (den Try.prog 6 trie_Trie_All_code).1 = trie_Trie_All_D := by kernel_rfl

theorem trie_Trie_All_ok {args : Array Value} {h : Hp} {Q : Value → Hp → Prop} (hn : args.size ≤ 6) (D : trie_Trie_All_D (fin Try.prog [(Go.ResultVar.tmp 2)] Q) (env0 args) h) : Ok Try.prog 37 args h Q :=
  ok_of_den progIsOk Try.func37 (c := trie_Trie_All_code) (by kernel_rfl) hn (by show (den Try.prog 6 trie_Trie_All_code).1 _ _ _; rw [trie_Trie_All_eq]; exact D)

/-! ### (*octroi/rib.Rib).of: function 38 -/
noncomputable def rib_Rib_of_code : Code := match Try.f38.body with | some c => c | none => .skip

/-- rib.go:86 -/
def rib_Rib_of_r0 (env : Env) (h : Hp) (K : Env → Hp → Prop) : Prop :=
  arun Try.prog (Instr.box 24 (env 1)) h fun v3_0 h1 =>
  K ((env.set 3 v3_0).set 4 (Go.Value.slice none 0 0)) h1
@[congr] theorem rib_Rib_of_r0_congr {env : Env} {h : Hp} {K : Env → Hp → Prop} : rib_Rib_of_r0 env h K = rib_Rib_of_r0 env h K := rfl

/-- rib.go:87 -/
def rib_Rib_of_r1 (env : Env) (h : Hp) (K : Env → Hp → Prop) : Prop :=
  K (env.set 5 (Go.Value.slice none 0 0)) h
@[congr] theorem rib_Rib_of_r1_congr {env : Env} {h : Hp} {K : Env → Hp → Prop} : rib_Rib_of_r1 env h K = rib_Rib_of_r1 env h K := rfl

/-- rib.go:88 -/
def rib_Rib_of_r2 (env : Env) (h : Hp) (K : Env → Hp → Prop) : Prop :=
  K (env.set 9 (Go.Value.int Go.IntKind.i64 0)) h
@[congr] theorem rib_Rib_of_r2_congr {env : Env} {h : Hp} {K : Env → Hp → Prop} : rib_Rib_of_r2 env h K = rib_Rib_of_r2 env h K := rfl

/-- rib.go:88 -/
def rib_Rib_of_r3 (env : Env) (h : Hp) (K : Env → Hp → Prop) : Prop :=
  rd Try.prog (bop Go.BinOp.lss 3 (Go.Operand.tmp 9) (Go.Operand.const (Go.Value.int Go.IntKind.i64 16)) (env 9) (Go.Value.int Go.IntKind.i64 16)) noHp fun v10_0 =>
  K (env.set 10 v10_0) h
@[congr] theorem rib_Rib_of_r3_congr {env : Env} {h : Hp} {K : Env → Hp → Prop} : rib_Rib_of_r3 env h K = rib_Rib_of_r3 env h K := rfl

/-- rib.go:88 -/
def rib_Rib_of_r4 (env : Env) (h : Hp) (K : Env → Hp → Prop) : Prop :=
  K ((env.set 11 (env 9)).set 6 (env 9)) h
@[congr] theorem rib_Rib_of_r4_congr {env : Env} {h : Hp} {K : Env → Hp → Prop} : rib_Rib_of_r4 env h K = rib_Rib_of_r4 env h K := rfl

/-- rib.go:89 (in any order) -/
def rib_Rib_of_r5 (env : Env) (h : Hp) (K : Env → Hp → Prop) : Prop :=
  nck (env 0) (
  rd Try.prog (Instr.fieldAt 63 (env 0) 2) noHp fun v15_2 =>
  rd Try.prog (Instr.loadAt 59 v15_2) h fun v16_3 =>
  rd Try.prog (Instr.loadAt 24 (env 3)) h fun v17_4 =>
  rd Try.prog (Instr.build 65 #[(0, v17_4), (1, (env 6))]) noHp fun v19_6 =>
  rd Try.prog (Instr.lookup 59 v16_3 v19_6 true) h fun v20_7 =>
  rd Try.prog (Instr.extract v20_7 0) noHp fun v21_9 =>
  rd Try.prog (Instr.extract v20_7 1) noHp fun v22_10 =>
  arun Try.prog (Instr.alloc 27 true (Go.Value.tuple #[])) h fun v7_11 h1 =>
  (rrun Try.prog (Instr.lookup 59 v16_3 v19_6 true) h1 = some v20_7 ∧ rrun Try.prog (Instr.loadAt 24 (env 3)) h1 = some v17_4 ∧ rrun Try.prog (Instr.loadAt 59 v15_2) h1 = some v16_3 ∧ True) ∧
  arun Try.prog (Instr.storeAt 27 v7_11 v21_9) h1 fun _ h2 =>
  (True) ∧
  K (((((((((((((env.set 13 (env 0)).set 14 (env 0)).set 15 v15_2).set 16 v16_3).set 17 v17_4).set 18 (env 6)).set 19 v19_6).set 20 v20_7).set 12 v20_7).set 21 v21_9).set 22 v22_10).set 7 v7_11).set 8 v22_10) h2)
@[congr] theorem rib_Rib_of_r5_congr {env : Env} {h : Hp} {K : Env → Hp → Prop} : rib_Rib_of_r5 env h K = rib_Rib_of_r5 env h K := rfl

/-- rib.go:89 -/
def rib_Rib_of_r6 (env : Env) (h : Hp) (K : Env → Hp → Prop) : Prop :=
  K (env.set 23 (env 8)) h
@[congr] theorem rib_Rib_of_r6_congr {env : Env} {h : Hp} {K : Env → Hp → Prop} : rib_Rib_of_r6 env h K = rib_Rib_of_r6 env h K := rfl

/-- rib.go:90 -/
def rib_Rib_of_r7 (env : Env) (h : Hp) (K : Env → Hp → Prop) : Prop :=
  rd Try.prog (Instr.loadAt 27 (env 7)) h fun v25_1 =>
  arun Try.prog (Instr.buildSlice 39 1 #[(0, v25_1)]) h fun v26_2 h1 =>
  arun Try.prog (Builtin.append_ #[39, 39] 39 #[(env 5), v26_2]) h1 fun v27_3 h2 =>
  K (((((env.set 24 (env 5)).set 25 v25_1).set 26 v26_2).set 27 v27_3).set 5 v27_3) h2
@[congr] theorem rib_Rib_of_r7_congr {env : Env} {h : Hp} {K : Env → Hp → Prop} : rib_Rib_of_r7 env h K = rib_Rib_of_r7 env h K := rfl

/-- rib.go:88 -/
def rib_Rib_of_r8 (env : Env) (h : Hp) (K : Env → Hp → Prop) : Prop :=
  rd Try.prog (bop Go.BinOp.add 3 (Go.Operand.tmp 9) (Go.Operand.const (Go.Value.int Go.IntKind.i64 1)) (env 9) (Go.Value.int Go.IntKind.i64 1)) noHp fun v28_0 =>
  K ((env.set 28 v28_0).set 9 v28_0) h
@[congr] theorem rib_Rib_of_r8_congr {env : Env} {h : Hp} {K : Env → Hp → Prop} : rib_Rib_of_r8 env h K = rib_Rib_of_r8 env h K := rfl

def rib_Rib_of_L0 : Den := (sq (rg rib_Rib_of_r3) (sq (cnd (Go.Operand.tmp 10) (ex .normal) (ex (.exit 0))) (sq (blk 1 (sq (rg rib_Rib_of_r4) (sq (rg rib_Rib_of_r5) (sq (rg rib_Rib_of_r6) (cnd (Go.Operand.tmp 23) (rg rib_Rib_of_r7) (ex .normal)))))) (rg rib_Rib_of_r8))))

/-- rib.go:93 -/
def rib_Rib_of_r9 (env : Env) (h : Hp) (K : Env → Hp → Prop) : Prop :=
  K ((env.set 29 (env 5)).set 4 (env 5)) h
@[congr] theorem rib_Rib_of_r9_congr {env : Env} {h : Hp} {K : Env → Hp → Prop} : rib_Rib_of_r9 env h K = rib_Rib_of_r9 env h K := rfl

def rib_Rib_of_D : Den := (sq (rg rib_Rib_of_r0) (sq (rg rib_Rib_of_r1) (sq (sq (rg rib_Rib_of_r2) (blk 0 (lp rib_Rib_of_L0))) (sq (rg rib_Rib_of_r9) (ex .ret)))))

theorem rib_Rib_of_eq : (den Try.prog 30 rib_Rib_of_code).1 = rib_Rib_of_D := by kernel_rfl

theorem rib_Rib_of_ok {args : Array Value} {h : Hp} {Q : Value → Hp → Prop} (hn : args.size ≤ 30) (D : rib_Rib_of_D (fin Try.prog [(Go.ResultVar.tmp 4)] Q) (env0 args) h) : Ok Try.prog 38 args h Q :=
  ok_of_den progIsOk Try.func38 (c := rib_Rib_of_code) (by kernel_rfl) hn (by show (den Try.prog 30 rib_Rib_of_code).1 _ _ _; rw [rib_Rib_of_eq]; exact D)

end Go.Proofs.Ytmbhlbohbpepaaa
