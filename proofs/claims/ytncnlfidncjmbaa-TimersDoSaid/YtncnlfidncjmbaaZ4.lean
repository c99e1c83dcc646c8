/- Printed by wip/kit/gen.py out of the translation: formulas of Go functions, and that they are these functions'. -/
import Derived.Test.YtncnlfidncjmbaaChecked
import Derived.Test.YtncnlfidncjmbaaZ3

namespace Go.Proofs.Ytncnlfidncjmbaa
open Go

set_option maxRecDepth 100000
set_option linter.unusedVariables false

/-! ### slices.partitionCmpFunc[octroi/api.Timer]: function 32 -/
noncomputable def slices_partitionCmpFunc_api_Timer_code : Code := match Try.f32.body with | some c => c | none => .skip

/-- zsortanyfunc.go:135 -/
def slices_partitionCmpFunc_api_Timer_r0 (env : Env) (h : Hp) (K : Env → Hp → Prop) : Prop :=
  K ((env.set 10 (Go.Value.int Go.IntKind.i64 0)).set 11 (Go.Value.bool false)) h
@[congr] theorem slices_partitionCmpFunc_api_Timer_r0_congr {env : Env} {h : Hp} {K : Env → Hp → Prop} : slices_partitionCmpFunc_api_Timer_r0 env h K = slices_partitionCmpFunc_api_Timer_r0 env h K := rfl

/-- zsortanyfunc.go:136 (in any order) -/
def slices_partitionCmpFunc_api_Timer_r1 (env : Env) (h : Hp) (K : Env → Hp → Prop) : Prop :=
  rd Try.prog (Instr.indexAt 27 (env 0) (env 3)) noHp fun v20_6 =>
  rd Try.prog (Instr.loadAt 37 v20_6) h fun v21_7 =>
  rd Try.prog (Instr.indexAt 27 (env 0) (env 1)) noHp fun v24_10 =>
  rd Try.prog (Instr.loadAt 37 v24_10) h fun v25_11 =>
  rd Try.prog (Instr.indexAt 27 (env 0) (env 1)) noHp fun v26_12 =>
  arun Try.prog (Instr.storeAt 37 v26_12 v21_7) h fun _ h1 =>
  (True) ∧
  rd Try.prog (Instr.indexAt 27 (env 0) (env 3)) noHp fun v27_14 =>
  arun Try.prog (Instr.storeAt 37 v27_14 v25_11) h1 fun _ h2 =>
  (True) ∧
  K ((((((((((((((env.set 14 (env 0)).set 15 (env 1)).set 16 (env 0)).set 17 (env 3)).set 18 (env 0)).set 19 (env 3)).set 20 v20_6).set 21 v21_7).set 22 (env 0)).set 23 (env 1)).set 24 v24_10).set 25 v25_11).set 26 v26_12).set 27 v27_14) h2
@[congr] theorem slices_partitionCmpFunc_api_Timer_r1_congr {env : Env} {h : Hp} {K : Env → Hp → Prop} : slices_partitionCmpFunc_api_Timer_r1 env h K = slices_partitionCmpFunc_api_Timer_r1 env h K := rfl

/-- zsortanyfunc.go:137 -/
def slices_partitionCmpFunc_api_Timer_r2 (env : Env) (h : Hp) (K : Env → Hp → Prop) : Prop :=
  rd Try.prog (bop Go.BinOp.add 3 (Go.Operand.tmp 28) (Go.Operand.const (Go.Value.int Go.IntKind.i64 1)) (env 1) (Go.Value.int Go.IntKind.i64 1)) noHp fun v29_1 =>
  rd Try.prog (bop Go.BinOp.sub 3 (Go.Operand.tmp 30) (Go.Operand.const (Go.Value.int Go.IntKind.i64 1)) (env 2) (Go.Value.int Go.IntKind.i64 1)) noHp fun v31_3 =>
  K ((((((env.set 28 (env 1)).set 29 v29_1).set 30 (env 2)).set 31 v31_3).set 12 v29_1).set 13 v31_3) h
@[congr] theorem slices_partitionCmpFunc_api_Timer_r2_congr {env : Env} {h : Hp} {K : Env → Hp → Prop} : slices_partitionCmpFunc_api_Timer_r2 env h K = slices_partitionCmpFunc_api_Timer_r2 env h K := rfl

/-- zsortanyfunc.go:139 (in any order) -/
def slices_partitionCmpFunc_api_Timer_r3 (env : Env) (h : Hp) (K : Env → Hp → Prop) : Prop :=
  rd Try.prog (bop Go.BinOp.leq 3 (Go.Operand.tmp 32) (Go.Operand.tmp 33) (env 12) (env 13)) noHp fun v34_2 =>
  gd (yb v34_2 == some true) (fun h k => k (env 4) h) h fun v36_4 h1 =>
  gd (yb v34_2 == some true) (fun h k => k (env 0) h) h1 fun v37_5 h2 =>
  gd (yb v34_2 == some true) (fun h k => k (env 12) h) h2 fun v38_6 h3 =>
  gd (yb v34_2 == some true) (fun h k => rd Try.prog (Instr.indexAt 27 v37_5 v38_6) noHp fun v => k v h) h3 fun v39_7 h4 =>
  gd (yb v34_2 == some true) (fun h k => rd Try.prog (Instr.loadAt 37 v39_7) h fun v => k v h) h4 fun v40_8 h5 =>
  gd (yb v34_2 == some true) (fun h k => k (env 0) h) h5 fun v41_9 h6 =>
  gd (yb v34_2 == some true) (fun h k => k (env 1) h) h6 fun v42_10 h7 =>
  gd (yb v34_2 == some true) (fun h k => rd Try.prog (Instr.indexAt 27 v41_9 v42_10) noHp fun v => k v h) h7 fun v43_11 h8 =>
  gd (yb v34_2 == some true) (fun h k => rd Try.prog (Instr.loadAt 37 v43_11) h fun v => k v h) h8 fun v44_12 h9 =>
  gd (yb v34_2 == some true) (fun h k => callV Try.prog v36_4 #[v40_8, v44_12] h k) h9 fun v45_13 h10 =>
  (True) ∧
  gd (yb v34_2 == some true) (fun h k => rd Try.prog (bop Go.BinOp.lss 3 (Go.Operand.tmp 45) (Go.Operand.const (Go.Value.int Go.IntKind.i64 0)) v45_13 (Go.Value.int Go.IntKind.i64 0)) noHp fun v => k v h) h10 fun v46_14 h11 =>
  rd Try.prog (pck v34_2 v46_14 (Go.Value.bool false)) noHp fun v47_15 =>
  K ((((((((((((((((env.set 32 (env 12)).set 33 (env 13)).set 34 v34_2).set 35 v34_2).set 36 v36_4).set 37 v37_5).set 38 v38_6).set 39 v39_7).set 40 v40_8).set 41 v41_9).set 42 v42_10).set 43 v43_11).set 44 v44_12).set 45 v45_13).set 46 v46_14).set 47 v47_15) h11
@[congr] theorem slices_partitionCmpFunc_api_Timer_r3_congr {env : Env} {h : Hp} {K : Env → Hp → Prop} : slices_partitionCmpFunc_api_Timer_r3 env h K = slices_partitionCmpFunc_api_Timer_r3 env h K := rfl

/-- zsortanyfunc.go:140 -/
def slices_partitionCmpFunc_api_Timer_r4 (env : Env) (h : Hp) (K : Env → Hp → Prop) : Prop :=
  rd Try.prog (bop Go.BinOp.add 3 (Go.Operand.tmp 48) (Go.Operand.const (Go.Value.int Go.IntKind.i64 1)) (env 12) (Go.Value.int Go.IntKind.i64 1)) noHp fun v49_1 =>
  K (((env.set 48 (env 12)).set 49 v49_1).set 12 v49_1) h
@[congr] theorem slices_partitionCmpFunc_api_Timer_r4_congr {env : Env} {h : Hp} {K : Env → Hp → Prop} : slices_partitionCmpFunc_api_Timer_r4 env h K = slices_partitionCmpFunc_api_Timer_r4 env h K := rfl

def slices_partitionCmpFunc_api_Timer_L0 : Den := (sq (sq (rg slices_partitionCmpFunc_api_Timer_r3) (cnd (Go.Operand.tmp 47) (ex .normal) (ex (.exit 0)))) (blk 1 (rg slices_partitionCmpFunc_api_Timer_r4)))

/-- zsortanyfunc.go:142 (in any order) -/
def slices_partitionCmpFunc_api_Timer_r5 (env : Env) (h : Hp) (K : Env → Hp → Prop) : Prop :=
  rd Try.prog (bop Go.BinOp.leq 3 (Go.Operand.tmp 50) (Go.Operand.tmp 51) (env 12) (env 13)) noHp fun v52_2 =>
  gd (yb v52_2 == some true) (fun h k => k (env 4) h) h fun v54_4 h1 =>
  gd (yb v52_2 == some true) (fun h k => k (env 0) h) h1 fun v55_5 h2 =>
  gd (yb v52_2 == some true) (fun h k => k (env 13) h) h2 fun v56_6 h3 =>
  gd (yb v52_2 == some true) (fun h k => rd Try.prog (Instr.indexAt 27 v55_5 v56_6) noHp fun v => k v h) h3 fun v57_7 h4 =>
  gd (yb v52_2 == some true) (fun h k => rd Try.prog (Instr.loadAt 37 v57_7) h fun v => k v h) h4 fun v58_8 h5 =>
  gd (yb v52_2 == some true) (fun h k => k (env 0) h) h5 fun v59_9 h6 =>
  gd (yb v52_2 == some true) (fun h k => k (env 1) h) h6 fun v60_10 h7 =>
  gd (yb v52_2 == some true) (fun h k => rd Try.prog (Instr.indexAt 27 v59_9 v60_10) noHp fun v => k v h) h7 fun v61_11 h8 =>
  gd (yb v52_2 == some true) (fun h k => rd Try.prog (Instr.loadAt 37 v61_11) h fun v => k v h) h8 fun v62_12 h9 =>
  gd (yb v52_2 == some true) (fun h k => callV Try.prog v54_4 #[v58_8, v62_12] h k) h9 fun v63_13 h10 =>
  (True) ∧
  gd (yb v52_2 == some true) (fun h k => rd Try.prog (bop Go.BinOp.lss 3 (Go.Operand.tmp 63) (Go.Operand.const (Go.Value.int Go.IntKind.i64 0)) v63_13 (Go.Value.int Go.IntKind.i64 0)) noHp fun v => k v h) h10 fun v64_14 h11 =>
  gd (yb v52_2 == some true) (fun h k => rd Try.prog (Op.unary Go.UnOp.not v64_14) noHp fun v => k v h) h11 fun v65_15 h12 =>
  rd Try.prog (pck v52_2 v65_15 (Go.Value.bool false)) noHp fun v66_16 =>
  K (((((((((((((((((env.set 50 (env 12)).set 51 (env 13)).set 52 v52_2).set 53 v52_2).set 54 v54_4).set 55 v55_5).set 56 v56_6).set 57 v57_7).set 58 v58_8).set 59 v59_9).set 60 v60_10).set 61 v61_11).set 62 v62_12).set 63 v63_13).set 64 v64_14).set 65 v65_15).set 66 v66_16) h12
@[congr] theorem slices_partitionCmpFunc_api_Timer_r5_congr {env : Env} {h : Hp} {K : Env → Hp → Prop} : slices_partitionCmpFunc_api_Timer_r5 env h K = slices_partitionCmpFunc_api_Timer_r5 env h K := rfl

/-- zsortanyfunc.go:143 -/
def slices_partitionCmpFunc_api_Timer_r6 (env : Env) (h : Hp) (K : Env → Hp → Prop) : Prop :=
  rd Try.prog (bop Go.BinOp.sub 3 (Go.Operand.tmp 67) (Go.Operand.const (Go.Value.int Go.IntKind.i64 1)) (env 13) (Go.Value.int Go.IntKind.i64 1)) noHp fun v68_1 =>
  K (((env.set 67 (env 13)).set 68 v68_1).set 13 v68_1) h
@[congr] theorem slices_partitionCmpFunc_api_Timer_r6_congr {env : Env} {h : Hp} {K : Env → Hp → Prop} : slices_partitionCmpFunc_api_Timer_r6 env h K = slices_partitionCmpFunc_api_Timer_r6 env h K := rfl

def slices_partitionCmpFunc_api_Timer_L1 : Den := (sq (sq (rg slices_partitionCmpFunc_api_Timer_r5) (cnd (Go.Operand.tmp 66) (ex .normal) (ex (.exit 2)))) (blk 3 (rg slices_partitionCmpFunc_api_Timer_r6)))

/-- zsortanyfunc.go:145 -/
def slices_partitionCmpFunc_api_Timer_r7 (env : Env) (h : Hp) (K : Env → Hp → Prop) : Prop :=
  rd Try.prog (bop Go.BinOp.gtr 3 (Go.Operand.tmp 69) (Go.Operand.tmp 70) (env 12) (env 13)) noHp fun v71_2 =>
  K (((env.set 69 (env 12)).set 70 (env 13)).set 71 v71_2) h
@[congr] theorem slices_partitionCmpFunc_api_Timer_r7_congr {env : Env} {h : Hp} {K : Env → Hp → Prop} : slices_partitionCmpFunc_api_Timer_r7 env h K = slices_partitionCmpFunc_api_Timer_r7 env h K := rfl

/-- zsortanyfunc.go:146 (in any order) -/
def slices_partitionCmpFunc_api_Timer_r8 (env : Env) (h : Hp) (K : Env → Hp → Prop) : Prop :=
  rd Try.prog (Instr.indexAt 27 (env 0) (env 1)) noHp fun v78_6 =>
  rd Try.prog (Instr.loadAt 37 v78_6) h fun v79_7 =>
  rd Try.prog (Instr.indexAt 27 (env 0) (env 13)) noHp fun v82_10 =>
  rd Try.prog (Instr.loadAt 37 v82_10) h fun v83_11 =>
  rd Try.prog (Instr.indexAt 27 (env 0) (env 13)) noHp fun v84_12 =>
  arun Try.prog (Instr.storeAt 37 v84_12 v79_7) h fun _ h1 =>
  (True) ∧
  rd Try.prog (Instr.indexAt 27 (env 0) (env 1)) noHp fun v85_14 =>
  arun Try.prog (Instr.storeAt 37 v85_14 v83_11) h1 fun _ h2 =>
  (True) ∧
  K ((((((((((((((env.set 72 (env 0)).set 73 (env 13)).set 74 (env 0)).set 75 (env 1)).set 76 (env 0)).set 77 (env 1)).set 78 v78_6).set 79 v79_7).set 80 (env 0)).set 81 (env 13)).set 82 v82_10).set 83 v83_11).set 84 v84_12).set 85 v85_14) h2
@[congr] theorem slices_partitionCmpFunc_api_Timer_r8_congr {env : Env} {h : Hp} {K : Env → Hp → Prop} : slices_partitionCmpFunc_api_Timer_r8 env h K = slices_partitionCmpFunc_api_Timer_r8 env h K := rfl

/-- zsortanyfunc.go:147 -/
def slices_partitionCmpFunc_api_Timer_r9 (env : Env) (h : Hp) (K : Env → Hp → Prop) : Prop :=
  K (((env.set 86 (env 13)).set 10 (env 13)).set 11 (Go.Value.bool true)) h
@[congr] theorem slices_partitionCmpFunc_api_Timer_r9_congr {env : Env} {h : Hp} {K : Env → Hp → Prop} : slices_partitionCmpFunc_api_Timer_r9 env h K = slices_partitionCmpFunc_api_Timer_r9 env h K := rfl

/-- zsortanyfunc.go:149 (in any order) -/
def slices_partitionCmpFunc_api_Timer_r10 (env : Env) (h : Hp) (K : Env → Hp → Prop) : Prop :=
  rd Try.prog (Instr.indexAt 27 (env 0) (env 13)) noHp fun v93_6 =>
  rd Try.prog (Instr.loadAt 37 v93_6) h fun v94_7 =>
  rd Try.prog (Instr.indexAt 27 (env 0) (env 12)) noHp fun v97_10 =>
  rd Try.prog (Instr.loadAt 37 v97_10) h fun v98_11 =>
  rd Try.prog (Instr.indexAt 27 (env 0) (env 12)) noHp fun v99_12 =>
  arun Try.prog (Instr.storeAt 37 v99_12 v94_7) h fun _ h1 =>
  (True) ∧
  rd Try.prog (Instr.indexAt 27 (env 0) (env 13)) noHp fun v100_14 =>
  arun Try.prog (Instr.storeAt 37 v100_14 v98_11) h1 fun _ h2 =>
  (True) ∧
  K ((((((((((((((env.set 87 (env 0)).set 88 (env 12)).set 89 (env 0)).set 90 (env 13)).set 91 (env 0)).set 92 (env 13)).set 93 v93_6).set 94 v94_7).set 95 (env 0)).set 96 (env 12)).set 97 v97_10).set 98 v98_11).set 99 v99_12).set 100 v100_14) h2
@[congr] theorem slices_partitionCmpFunc_api_Timer_r10_congr {env : Env} {h : Hp} {K : Env → Hp → Prop} : slices_partitionCmpFunc_api_Timer_r10 env h K = slices_partitionCmpFunc_api_Timer_r10 env h K := rfl

/-- zsortanyfunc.go:150 -/
def slices_partitionCmpFunc_api_Timer_r11 (env : Env) (h : Hp) (K : Env → Hp → Prop) : Prop :=
  rd Try.prog (bop Go.BinOp.add 3 (Go.Operand.tmp 101) (Go.Operand.const (Go.Value.int Go.IntKind.i64 1)) (env 12) (Go.Value.int Go.IntKind.i64 1)) noHp fun v102_1 =>
  K (((env.set 101 (env 12)).set 102 v102_1).set 12 v102_1) h
@[congr] theorem slices_partitionCmpFunc_api_Timer_r11_congr {env : Env} {h : Hp} {K : Env → Hp → Prop} : slices_partitionCmpFunc_api_Timer_r11 env h K = slices_partitionCmpFunc_api_Timer_r11 env h K := rfl

/-- zsortanyfunc.go:151 -/
def slices_partitionCmpFunc_api_Timer_r12 (env : Env) (h : Hp) (K : Env → Hp → Prop) : Prop :=
  rd Try.prog (bop Go.BinOp.sub 3 (Go.Operand.tmp 103) (Go.Operand.const (Go.Value.int Go.IntKind.i64 1)) (env 13) (Go.Value.int Go.IntKind.i64 1)) noHp fun v104_1 =>
  K (((env.set 103 (env 13)).set 104 v104_1).set 13 v104_1) h
@[congr] theorem slices_partitionCmpFunc_api_Timer_r12_congr {env : Env} {h : Hp} {K : Env → Hp → Prop} : slices_partitionCmpFunc_api_Timer_r12 env h K = slices_partitionCmpFunc_api_Timer_r12 env h K := rfl

/-- zsortanyfunc.go:154 (in any order) -/
def slices_partitionCmpFunc_api_Timer_r13 (env : Env) (h : Hp) (K : Env → Hp → Prop) : Prop :=
  rd Try.prog (bop Go.BinOp.leq 3 (Go.Operand.tmp 105) (Go.Operand.tmp 106) (env 12) (env 13)) noHp fun v107_2 =>
  gd (yb v107_2 == some true) (fun h k => k (env 4) h) h fun v109_4 h1 =>
  gd (yb v107_2 == some true) (fun h k => k (env 0) h) h1 fun v110_5 h2 =>
  gd (yb v107_2 == some true) (fun h k => k (env 12) h) h2 fun v111_6 h3 =>
  gd (yb v107_2 == some true) (fun h k => rd Try.prog (Instr.indexAt 27 v110_5 v111_6) noHp fun v => k v h) h3 fun v112_7 h4 =>
  gd (yb v107_2 == some true) (fun h k => rd Try.prog (Instr.loadAt 37 v112_7) h fun v => k v h) h4 fun v113_8 h5 =>
  gd (yb v107_2 == some true) (fun h k => k (env 0) h) h5 fun v114_9 h6 =>
  gd (yb v107_2 == some true) (fun h k => k (env 1) h) h6 fun v115_10 h7 =>
  gd (yb v107_2 == some true) (fun h k => rd Try.prog (Instr.indexAt 27 v114_9 v115_10) noHp fun v => k v h) h7 fun v116_11 h8 =>
  gd (yb v107_2 == some true) (fun h k => rd Try.prog (Instr.loadAt 37 v116_11) h fun v => k v h) h8 fun v117_12 h9 =>
  gd (yb v107_2 == some true) (fun h k => callV Try.prog v109_4 #[v113_8, v117_12] h k) h9 fun v118_13 h10 =>
  (True) ∧
  gd (yb v107_2 == some true) (fun h k => rd Try.prog (bop Go.BinOp.lss 3 (Go.Operand.tmp 118) (Go.Operand.const (Go.Value.int Go.IntKind.i64 0)) v118_13 (Go.Value.int Go.IntKind.i64 0)) noHp fun v => k v h) h10 fun v119_14 h11 =>
  rd Try.prog (pck v107_2 v119_14 (Go.Value.bool false)) noHp fun v120_15 =>
  K ((((((((((((((((env.set 105 (env 12)).set 106 (env 13)).set 107 v107_2).set 108 v107_2).set 109 v109_4).set 110 v110_5).set 111 v111_6).set 112 v112_7).set 113 v113_8).set 114 v114_9).set 115 v115_10).set 116 v116_11).set 117 v117_12).set 118 v118_13).set 119 v119_14).set 120 v120_15) h11
@[congr] theorem slices_partitionCmpFunc_api_Timer_r13_congr {env : Env} {h : Hp} {K : Env → Hp → Prop} : slices_partitionCmpFunc_api_Timer_r13 env h K = slices_partitionCmpFunc_api_Timer_r13 env h K := rfl

/-- zsortanyfunc.go:155 -/
def slices_partitionCmpFunc_api_Timer_r14 (env : Env) (h : Hp) (K : Env → Hp → Prop) : Prop :=
  rd Try.prog (bop Go.BinOp.add 3 (Go.Operand.tmp 121) (Go.Operand.const (Go.Value.int Go.IntKind.i64 1)) (env 12) (Go.Value.int Go.IntKind.i64 1)) noHp fun v122_1 =>
  K (((env.set 121 (env 12)).set 122 v122_1).set 12 v122_1) h
@[congr] theorem slices_partitionCmpFunc_api_Timer_r14_congr {env : Env} {h : Hp} {K : Env → Hp → Prop} : slices_partitionCmpFunc_api_Timer_r14 env h K = slices_partitionCmpFunc_api_Timer_r14 env h K := rfl

def slices_partitionCmpFunc_api_Timer_L2 : Den := (sq (sq (rg slices_partitionCmpFunc_api_Timer_r13) (cnd (Go.Operand.tmp 120) (ex .normal) (ex (.exit 6)))) (blk 7 (rg slices_partitionCmpFunc_api_Timer_r14)))

/-- zsortanyfunc.go:157 (in any order) -/
def slices_partitionCmpFunc_api_Timer_r15 (env : Env) (h : Hp) (K : Env → Hp → Prop) : Prop :=
  rd Try.prog (bop Go.BinOp.leq 3 (Go.Operand.tmp 123) (Go.Operand.tmp 124) (env 12) (env 13)) noHp fun v125_2 =>
  gd (yb v125_2 == some true) (fun h k => k (env 4) h) h fun v127_4 h1 =>
  gd (yb v125_2 == some true) (fun h k => k (env 0) h) h1 fun v128_5 h2 =>
  gd (yb v125_2 == some true) (fun h k => k (env 13) h) h2 fun v129_6 h3 =>
  gd (yb v125_2 == some true) (fun h k => rd Try.prog (Instr.indexAt 27 v128_5 v129_6) noHp fun v => k v h) h3 fun v130_7 h4 =>
  gd (yb v125_2 == some true) (fun h k => rd Try.prog (Instr.loadAt 37 v130_7) h fun v => k v h) h4 fun v131_8 h5 =>
  gd (yb v125_2 == some true) (fun h k => k (env 0) h) h5 fun v132_9 h6 =>
  gd (yb v125_2 == some true) (fun h k => k (env 1) h) h6 fun v133_10 h7 =>
  gd (yb v125_2 == some true) (fun h k => rd Try.prog (Instr.indexAt 27 v132_9 v133_10) noHp fun v => k v h) h7 fun v134_11 h8 =>
  gd (yb v125_2 == some true) (fun h k => rd Try.prog (Instr.loadAt 37 v134_11) h fun v => k v h) h8 fun v135_12 h9 =>
  gd (yb v125_2 == some true) (fun h k => callV Try.prog v127_4 #[v131_8, v135_12] h k) h9 fun v136_13 h10 =>
  (True) ∧
  gd (yb v125_2 == some true) (fun h k => rd Try.prog (bop Go.BinOp.lss 3 (Go.Operand.tmp 136) (Go.Operand.const (Go.Value.int Go.IntKind.i64 0)) v136_13 (Go.Value.int Go.IntKind.i64 0)) noHp fun v => k v h) h10 fun v137_14 h11 =>
  gd (yb v125_2 == some true) (fun h k => rd Try.prog (Op.unary Go.UnOp.not v137_14) noHp fun v => k v h) h11 fun v138_15 h12 =>
  rd Try.prog (pck v125_2 v138_15 (Go.Value.bool false)) noHp fun v139_16 =>
  K (((((((((((((((((env.set 123 (env 12)).set 124 (env 13)).set 125 v125_2).set 126 v125_2).set 127 v127_4).set 128 v128_5).set 129 v129_6).set 130 v130_7).set 131 v131_8).set 132 v132_9).set 133 v133_10).set 134 v134_11).set 135 v135_12).set 136 v136_13).set 137 v137_14).set 138 v138_15).set 139 v139_16) h12
@[congr] theorem slices_partitionCmpFunc_api_Timer_r15_congr {env : Env} {h : Hp} {K : Env → Hp → Prop} : slices_partitionCmpFunc_api_Timer_r15 env h K = slices_partitionCmpFunc_api_Timer_r15 env h K := rfl

/-- zsortanyfunc.go:158 -/
def slices_partitionCmpFunc_api_Timer_r16 (env : Env) (h : Hp) (K : Env → Hp → Prop) : Prop :=
  rd Try.prog (bop Go.BinOp.sub 3 (Go.Operand.tmp 140) (Go.Operand.const (Go.Value.int Go.IntKind.i64 1)) (env 13) (Go.Value.int Go.IntKind.i64 1)) noHp fun v141_1 =>
  K (((env.set 140 (env 13)).set 141 v141_1).set 13 v141_1) h
@[congr] theorem slices_partitionCmpFunc_api_Timer_r16_congr {env : Env} {h : Hp} {K : Env → Hp → Prop} : slices_partitionCmpFunc_api_Timer_r16 env h K = slices_partitionCmpFunc_api_Timer_r16 env h K := rfl

def slices_partitionCmpFunc_api_Timer_L3 : Den := (sq (sq (rg slices_partitionCmpFunc_api_Timer_r15) (cnd (Go.Operand.tmp 139) (ex .normal) (ex (.exit 8)))) (blk 9 (rg slices_partitionCmpFunc_api_Timer_r16)))

/-- zsortanyfunc.go:160 -/
def slices_partitionCmpFunc_api_Timer_r17 (env : Env) (h : Hp) (K : Env → Hp → Prop) : Prop :=
  rd Try.prog (bop Go.BinOp.gtr 3 (Go.Operand.tmp 142) (Go.Operand.tmp 143) (env 12) (env 13)) noHp fun v144_2 =>
  K (((env.set 142 (env 12)).set 143 (env 13)).set 144 v144_2) h
@[congr] theorem slices_partitionCmpFunc_api_Timer_r17_congr {env : Env} {h : Hp} {K : Env → Hp → Prop} : slices_partitionCmpFunc_api_Timer_r17 env h K = slices_partitionCmpFunc_api_Timer_r17 env h K := rfl

/-- zsortanyfunc.go:163 (in any order) -/
def slices_partitionCmpFunc_api_Timer_r18 (env : Env) (h : Hp) (K : Env → Hp → Prop) : Prop :=
  rd Try.prog (Instr.indexAt 27 (env 0) (env 13)) noHp fun v151_6 =>
  rd Try.prog (Instr.loadAt 37 v151_6) h fun v152_7 =>
  rd Try.prog (Instr.indexAt 27 (env 0) (env 12)) noHp fun v155_10 =>
  rd Try.prog (Instr.loadAt 37 v155_10) h fun v156_11 =>
  rd Try.prog (Instr.indexAt 27 (env 0) (env 12)) noHp fun v157_12 =>
  arun Try.prog (Instr.storeAt 37 v157_12 v152_7) h fun _ h1 =>
  (True) ∧
  rd Try.prog (Instr.indexAt 27 (env 0) (env 13)) noHp fun v158_14 =>
  arun Try.prog (Instr.storeAt 37 v158_14 v156_11) h1 fun _ h2 =>
  (True) ∧
  K ((((((((((((((env.set 145 (env 0)).set 146 (env 12)).set 147 (env 0)).set 148 (env 13)).set 149 (env 0)).set 150 (env 13)).set 151 v151_6).set 152 v152_7).set 153 (env 0)).set 154 (env 12)).set 155 v155_10).set 156 v156_11).set 157 v157_12).set 158 v158_14) h2
@[congr] theorem slices_partitionCmpFunc_api_Timer_r18_congr {env : Env} {h : Hp} {K : Env → Hp → Prop} : slices_partitionCmpFunc_api_Timer_r18 env h K = slices_partitionCmpFunc_api_Timer_r18 env h K := rfl

/-- zsortanyfunc.go:164 -/
def slices_partitionCmpFunc_api_Timer_r19 (env : Env) (h : Hp) (K : Env → Hp → Prop) : Prop :=
  rd Try.prog (bop Go.BinOp.add 3 (Go.Operand.tmp 159) (Go.Operand.const (Go.Value.int Go.IntKind.i64 1)) (env 12) (Go.Value.int Go.IntKind.i64 1)) noHp fun v160_1 =>
  K (((env.set 159 (env 12)).set 160 v160_1).set 12 v160_1) h
@[congr] theorem slices_partitionCmpFunc_api_Timer_r19_congr {env : Env} {h : Hp} {K : Env → Hp → Prop} : slices_partitionCmpFunc_api_Timer_r19 env h K = slices_partitionCmpFunc_api_Timer_r19 env h K := rfl

/-- zsortanyfunc.go:165 -/
def slices_partitionCmpFunc_api_Timer_r20 (env : Env) (h : Hp) (K : Env → Hp → Prop) : Prop :=
  rd Try.prog (bop Go.BinOp.sub 3 (Go.Operand.tmp 161) (Go.Operand.const (Go.Value.int Go.IntKind.i64 1)) (env 13) (Go.Value.int Go.IntKind.i64 1)) noHp fun v162_1 =>
  K (((env.set 161 (env 13)).set 162 v162_1).set 13 v162_1) h
@[congr] theorem slices_partitionCmpFunc_api_Timer_r20_congr {env : Env} {h : Hp} {K : Env → Hp → Prop} : slices_partitionCmpFunc_api_Timer_r20 env h K = slices_partitionCmpFunc_api_Timer_r20 env h K := rfl

def slices_partitionCmpFunc_api_Timer_L4 : Den := (blk 5 (sq (blk 6 (lp slices_partitionCmpFunc_api_Timer_L2)) (sq (blk 8 (lp slices_partitionCmpFunc_api_Timer_L3)) (sq (sq (rg slices_partitionCmpFunc_api_Timer_r17) (cnd (Go.Operand.tmp 144) (ex (.exit 4)) (ex .normal))) (sq (rg slices_partitionCmpFunc_api_Timer_r18) (sq (rg slices_partitionCmpFunc_api_Timer_r19) (rg slices_partitionCmpFunc_api_Timer_r20)))))))

/-- zsortanyfunc.go:167 (in any order) -/
def slices_partitionCmpFunc_api_Timer_r21 (env : Env) (h : Hp) (K : Env → Hp → Prop) : Prop :=
  rd Try.prog (Instr.indexAt 27 (env 0) (env 1)) noHp fun v169_6 =>
  rd Try.prog (Instr.loadAt 37 v169_6) h fun v170_7 =>
  rd Try.prog (Instr.indexAt 27 (env 0) (env 13)) noHp fun v173_10 =>
  rd Try.prog (Instr.loadAt 37 v173_10) h fun v174_11 =>
  rd Try.prog (Instr.indexAt 27 (env 0) (env 13)) noHp fun v175_12 =>
  arun Try.prog (Instr.storeAt 37 v175_12 v170_7) h fun _ h1 =>
  (True) ∧
  rd Try.prog (Instr.indexAt 27 (env 0) (env 1)) noHp fun v176_14 =>
  arun Try.prog (Instr.storeAt 37 v176_14 v174_11) h1 fun _ h2 =>
  (True) ∧
  K ((((((((((((((env.set 163 (env 0)).set 164 (env 13)).set 165 (env 0)).set 166 (env 1)).set 167 (env 0)).set 168 (env 1)).set 169 v169_6).set 170 v170_7).set 171 (env 0)).set 172 (env 13)).set 173 v173_10).set 174 v174_11).set 175 v175_12).set 176 v176_14) h2
@[congr] theorem slices_partitionCmpFunc_api_Timer_r21_congr {env : Env} {h : Hp} {K : Env → Hp → Prop} : slices_partitionCmpFunc_api_Timer_r21 env h K = slices_partitionCmpFunc_api_Timer_r21 env h K := rfl

/-- zsortanyfunc.go:168 -/
def slices_partitionCmpFunc_api_Timer_r22 (env : Env) (h : Hp) (K : Env → Hp → Prop) : Prop :=
  K (((env.set 177 (env 13)).set 10 (env 13)).set 11 (Go.Value.bool false)) h
@[congr] theorem slices_partitionCmpFunc_api_Timer_r22_congr {env : Env} {h : Hp} {K : Env → Hp → Prop} : slices_partitionCmpFunc_api_Timer_r22 env h K = slices_partitionCmpFunc_api_Timer_r22 env h K := rfl

def slices_partitionCmpFunc_api_Timer_D : Den := (sq (rg slices_partitionCmpFunc_api_Timer_r0) (sq (rg slices_partitionCmpFunc_api_Timer_r1) (sq (rg slices_partitionCmpFunc_api_Timer_r2) (sq (blk 0 (lp slices_partitionCmpFunc_api_Timer_L0)) (sq (blk 2 (lp slices_partitionCmpFunc_api_Timer_L1)) (sq (sq (rg slices_partitionCmpFunc_api_Timer_r7) (cnd (Go.Operand.tmp 71) (sq (rg slices_partitionCmpFunc_api_Timer_r8) (sq (rg slices_partitionCmpFunc_api_Timer_r9) (ex .ret))) (ex .normal))) (sq (rg slices_partitionCmpFunc_api_Timer_r10) (sq (rg slices_partitionCmpFunc_api_Timer_r11) (sq (rg slices_partitionCmpFunc_api_Timer_r12) (sq (blk 4 (lp slices_partitionCmpFunc_api_Timer_L4)) (sq (rg slices_partitionCmpFunc_api_Timer_r21) (sq (rg slices_partitionCmpFunc_api_Timer_r22) (ex .ret)))))))))))))

theorem slices_partitionCmpFunc_api_Timer_eq : (den Try.prog 178 slices_partitionCmpFunc_api_Timer_code).1 = slices_partitionCmpFunc_api_Timer_D := by kernel_rfl

theorem slices_partitionCmpFunc_api_Timer_ok {args : Array Value} {h : Hp} {Q : Value → Hp → Prop} (hn : args.size ≤ 178) (D : slices_partitionCmpFunc_api_Timer_D (fin Try.prog [(Go.ResultVar.tmp 10), (Go.ResultVar.tmp 11)] Q) (env0 args) h) : Ok Try.prog 32 args h Q :=
  ok_of_den progIsOk Try.func32 (c := slices_partitionCmpFunc_api_Timer_code) (by kernel_rfl) hn (by show (den Try.prog 178 slices_partitionCmpFunc_api_Timer_code).1 _ _ _; rw [slices_partitionCmpFunc_api_Timer_eq]; exact D)

/-! ### math/bits.Len32: function 33 -/
noncomputable def math_bits_Len32_code : Code := match Try.f33.body with | some c => c | none => .skip

/-- bits.go:324 -/
def math_bits_Len32_r0 (env : Env) (h : Hp) (K : Env → Hp → Prop) : Prop :=
  K (env.set 2 (Go.Value.int Go.IntKind.i64 0)) h
@[congr] theorem math_bits_Len32_r0_congr {env : Env} {h : Hp} {K : Env → Hp → Prop} : math_bits_Len32_r0 env h K = math_bits_Len32_r0 env h K := rfl

/-- bits.go:325 -/
def math_bits_Len32_r1 (env : Env) (h : Hp) (K : Env → Hp → Prop) : Prop :=
  rd Try.prog (bop Go.BinOp.geq 66 (Go.Operand.tmp 3) (Go.Operand.const (Go.Value.int Go.IntKind.u32 65536)) (env 0) (Go.Value.int Go.IntKind.u32 65536)) noHp fun v4_1 =>
  K ((env.set 3 (env 0)).set 4 v4_1) h
@[congr] theorem math_bits_Len32_r1_congr {env : Env} {h : Hp} {K : Env → Hp → Prop} : math_bits_Len32_r1 env h K = math_bits_Len32_r1 env h K := rfl

/-- bits.go:326 -/
def math_bits_Len32_r2 (env : Env) (h : Hp) (K : Env → Hp → Prop) : Prop :=
  rd Try.prog (bop Go.BinOp.shr 66 (Go.Operand.tmp 5) (Go.Operand.const (Go.Value.int Go.IntKind.u64 16)) (env 0) (Go.Value.int Go.IntKind.u64 16)) noHp fun v6_1 =>
  K (((env.set 5 (env 0)).set 6 v6_1).set 0 v6_1) h
@[congr] theorem math_bits_Len32_r2_congr {env : Env} {h : Hp} {K : Env → Hp → Prop} : math_bits_Len32_r2 env h K = math_bits_Len32_r2 env h K := rfl

/-- bits.go:327 -/
def math_bits_Len32_r3 (env : Env) (h : Hp) (K : Env → Hp → Prop) : Prop :=
  K (env.set 2 (Go.Value.int Go.IntKind.i64 16)) h
@[congr] theorem math_bits_Len32_r3_congr {env : Env} {h : Hp} {K : Env → Hp → Prop} : math_bits_Len32_r3 env h K = math_bits_Len32_r3 env h K := rfl

/-- bits.go:329 -/
def math_bits_Len32_r4 (env : Env) (h : Hp) (K : Env → Hp → Prop) : Prop :=
  rd Try.prog (bop Go.BinOp.geq 66 (Go.Operand.tmp 7) (Go.Operand.const (Go.Value.int Go.IntKind.u32 256)) (env 0) (Go.Value.int Go.IntKind.u32 256)) noHp fun v8_1 =>
  K ((env.set 7 (env 0)).set 8 v8_1) h
@[congr] theorem math_bits_Len32_r4_congr {env : Env} {h : Hp} {K : Env → Hp → Prop} : math_bits_Len32_r4 env h K = math_bits_Len32_r4 env h K := rfl

/-- bits.go:330 -/
def math_bits_Len32_r5 (env : Env) (h : Hp) (K : Env → Hp → Prop) : Prop :=
  rd Try.prog (bop Go.BinOp.shr 66 (Go.Operand.tmp 9) (Go.Operand.const (Go.Value.int Go.IntKind.u64 8)) (env 0) (Go.Value.int Go.IntKind.u64 8)) noHp fun v10_1 =>
  K (((env.set 9 (env 0)).set 10 v10_1).set 0 v10_1) h
@[congr] theorem math_bits_Len32_r5_congr {env : Env} {h : Hp} {K : Env → Hp → Prop} : math_bits_Len32_r5 env h K = math_bits_Len32_r5 env h K := rfl

/-- bits.go:331 -/
def math_bits_Len32_r6 (env : Env) (h : Hp) (K : Env → Hp → Prop) : Prop :=
  rd Try.prog (bop Go.BinOp.add 3 (Go.Operand.tmp 11) (Go.Operand.const (Go.Value.int Go.IntKind.i64 8)) (env 2) (Go.Value.int Go.IntKind.i64 8)) noHp fun v12_1 =>
  K (((env.set 11 (env 2)).set 12 v12_1).set 2 v12_1) h
@[congr] theorem math_bits_Len32_r6_congr {env : Env} {h : Hp} {K : Env → Hp → Prop} : math_bits_Len32_r6 env h K = math_bits_Len32_r6 env h K := rfl

/-- bits.go:333 -/
def math_bits_Len32_r7 (env : Env) (h : Hp) (K : Env → Hp → Prop) : Prop :=
  rd Try.prog (convert 66 5 (env 0)) noHp fun v15_2 =>
  rd Try.prog (Instr.index 9 (Go.Value.string (ByteArray.mk (List.toArray (List.append (List.append [0, 1, 2, 2, 3, 3, 3, 3, 4, 4, 4, 4, 4, 4, 4, 4, 5, 5, 5, 5, 5, 5, 5, 5, 5, 5, 5, 5, 5, 5, 5, 5, 6, 6, 6, 6, 6, 6, 6, 6, 6, 6, 6, 6, 6, 6, 6, 6, 6, 6, 6, 6, 6, 6, 6, 6, 6, 6, 6, 6, 6, 6, 6, 6] [7, 7, 7, 7, 7, 7, 7, 7, 7, 7, 7, 7, 7, 7, 7, 7, 7, 7, 7, 7, 7, 7, 7, 7, 7, 7, 7, 7, 7, 7, 7, 7, 7, 7, 7, 7, 7, 7, 7, 7, 7, 7, 7, 7, 7, 7, 7, 7, 7, 7, 7, 7, 7, 7, 7, 7, 7, 7, 7, 7, 7, 7, 7, 7]) (List.append [8, 8, 8, 8, 8, 8, 8, 8, 8, 8, 8, 8, 8, 8, 8, 8, 8, 8, 8, 8, 8, 8, 8, 8, 8, 8, 8, 8, 8, 8, 8, 8, 8, 8, 8, 8, 8, 8, 8, 8, 8, 8, 8, 8, 8, 8, 8, 8, 8, 8, 8, 8, 8, 8, 8, 8, 8, 8, 8, 8, 8, 8, 8, 8] [8, 8, 8, 8, 8, 8, 8, 8, 8, 8, 8, 8, 8, 8, 8, 8, 8, 8, 8, 8, 8, 8, 8, 8, 8, 8, 8, 8, 8, 8, 8, 8, 8, 8, 8, 8, 8, 8, 8, 8, 8, 8, 8, 8, 8, 8, 8, 8, 8, 8, 8, 8, 8, 8, 8, 8, 8, 8, 8, 8, 8, 8, 8, 8]))))) v15_2) noHp fun v16_3 =>
  rd Try.prog (convert 5 3 v16_3) noHp fun v17_4 =>
  rd Try.prog (bop Go.BinOp.add 3 (Go.Operand.tmp 13) (Go.Operand.tmp 17) (env 2) v17_4) noHp fun v18_5 =>
  K (((((((env.set 13 (env 2)).set 14 (env 0)).set 15 v15_2).set 16 v16_3).set 17 v17_4).set 18 v18_5).set 2 v18_5) h
@[congr] theorem math_bits_Len32_r7_congr {env : Env} {h : Hp} {K : Env → Hp → Prop} : math_bits_Len32_r7 env h K = math_bits_Len32_r7 env h K := rfl

def math_bits_Len32_D : Den := (sq (rg math_bits_Len32_r0) (sq (sq (rg math_bits_Len32_r1) (cnd (Go.Operand.tmp 4) (sq (rg math_bits_Len32_r2) (rg math_bits_Len32_r3)) (ex .normal))) (sq (sq (rg math_bits_Len32_r4) (cnd (Go.Operand.tmp 8) (sq (rg math_bits_Len32_r5) (rg math_bits_Len32_r6)) (ex .normal))) (sq (rg math_bits_Len32_r7) (ex .ret)))))

theorem math_bits_Len32_eq : (den Try.prog 19 math_bits_Len32_code).1 = math_bits_Len32_D := by kernel_rfl

theorem math_bits_Len32_ok {args : Array Value} {h : Hp} {Q : Value → Hp → Prop} (hn : args.size ≤ 19) (D : math_bits_Len32_D (fin Try.prog [(Go.ResultVar.tmp 2)] Q) (env0 args) h) : Ok Try.prog 33 args h Q :=
  ok_of_den progIsOk Try.func33 (c := math_bits_Len32_code) (by kernel_rfl) hn (by show (den Try.prog 19 math_bits_Len32_code).1 _ _ _; rw [math_bits_Len32_eq]; exact D)

/-! ### math/bits.Len64: function 34 -/
noncomputable def math_bits_Len64_code : Code := match Try.f34.body with | some c => c | none => .skip

/-- bits.go:337 -/
def math_bits_Len64_r0 (env : Env) (h : Hp) (K : Env → Hp → Prop) : Prop :=
  K (env.set 2 (Go.Value.int Go.IntKind.i64 0)) h
@[congr] theorem math_bits_Len64_r0_congr {env : Env} {h : Hp} {K : Env → Hp → Prop} : math_bits_Len64_r0 env h K = math_bits_Len64_r0 env h K := rfl

/-- bits.go:338 -/
def math_bits_Len64_r1 (env : Env) (h : Hp) (K : Env → Hp → Prop) : Prop :=
  rd Try.prog (bop Go.BinOp.geq 68 (Go.Operand.tmp 3) (Go.Operand.const (Go.Value.int Go.IntKind.u64 4294967296)) (env 0) (Go.Value.int Go.IntKind.u64 4294967296)) noHp fun v4_1 =>
  K ((env.set 3 (env 0)).set 4 v4_1) h
@[congr] theorem math_bits_Len64_r1_congr {env : Env} {h : Hp} {K : Env → Hp → Prop} : math_bits_Len64_r1 env h K = math_bits_Len64_r1 env h K := rfl

/-- bits.go:339 -/
def math_bits_Len64_r2 (env : Env) (h : Hp) (K : Env → Hp → Prop) : Prop :=
  rd Try.prog (bop Go.BinOp.shr 68 (Go.Operand.tmp 5) (Go.Operand.const (Go.Value.int Go.IntKind.u64 32)) (env 0) (Go.Value.int Go.IntKind.u64 32)) noHp fun v6_1 =>
  K (((env.set 5 (env 0)).set 6 v6_1).set 0 v6_1) h
@[congr] theorem math_bits_Len64_r2_congr {env : Env} {h : Hp} {K : Env → Hp → Prop} : math_bits_Len64_r2 env h K = math_bits_Len64_r2 env h K := rfl

/-- bits.go:340 -/
def math_bits_Len64_r3 (env : Env) (h : Hp) (K : Env → Hp → Prop) : Prop :=
  K (env.set 2 (Go.Value.int Go.IntKind.i64 32)) h
@[congr] theorem math_bits_Len64_r3_congr {env : Env} {h : Hp} {K : Env → Hp → Prop} : math_bits_Len64_r3 env h K = math_bits_Len64_r3 env h K := rfl

/-- bits.go:342 -/
def math_bits_Len64_r4 (env : Env) (h : Hp) (K : Env → Hp → Prop) : Prop :=
  rd Try.prog (bop Go.BinOp.geq 68 (Go.Operand.tmp 7) (Go.Operand.const (Go.Value.int Go.IntKind.u64 65536)) (env 0) (Go.Value.int Go.IntKind.u64 65536)) noHp fun v8_1 =>
  K ((env.set 7 (env 0)).set 8 v8_1) h
@[congr] theorem math_bits_Len64_r4_congr {env : Env} {h : Hp} {K : Env → Hp → Prop} : math_bits_Len64_r4 env h K = math_bits_Len64_r4 env h K := rfl

/-- bits.go:343 -/
def math_bits_Len64_r5 (env : Env) (h : Hp) (K : Env → Hp → Prop) : Prop :=
  rd Try.prog (bop Go.BinOp.shr 68 (Go.Operand.tmp 9) (Go.Operand.const (Go.Value.int Go.IntKind.u64 16)) (env 0) (Go.Value.int Go.IntKind.u64 16)) noHp fun v10_1 =>
  K (((env.set 9 (env 0)).set 10 v10_1).set 0 v10_1) h
@[congr] theorem math_bits_Len64_r5_congr {env : Env} {h : Hp} {K : Env → Hp → Prop} : math_bits_Len64_r5 env h K = math_bits_Len64_r5 env h K := rfl

/-- bits.go:344 -/
def math_bits_Len64_r6 (env : Env) (h : Hp) (K : Env → Hp → Prop) : Prop :=
  rd Try.prog (bop Go.BinOp.add 3 (Go.Operand.tmp 11) (Go.Operand.const (Go.Value.int Go.IntKind.i64 16)) (env 2) (Go.Value.int Go.IntKind.i64 16)) noHp fun v12_1 =>
  K (((env.set 11 (env 2)).set 12 v12_1).set 2 v12_1) h
@[congr] theorem math_bits_Len64_r6_congr {env : Env} {h : Hp} {K : Env → Hp → Prop} : math_bits_Len64_r6 env h K = math_bits_Len64_r6 env h K := rfl

/-- bits.go:346 -/
def math_bits_Len64_r7 (env : Env) (h : Hp) (K : Env → Hp → Prop) : Prop :=
  rd Try.prog (bop Go.BinOp.geq 68 (Go.Operand.tmp 13) (Go.Operand.const (Go.Value.int Go.IntKind.u64 256)) (env 0) (Go.Value.int Go.IntKind.u64 256)) noHp fun v14_1 =>
  K ((env.set 13 (env 0)).set 14 v14_1) h
@[congr] theorem math_bits_Len64_r7_congr {env : Env} {h : Hp} {K : Env → Hp → Prop} : math_bits_Len64_r7 env h K = math_bits_Len64_r7 env h K := rfl

/-- bits.go:347 -/
def math_bits_Len64_r8 (env : Env) (h : Hp) (K : Env → Hp → Prop) : Prop :=
  rd Try.prog (bop Go.BinOp.shr 68 (Go.Operand.tmp 15) (Go.Operand.const (Go.Value.int Go.IntKind.u64 8)) (env 0) (Go.Value.int Go.IntKind.u64 8)) noHp fun v16_1 =>
  K (((env.set 15 (env 0)).set 16 v16_1).set 0 v16_1) h
@[congr] theorem math_bits_Len64_r8_congr {env : Env} {h : Hp} {K : Env → Hp → Prop} : math_bits_Len64_r8 env h K = math_bits_Len64_r8 env h K := rfl

/-- bits.go:348 -/
def math_bits_Len64_r9 (env : Env) (h : Hp) (K : Env → Hp → Prop) : Prop :=
  rd Try.prog (bop Go.BinOp.add 3 (Go.Operand.tmp 17) (Go.Operand.const (Go.Value.int Go.IntKind.i64 8)) (env 2) (Go.Value.int Go.IntKind.i64 8)) noHp fun v18_1 =>
  K (((env.set 17 (env 2)).set 18 v18_1).set 2 v18_1) h
@[congr] theorem math_bits_Len64_r9_congr {env : Env} {h : Hp} {K : Env → Hp → Prop} : math_bits_Len64_r9 env h K = math_bits_Len64_r9 env h K := rfl

/-- bits.go:350 -/
def math_bits_Len64_r10 (env : Env) (h : Hp) (K : Env → Hp → Prop) : Prop :=
  rd Try.prog (convert 68 5 (env 0)) noHp fun v21_2 =>
  rd Try.prog (Instr.index 9 (Go.Value.string (ByteArray.mk (List.toArray (List.append (List.append [0, 1, 2, 2, 3, 3, 3, 3, 4, 4, 4, 4, 4, 4, 4, 4, 5, 5, 5, 5, 5, 5, 5, 5, 5, 5, 5, 5, 5, 5, 5, 5, 6, 6, 6, 6, 6, 6, 6, 6, 6, 6, 6, 6, 6, 6, 6, 6, 6, 6, 6, 6, 6, 6, 6, 6, 6, 6, 6, 6, 6, 6, 6, 6] [7, 7, 7, 7, 7, 7, 7, 7, 7, 7, 7, 7, 7, 7, 7, 7, 7, 7, 7, 7, 7, 7, 7, 7, 7, 7, 7, 7, 7, 7, 7, 7, 7, 7, 7, 7, 7, 7, 7, 7, 7, 7, 7, 7, 7, 7, 7, 7, 7, 7, 7, 7, 7, 7, 7, 7, 7, 7, 7, 7, 7, 7, 7, 7]) (List.append [8, 8, 8, 8, 8, 8, 8, 8, 8, 8, 8, 8, 8, 8, 8, 8, 8, 8, 8, 8, 8, 8, 8, 8, 8, 8, 8, 8, 8, 8, 8, 8, 8, 8, 8, 8, 8, 8, 8, 8, 8, 8, 8, 8, 8, 8, 8, 8, 8, 8, 8, 8, 8, 8, 8, 8, 8, 8, 8, 8, 8, 8, 8, 8] [8, 8, 8, 8, 8, 8, 8, 8, 8, 8, 8, 8, 8, 8, 8, 8, 8, 8, 8, 8, 8, 8, 8, 8, 8, 8, 8, 8, 8, 8, 8, 8, 8, 8, 8, 8, 8, 8, 8, 8, 8, 8, 8, 8, 8, 8, 8, 8, 8, 8, 8, 8, 8, 8, 8, 8, 8, 8, 8, 8, 8, 8, 8, 8]))))) v21_2) noHp fun v22_3 =>
  rd Try.prog (convert 5 3 v22_3) noHp fun v23_4 =>
  rd Try.prog (bop Go.BinOp.add 3 (Go.Operand.tmp 19) (Go.Operand.tmp 23) (env 2) v23_4) noHp fun v24_5 =>
  K (((((((env.set 19 (env 2)).set 20 (env 0)).set 21 v21_2).set 22 v22_3).set 23 v23_4).set 24 v24_5).set 2 v24_5) h
@[congr] theorem math_bits_Len64_r10_congr {env : Env} {h : Hp} {K : Env → Hp → Prop} : math_bits_Len64_r10 env h K = math_bits_Len64_r10 env h K := rfl

def math_bits_Len64_D : Den := (sq (rg math_bits_Len64_r0) (sq (sq (rg math_bits_Len64_r1) (cnd (Go.Operand.tmp 4) (sq (rg math_bits_Len64_r2) (rg math_bits_Len64_r3)) (ex .normal))) (sq (sq (rg math_bits_Len64_r4) (cnd (Go.Operand.tmp 8) (sq (rg math_bits_Len64_r5) (rg math_bits_Len64_r6)) (ex .normal))) (sq (sq (rg math_bits_Len64_r7) (cnd (Go.Operand.tmp 14) (sq (rg math_bits_Len64_r8) (rg math_bits_Len64_r9)) (ex .normal))) (sq (rg math_bits_Len64_r10) (ex .ret))))))

theorem math_bits_Len64_eq : (den Try.prog 25 math_bits_Len64_code).1 = math_bits_Len64_D := by kernel_rfl

theorem math_bits_Len64_ok {args : Array Value} {h : Hp} {Q : Value → Hp → Prop} (hn : args.size ≤ 25) (D : math_bits_Len64_D (fin Try.prog [(Go.ResultVar.tmp 2)] Q) (env0 args) h) : Ok Try.prog 34 args h Q :=
  ok_of_den progIsOk Try.func34 (c := math_bits_Len64_code) (by kernel_rfl) hn (by show (den Try.prog 25 math_bits_Len64_code).1 _ _ _; rw [math_bits_Len64_eq]; exact D)

/-! ### cmp.isNaN[int]: function 35 -/
noncomputable def cmp_isNaN_int_code : Code := match Try.f35.body with | some c => c | none => .skip

/-- cmp.go:63 -/
def cmp_isNaN_int_r0 (env : Env) (h : Hp) (K : Env → Hp → Prop) : Prop :=
  K (env.set 2 (Go.Value.bool false)) h
@[congr] theorem cmp_isNaN_int_r0_congr {env : Env} {h : Hp} {K : Env → Hp → Prop} : cmp_isNaN_int_r0 env h K = cmp_isNaN_int_r0 env h K := rfl

/-- cmp.go:64 -/
def cmp_isNaN_int_r1 (env : Env) (h : Hp) (K : Env → Hp → Prop) : Prop :=
  rd Try.prog (bop Go.BinOp.neq 3 (Go.Operand.tmp 3) (Go.Operand.tmp 4) (env 0) (env 0)) noHp fun v5_2 =>
  K ((((env.set 3 (env 0)).set 4 (env 0)).set 5 v5_2).set 2 v5_2) h
@[congr] theorem cmp_isNaN_int_r1_congr {env : Env} {h : Hp} {K : Env → Hp → Prop} : cmp_isNaN_int_r1 env h K = cmp_isNaN_int_r1 env h K := rfl

def cmp_isNaN_int_D : Den := (sq (rg cmp_isNaN_int_r0) (sq (rg cmp_isNaN_int_r1) (ex .ret)))

theorem cmp_isNaN_int_eq : (den Try.prog 6 cmp_isNaN_int_code).1 = cmp_isNaN_int_D := by kernel_rfl

theorem cmp_isNaN_int_ok {args : Array Value} {h : Hp} {Q : Value → Hp → Prop} (hn : args.size ≤ 6) (D : cmp_isNaN_int_D (fin Try.prog [(Go.ResultVar.tmp 2)] Q) (env0 args) h) : Ok Try.prog 35 args h Q :=
  ok_of_den progIsOk Try.func35 (c := cmp_isNaN_int_code) (by kernel_rfl) hn (by show (den Try.prog 6 cmp_isNaN_int_code).1 _ _ _; rw [cmp_isNaN_int_eq]; exact D)

/-! ### slices.siftDownCmpFunc[octroi/api.Timer]: function 36 -/
noncomputable def slices_siftDownCmpFunc_api_Timer_code : Code := match Try.f36.body with | some c => c | none => .skip

/-- zsortanyfunc.go:21 -/
def slices_siftDownCmpFunc_api_Timer_r0 (env : Env) (h : Hp) (K : Env → Hp → Prop) : Prop :=
  K ((env.set 12 (env 1)).set 10 (env 1)) h
@[congr] theorem slices_siftDownCmpFunc_api_Timer_r0_congr {env : Env} {h : Hp} {K : Env → Hp → Prop} : slices_siftDownCmpFunc_api_Timer_r0 env h K = slices_siftDownCmpFunc_api_Timer_r0 env h K := rfl

/-- zsortanyfunc.go:23 -/
def slices_siftDownCmpFunc_api_Timer_r1 (env : Env) (h : Hp) (K : Env → Hp → Prop) : Prop :=
  rd Try.prog (bop Go.BinOp.mul 3 (Go.Operand.const (Go.Value.int Go.IntKind.i64 2)) (Go.Operand.tmp 13) (Go.Value.int Go.IntKind.i64 2) (env 10)) noHp fun v14_1 =>
  rd Try.prog (bop Go.BinOp.add 3 (Go.Operand.tmp 14) (Go.Operand.const (Go.Value.int Go.IntKind.i64 1)) v14_1 (Go.Value.int Go.IntKind.i64 1)) noHp fun v15_2 =>
  K ((((env.set 13 (env 10)).set 14 v14_1).set 15 v15_2).set 11 v15_2) h
@[congr] theorem slices_siftDownCmpFunc_api_Timer_r1_congr {env : Env} {h : Hp} {K : Env → Hp → Prop} : slices_siftDownCmpFunc_api_Timer_r1 env h K = slices_siftDownCmpFunc_api_Timer_r1 env h K := rfl

/-- zsortanyfunc.go:24 -/
def slices_siftDownCmpFunc_api_Timer_r2 (env : Env) (h : Hp) (K : Env → Hp → Prop) : Prop :=
  rd Try.prog (bop Go.BinOp.geq 3 (Go.Operand.tmp 16) (Go.Operand.tmp 17) (env 11) (env 2)) noHp fun v18_2 =>
  K (((env.set 16 (env 11)).set 17 (env 2)).set 18 v18_2) h
@[congr] theorem slices_siftDownCmpFunc_api_Timer_r2_congr {env : Env} {h : Hp} {K : Env → Hp → Prop} : slices_siftDownCmpFunc_api_Timer_r2 env h K = slices_siftDownCmpFunc_api_Timer_r2 env h K := rfl

/-- zsortanyfunc.go:27 (in any order) -/
def slices_siftDownCmpFunc_api_Timer_r3 (env : Env) (h : Hp) (K : Env → Hp → Prop) : Prop :=
  rd Try.prog (bop Go.BinOp.add 3 (Go.Operand.tmp 19) (Go.Operand.const (Go.Value.int Go.IntKind.i64 1)) (env 11) (Go.Value.int Go.IntKind.i64 1)) noHp fun v20_1 =>
  rd Try.prog (bop Go.BinOp.lss 3 (Go.Operand.tmp 20) (Go.Operand.tmp 21) v20_1 (env 2)) noHp fun v22_3 =>
  gd (yb v22_3 == some true) (fun h k => k (env 4) h) h fun v24_5 h1 =>
  gd (yb v22_3 == some true) (fun h k => k (env 0) h) h1 fun v25_6 h2 =>
  gd (yb v22_3 == some true) (fun h k => k (env 3) h) h2 fun v26_7 h3 =>
  gd (yb v22_3 == some true) (fun h k => k (env 11) h) h3 fun v27_8 h4 =>
  gd (yb v22_3 == some true) (fun h k => rd Try.prog (bop Go.BinOp.add 3 (Go.Operand.tmp 26) (Go.Operand.tmp 27) v26_7 v27_8) noHp fun v => k v h) h4 fun v28_9 h5 =>
  gd (yb v22_3 == some true) (fun h k => rd Try.prog (Instr.indexAt 27 v25_6 v28_9) noHp fun v => k v h) h5 fun v29_10 h6 =>
  gd (yb v22_3 == some true) (fun h k => rd Try.prog (Instr.loadAt 37 v29_10) h fun v => k v h) h6 fun v30_11 h7 =>
  gd (yb v22_3 == some true) (fun h k => k (env 0) h) h7 fun v31_12 h8 =>
  gd (yb v22_3 == some true) (fun h k => k (env 3) h) h8 fun v32_13 h9 =>
  gd (yb v22_3 == some true) (fun h k => k (env 11) h) h9 fun v33_14 h10 =>
  gd (yb v22_3 == some true) (fun h k => rd Try.prog (bop Go.BinOp.add 3 (Go.Operand.tmp 32) (Go.Operand.tmp 33) v32_13 v33_14) noHp fun v => k v h) h10 fun v34_15 h11 =>
  gd (yb v22_3 == some true) (fun h k => rd Try.prog (bop Go.BinOp.add 3 (Go.Operand.tmp 34) (Go.Operand.const (Go.Value.int Go.IntKind.i64 1)) v34_15 (Go.Value.int Go.IntKind.i64 1)) noHp fun v => k v h) h11 fun v35_16 h12 =>
  gd (yb v22_3 == some true) (fun h k => rd Try.prog (Instr.indexAt 27 v31_12 v35_16) noHp fun v => k v h) h12 fun v36_17 h13 =>
  gd (yb v22_3 == some true) (fun h k => rd Try.prog (Instr.loadAt 37 v36_17) h fun v => k v h) h13 fun v37_18 h14 =>
  gd (yb v22_3 == some true) (fun h k => callV Try.prog v24_5 #[v30_11, v37_18] h k) h14 fun v38_19 h15 =>
  (True) ∧
  gd (yb v22_3 == some true) (fun h k => rd Try.prog (bop Go.BinOp.lss 3 (Go.Operand.tmp 38) (Go.Operand.const (Go.Value.int Go.IntKind.i64 0)) v38_19 (Go.Value.int Go.IntKind.i64 0)) noHp fun v => k v h) h15 fun v39_20 h16 =>
  rd Try.prog (pck v22_3 v39_20 (Go.Value.bool false)) noHp fun v40_21 =>
  K ((((((((((((((((((((((env.set 19 (env 11)).set 20 v20_1).set 21 (env 2)).set 22 v22_3).set 23 v22_3).set 24 v24_5).set 25 v25_6).set 26 v26_7).set 27 v27_8).set 28 v28_9).set 29 v29_10).set 30 v30_11).set 31 v31_12).set 32 v32_13).set 33 v33_14).set 34 v34_15).set 35 v35_16).set 36 v36_17).set 37 v37_18).set 38 v38_19).set 39 v39_20).set 40 v40_21) h16
@[congr] theorem slices_siftDownCmpFunc_api_Timer_r3_congr {env : Env} {h : Hp} {K : Env → Hp → Prop} : slices_siftDownCmpFunc_api_Timer_r3 env h K = slices_siftDownCmpFunc_api_Timer_r3 env h K := rfl

/-- zsortanyfunc.go:28 -/
def slices_siftDownCmpFunc_api_Timer_r4 (env : Env) (h : Hp) (K : Env → Hp → Prop) : Prop :=
  rd Try.prog (bop Go.BinOp.add 3 (Go.Operand.tmp 41) (Go.Operand.const (Go.Value.int Go.IntKind.i64 1)) (env 11) (Go.Value.int Go.IntKind.i64 1)) noHp fun v42_1 =>
  K (((env.set 41 (env 11)).set 42 v42_1).set 11 v42_1) h
@[congr] theorem slices_siftDownCmpFunc_api_Timer_r4_congr {env : Env} {h : Hp} {K : Env → Hp → Prop} : slices_siftDownCmpFunc_api_Timer_r4 env h K = slices_siftDownCmpFunc_api_Timer_r4 env h K := rfl

/-- zsortanyfunc.go:30 (in any order) -/
def slices_siftDownCmpFunc_api_Timer_r5 (env : Env) (h : Hp) (K : Env → Hp → Prop) : Prop :=
  rd Try.prog (bop Go.BinOp.add 3 (Go.Operand.tmp 45) (Go.Operand.tmp 46) (env 3) (env 10)) noHp fun v47_4 =>
  rd Try.prog (Instr.indexAt 27 (env 0) v47_4) noHp fun v48_5 =>
  rd Try.prog (Instr.loadAt 37 v48_5) h fun v49_6 =>
  rd Try.prog (bop Go.BinOp.add 3 (Go.Operand.tmp 51) (Go.Operand.tmp 52) (env 3) (env 11)) noHp fun v53_10 =>
  rd Try.prog (Instr.indexAt 27 (env 0) v53_10) noHp fun v54_11 =>
  rd Try.prog (Instr.loadAt 37 v54_11) h fun v55_12 =>
  callV Try.prog (env 4) #[v49_6, v55_12] h fun v56_13 h1 =>
  (True) ∧
  rd Try.prog (bop Go.BinOp.lss 3 (Go.Operand.tmp 56) (Go.Operand.const (Go.Value.int Go.IntKind.i64 0)) v56_13 (Go.Value.int Go.IntKind.i64 0)) noHp fun v57_14 =>
  rd Try.prog (Op.unary Go.UnOp.not v57_14) noHp fun v58_15 =>
  K ((((((((((((((((env.set 43 (env 4)).set 44 (env 0)).set 45 (env 3)).set 46 (env 10)).set 47 v47_4).set 48 v48_5).set 49 v49_6).set 50 (env 0)).set 51 (env 3)).set 52 (env 11)).set 53 v53_10).set 54 v54_11).set 55 v55_12).set 56 v56_13).set 57 v57_14).set 58 v58_15) h1
@[congr] theorem slices_siftDownCmpFunc_api_Timer_r5_congr {env : Env} {h : Hp} {K : Env → Hp → Prop} : slices_siftDownCmpFunc_api_Timer_r5 env h K = slices_siftDownCmpFunc_api_Timer_r5 env h K := rfl

/-- zsortanyfunc.go:33 (in any order) -/
def slices_siftDownCmpFunc_api_Timer_r6 (env : Env) (h : Hp) (K : Env → Hp → Prop) : Prop :=
  rd Try.prog (bop Go.BinOp.add 3 (Go.Operand.tmp 60) (Go.Operand.tmp 61) (env 3) (env 10)) noHp fun v62_3 =>
  rd Try.prog (bop Go.BinOp.add 3 (Go.Operand.tmp 64) (Go.Operand.tmp 65) (env 3) (env 11)) noHp fun v66_7 =>
  rd Try.prog (bop Go.BinOp.add 3 (Go.Operand.tmp 68) (Go.Operand.tmp 69) (env 3) (env 11)) noHp fun v70_11 =>
  rd Try.prog (Instr.indexAt 27 (env 0) v70_11) noHp fun v71_12 =>
  rd Try.prog (Instr.loadAt 37 v71_12) h fun v72_13 =>
  rd Try.prog (bop Go.BinOp.add 3 (Go.Operand.tmp 74) (Go.Operand.tmp 75) (env 3) (env 10)) noHp fun v76_17 =>
  rd Try.prog (Instr.indexAt 27 (env 0) v76_17) noHp fun v77_18 =>
  rd Try.prog (Instr.loadAt 37 v77_18) h fun v78_19 =>
  rd Try.prog (Instr.indexAt 27 (env 0) v62_3) noHp fun v79_20 =>
  arun Try.prog (Instr.storeAt 37 v79_20 v72_13) h fun _ h1 =>
  (True) ∧
  rd Try.prog (Instr.indexAt 27 (env 0) v66_7) noHp fun v80_22 =>
  arun Try.prog (Instr.storeAt 37 v80_22 v78_19) h1 fun _ h2 =>
  (True) ∧
  K ((((((((((((((((((((((env.set 59 (env 0)).set 60 (env 3)).set 61 (env 10)).set 62 v62_3).set 63 (env 0)).set 64 (env 3)).set 65 (env 11)).set 66 v66_7).set 67 (env 0)).set 68 (env 3)).set 69 (env 11)).set 70 v70_11).set 71 v71_12).set 72 v72_13).set 73 (env 0)).set 74 (env 3)).set 75 (env 10)).set 76 v76_17).set 77 v77_18).set 78 v78_19).set 79 v79_20).set 80 v80_22) h2
@[congr] theorem slices_siftDownCmpFunc_api_Timer_r6_congr {env : Env} {h : Hp} {K : Env → Hp → Prop} : slices_siftDownCmpFunc_api_Timer_r6 env h K = slices_siftDownCmpFunc_api_Timer_r6 env h K := rfl

/-- zsortanyfunc.go:34 -/
def slices_siftDownCmpFunc_api_Timer_r7 (env : Env) (h : Hp) (K : Env → Hp → Prop) : Prop :=
  K ((env.set 81 (env 11)).set 10 (env 11)) h
@[congr] theorem slices_siftDownCmpFunc_api_Timer_r7_congr {env : Env} {h : Hp} {K : Env → Hp → Prop} : slices_siftDownCmpFunc_api_Timer_r7 env h K = slices_siftDownCmpFunc_api_Timer_r7 env h K := rfl

def slices_siftDownCmpFunc_api_Timer_L0 : Den := (blk 1 (sq (rg slices_siftDownCmpFunc_api_Timer_r1) (sq (sq (rg slices_siftDownCmpFunc_api_Timer_r2) (cnd (Go.Operand.tmp 18) (ex (.exit 0)) (ex .normal))) (sq (sq (rg slices_siftDownCmpFunc_api_Timer_r3) (cnd (Go.Operand.tmp 40) (rg slices_siftDownCmpFunc_api_Timer_r4) (ex .normal))) (sq (sq (rg slices_siftDownCmpFunc_api_Timer_r5) (cnd (Go.Operand.tmp 58) (ex .ret) (ex .normal))) (sq (rg slices_siftDownCmpFunc_api_Timer_r6) (rg slices_siftDownCmpFunc_api_Timer_r7)))))))

def slices_siftDownCmpFunc_api_Timer_D : Den := (sq (rg slices_siftDownCmpFunc_api_Timer_r0) (blk 0 (lp slices_siftDownCmpFunc_api_Timer_L0)))

theorem slices_siftDownCmpFunc_api_Timer_eq : (den Try.prog 82 slices_siftDownCmpFunc_api_Timer_code).1 = slices_siftDownCmpFunc_api_Timer_D := by kernel_rfl

theorem slices_siftDownCmpFunc_api_Timer_ok {args : Array Value} {h : Hp} {Q : Value → Hp → Prop} (hn : args.size ≤ 82) (D : slices_siftDownCmpFunc_api_Timer_D (fin Try.prog [] Q) (env0 args) h) : Ok Try.prog 36 args h Q :=
  ok_of_den progIsOk Try.func36 (c := slices_siftDownCmpFunc_api_Timer_code) (by kernel_rfl) hn (by show (den Try.prog 82 slices_siftDownCmpFunc_api_Timer_code).1 _ _ _; rw [slices_siftDownCmpFunc_api_Timer_eq]; exact D)

end Go.Proofs.Ytncnlfidncjmbaa

/- Printed by wip/kit/gen.py: all formulas. -/

/- Printed by wip/kit/gen.py out of the translation: what operations of these types come to. -/
namespace Go.Proofs.Ytncnlfidncjmbaa
open Go

set_option maxRecDepth 100000

abbrev F_octroilaw10_TimersFull : Nat := 3
abbrev F_octroilaw10_TimersOnce : Nat := 4
abbrev F_octroilaw10_TimersMoved : Nat := 5
abbrev F_octroilaw10_TimersOrder : Nat := 6
abbrev F_octroilaw10_TimersDo : Nat := 7
abbrev F_octroilaw10_awake : Nat := 8
abbrev F_timers_New : Nat := 9
abbrev F_timers_Timers_Set : Nat := 10
abbrev F_timers_Timers_Due : Nat := 11
abbrev F_timers_Timers_Len : Nat := 12
abbrev F_timers_Timers_Stop : Nat := 13
abbrev F_timers_Timers_Next : Nat := 14
abbrev F_octroiref10_Timers_Set : Nat := 15
abbrev F_octroiref10_Timers_Stop : Nat := 16
abbrev F_octroiref10_Same : Nat := 17
abbrev F_octroiref10_Timers_Due : Nat := 18
abbrev F_slices_SortFunc_api_Timer_api_Timer : Nat := 19
abbrev F_timers_order : Nat := 20
abbrev F_slices_pdqsortCmpFunc_api_Timer : Nat := 21
abbrev F_math_bits_Len : Nat := 22
abbrev F_cmp_Or_int : Nat := 23
abbrev F_cmp_Compare_int : Nat := 24
abbrev F_slices_insertionSortCmpFunc_api_Timer : Nat := 25
abbrev F_slices_heapSortCmpFunc_api_Timer : Nat := 26
abbrev F_slices_breakPatternsCmpFunc_api_Timer : Nat := 27
abbrev F_slices_choosePivotCmpFunc_api_Timer : Nat := 28
abbrev F_slices_reverseRangeCmpFunc_api_Timer : Nat := 29
abbrev F_slices_partialInsertionSortCmpFunc_api_Timer : Nat := 30
abbrev F_slices_partitionEqualCmpFunc_api_Timer : Nat := 31
abbrev F_slices_partitionCmpFunc_api_Timer : Nat := 32
abbrev F_math_bits_Len32 : Nat := 33
abbrev F_math_bits_Len64 : Nat := 34
abbrev F_cmp_isNaN_int : Nat := 35
abbrev F_slices_siftDownCmpFunc_api_Timer : Nat := 36
abbrev T_api_Errno : Nat := 25
abbrev T_octroilaw10_Op : Nat := 34
abbrev T_api_Timer : Nat := 37
abbrev T_octroiref10_Timers : Nat := 45
abbrev T_timers_Timers : Nat := 50
@[simp] theorem al_3 {h : Hp} {k : Value → Hp → Prop} : arun Try.prog (Instr.alloc 3 true (.tuple #[])) h k = nw h (.cells #[Value.int .i64 0] 3) fun b h => k (.pointer (some ⟨b, 0, none⟩)) h := arun_alloc (v := Value.int .i64 0) (by kernel_rfl)
@[simp] theorem al_37 {h : Hp} {k : Value → Hp → Prop} : arun Try.prog (Instr.alloc 37 true (.tuple #[])) h k = nw h (.cells #[Value.int .i64 0, Value.int .i64 0] 37) fun b h => k (.pointer (some ⟨b, 0, none⟩)) h := arun_alloc (v := Value.agg #[Value.int .i64 0, Value.int .i64 0]) (by kernel_rfl)
@[simp] theorem al_70 {h : Hp} {k : Value → Hp → Prop} : arun Try.prog (Instr.alloc 70 true (.tuple #[])) h k = nw h (.cells #[Value.int .u64 0] 70) fun b h => k (.pointer (some ⟨b, 0, none⟩)) h := arun_alloc (v := Value.int .u64 0) (by kernel_rfl)
theorem und_27 : Try.prog.underlying 27 = some (.slice 37) := by kernel_rfl
theorem size_37 : (Try.prog.info? 37).map (·.size) = some 2 := by kernel_rfl
theorem bytes_37 : (Try.prog.info? 37).map (·.bytes) = some 16 := by kernel_rfl
theorem zero_37 : (Try.prog.info? 37).bind (·.zero) = some (Value.agg #[Value.int .i64 0, Value.int .i64 0]) := by kernel_rfl
theorem push_api_Timer {α : Type} {R b2 o2 c2 : Nat} {enc : α → List Value} {v : Value} {xs : List α} {y : α} {h : Hp} {k : Value → Hp → Prop} (S : SlAt h 37 2 enc v xs) (hy : ldN h b2 o2 2 = some (enc y)) (hyl : (enc y).length = 2) (hone : ∀ u ∈ enc y, oneCell u = true) (hbd : (2 * xs.length + 770) * 16 ≤ 2 ^ 48) (K : ∀ b c cap, (some b = blkOf v ∨ h b = none) → xs.length + 1 ≤ cap → cap * 2 ≤ c.size → Enc c 0 2 enc (xs ++ [y]) → k (.slice (some ⟨b, 0, none⟩) (xs.length + 1) cap) (h.upd b (.cells c 37 (0, 0)))) :
    arun Try.prog (Builtin.append_ #[27, 27] R #[v, .slice (some ⟨b2, o2, none⟩) 1 c2]) h k := arun_push und_27 und_27 size_37 bytes_37 zero_37 (by decide) rfl S hy hyl hone hbd K
theorem cat_api_Timer {α : Type} {R : Nat} {enc : α → List Value} {v w : Value} {xs ys : List α} {h : Hp} {k : Value → Hp → Prop} (S : SlAt h 37 2 enc v xs) (R0 : Src h 2 enc w ys) (hbd : (2 * (xs.length + ys.length) + 770) * 16 ≤ 2 ^ 48) (K : ∀ v' h', SlAt h' 37 2 enc v' (xs ++ ys) → Grew h h' v v' → k v' h') :
    arun Try.prog (Builtin.append_ #[27, 27] R #[v, w]) h k := arun_cat und_27 und_27 size_37 bytes_37 zero_37 (by decide) rfl S R0 hbd K
theorem snoc_api_Timer {α : Type} {R E3 : Nat} {enc : α → List Value} {v : Value} {xs : List α} {y : α} {h : Hp} {k : Nat → Value → Hp → Prop} (S : SlAt h 37 2 enc v xs) (hl : (enc y).length = 2) (ho : ∀ u ∈ enc y, oneCell u = true) (hbd : (2 * (xs.length + 1) + 770) * 16 ≤ 2 ^ 48) (K : ∀ b v' h', SlAt h' 37 2 enc v' (xs ++ [y]) → Grew h h' v v' → h b = none → k b v' h') :
    ∀ b, h b = none → arun Try.prog (Builtin.append_ #[27, 27] R #[v, .slice (some ⟨b, 0, none⟩) 1 1]) (h.upd b (.cells (enc y).toArray E3 (0, 0))) (k b) := arun_snoc und_27 und_27 size_37 bytes_37 zero_37 (by decide) rfl S hl ho hbd K
@[simp] theorem bd_37_0_1 {h : Hp} {x0 : Int} {x1 : Int} : rrun Try.prog (Instr.build 37 #[(0, Value.int .i64 x0), (1, Value.int .i64 x1)]) h = some (.agg #[Value.int .i64 x0, Value.int .i64 x1]) := by kernel_rfl
@[simp] theorem bd_45_ {h : Hp}  : rrun Try.prog (Instr.build 45 #[]) h = some (.agg #[Value.slice none 0 0]) := by kernel_rfl
@[simp] theorem bd_50_0 {h : Hp} {x0 : Option Nat} : rrun Try.prog (Instr.build 50 #[(0, Value.map x0)]) h = some (.agg #[Value.map x0]) := by kernel_rfl
@[simp] theorem bs_27_1_0 {h : Hp} {x0_0 : Int} {x0_1 : Int} {k : Value → Hp → Prop} : arun Try.prog (Instr.buildSlice 27 1 #[(0, Value.agg #[Value.int .i64 x0_0, Value.int .i64 x0_1])]) h k = nw h (.cells #[Value.int .i64 x0_0, Value.int .i64 x0_1] 37) fun b h => k (.slice (some ⟨b, 0, none⟩) 1 1) h := by kernel_rfl
@[simp] theorem bs_32_2_0_1 {h : Hp} {x0 : Int} {x1 : Int} {k : Value → Hp → Prop} : arun Try.prog (Instr.buildSlice 32 2 #[(0, Value.int .i64 x0), (1, Value.int .i64 x1)]) h k = nw h (.cells #[Value.int .i64 x0, Value.int .i64 x1] 3) fun b h => k (.slice (some ⟨b, 0, none⟩) 2 2) h := by kernel_rfl
@[simp] theorem cv_3_55 {h : Hp} {x : Int} : rrun Try.prog (convert 3 55 (.int .i64 x)) h = some (.int .u64 (IntKind.u64.wrap x)) := by kernel_rfl
@[simp] theorem cv_3_70 {h : Hp} {x : Int} : rrun Try.prog (convert 3 70 (.int .i64 x)) h = some (.int .u64 (IntKind.u64.wrap x)) := by kernel_rfl
@[simp] theorem cv_5_3 {h : Hp} {x : Int} : rrun Try.prog (convert 5 3 (.int .u8 x)) h = some (.int .i64 (IntKind.i64.wrap x)) := by kernel_rfl
@[simp] theorem cv_55_3 {h : Hp} {x : Int} : rrun Try.prog (convert 55 3 (.int .u64 x)) h = some (.int .i64 (IntKind.i64.wrap x)) := by kernel_rfl
@[simp] theorem cv_55_66 {h : Hp} {x : Int} : rrun Try.prog (convert 55 66 (.int .u64 x)) h = some (.int .u32 (IntKind.u32.wrap x)) := by kernel_rfl
@[simp] theorem cv_66_5 {h : Hp} {x : Int} : rrun Try.prog (convert 66 5 (.int .u32 x)) h = some (.int .u8 (IntKind.u8.wrap x)) := by kernel_rfl
@[simp] theorem cv_68_5 {h : Hp} {x : Int} : rrun Try.prog (convert 68 5 (.int .u64 x)) h = some (.int .u8 (IntKind.u8.wrap x)) := by kernel_rfl
@[simp] theorem eql_23_sn {h : Hp} {x y : Operand} {a : Addr} : rrun Try.prog (bop .eql 23 x y (.pointer (some a)) (.pointer none)) h = some (.bool false) := by kernel_rfl
@[simp] theorem eql_23_nn {h : Hp} {x y : Operand} {p : Option Addr} : rrun Try.prog (bop .eql 23 x y (.pointer none) (.pointer p)) h = some (.bool (p.isNone)) := by kernel_rfl
theorem eql_37_raw {h : Hp} {x y : Operand} {p_0 : Int} {p_1 : Int} {q_0 : Int} {q_1 : Int} : rrun Try.prog (bop .eql 37 x y (Value.agg #[Value.int .i64 p_0, Value.int .i64 p_1]) (Value.agg #[Value.int .i64 q_0, Value.int .i64 q_1])) h = some (.bool ((decide (p_0 = q_0) && (decide (p_1 = q_1) && true)))) :=
  rr_eql_struct Try.underlying37 (by kernel_rfl) (by kernel_rfl) (rr_eqf_cons (a := Value.int .i64 p_0) (b := Value.int .i64 q_0) (by rfl) (by kernel_rfl) (by kernel_rfl) (by kernel_rfl) (rr_eqf_cons (a := Value.int .i64 p_1) (b := Value.int .i64 q_1) (by rfl) (by kernel_rfl) (by kernel_rfl) (by kernel_rfl) rr_eqf_nil))
@[simp] theorem eql_37 {h : Hp} {x y : Operand} {p_0 : Int} {p_1 : Int} {q_0 : Int} {q_1 : Int} : rrun Try.prog (bop .eql 37 x y (Value.agg #[Value.int .i64 p_0, Value.int .i64 p_1]) (Value.agg #[Value.int .i64 q_0, Value.int .i64 q_1])) h = some (.bool ((decide (p_0 = q_0) && (decide (p_1 = q_1))))) := by
  rw [eql_37_raw]; simp only [Bool.and_true]
@[simp] theorem eql_4 {h : Hp} {x y : Operand} {a b : Bool} : rrun Try.prog (bop .eql 4 x y (.bool a) (.bool b)) h = some (.bool (decide (a = b))) := by kernel_rfl
@[simp] theorem neq_23_sn {h : Hp} {x y : Operand} {a : Addr} : rrun Try.prog (bop .neq 23 x y (.pointer (some a)) (.pointer none)) h = some (.bool true) := by kernel_rfl
@[simp] theorem neq_23_nn {h : Hp} {x y : Operand} {p : Option Addr} : rrun Try.prog (bop .neq 23 x y (.pointer none) (.pointer p)) h = some (.bool (!p.isNone)) := by kernel_rfl
theorem neq_37_raw {h : Hp} {x y : Operand} {p_0 : Int} {p_1 : Int} {q_0 : Int} {q_1 : Int} : rrun Try.prog (bop .neq 37 x y (Value.agg #[Value.int .i64 p_0, Value.int .i64 p_1]) (Value.agg #[Value.int .i64 q_0, Value.int .i64 q_1])) h = some (.bool (!(decide (p_0 = q_0) && (decide (p_1 = q_1) && true)))) :=
  rr_neq_struct Try.underlying37 (by kernel_rfl) (by kernel_rfl) (rr_eqf_cons (a := Value.int .i64 p_0) (b := Value.int .i64 q_0) (by rfl) (by kernel_rfl) (by kernel_rfl) (by kernel_rfl) (rr_eqf_cons (a := Value.int .i64 p_1) (b := Value.int .i64 q_1) (by rfl) (by kernel_rfl) (by kernel_rfl) (by kernel_rfl) rr_eqf_nil))
@[simp] theorem neq_37 {h : Hp} {x y : Operand} {p_0 : Int} {p_1 : Int} {q_0 : Int} {q_1 : Int} : rrun Try.prog (bop .neq 37 x y (Value.agg #[Value.int .i64 p_0, Value.int .i64 p_1]) (Value.agg #[Value.int .i64 q_0, Value.int .i64 q_1])) h = some (.bool (!(decide (p_0 = q_0) && (decide (p_1 = q_1))))) := by
  rw [neq_37_raw]; simp only [Bool.and_true]
@[simp] theorem neq_4 {h : Hp} {x y : Operand} {a b : Bool} : rrun Try.prog (bop .neq 4 x y (.bool a) (.bool b)) h = some (.bool (!decide (a = b))) := by kernel_rfl
@[simp] theorem fa_34_0 {h : Hp} {b o : Nat} : rrun Try.prog (Instr.fieldAt 34 (.pointer (some ⟨b, o, none⟩)) 0) h = some (.pointer (some ⟨b, o, none⟩)) := by kernel_rfl
@[simp] theorem fa_34_1 {h : Hp} {b o : Nat} : rrun Try.prog (Instr.fieldAt 34 (.pointer (some ⟨b, o, none⟩)) 1) h = some (.pointer (some ⟨b, o + 1, none⟩)) := by kernel_rfl
@[simp] theorem fa_34_2 {h : Hp} {b o : Nat} : rrun Try.prog (Instr.fieldAt 34 (.pointer (some ⟨b, o, none⟩)) 2) h = some (.pointer (some ⟨b, o + 2, none⟩)) := by kernel_rfl
@[simp] theorem fa_37_0 {h : Hp} {b o : Nat} : rrun Try.prog (Instr.fieldAt 37 (.pointer (some ⟨b, o, none⟩)) 0) h = some (.pointer (some ⟨b, o, none⟩)) := by kernel_rfl
@[simp] theorem fa_37_1 {h : Hp} {b o : Nat} : rrun Try.prog (Instr.fieldAt 37 (.pointer (some ⟨b, o, none⟩)) 1) h = some (.pointer (some ⟨b, o + 1, none⟩)) := by kernel_rfl
@[simp] theorem fa_45_0 {h : Hp} {b o : Nat} : rrun Try.prog (Instr.fieldAt 45 (.pointer (some ⟨b, o, none⟩)) 0) h = some (.pointer (some ⟨b, o, none⟩)) := by kernel_rfl
@[simp] theorem fa_50_0 {h : Hp} {b o : Nat} : rrun Try.prog (Instr.fieldAt 50 (.pointer (some ⟨b, o, none⟩)) 0) h = some (.pointer (some ⟨b, o, none⟩)) := by kernel_rfl
@[simp] theorem ia_27 {h : Hp} {b o n c : Nat} {i : Int} (h0 : 0 ≤ i) (h1 : i < (n : Int)) : rrun Try.prog (Instr.indexAt 27 (.slice (some ⟨b, o, none⟩) n c) (.int .i64 i)) h = some (.pointer (some ⟨b, o + i.toNat * 2, none⟩)) := rr_indexAt_slice und_27 size_37 h0 h1
theorem und_31 : Try.prog.underlying 31 = some (.slice 34) := by kernel_rfl
theorem size_34 : (Try.prog.info? 34).map (·.size) = some 3 := by kernel_rfl
@[simp] theorem ia_31 {h : Hp} {b o n c : Nat} {i : Int} (h0 : 0 ≤ i) (h1 : i < (n : Int)) : rrun Try.prog (Instr.indexAt 31 (.slice (some ⟨b, o, none⟩) n c) (.int .i64 i)) h = some (.pointer (some ⟨b, o + i.toNat * 3, none⟩)) := rr_indexAt_slice und_31 size_34 h0 h1
theorem und_32 : Try.prog.underlying 32 = some (.slice 3) := by kernel_rfl
theorem size_3 : (Try.prog.info? 3).map (·.size) = some 1 := by kernel_rfl
@[simp] theorem ia_32 {h : Hp} {b o n c : Nat} {i : Int} (h0 : 0 ≤ i) (h1 : i < (n : Int)) : rrun Try.prog (Instr.indexAt 32 (.slice (some ⟨b, o, none⟩) n c) (.int .i64 i)) h = some (.pointer (some ⟨b, o + i.toNat * 1, none⟩)) := rr_indexAt_slice und_32 size_3 h0 h1
@[simp] theorem ld_27 {h : Hp} {a : Addr} : rrun Try.prog (Instr.loadAt 27 (.pointer (some a))) h = h.cell? a := rr_load_one (by kernel_rfl)
@[simp] theorem ld_3 {h : Hp} {a : Addr} : rrun Try.prog (Instr.loadAt 3 (.pointer (some a))) h = h.cell? a := rr_load_one (by kernel_rfl)
@[simp] theorem ld_37 {h : Hp} {b o : Nat} : rrun Try.prog (Instr.loadAt 37 (.pointer (some ⟨b, o, none⟩))) h = (ldN h b o 2).map fun l => .agg l.toArray := rr_load_agg (by kernel_rfl) (by kernel_rfl)
@[simp] theorem ld_48 {h : Hp} {a : Addr} : rrun Try.prog (Instr.loadAt 48 (.pointer (some a))) h = h.cell? a := rr_load_one (by kernel_rfl)
@[simp] theorem ln_27 {h : Hp} {a : Option Addr} {n c : Nat} : rrun Try.prog (Builtin.len_ #[27] 3 #[.slice a n c]) h = some (.int .i64 n) := by kernel_rfl
@[simp] theorem ln_31 {h : Hp} {a : Option Addr} {n c : Nat} : rrun Try.prog (Builtin.len_ #[31] 3 #[.slice a n c]) h = some (.int .i64 n) := by kernel_rfl
@[simp] theorem ln_32 {h : Hp} {a : Option Addr} {n c : Nat} : rrun Try.prog (Builtin.len_ #[32] 3 #[.slice a n c]) h = some (.int .i64 n) := by kernel_rfl
@[simp] theorem ln_48 {h : Hp} {r : Nat} {es : Array MapEntry} {cl : Nat} (hm : h r = some (.map es cl)) : rrun Try.prog (Builtin.len_ #[48] 3 #[.map (some r)]) h = some (.int .i64 es.size) := by
  have e : rrun Try.prog (Builtin.len_ #[48] 3 #[.map (some r)]) h = rrun Try.prog (Sem.getObj r fun o => match o with | .map es _ => .pure (.int .i64 es.size) | _ => stuck "len: map expected") h := by kernel_rfl
  rw [e]; simp only [rrun, hm, isRow]
theorem size_27 : (Try.prog.info? 27).map (·.size) = some 1 := by kernel_rfl
@[simp] theorem st_27 {h : Hp} {b o : Nat} {xa : Option Addr} {xn xc : Nat} {k : Unit → Hp → Prop} : arun Try.prog (Instr.storeAt 27 (.pointer (some ⟨b, o, none⟩)) (Value.slice xa xn xc)) h k = stN h b o [Value.slice xa xn xc] (k ()) := arun_store_eq size_27 rfl
@[simp] theorem st_37 {h : Hp} {b o : Nat} {x_0 : Int} {x_1 : Int} {k : Unit → Hp → Prop} : arun Try.prog (Instr.storeAt 37 (.pointer (some ⟨b, o, none⟩)) (Value.agg #[Value.int .i64 x_0, Value.int .i64 x_1])) h k = stN h b o [Value.int .i64 x_0, Value.int .i64 x_1] (k ()) := arun_store_eq size_37 rfl
theorem size_70 : (Try.prog.info? 70).map (·.size) = some 1 := by kernel_rfl
@[simp] theorem st_70 {h : Hp} {b o : Nat} {x : Int} {k : Unit → Hp → Prop} : arun Try.prog (Instr.storeAt 70 (.pointer (some ⟨b, o, none⟩)) (Value.int .u64 x)) h k = stN h b o [Value.int .u64 x] (k ()) := arun_store_eq size_70 rfl
end Go.Proofs.Ytncnlfidncjmbaa

/- cmp.Compare and cmp.Or at ints. -/
namespace Go.Proofs.Ytncnlfidncjmbaa
open Go
set_option linter.unusedSimpArgs false
set_option linter.unusedVariables false

def cmpI (a b : Int) : Int := if a < b then -1 else if b < a then 1 else 0
def orI : List Int → Int
  | [] => 0
  | x :: xs => if x = 0 then orI xs else x

theorem compare_spec {a b : Int} {h : Hp} {Q : Value → Hp → Prop} (hQ : Q (.int .i64 (cmpI a b)) h) : Ok Try.prog F_cmp_Compare_int #[.int .i64 a, .int .i64 b] h Q := by
  have nan : ∀ {a : Int} {h : Hp} {Q : Value → Hp → Prop}, Q (.bool false) h → Ok Try.prog F_cmp_isNaN_int #[.int .i64 a] h Q := by
    intro a h Q hQ
    refine cmp_isNaN_int_ok (by simp) ?_
    unfold cmp_isNaN_int_D
    simp (disch := omega) [cmp_isNaN_int_r0, cmp_isNaN_int_r1]
    exact .to _ (.refl _) hQ
  refine cmp_Compare_int_ok (by simp) ?_
  unfold cmp_Compare_int_D
  simp (disch := omega) [cmp_Compare_int_r0, cmp_Compare_int_r1]
  refine nan ?_
  simp (disch := omega) [cmp_Compare_int_r2]
  refine nan ?_
  unfold cmpI at hQ
  by_cases h1 : a < b
  · simp (disch := omega) [cmp_Compare_int_r3, cmp_Compare_int_r7, cmp_Compare_int_r9, cmp_Compare_int_r10, h1]
    rw [if_pos h1] at hQ
    exact .to _ (.refl _) hQ
  · by_cases h2 : b < a
    · simp (disch := omega) [cmp_Compare_int_r3, cmp_Compare_int_r7, cmp_Compare_int_r9, cmp_Compare_int_r11, cmp_Compare_int_r12, h1, h2]
      rw [if_neg h1, if_pos h2] at hQ
      exact .to _ (.refl _) hQ
    · simp (disch := omega) [cmp_Compare_int_r3, cmp_Compare_int_r7, cmp_Compare_int_r9, cmp_Compare_int_r11, cmp_Compare_int_r13, h1, h2]
      rw [if_neg h1, if_neg h2] at hQ
      exact .to _ (.refl _) hQ

def OrInv (h0 : Hp) (b n cap : Nat) (l : List Int) (m : Nat) (env : Env) (g : Hp) : Prop :=
  g = h0 ∧ ∃ i : Nat, env 3 = .int .i64 0 ∧ env 6 = .slice (some ⟨b, 0, none⟩) n cap ∧ env 7 = .int .i64 (n : Nat) ∧ env 8 = .int .i64 (i : Nat) ∧ i + m = n ∧ orI (l.drop i) = orI l

theorem orI_drop {l : List Int} {i : Nat} {x : Int} (h : l[i]? = some x) : orI (l.drop i) = if x = 0 then orI (l.drop (i + 1)) else x := by
  have hi := (List.getElem?_eq_some_iff.1 h).1
  have e := (List.getElem?_eq_some_iff.1 h).2
  rw [List.drop_eq_getElem_cons hi, e]; rfl

theorem or_spec {b cap : Nat} {c : Array Value} {E : TypeId} {fr : Nat × Nat} {l : List Int} {h : Hp} {Q : Value → Hp → Prop} (hb : h b = some (.cells c E fr)) (hl : ∀ (i : Nat) (x : Int), l[i]? = some x → c[i]? = some (Value.int .i64 x)) (hn : l.length ≤ 1000)
    (hQ : Q (.int .i64 (orI l)) h) : Ok Try.prog F_cmp_Or_int #[.slice (some ⟨b, 0, none⟩) l.length cap] h Q := by
  refine cmp_Or_int_ok (by simp) ?_
  unfold cmp_Or_int_D
  simp (disch := omega) [cmp_Or_int_r0, cmp_Or_int_r1, cmp_Or_int_r2]
  refine ⟨OrInv h b l.length cap l, ⟨l.length, rfl, 0, by simp, by simp, by simp, by simp, by omega, by simp⟩, ?_⟩
  rintro m env g ⟨rfl, i, e3, e6, e7, e8, him, ho⟩
  unfold cmp_Or_int_L0
  by_cases hm : m = 0
  · have : i = l.length := by omega
    subst this
    simp (disch := omega) [cmp_Or_int_r3, cmp_Or_int_r8, e3, e6, e7, e8]
    rw [List.drop_length] at ho
    rw [← ho] at hQ
    exact .to _ (.refl _) hQ
  · obtain ⟨x, hx⟩ : ∃ x, l[i]? = some x := ⟨_, List.getElem?_eq_getElem (by omega)⟩
    have hc := hl i x hx
    have hi : i < l.length := by omega
    have hi' : (i : Int) < (l.length : Int) := by omega
    rw [orI_drop hx] at ho
    by_cases hx0 : x = 0
    · subst hx0
      simp (disch := omega) [cmp_Or_int_r3, cmp_Or_int_r4, cmp_Or_int_r5, cmp_Or_int_r7, e3, e6, e7, e8, hi, hi', hb, hc, wrap_i64]
      exact ⟨m - 1, by omega, rfl, i + 1, by simp [e3], by simp [e6], by simp [e7], by simp, by omega, by simpa using ho⟩
    · simp (disch := omega) [cmp_Or_int_r3, cmp_Or_int_r4, cmp_Or_int_r5, cmp_Or_int_r6, e3, e6, e7, e8, hi, hi', hb, hc, hx0]
      rw [if_neg hx0] at ho
      rw [← ho] at hQ
      exact .to _ (.refl _) hQ
end Go.Proofs.Ytncnlfidncjmbaa

/- Timers: order, and slices.SortFunc by it. -/
namespace Go.Proofs.Ytncnlfidncjmbaa
open Go Go.Shelf Go.RowKit Go.Lib Go.Sort
set_option linter.unusedSimpArgs false
set_option linter.unusedVariables false

abbrev Tm := Int × Int
def tenc (x : Tm) : List Value := [.int .i64 x.1, .int .i64 x.2]
abbrev tv (x : Tm) : Value := .agg #[.int .i64 x.1, .int .i64 x.2]
def cmpT (x y : Tm) : Int := orI [cmpI x.2 y.2, cmpI x.1 y.1]
def tlt (x y : Tm) : Prop := x.2 < y.2 ∨ (x.2 = y.2 ∧ x.1 < y.1)
instance (x y : Tm) : Decidable (tlt x y) := by unfold tlt; infer_instance

theorem order_spec {x y : Tm} {h : Hp} {Q : Value → Hp → Prop} (hQ : ∀ h', Le h h' → Q (.int .i64 (cmpT x y)) h') : Ok Try.prog F_timers_order #[tv x, tv y] h Q := by
  refine timers_order_ok (by simp) ?_
  unfold timers_order_D
  simp (disch := omega) [timers_order_r0]
  intro b1 hb1 b2 hb2
  obtain ⟨n21, hb2'⟩ := upd_none hb2
  have L1 : Le h ((h.upd b1 (.cells #[.int .i64 x.1, .int .i64 x.2] 37)).upd b2 (.cells #[.int .i64 y.1, .int .i64 y.2] 37)) := (Le.new hb1).trans (Le.new hb2)
  have f1 : ((h.upd b1 (.cells #[.int .i64 x.1, .int .i64 x.2] 37)).upd b2 (.cells #[.int .i64 y.1, .int .i64 y.2] 37)) b1 = some (.cells #[.int .i64 x.1, .int .i64 x.2] 37) := by rw [upd_ne (Ne.symm n21), upd_same]
  have f2 : ((h.upd b1 (.cells #[.int .i64 x.1, .int .i64 x.2] 37)).upd b2 (.cells #[.int .i64 y.1, .int .i64 y.2] 37)) b2 = some (.cells #[.int .i64 y.1, .int .i64 y.2] 37) := upd_same
  generalize (h.upd b1 (.cells #[.int .i64 x.1, .int .i64 x.2] 37)).upd b2 (.cells #[.int .i64 y.1, .int .i64 y.2] 37) = g1 at *
  simp (disch := omega) [timers_order_r1, f1, f2]
  refine compare_spec ?_
  simp (disch := omega) [f1, f2]
  refine compare_spec ?_
  simp (disch := omega) [f1, f2]
  intro b3 hb3
  refine or_spec (l := [cmpI x.2 y.2, cmpI x.1 y.1]) upd_same (fun i x hx => ?_) (by simp) ?_
  · rcases i with _ | _ | i <;> simp at hx ⊢ <;> exact hx
  · simp (disch := omega)
    exact .to _ (.refl _) (hQ _ (L1.trans (Le.new hb3)))

theorem cmpT_lt {x y : Tm} : cmpT x y < 0 ↔ tlt x y := by
  unfold cmpT orI orI orI cmpI tlt
  split <;> rename_i h1 <;> split <;> (try split) <;> (try split) <;> omega

theorem ltT (x y : Tm) : ltOf cmpT x y = decide (tlt x y) := by
  unfold ltOf
  rw [decide_eq_decide]
  exact cmpT_lt

theorem tlt_trans {x y z : Tm} (h1 : tlt x y) (h2 : tlt y z) : tlt x z := by unfold tlt at *; omega
theorem tlt_ntrans {x y z : Tm} (h1 : ¬ tlt x y) (h2 : ¬ tlt y z) : ¬ tlt x z := by unfold tlt at *; omega

theorem swoT : SWO (ltOf cmpT) where
  irrefl x := by rw [ltT]; simp [tlt]
  trans x y z h1 h2 := by rw [ltT, decide_eq_true_eq] at *; exact tlt_trans h1 h2
  ntrans x y z h1 h2 := by rw [ltT, decide_eq_false_iff_not] at *; exact tlt_ntrans h1 h2

/-- None comes ahead of an earlier one. -/
def SrtT (l : List Tm) : Prop := l.Pairwise fun x y => ¬ tlt y x

theorem isAggT : ∀ w, (isAgg (sortL_ren.t 24)).run Try.prog w = .ok true w := by intro w; kernel_rfl
theorem sizeT : ∀ w, (Go.sizeOf (sortL_ren.t 24)).run Try.prog w = .ok 2 w := by intro w; kernel_rfl

theorem len_spec {n : Nat} {h : Hp} {Q : Value → Hp → Prop} (hn : n < 2 ^ 63) (hQ : ∀ k : Int, Q (.int .i64 k) h) : Ok Try.prog F_math_bits_Len #[.int .u64 (n : Nat)] h Q := by
  refine ⟨⟨Try.f22, math_bits_Len_code, Try.func22, by kernel_rfl⟩, fun w V => ?_⟩
  have := Any.bits_Len bitsL (n : Int) w (by omega) (by omega)
  refine Calls.mono (P := Try.prog) this ?_
  rintro e w' ⟨rfl, rfl⟩
  exact ⟨_, h, rfl, V, .refl _ _, hQ _⟩


theorem sort_nil {Q : Value → Hp → Prop} {h : Hp} (hQ : Q (.tuple #[]) h) : Ok Try.prog F_slices_SortFunc_api_Timer_api_Timer #[.slice none 0 0, .func (.func F_timers_order) #[] #[]] h Q := by
  refine slices_SortFunc_api_Timer_api_Timer_ok (by simp) ?_
  unfold slices_SortFunc_api_Timer_api_Timer_D
  simp (disch := omega) [slices_SortFunc_api_Timer_api_Timer_r0, slices_SortFunc_api_Timer_api_Timer_r1]
  refine len_spec (n := 0) (by omega) (fun k => ?_)
  simp (disch := omega)
  refine slices_pdqsortCmpFunc_api_Timer_ok (by simp) ?_
  unfold slices_pdqsortCmpFunc_api_Timer_D
  simp (disch := omega) [slices_pdqsortCmpFunc_api_Timer_r0, slices_pdqsortCmpFunc_api_Timer_r1]
  refine ⟨fun _ env g => g = h ∧ env 0 = .slice none 0 0 ∧ env 1 = .int .i64 0 ∧ env 2 = .int .i64 0, ⟨0, rfl, by simp, by simp, by simp⟩, ?_⟩
  rintro _ env g ⟨rfl, e0, e1, e2⟩
  unfold slices_pdqsortCmpFunc_api_Timer_L0
  simp (disch := omega) [slices_pdqsortCmpFunc_api_Timer_r2, slices_pdqsortCmpFunc_api_Timer_r3, slices_pdqsortCmpFunc_api_Timer_r4, e0, e1, e2, wrap_i64]
  refine slices_insertionSortCmpFunc_api_Timer_ok (by simp) ?_
  unfold slices_insertionSortCmpFunc_api_Timer_D
  simp (disch := omega) [slices_insertionSortCmpFunc_api_Timer_r0, wrap_i64]
  refine ⟨fun _ env g2 => g2 = g ∧ env 2 = .int .i64 0 ∧ env 8 = .int .i64 1, ⟨0, rfl, by simp, by simp⟩, ?_⟩
  rintro _ env2 g2 ⟨rfl, f2, f8⟩
  unfold slices_insertionSortCmpFunc_api_Timer_L1
  simp (disch := omega) [slices_insertionSortCmpFunc_api_Timer_r1, f2, f8]
  exact .to _ (.refl _) (.to _ (.refl _) (.to _ (.refl _) hQ))

theorem sort_spec {h : Hp} {v : Value} {d : List Tm} {Q : Value → Hp → Prop} (S : SlAt h T_api_Timer 2 tenc v d) (hsz : d.length < 4611686018427387904)
    (hQ : ∀ (d' : List Tm) h', d'.Perm d → SrtT d' → (∀ x o, h x = some o → blkOf v ≠ some x → h' x = some o) → SlAt h' T_api_Timer 2 tenc v d' → Q (.tuple #[]) h') :
    Ok Try.prog F_slices_SortFunc_api_Timer_api_Timer #[v, .func (.func F_timers_order) #[] #[]] h Q := by
  rcases S with ⟨rfl, rfl⟩ | ⟨b, cap, c, rfl, hb, h1, h2, h3⟩
  · exact sort_nil (hQ [] h (.refl _) .nil (fun _ _ e _ => e) (.inl ⟨rfl, rfl⟩))
  · have hlc : d.length * 2 ≤ c.size := by omega
    refine ok_sortFunc sortL isAggT sizeT (enc := tenc) (fun _ => rfl) (fun x v hv => by simp [tenc] at hv; rcases hv with rfl | rfl <;> rfl) swoT (g := F_timers_order) (cb := #[])
      (enters_of Try.func20 (by kernel_rfl) rfl) (fun x y => order_spec (fun _ _ => rfl)) ⟨_, slices_SortFunc_api_Timer_api_Timer_code, Try.func19, by kernel_rfl⟩ hb hlc h3 hsz (fun d' c' hp hs hc he => ?_)
    have hl := hp.length_eq
    refine hQ d' _ hp (hs.imp fun {x y} q => by rw [ltT] at q; simpa using q) (fun x o e n => ?_) (.inr ⟨b, cap, c', by rw [hl], upd_same, by omega, by omega, he⟩)
    rw [upd_ne (fun q => n (by subst q; rfl))]; exact e
end Go.Proofs.Ytncnlfidncjmbaa

/- Maps with integer keys; a range over a map, whatever order is drawn. -/
namespace Go.Proofs.Ytncnlfidncjmbaa
open Go
set_option linter.unusedSimpArgs false
set_option linter.unusedVariables false

section
variable {P : Program} {h : Hp} {α β : Type} [DecidableEq α] {kenc : α → Value} {venc : β → Value}

theorem findNow_int {kd kd' : IntKind} {f : α → Int} (hf : ∀ x y, f x = f y → x = y) {a : α} : ∀ {es : List MapEntry} {m : List (α × β)} (i : Nat), Ents (fun x => .int kd (f x)) venc es m →
    Instr.findNow (.int kd') (.int kd (f a)) es i = some ((findM a m i).map fun x => (x.1, venc x.2)) := by
  intro es m i H
  induction H generalizing i with
  | nil => rfl
  | @cons e es k v m h1 h2 _ ih =>
    unfold Instr.findNow
    have hs : Instr.sameNow (.int kd') (.int kd (f a)) e.key = some (f a == f k) := by
      rw [h1]; simp [Instr.sameNow]
    rw [hs]
    by_cases hak : a = k
    · subst hak; simp [findM, h2]
    · have : (f a == f k) = false := by simp; exact fun e => hak (hf _ _ e)
      rw [this]
      simp only [findM, if_neg hak]
      exact ih _

theorem rr_findKey_int {kt : TypeId} {kd kd' : IntKind} {f : α → Int} (hf : ∀ x y, f x = f y → x = y) {a : α} (hu : P.underlying kt = some (.int kd')) {es : List MapEntry} {m : List (α × β)} (H : Ents (fun x => .int kd (f x)) venc es m) :
    rrun P (Instr.findKey kt (.int kd (f a)) es) h = some ((findM a m 0).map fun x => (x.1, venc x.2)) := by
  unfold Instr.findKey
  rw [rrun_bnd, rr_underlying, hu, Option.bind_some, findNow_int hf 0 H]
  rfl

/-! ### When entries came -/
def BornOk (es : List MapEntry) (clock : Nat) : Prop := (es.map (·.born)).Nodup ∧ ∀ e ∈ es, e.born < clock

def MapB (h : Hp) (r : Nat) (kenc : α → Value) (venc : β → Value) (m : List (α × β)) : Prop := ∃ es clock, h r = some (.map es clock) ∧ Ents kenc venc es.toList m ∧ BornOk es.toList clock

omit [DecidableEq α] in
theorem MapB.at {r : Nat} {m : List (α × β)} (M : MapB h r kenc venc m) : MapAt h r kenc venc m := by
  obtain ⟨es, clock, h1, h2, _⟩ := M; exact ⟨es, clock, h1, h2⟩

omit [DecidableEq α] in
theorem MapB.keep {h' : Hp} {r : Nat} {m : List (α × β)} (M : MapB h r kenc venc m) (e : h' r = h r) : MapB h' r kenc venc m := by
  obtain ⟨es, clock, h1, h2, h3⟩ := M; exact ⟨es, clock, by rw [e]; exact h1, h2, h3⟩

omit [DecidableEq α] in
theorem MapB.le {h' : Hp} {r : Nat} {m : List (α × β)} (M : MapB h r kenc venc m) (e : Le h h') : MapB h' r kenc venc m := by
  obtain ⟨es, clock, h1, h2, h3⟩ := M; exact ⟨es, clock, e _ _ h1, h2, h3⟩

omit [DecidableEq α] in
theorem MapB.alive {r : Nat} {m : List (α × β)} (M : MapB h r kenc venc m) : ∃ o, h r = some o := by
  obtain ⟨es, clock, h1, _⟩ := M; exact ⟨_, h1⟩

theorem BornOk.push {es : List MapEntry} {c : Nat} (B : BornOk es c) {k v : Value} : BornOk (es ++ [{ key := k, val := v, born := c }]) (c + 1) := by
  refine ⟨?_, fun e he => ?_⟩
  · rw [List.map_append, List.nodup_append]
    refine ⟨B.1, by simp, fun x hx y hy => ?_⟩
    obtain ⟨e, he, rfl⟩ := List.mem_map.1 hx
    simp at hy; subst hy
    exact Nat.ne_of_lt (B.2 e he)
  · rcases List.mem_append.1 he with q | q
    · exact Nat.lt_succ_of_lt (B.2 e q)
    · simp at q; subst q; exact Nat.lt_succ_self _

theorem map_modify_same {γ δ : Type} (g : γ → δ) (f : γ → γ) (hg : ∀ x, g (f x) = g x) : ∀ (l : List γ) (j : Nat), (l.modify j f).map g = l.map g
  | [], j => by simp
  | x :: xs, 0 => by simp [hg]
  | x :: xs, j + 1 => by simp [map_modify_same g f hg xs j]

theorem BornOk.modify {es : List MapEntry} {c j : Nat} (B : BornOk es c) {f : MapEntry → MapEntry} (hf : ∀ e, (f e).born = e.born) : BornOk (es.modify j f) c := by
  have e := map_modify_same (·.born) f hf es j
  refine ⟨by rw [e]; exact B.1, fun x hx => ?_⟩
  have : x.born ∈ (es.modify j f).map (·.born) := List.mem_map_of_mem hx
  rw [e] at this
  obtain ⟨y, hy, q⟩ := List.mem_map.1 this
  rw [← q]; exact B.2 y hy

theorem BornOk.sub {es es' : List MapEntry} {c : Nat} (B : BornOk es c) (s : List.Sublist es' es) : BornOk es' c :=
  ⟨List.Sublist.nodup (s.map _) B.1, fun e he => B.2 e (s.subset he)⟩

theorem arun_mapUpdateB {t kt et : TypeId} {r : Nat} {a : α} {v : β} {m : List (α × β)} {K : Unit → Hp → Prop} (hu : P.underlying t = some (.map kt et)) (M : MapB h r kenc venc m) (hck : ∀ e, rrun P (Instr.checkKey e 10000 kt (kenc a)) h = some ())
    (hfk : ∀ es : List MapEntry, Ents kenc venc es m → rrun P (Instr.findKey kt (kenc a) es) h = some ((findM a m 0).map fun x => (x.1, venc x.2))) (hsb : Instr.sameBits 10000 (kenc a) (kenc a) = true)
    (hK : ∀ es clock, MapB (h.upd r (.map es clock)) r kenc venc (setM a v m) → K () (h.upd r (.map es clock))) :
    arun P (Instr.mapUpdate t (.map (some r)) (kenc a) (venc v)) h K := by
  obtain ⟨es, clock, hr, hE, hB⟩ := M
  unfold Instr.mapUpdate
  rw [arun_bnd_rr (a := .map kt et) (by rw [rr_underlying, hu])]
  simp only []
  rw [arun_bnd_rr (a := .map es clock) (rr_getObj hr)]
  simp only []
  rw [arun_bnd_rr (a := ()) (hck _), arun_bnd_rr (hfk _ hE)]
  have set : ∀ o, K () (h.upd r o) → arun P (setObj r o) h K := fun o hk => ⟨⟨_, hr, rfl⟩, hk⟩
  have kk : ∀ es clock, Ents kenc venc es.toList (setM a v m) → BornOk es.toList clock → K () (h.upd r (.map es clock)) := fun es clock q1 q2 =>
    hK es clock ⟨es, clock, upd_same, q1, q2⟩
  cases hf : findM a m 0 with
  | none =>
    simp only [Option.map_none]
    refine set _ (kk _ _ ?_ ?_)
    · rw [Array.toList_push]; exact hE.push hf
    · rw [Array.toList_push]; exact hB.push
  | some x =>
    obtain ⟨j, v0⟩ := x
    simp only [Option.map_some]
    obtain ⟨e, he, hke, _⟩ := hE.get (i := j) (x := (a, v0)) (by have := (findM_some hf).2; simpa using this)
    have hes : es[j]? = some e := by simpa using he
    have hks : rrun P (Instr.keyThatStays (((es[j]?).map (·.key)).getD (kenc a)) (kenc a)) h = some (kenc a) := by
      rw [hes]
      unfold Instr.keyThatStays
      simp only [Option.map_some, Option.getD_some, hke, hsb, if_true]
      rfl
    rw [arun_bnd_rr hks]
    refine set _ (kk _ _ ?_ ?_)
    · rw [Array.toList_modify]; exact hE.modify hf
    · rw [Array.toList_modify]; exact hB.modify (fun _ => rfl)

theorem arun_mapDeleteB {t kt et R : TypeId} {ts : Array TypeId} {r : Nat} {a : α} {m : List (α × β)} {K : Value → Hp → Prop} (ht : ts[0]? = some t) (hu : P.underlying t = some (.map kt et)) (M : MapB h r kenc venc m)
    (hck : ∀ e, rrun P (Instr.checkKey e 10000 kt (kenc a)) h = some ())
    (hfk : ∀ es : List MapEntry, Ents kenc venc es m → rrun P (Instr.findKey kt (kenc a) es) h = some ((findM a m 0).map fun x => (x.1, venc x.2)))
    (hK : ∀ es clock, MapB (h.upd r (.map es clock)) r kenc venc (delM a m) → K (.tuple #[]) (h.upd r (.map es clock))) :
    arun P (Builtin.delete_ ts R #[.map (some r), kenc a]) h K := by
  obtain ⟨es, clock, hr, hE, hB⟩ := M
  have set : ∀ o, K (.tuple #[]) (h.upd r o) → arun P (setObj r o >>= fun _ => pure (Value.tuple #[])) h K := fun o hk => ⟨⟨_, hr, rfl⟩, hk⟩
  have kk : ∀ es clock, Ents kenc venc es.toList (delM a m) → BornOk es.toList clock → K (.tuple #[]) (h.upd r (.map es clock)) := fun es clock q1 q2 =>
    hK es clock ⟨es, clock, upd_same, q1, q2⟩
  unfold Builtin.delete_
  rw [ht]
  simp only [List.getElem?_toArray, List.getElem?_cons_zero, List.getElem?_cons_succ]
  rw [arun_bnd_rr (a := .map kt et) (by rw [rr_underlying, hu])]
  simp only [bind_assoc, pure_bind]
  rw [arun_bnd_rr (a := .map es clock) (rr_getObj hr)]
  simp only []
  rw [arun_bnd_rr (a := ()) (hck _), arun_bnd_rr (hfk _ hE)]
  cases hf : findM a m 0 with
  | none =>
    simp only [Option.map_none]
    have : delM a m = m := delM_none (by unfold getM; rw [hf]; rfl)
    exact set _ (kk _ _ (by rw [this]; exact hE) hB)
  | some x =>
    obtain ⟨j, v⟩ := x
    simp only [Option.map_some]
    refine set _ (kk _ _ ?_ ?_)
    · rw [Array.toList_eraseIdxIfInBounds]; exact hE.erase hf
    · rw [Array.toList_eraseIdxIfInBounds]; exact hB.sub (List.eraseIdx_sublist _ _)

omit [DecidableEq α] in
theorem arun_makeMapB {t : TypeId} {K : Value → Hp → Prop} (hK : ∀ b, h b = none → MapB (h.upd b (.map #[] 0)) b kenc venc [] → K (.map (some b)) (h.upd b (.map #[] 0))) : arun P (Instr.makeMap t none) h K :=
  fun b hb => hK b hb ⟨#[], 0, upd_same, .nil, by simp [BornOk]⟩

/-! ### A range over a map -/
def seenOf (es : Array MapEntry) (is : List Nat) : Array Nat := (is.map fun i => ((es[i]?).map (·.born)).getD 0).toArray

/-- An iterator that has handed out these places, in this order. -/
def IterAt (h : Hp) (it r : Nat) (kenc : α → Value) (venc : β → Value) (m : List (α × β)) (is : List Nat) : Prop :=
  ∃ es clock, h r = some (.map es clock) ∧ h it = some (.mapIter (some r) clock (seenOf es is) clock) ∧ Ents kenc venc es.toList m ∧ BornOk es.toList clock ∧ is.Nodup ∧ ∀ i ∈ is, i < m.length

omit [DecidableEq α] in
theorem IterAt.keep {h' : Hp} {it r : Nat} {m : List (α × β)} {is : List Nat} (I : IterAt h it r kenc venc m is) (e1 : h' r = h r) (e2 : h' it = h it) : IterAt h' it r kenc venc m is := by
  obtain ⟨es, clock, h1, h2, h3⟩ := I; exact ⟨es, clock, by rw [e1]; exact h1, by rw [e2]; exact h2, h3⟩

omit [DecidableEq α] in
theorem IterAt.le {h' : Hp} {it r : Nat} {m : List (α × β)} {is : List Nat} (I : IterAt h it r kenc venc m is) (l : Le h h') : IterAt h' it r kenc venc m is := by
  obtain ⟨es, clock, h1, h2, h3⟩ := I; exact ⟨es, clock, l _ _ h1, l _ _ h2, h3⟩

omit [DecidableEq α] in
theorem IterAt.map {it r : Nat} {m : List (α × β)} {is : List Nat} (I : IterAt h it r kenc venc m is) : MapB h r kenc venc m := by
  obtain ⟨es, clock, h1, h2, h3, h4, _⟩ := I; exact ⟨es, clock, h1, h3, h4⟩

omit [DecidableEq α] in
theorem IterAt.ne {it r : Nat} {m : List (α × β)} {is : List Nat} (I : IterAt h it r kenc venc m is) : it ≠ r := by
  obtain ⟨es, clock, h1, h2, _⟩ := I
  rintro rfl; rw [h1] at h2; cases h2

omit [DecidableEq α] in
theorem arun_range {t kt et : TypeId} {r : Nat} {m : List (α × β)} {K : Value → Hp → Prop} (hu : P.underlying t = some (.map kt et)) (M : MapB h r kenc venc m)
    (hK : ∀ b o, h b = none → IterAt (h.upd b o) b r kenc venc m [] → K (.pointer (some ⟨b, 0, none⟩)) (h.upd b o)) : arun P (Instr.range t (.map (some r))) h K := by
  obtain ⟨es, clock, hr, hE, hB⟩ := M
  unfold Instr.range
  rw [arun_bnd_rr (a := .map kt et) (by rw [rr_underlying, hu])]
  simp only [bind_assoc, pure_bind]
  rw [arun_bnd_rr (a := .map es clock) (rr_getObj hr)]
  simp only [pure_bind]
  intro b hb
  refine hK b _ hb ⟨es, clock, ?_, upd_same, hE, hB, by simp, by simp⟩
  rw [upd_ne (by rintro rfl; rw [hr] at hb; cases hb)]; exact hr

omit [DecidableEq α] in
theorem born_inj {es : Array MapEntry} {c : Nat} (B : BornOk es.toList c) {i j : Nat} {e e' : MapEntry} (hi : es[i]? = some e) (hj : es[j]? = some e') (q : e.born = e'.born) : i = j := by
  have h1 : (es.toList.map (·.born))[i]? = some e.born := by rw [List.getElem?_map]; simp [hi]
  have h2 : (es.toList.map (·.born))[j]? = some e.born := by rw [List.getElem?_map]; simp [hj, q]
  exact (List.getElem?_inj (List.getElem?_eq_some_iff.1 h1).1 B.1).1 (by rw [h1, h2])

omit [DecidableEq α] in
theorem mem_seen {es : Array MapEntry} {c : Nat} (B : BornOk es.toList c) {is : List Nat} (hl : ∀ i ∈ is, i < es.size) {i : Nat} {e : MapEntry} (hi : es[i]? = some e) : (seenOf es is).contains e.born = decide (i ∈ is) := by
  rw [Bool.eq_iff_iff, decide_eq_true_eq, Array.contains_iff_mem]
  unfold seenOf
  rw [List.mem_toArray, List.mem_map]
  constructor
  · rintro ⟨j, hj, q⟩
    have hj' : es[j]? = some (es[j]'(hl j hj)) := Array.getElem?_eq_getElem (hl j hj)
    rw [hj', Option.map_some, Option.getD_some] at q
    rw [← born_inj B hj' hi q]; exact hj
  · intro hm; exact ⟨i, hm, by rw [hi]; rfl⟩

theorem seenOf_push {es : Array MapEntry} {is : List Nat} {i : Nat} {e : MapEntry} (hi : es[i]? = some e) : (seenOf es is).push e.born = seenOf es (is ++ [i]) := by
  unfold seenOf; simp [hi]

omit [DecidableEq α] in
theorem arun_next {it r : Nat} {m : List (α × β)} {is : List Nat} {ty : TypeId} {K : Value → Hp → Prop} (I : IterAt h it r kenc venc m is) (hend : (∀ i, i < m.length → i ∈ is) → K (.tuple #[.bool false]) h)
    (hstep : ∀ i x o, m[i]? = some x → i ∉ is → IterAt (h.upd it o) it r kenc venc m (is ++ [i]) → K (.tuple #[.bool true, kenc x.1, venc x.2]) (h.upd it o)) :
    arun P (Instr.next (.pointer (some ⟨it, 0, none⟩)) false ty) h K := by
  have hne := I.ne
  obtain ⟨es, clock, hr, hi, hE, hB, hN, hl⟩ := I
  have hlen : es.size = m.length := by have := hE.length_eq; rwa [Array.length_toList] at this
  have hgi : rrun P (getObj it) h = some (.mapIter (some r) clock (seenOf es is) clock) := by unfold getObj; simp only [rrun, hi, isRow]
  unfold Instr.next
  simp only []
  rw [arun_bnd_rr hgi]
  simp only []
  rw [arun_bnd_rr (a := .map es clock) (rr_getObj hr)]
  simp only []
  have hall : (!(seenOf es is).isEmpty && !es.isEmpty && es.all (fun x => decide (x.born ≥ clock))) = false := by
    by_cases h0 : es.size = 0
    · have : es = #[] := Array.eq_empty_of_size_eq_zero h0
      subst this; simp
    · have : es.all (fun x => decide (x.born ≥ clock)) = false := by
        rw [Array.all_eq_false]
        refine ⟨0, by omega, ?_⟩
        have := hB.2 es[0] (by simp)
        simp; omega
      rw [this]; simp
  have hc0 : (!(seenOf es is).isEmpty && !es.isEmpty && es.all fun x => decide (x.born ≥ clock)) = false := hall
  rw [if_neg (by rw [hc0]; simp)]
  generalize hL : (es.filter fun e => !(seenOf es is).contains e.born) = L
  have hmemL : ∀ e ∈ L, e.born < clock := by
    intro e he; rw [← hL] at he; simp at he; exact hB.2 e (by simpa using he.1)
  have e1 : L.filter (fun x => decide (x.born < clock)) = L := Array.filter_eq_self.2 (fun x hx => by simpa using hmemL x hx)
  have e2 : L.filter (fun x => decide (x.born ≥ clock)) = #[] := by
    rw [Array.filter_eq_empty_iff]
    intro x hx
    have := hmemL x hx
    simp; omega
  simp only [e1, e2, Array.append_empty]
  by_cases h0 : L.size = 0
  · have hLe : L = #[] := Array.eq_empty_of_size_eq_zero h0
    subst hLe
    simp only [Array.isEmpty_empty, if_true, Array.map_empty, Array.append_empty]
    show arun P (.choose (.mapNext 1) _) h K
    unfold arun
    simp only [Question.forced, Nat.le_refl, decide_true, if_true]
    refine hend fun i hi => ?_
    have hi' : i < es.size := by omega
    have hei : es[i]? = some es[i] := Array.getElem?_eq_getElem hi'
    have := mem_seen hB (is := is) (fun j hj => by rw [hlen]; exact hl j hj) hei
    rw [Array.filter_eq_empty_iff] at hL
    have h2 := hL es[i] (by simp)
    rw [this] at h2
    simpa using h2
  · have hne' : L.isEmpty = false := by simp [Array.isEmpty, h0]
    have step : ∀ j, j < L.size → ∃ e, L[j]? = some e ∧ K (.tuple #[.bool true, e.key, e.val]) (h.upd it (.mapIter (some r) clock ((seenOf es is).push e.born) clock)) := by
      intro j hj
      refine ⟨L[j], Array.getElem?_eq_getElem hj, ?_⟩
      have hm : L[j] ∈ (es.filter fun e => !(seenOf es is).contains e.born) := by rw [hL]; exact Array.getElem_mem hj
      generalize L[j] = e at hm
      rw [Array.mem_filter] at hm
      obtain ⟨i, hi1, hi2⟩ := Array.mem_iff_getElem.1 hm.1
      have hei : es[i]? = some e := by rw [Array.getElem?_eq_getElem hi1, hi2]
      have hns : i ∉ is := by
        have h2 := hm.2
        rw [mem_seen hB (is := is) (fun j hj => by rw [hlen]; exact hl j hj) hei] at h2
        simpa using h2
      have hil : i < m.length := by omega
      obtain ⟨e', he', hk, hv⟩ := hE.get (i := i) (x := m[i]) (List.getElem?_eq_getElem hil)
      have : e' = e := by
        have : es[i]? = some e' := by simpa using he'
        rw [hei] at this; simpa using this.symm
      subst this
      rw [hk, hv]
      refine hstep i m[i] _ (List.getElem?_eq_getElem hil) hns ⟨es, clock, by rw [upd_ne hne.symm]; exact hr, by rw [upd_same, seenOf_push hei], hE, hB, ?_, ?_⟩
      · rw [List.nodup_append]; exact ⟨hN, by simp, fun x hx y hy => by simp at hy; subst hy; rintro rfl; exact hns hx⟩
      · intro j hj
        rcases List.mem_append.1 hj with q | q
        · exact hl j q
        · simp at q; subst q; exact hil
    simp only [hne', Bool.false_eq_true, if_false, Array.empty_append, Array.size_map]
    show arun P (.choose (.mapNext L.size) _) h K
    unfold arun
    have fin : ∀ j, j < L.size → arun P (match (L.map some)[j]? with
        | some (some e) => (do setObj it (.mapIter (some r) clock ((seenOf es is).push e.born) clock); pure (.tuple #[.bool true, e.key, e.val]))
        | some none => pure (.tuple #[.bool false])
        | none => stuck "Next: no such candidate") h K := by
      intro j hj
      obtain ⟨e, he, hk⟩ := step j hj
      rw [Array.getElem?_map, he, Option.map_some]
      exact ⟨⟨_, hi, rfl⟩, hk⟩
    by_cases hf : L.size ≤ 1
    · simp only [Question.forced, hf, decide_true, if_true]
      exact fin 0 (by omega)
    · simp only [Question.forced, hf, decide_false, Bool.false_eq_true, if_false]
      intro t
      exact fin _ (Nat.mod_lt _ (by omega))

omit [DecidableEq α] in
theorem arun_entry {it r : Nat} {m : List (α × β)} {is : List Nat} {i : Nat} {x : α × β} {K : Value → Hp → Prop} (I : IterAt h it r kenc venc m (is ++ [i])) (hx : m[i]? = some x) (hK : K (.tuple #[kenc x.1, venc x.2]) h) :
    arun P (Instr.entry (.pointer (some ⟨it, 0, none⟩))) h K := by
  obtain ⟨es, clock, hr, hi, hE, hB, hN, hl⟩ := I
  obtain ⟨e, he, hk, hv⟩ := hE.get hx
  have hei : es[i]? = some e := by simpa using he
  have hgi : rrun P (getObj it) h = some (.mapIter (some r) clock (seenOf es (is ++ [i])) clock) := by unfold getObj; simp only [rrun, hi, isRow]
  have hf : es.find? (·.born == e.born) = some e := by
    cases hq : es.find? (·.born == e.born) with
    | none =>
      rw [Array.find?_eq_none] at hq
      have := hq e (Array.mem_of_getElem? hei)
      simp at this
    | some e' =>
      have hb := Array.find?_some hq
      have hm := Array.mem_of_find?_eq_some hq
      obtain ⟨j, hj1, hj2⟩ := Array.mem_iff_getElem.1 hm
      have hej : es[j]? = some e' := by rw [Array.getElem?_eq_getElem hj1, hj2]
      have := born_inj hB hej hei (by simpa using hb)
      subst this
      rw [hej] at hei; exact hei
  unfold Instr.entry
  simp only []
  rw [arun_bnd_rr hgi]
  simp only []
  rw [← seenOf_push hei, Array.back?_push]
  simp only []
  rw [arun_bnd_rr (a := .map es clock) (rr_getObj hr)]
  simp only [bne_self_eq_false, Bool.false_eq_true, if_false, hf]
  rw [← hk, ← hv] at hK
  exact hK
end

/-! ### What has been visited -/
def vis {γ : Type} (m : List γ) (is : List Nat) : List γ := is.filterMap (m[·]?)

theorem vis_nil {γ : Type} (m : List γ) : vis m [] = [] := rfl
theorem vis_snoc {γ : Type} {m : List γ} {is : List Nat} {i : Nat} {x : γ} (h : m[i]? = some x) : vis m (is ++ [i]) = vis m is ++ [x] := by
  unfold vis; simp [h]

theorem vis_range {γ : Type} : ∀ (m : List γ), vis m (List.range m.length) = m
  | [] => rfl
  | x :: xs => by
    have := vis_range xs
    unfold vis at *
    rw [List.length_cons, List.range_succ_eq_map, List.filterMap_cons]
    simp only [List.getElem?_cons_zero, List.filterMap_map]
    congr 1

theorem vis_perm {γ : Type} {m : List γ} {is : List Nat} (hn : is.Nodup) (hl : ∀ i ∈ is, i < m.length) (ha : ∀ i, i < m.length → i ∈ is) : (vis m is).Perm m := by
  have h1 : is.Perm (List.range m.length) := (List.perm_ext_iff_of_nodup hn List.nodup_range).2 (fun i => by rw [List.mem_range]; exact ⟨hl i, ha i⟩)
  have h2 := h1.filterMap (m[·]?)
  have h3 := vis_range m
  unfold vis at *
  rw [h3] at h2; exact h2

theorem vis_sub {γ : Type} {m : List γ} {is : List Nat} : ∀ x ∈ vis m is, x ∈ m := by
  intro x hx
  unfold vis at hx
  obtain ⟨i, _, e⟩ := List.mem_filterMap.1 hx
  exact List.mem_of_getElem? e

theorem vis_length {γ : Type} {m : List γ} {is : List Nat} : (vis m is).length ≤ is.length := List.length_filterMap_le _ _

theorem IterAt.nodup {h : Hp} {α β : Type} {kenc : α → Value} {venc : β → Value} {it r : Nat} {m : List (α × β)} {is : List Nat} (I : IterAt h it r kenc venc m is) : is.Nodup ∧ ∀ i ∈ is, i < m.length := by
  obtain ⟨es, cl, _, _, _, _, h1, h2⟩ := I; exact ⟨h1, h2⟩

theorem nodup_bound {is : List Nat} {n : Nat} (hn : is.Nodup) (hl : ∀ i ∈ is, i < n) : is.length ≤ n := by
  have h1 := List.Nodup.length_le_of_subset hn (l₂ := List.range n) (fun i hi => List.mem_range.2 (hl i hi))
  simpa using h1

theorem IterAt.len {h : Hp} {α β : Type} {kenc : α → Value} {venc : β → Value} {it r : Nat} {m : List (α × β)} {is : List Nat} (I : IterAt h it r kenc venc m is) : is.length ≤ m.length := nodup_bound I.nodup.1 I.nodup.2
end Go.Proofs.Ytncnlfidncjmbaa

/- Timers in memory: New, Len, Set, Stop, Next. -/
namespace Go.Proofs.Ytncnlfidncjmbaa
open Go
set_option linter.unusedSimpArgs false
set_option linter.unusedVariables false

def ik (i : Int) : Value := .int .i64 i
abbrev TL := List Tm

theorem ik_find {h : Hp} {a : Int} {m : TL} {es : List MapEntry} (H : Ents ik ik es m) : rrun Try.prog (Instr.findKey 3 (.int .i64 a) es) h = some ((findM a m 0).map fun x => (x.1, ik x.2)) :=
  rr_findKey_int (f := fun x : Int => x) (fun _ _ e => e) Try.underlying3 H
theorem ik_ck {e : Bool} {a : Int} {h : Hp} : rrun Try.prog (Instr.checkKey e 10000 3 (.int .i64 a)) h = some () := by kernel_rfl
theorem ik_sb {a : Int} : Instr.sameBits 10000 (.int .i64 a) (.int .i64 a) = true := by simp [Instr.sameBits]

theorem ik_look {h : Hp} {r : Nat} {a : Int} {m : TL} (M : MapB h r ik ik m) :
    rrun Try.prog (Instr.lookup 48 (.map (some r)) (.int .i64 a) true) h = some (.tuple #[.int .i64 ((getM m a).getD 0), .bool (getM m a).isSome]) := by
  have := rr_lookup (a := a) (z := .int .i64 0) Try.underlying48 M.at (fun e => ik_ck) (fun es H => ik_find H) (by kernel_rfl)
  rw [show (Value.int .i64 a) = ik a from rfl, this]
  cases getM m a <;> simp [ik]

theorem ik_put {h : Hp} {r : Nat} {a v : Int} {m : TL} {K : Unit → Hp → Prop} (M : MapB h r ik ik m) (hK : ∀ o, MapB (h.upd r o) r ik ik (setM a v m) → K () (h.upd r o)) :
    arun Try.prog (Instr.mapUpdate 48 (.map (some r)) (.int .i64 a) (.int .i64 v)) h K :=
  arun_mapUpdateB (a := a) (v := v) (kenc := ik) (venc := ik) Try.underlying48 M (fun e => ik_ck) (fun es H => ik_find H) ik_sb (fun _ _ => hK _)

theorem ik_del {h : Hp} {r : Nat} {a : Int} {m : TL} {K : Value → Hp → Prop} (M : MapB h r ik ik m) (hK : ∀ o, MapB (h.upd r o) r ik ik (delM a m) → K (.tuple #[]) (h.upd r o)) :
    arun Try.prog (Builtin.delete_ #[48, 3] 0 #[.map (some r), .int .i64 a]) h K :=
  arun_mapDeleteB (a := a) (kenc := ik) (venc := ik) rfl Try.underlying48 M (fun e => ik_ck) (fun es H => ik_find H) (fun _ _ => hK _)

theorem ik_len {h : Hp} {r : Nat} {m : TL} {R : TypeId} (M : MapB h r ik ik m) : rrun Try.prog (Builtin.len_ #[48] R #[.map (some r)]) h = some (.int .i64 (m.length : Nat)) :=
  rr_mapLen (kenc := ik) (venc := ik) rfl Try.underlying48 M.at

/-- Timers in memory: the struct's block, the map's. -/
structure TmM (h : Hp) (p r : Nat) (m : TL) : Prop where
  pt : h p = some (.cells #[.map (some r)] T_timers_Timers (0, 0))
  mp : MapB h r ik ik m
  un : Uniq m
  le : m.length ≤ 256
  bd : ∀ e ∈ m, 0 ≤ e.2 ∧ e.2 ≤ 1099511627776

theorem TmM.ne {h : Hp} {p r : Nat} {m : TL} (M : TmM h p r m) : p ≠ r := by
  obtain ⟨es, cl, e, _⟩ := M.mp
  rintro rfl; have := M.pt; rw [e] at this; cases this

theorem TmM.keep {h h' : Hp} {p r : Nat} {m : TL} (M : TmM h p r m) (e1 : h' p = h p) (e2 : h' r = h r) : TmM h' p r m := ⟨by rw [e1]; exact M.pt, M.mp.keep e2, M.un, M.le, M.bd⟩
theorem TmM.to {h h' : Hp} {p r : Nat} {m : TL} (M : TmM h p r m) (l : Le h h') : TmM h' p r m := ⟨l _ _ M.pt, M.mp.le l, M.un, M.le, M.bd⟩
theorem TmM.alive {h : Hp} {p r : Nat} {m : TL} (M : TmM h p r m) : ∀ x, x ∈ [p, r] → ∃ o, h x = some o := by
  intro x hx
  simp only [List.mem_cons, List.not_mem_nil, or_false] at hx
  rcases hx with rfl | rfl
  · exact ⟨_, M.pt⟩
  · exact M.mp.alive

def setT (m : TL) (id t : Int) : Int := if t < 0 ∨ 1099511627776 < t then 1 else if getM m id = none ∧ 256 ≤ m.length then 4 else 0
def setTM (m : TL) (id t : Int) : TL := if setT m id t = 0 then setM id t m else m
def stopT (m : TL) (id : Int) : Int := if getM m id = none then 5 else 0
def stopTM (m : TL) (id : Int) : TL := delM id m
theorem setT_arg {m : TL} {id t : Int} (h : t < 0 ∨ 1099511627776 < t) : setT m id t = 1 ∧ setTM m id t = m := by
  have e : setT m id t = 1 := by unfold setT; rw [if_pos h]
  exact ⟨e, by unfold setTM; rw [e]; rfl⟩
theorem setT_full {m : TL} {id t : Int} (h : ¬ (t < 0 ∨ 1099511627776 < t)) (h2 : getM m id = none ∧ 256 ≤ m.length) : setT m id t = 4 ∧ setTM m id t = m := by
  have e : setT m id t = 4 := by unfold setT; rw [if_neg h, if_pos h2]
  exact ⟨e, by unfold setTM; rw [e]; rfl⟩
theorem setT_ok {m : TL} {id t : Int} (h : ¬ (t < 0 ∨ 1099511627776 < t)) (h2 : ¬ (getM m id = none ∧ 256 ≤ m.length)) : setT m id t = 0 ∧ setTM m id t = setM id t m := by
  have e : setT m id t = 0 := by unfold setT; rw [if_neg h, if_neg h2]
  exact ⟨e, by unfold setTM; rw [e]; rfl⟩

/-- The least time, if there is one. -/
def nextT (m : TL) (n : Int) (is : Bool) : Prop := is = decide (m ≠ []) ∧ (m ≠ [] → (∃ e ∈ m, e.2 = n) ∧ ∀ e ∈ m, n ≤ e.2)

section
variable {h : Hp} {p r : Nat} {m : TL} {Q : Value → Hp → Prop}

theorem tnewM (hQ : ∀ p r h', Le h h' → h p = none → h r = none → TmM h' p r [] → Q (.pointer (some ⟨p, 0, none⟩)) h') : Ok Try.prog F_timers_New #[] h Q := by
  refine timers_New_ok (by simp) ?_
  unfold timers_New_D
  simp (disch := omega) [timers_New_r0, timers_New_r1]
  refine arun_makeMapB (kenc := ik) (venc := ik) (fun b hb M => ?_)
  simp (disch := omega)
  intro b2 hb2
  obtain ⟨hne, hb2'⟩ := upd_none hb2
  refine .to _ (.refl _) (hQ b2 b _ ((Le.new hb).trans (Le.new hb2)) hb2' hb ⟨upd_same, M.le (Le.new hb2), by simp [Uniq], by simp, by simp⟩)

theorem tlenM (M : TmM h p r m) (hQ : Q (.int .i64 (m.length : Nat)) h) : Ok Try.prog F_timers_Timers_Len #[.pointer (some ⟨p, 0, none⟩)] h Q := by
  refine timers_Timers_Len_ok (by simp) ?_
  unfold timers_Timers_Len_D
  simp (disch := omega) [timers_Timers_Len_r0, timers_Timers_Len_r1, M.pt, ik_len M.mp]
  exact .to _ (.refl _) hQ

theorem setM_b {P : Int → Prop} {id t : Int} {m : TL} (ht : P t) (hb : ∀ e ∈ m, P e.2) : ∀ e ∈ setM id t m, P e.2 := by
  induction m with
  | nil => simp [setM]; exact ht
  | cons x xs ih =>
    intro e he
    simp only [setM] at he
    split at he
    · rcases List.mem_cons.1 he with q | q
      · rw [q]; exact ht
      · exact hb e (List.mem_cons_of_mem _ q)
    · rcases List.mem_cons.1 he with q | q
      · rw [q]; exact hb x (by simp)
      · exact ih (fun y hy => hb y (List.mem_cons_of_mem _ hy)) e q

theorem tsetM {id t : Int} (M : TmM h p r m) (hQ : ∀ h', Fr h h' [p, r] [p, r] → TmM h' p r (setTM m id t) → Q (.int .i64 (setT m id t)) h') :
    Ok Try.prog F_timers_Timers_Set #[.pointer (some ⟨p, 0, none⟩), .int .i64 id, .int .i64 t] h Q := by
  refine timers_Timers_Set_ok (by simp) ?_
  unfold timers_Timers_Set_D
  have lk := ik_look (a := id) M.mp
  have ln := fun R => ik_len (R := R) M.mp
  simp (disch := omega) [timers_Timers_Set_r0, timers_Timers_Set_r1, M.pt, lk]
  by_cases h1 : t < 0
  · obtain ⟨q1, q2⟩ := setT_arg (m := m) (id := id) (.inl h1)
    rw [q1, q2] at hQ
    simp (disch := omega) [timers_Timers_Set_r2, timers_Timers_Set_r3, h1]
    exact .to _ (.refl _) (hQ _ (.refl _ _) M)
  by_cases h2 : 1099511627776 < t
  · obtain ⟨q1, q2⟩ := setT_arg (m := m) (id := id) (.inr h2)
    rw [q1, q2] at hQ
    simp (disch := omega) [timers_Timers_Set_r2, timers_Timers_Set_r3, h1, h2]
    exact .to _ (.refl _) (hQ _ (.refl _ _) M)
  have h12 : ¬ (t < 0 ∨ 1099511627776 < t) := by omega
  have upd : ∀ o, MapB (h.upd r o) r ik ik (setM id t m) → (getM m id ≠ none ∨ m.length < 256) → TmM (h.upd r o) p r (setM id t m) := fun o MB hor =>
    ⟨by rw [upd_ne M.ne]; exact M.pt, MB, M.un.set, by
      rw [setM_length]
      split
      · exact M.le
      · rename_i hn; rcases hor with q | q
        · exact absurd (Option.isSome_iff_ne_none.2 q) hn
        · omega, setM_b (P := fun x => 0 ≤ x ∧ x ≤ 1099511627776) (by omega) M.bd⟩
  cases hg : getM m id with
  | some x =>
    obtain ⟨q1, q2⟩ := setT_ok (m := m) (id := id) h12 (by rw [hg]; simp)
    rw [q1, q2] at hQ
    simp (disch := omega) [timers_Timers_Set_r2, timers_Timers_Set_r4, timers_Timers_Set_r6, timers_Timers_Set_r7, h1, h2, M.pt]
    refine ik_put M.mp (fun o MB => ?_)
    simp (disch := omega) [timers_Timers_Set_r7]
    exact .to _ (.refl _) (hQ _ (.upd (by simp)) (upd o MB (.inl (by rw [hg]; simp))))
  | none =>
    by_cases h3 : 256 ≤ m.length
    · have h3' : (256 : Int) ≤ (m.length : Int) := by omega
      obtain ⟨q1, q2⟩ := setT_full h12 ⟨hg, h3⟩
      rw [q1, q2] at hQ
      simp (disch := omega) [timers_Timers_Set_r2, timers_Timers_Set_r4, timers_Timers_Set_r5, h1, h2, h3', M.pt, ln]
      exact .to _ (.refl _) (hQ _ (.refl _ _) M)
    · have h3' : ¬ (256 : Int) ≤ (m.length : Int) := by omega
      obtain ⟨q1, q2⟩ := setT_ok (m := m) (id := id) h12 (fun q => h3 q.2)
      rw [q1, q2] at hQ
      simp (disch := omega) [timers_Timers_Set_r2, timers_Timers_Set_r4, timers_Timers_Set_r6, timers_Timers_Set_r7, h1, h2, h3', M.pt, ln]
      refine ik_put M.mp (fun o MB => ?_)
      simp (disch := omega) [timers_Timers_Set_r7]
      exact .to _ (.refl _) (hQ _ (.upd (by simp)) (upd o MB (.inr (by omega))))

theorem delM_b {P : Int → Prop} {id : Int} {m : TL} (hb : ∀ e ∈ m, P e.2) : ∀ e ∈ delM id m, P e.2 := fun e he => hb e (delM_sub.subset he)

theorem tstopM {id : Int} (M : TmM h p r m) (hQ : ∀ h', Fr h h' [p, r] [p, r] → TmM h' p r (stopTM m id) → Q (.int .i64 (stopT m id)) h') :
    Ok Try.prog F_timers_Timers_Stop #[.pointer (some ⟨p, 0, none⟩), .int .i64 id] h Q := by
  refine timers_Timers_Stop_ok (by simp) ?_
  unfold timers_Timers_Stop_D
  have lk := ik_look (a := id) M.mp
  unfold stopTM stopT at hQ
  simp (disch := omega) [timers_Timers_Stop_r0, timers_Timers_Stop_r1, M.pt, lk]
  cases hg : getM m id with
  | none =>
    rw [if_pos hg, delM_none hg] at hQ
    simp (disch := omega) [timers_Timers_Stop_r2, timers_Timers_Stop_r3]
    exact .to _ (.refl _) (hQ _ (.refl _ _) M)
  | some x =>
    rw [hg] at hQ
    simp at hQ
    simp (disch := omega) [timers_Timers_Stop_r2, timers_Timers_Stop_r4, M.pt]
    refine ik_del M.mp (fun o MB => ?_)
    simp (disch := omega) [timers_Timers_Stop_r5]
    refine .to _ (.refl _) (hQ _ (.upd (by simp)) ⟨by rw [upd_ne M.ne]; exact M.pt, MB, M.un.del, ?_, delM_b (P := fun x => 0 ≤ x ∧ x ≤ 1099511627776) M.bd⟩)
    have := M.le
    rw [delM_length]; split <;> omega
end
end Go.Proofs.Ytncnlfidncjmbaa

/- Timers in memory: Next, Due. -/
namespace Go.Proofs.Ytncnlfidncjmbaa
open Go
set_option linter.unusedSimpArgs false
set_option linter.unusedVariables false

theorem nextT_nil (n : Int) : nextT [] n false := by simp [nextT]
theorem nextT_snoc {D : TL} {n : Int} {b : Bool} {x : Tm} (h : nextT D n b) : nextT (D ++ [x]) (if b = false ∨ x.2 < n then x.2 else n) true := by
  obtain ⟨h1, h2⟩ := h
  refine ⟨by simp, fun _ => ?_⟩
  by_cases hD : D = []
  · subst hD; simp at h1; subst h1; simp
  · have hb : b = true := by rw [h1]; simp [hD]
    obtain ⟨⟨e, he, q⟩, h3⟩ := h2 hD
    subst hb
    by_cases hx : x.2 < n
    · rw [if_pos (.inr hx)]
      refine ⟨⟨x, by simp, rfl⟩, fun y hy => ?_⟩
      rcases List.mem_append.1 hy with q2 | q2
      · have := h3 y q2; omega
      · simp at q2; subst q2; exact Int.le_refl _
    · rw [if_neg (by simp; omega)]
      refine ⟨⟨e, by simp [he], q⟩, fun y hy => ?_⟩
      rcases List.mem_append.1 hy with q2 | q2
      · exact h3 y q2
      · simp at q2; subst q2; omega
theorem nextT_perm {D m : TL} {n : Int} {b : Bool} (p : D.Perm m) (h : nextT D n b) : nextT m n b := by
  obtain ⟨h1, h2⟩ := h
  have he : D = [] ↔ m = [] := ⟨fun q => by subst q; exact p.symm.eq_nil, fun q => by subst q; exact p.eq_nil⟩
  refine ⟨by rw [h1]; simp only [ne_eq, he], fun hm => ?_⟩
  obtain ⟨⟨e, q, q2⟩, h3⟩ := h2 (fun q => hm (he.1 q))
  exact ⟨⟨e, p.mem_iff.1 q, q2⟩, fun y hy => h3 y (p.mem_iff.2 hy)⟩

section
variable {h : Hp} {p r : Nat} {m : TL} {Q : Value → Hp → Prop}

def NxInv (h0 : Hp) (it r : Nat) (m : TL) (n : Nat) (env : Env) (g : Hp) : Prop :=
  ∃ (is : List Nat) (nx : Int) (b : Bool), is.length + n = m.length ∧ IterAt g it r ik ik m is ∧ Le h0 g ∧ h0 it = none ∧ env 12 = .pointer (some ⟨it, 0, none⟩) ∧ env 4 = .int .i64 nx ∧ env 5 = .bool b ∧ nextT (vis m is) nx b

theorem tnextM (M : TmM h p r m) (hQ : ∀ h' n b, Le h h' → nextT m n b → Q (.tuple #[.int .i64 n, .bool b]) h') : Ok Try.prog F_timers_Timers_Next #[.pointer (some ⟨p, 0, none⟩)] h Q := by
  refine timers_Timers_Next_ok (by simp) ?_
  unfold timers_Timers_Next_D
  simp (disch := omega) [timers_Timers_Next_r0, timers_Timers_Next_r1, timers_Timers_Next_r2, M.pt]
  refine arun_range Try.underlying48 M.mp (fun it o hit I => ?_)
  simp (disch := omega)
  refine ⟨NxInv h it r m, ⟨m.length, [], 0, false, by simp, I, .new hit, hit, by simp, by simp, by simp, nextT_nil _⟩, ?_⟩
  rintro n env g ⟨is, nx, b, hn, I, lg, hit, e12, e4, e5, N⟩
  unfold timers_Timers_Next_L0
  simp (disch := omega) [timers_Timers_Next_r3, e12]
  refine arun_next I (fun hend => ?_) (fun i x o hx hi I2 => ?_)
  · simp (disch := omega) [timers_Timers_Next_r7, e4, e5]
    exact .to _ (.refl _) (hQ _ _ _ lg (nextT_perm (vis_perm I.nodup.1 I.nodup.2 hend) N))
  · have hlen := I2.len
    rw [List.length_append, List.length_singleton] at hlen
    simp (disch := omega) [timers_Timers_Next_r4, e12]
    refine arun_entry I2 hx ?_
    have N2 := nextT_snoc (x := x) N
    rw [← vis_snoc hx] at N2
    have lg2 : Le h (g.upd it o) := lg.put hit
    cases b with
    | false =>
      simp at N2
      simp (disch := omega) [timers_Timers_Next_r5, timers_Timers_Next_r6, e4, e5, e12, ik]
      exact ⟨n - 1, by omega, is ++ [i], x.2, true, by simp; omega, I2, lg2, hit, by simp [e12], by simp, by simp, N2⟩
    | true =>
      by_cases hlt : x.2 < nx
      · simp [hlt] at N2
        simp (disch := omega) [timers_Timers_Next_r5, timers_Timers_Next_r6, e4, e5, e12, ik, hlt]
        exact ⟨n - 1, by omega, is ++ [i], x.2, true, by simp; omega, I2, lg2, hit, by simp [e12], by simp, by simp, N2⟩
      · simp [hlt] at N2
        simp (disch := omega) [timers_Timers_Next_r5, timers_Timers_Next_r6, e4, e5, e12, ik, hlt]
        exact ⟨n - 1, by omega, is ++ [i], nx, true, by simp; omega, I2, lg2, hit, by simp [e12], by simp [e4], by simp [e5], N2⟩

/-! ### Due -/
def dueL (m : TL) (now : Int) : TL := m.filter fun e => decide (e.2 ≤ now)
def leftL (m : TL) (now : Int) : TL := m.filter fun e => decide (¬ e.2 ≤ now)

theorem foldl_del {m : TL} (u : Uniq m) : ∀ (l : List Tm), l.foldl (fun m x => delM x.1 m) m = m.filter fun e => decide (e.1 ∉ l.map (·.1)) := by
  have one : ∀ (m : TL) (a : Int), Uniq m → delM a m = m.filter fun e => decide (e.1 ≠ a) := by
    intro m a
    induction m with
    | nil => intro _; rfl
    | cons x xs ih =>
      intro u
      have u' := u
      unfold Uniq at u
      rw [List.map_cons, List.nodup_cons] at u
      simp only [delM]
      split
      · rename_i e
        rw [List.filter_cons_of_neg (by simp [e])]
        symm
        rw [List.filter_eq_self]
        intro y hy
        simp
        rintro q
        exact u.1 (by rw [← e, ← q]; exact List.mem_map_of_mem hy)
      · rename_i e
        rw [List.filter_cons_of_pos (by simp; exact fun q => e q.symm), ih u.2]
  intro l
  induction l generalizing m with
  | nil => exact (List.filter_eq_self.2 (fun _ _ => by simp)).symm
  | cons x xs ih =>
    rw [List.foldl_cons, ih u.del, one _ _ u, List.filter_filter]
    refine List.filter_congr fun y _ => ?_
    simp only [List.map_cons, List.mem_cons, not_or]
    by_cases h1 : y.1 = x.1 <;> by_cases h2 : y.1 ∈ xs.map (·.1) <;> simp [h1, h2] <;> (try rw [h1] at h2; simp [h2])

theorem left_of_due {m l : TL} {now : Int} (u : Uniq m) (hp : l.Perm (dueL m now)) : (m.filter fun e => decide (e.1 ∉ l.map (·.1))) = leftL m now := by
  unfold leftL
  refine List.filter_congr fun e he => ?_
  rw [decide_eq_decide]
  have hm : ∀ y, y ∈ l ↔ y ∈ m ∧ y.2 ≤ now := fun y => by rw [hp.mem_iff]; unfold dueL; simp
  constructor
  · intro h1 h2
    exact h1 (List.mem_map.2 ⟨e, (hm e).2 ⟨he, h2⟩, rfl⟩)
  · intro h1 h2
    obtain ⟨y, hy, q⟩ := List.mem_map.1 h2
    obtain ⟨ym, yl⟩ := (hm y).1 hy
    have e1 := getM_of_mem (a := y.1) (v := y.2) u ym
    have e2 := getM_of_mem (a := e.1) (v := e.2) u he
    rw [q, e2] at e1
    simp at e1
    rw [e1] at h1; exact h1 yl

def DuInv (h0 : Hp) (p it r : Nat) (m : TL) (now : Int) (n : Nat) (env : Env) (g : Hp) : Prop :=
  ∃ (is : List Nat) (v : Value), is.length + n = m.length ∧ IterAt g it r ik ik m is ∧ Le h0 g ∧ h0 it = none ∧ env 0 = .pointer (some ⟨p, 0, none⟩) ∧ env 1 = .int .i64 now ∧ env 14 = .pointer (some ⟨it, 0, none⟩) ∧ env 5 = v ∧
    SlAt g T_api_Timer 2 tenc v (dueL (vis m is) now) ∧ (∀ b, blkOf v = some b → h0 b = none ∧ b ≠ it)

def DvInv (h0 : Hp) (p r : Nat) (m : TL) (v : Value) (l : TL) (n : Nat) (env : Env) (g : Hp) : Prop :=
  ∃ i : Nat, i + n = l.length ∧ TmM g p r ((l.take i).foldl (fun m x => delM x.1 m) m) ∧ (∀ x o, h0 x = some o → x ≠ r → g x = some o) ∧ SlAt g T_api_Timer 2 tenc v l ∧ (∀ b, blkOf v = some b → h0 b = none) ∧
    env 0 = .pointer (some ⟨p, 0, none⟩) ∧ env 5 = v ∧ env 29 = v ∧ env 30 = .int .i64 (l.length : Nat) ∧ env 31 = .int .i64 (i : Nat)

theorem tdueM {now : Int} (M : TmM h p r m) (hQ : ∀ v l h', Fr h h' [p, r] [p, r] → TmM h' p r (leftL m now) → SlAt h' T_api_Timer 2 tenc v l → l.Perm (dueL m now) → SrtT l → (∀ b, blkOf v = some b → h b = none ∧ b ≠ p ∧ b ≠ r) → Q v h') :
    Ok Try.prog F_timers_Timers_Due #[.pointer (some ⟨p, 0, none⟩), .int .i64 now] h Q := by
  refine timers_Timers_Due_ok (by simp) ?_
  unfold timers_Timers_Due_D
  simp (disch := omega) [timers_Timers_Due_r0, timers_Timers_Due_r1, timers_Timers_Due_r2, M.pt]
  refine arun_range Try.underlying48 M.mp (fun it o hit I => ?_)
  simp (disch := omega)
  refine ⟨DuInv h p it r m now, ⟨m.length, [], .slice none 0 0, by simp, I, .new hit, hit, by simp, by simp, by simp, by simp, .inl ⟨rfl, rfl⟩, by simp [blkOf]⟩, ?_⟩
  rintro n env g ⟨is, v, hn, I, lg, hit, e0, e1, e14, e5, S, nv⟩
  unfold timers_Timers_Due_L0
  simp (disch := omega) [timers_Timers_Due_r3, e14]
  refine arun_next I (fun hend => ?_) (fun i x o hx hi I2 => ?_)
  · have hpm := vis_perm I.nodup.1 I.nodup.2 hend
    have hld : (dueL (vis m is) now).length ≤ 256 := by
      have h1 := List.length_filter_le (fun e : Tm => decide (e.2 ≤ now)) (vis m is)
      have h2 := vis_length (m := m) (is := is)
      have h3 := I.len
      have h4 := M.le
      unfold dueL; omega
    have hdp : (dueL (vis m is) now).Perm (dueL m now) := hpm.filter _
    have Mg := M.to lg
    generalize hl : dueL (vis m is) now = l at *
    clear I hend hpm hl
    obtain ⟨sp, cap, hv⟩ := S.shape'
    simp (disch := omega) [timers_Timers_Due_r7, e0, e5, hv]
    refine ⟨DvInv h p r m v l, ⟨l.length, 0, by simp, Mg, fun x o q _ => lg _ _ q, S, fun b e => (nv b e).1, by simp [e0], by simp [e5, hv], by simp [hv], by simp, by simp⟩, ?_⟩
    clear e0 e1 e5 e14
    rintro n env g2 ⟨i, hin, M2, fr, S2, nv2, e0, e5, e29, e30, e31⟩
    have nr : ∀ b, blkOf v = some b → b ≠ r := fun b e q => by obtain ⟨o, eo⟩ := M.mp.alive; rw [q] at e; rw [nv2 r e] at eo; cases eo
    have np : ∀ b, blkOf v = some b → b ≠ p := fun b e q => by rw [q] at e; have := M.pt; rw [nv2 p e] at this; cases this
    unfold timers_Timers_Due_L1
    by_cases hm : n = 0
    · have : i = l.length := by omega
      subst this
      rw [List.take_of_length_le (Nat.le_refl _), foldl_del M.un, left_of_due M.un hdp] at M2
      simp (disch := omega) [timers_Timers_Due_r8, timers_Timers_Due_r12, e0, e5, e30, e31]
      refine sort_spec S2 (by omega) (fun d' g3 hp hs fr3 S3 => ?_)
      simp (disch := omega) [timers_Timers_Due_r13, e5]
      have fr' : Fr h g3 [p, r] [p, r] := ⟨fun x o e q => by
        simp only [List.mem_cons, List.not_mem_nil, or_false, not_or] at q
        exact fr3 _ _ (fr x o e q.2) (fun q2 => by rw [nv2 x q2] at e; cases e), fun x q => .inl q⟩
      have M3 : TmM g3 p r (leftL m now) := by
        obtain ⟨es, cl, q1, q2⟩ := M2.mp
        exact ⟨fr3 _ _ M2.pt (fun q => np _ q rfl), ⟨es, cl, fr3 _ _ q1 (fun q => nr _ q rfl), q2⟩, M2.un, M2.le, M2.bd⟩
      exact .to _ (.refl _) (hQ v d' _ fr' M3 S3 (hp.trans hdp) hs (fun b e => ⟨nv2 b e, np b e, nr b e⟩))
    · obtain ⟨x, hx⟩ : ∃ x, l[i]? = some x := ⟨_, List.getElem?_eq_getElem (by omega)⟩
      obtain ⟨b, cap', c, hv', hb, hc⟩ := S2.at' hx
      rw [hv] at hv'
      simp only [Value.slice.injEq, true_and] at hv'
      obtain ⟨rfl, rfl⟩ := hv'
      have c0 := hc 0 (by omega)
      have c1 := hc 1 (by omega)
      simp [tenc] at c0 c1
      have hi' : (i : Int) < (l.length : Int) := by omega
      have hi2 : i < l.length := by omega
      simp (disch := omega) [timers_Timers_Due_r8, timers_Timers_Due_r9, e0, e5, e29, e30, e31, hv, hb, c0, c1, hi', hi2]
      intro b9 hb9
      have L9 : Le g2 (g2.upd b9 (.cells #[.int .i64 x.1, .int .i64 x.2] 37)) := .new hb9
      have M9 := M2.to L9
      have f9 : (g2.upd b9 (.cells #[.int .i64 x.1, .int .i64 x.2] 37)) b9 = some (.cells #[.int .i64 x.1, .int .i64 x.2] 37) := upd_same
      have S9 := S2.le' L9
      simp (disch := omega)
      generalize g2.upd b9 (.cells #[.int .i64 x.1, .int .i64 x.2] 37) = g9 at *
      simp (disch := omega) [timers_Timers_Due_r10, e0, f9, M9.pt]
      refine ik_del M9.mp (fun o9 MB => ?_)
      have tk : l.take (i + 1) = l.take i ++ [x] := by rw [List.take_add_one, hx]; rfl
      simp (disch := omega) [timers_Timers_Due_r11, e31, wrap_i64]
      refine ⟨n - 1, by omega, i + 1, by omega, ?_, fun y o' q1 q2 => by rw [upd_ne q2]; exact L9 _ _ (fr y o' q1 q2), by rw [← hv]; exact S9.keep (fun b o e q => by rw [upd_ne (nr b e)]; exact q), by rw [← hv]; exact nv2, by simp [e0], by simp [e5, hv], by simp [e29, hv], by simp [e30], by simp⟩
      rw [tk, List.foldl_append]
      have hle := M9.le
      refine ⟨by rw [upd_ne M9.ne]; exact M9.pt, MB, M9.un.del, ?_, delM_b (P := fun x => 0 ≤ x ∧ x ≤ 1099511627776) M9.bd⟩
      show (delM x.1 _).length ≤ 256
      rw [delM_length]; split <;> omega
  · have hlen := I2.len
    rw [List.length_append, List.length_singleton] at hlen
    have lg2 : Le h (g.upd it o) := lg.put hit
    have S2 : SlAt (g.upd it o) T_api_Timer 2 tenc v (dueL (vis m is) now) := S.keep (fun b o' e q => by rw [upd_ne (nv b e).2]; exact q)
    have hsn := vis_snoc (is := is) hx
    have hdl : (dueL (vis m is) now).length ≤ 256 := by
      have h1 := List.length_filter_le (fun e : Tm => decide (e.2 ≤ now)) (vis m is)
      have h2 := vis_length (m := m) (is := is)
      have h4 := M.le
      unfold dueL; omega
    simp (disch := omega) [timers_Timers_Due_r4, e14]
    refine arun_entry I2 hx ?_
    by_cases hle : x.2 ≤ now
    · have hd : dueL (vis m (is ++ [i])) now = dueL (vis m is) now ++ [x] := by rw [hsn]; unfold dueL; simp [hle]
      simp (disch := omega) [timers_Timers_Due_r5, timers_Timers_Due_r6, e0, e1, e5, e14, ik, hle]
      intro b2 hb2
      have L2 := Le.new (o := .cells #[.int .i64 x.1, .int .i64 x.2] 37) hb2
      have f2 : ((g.upd it o).upd b2 (.cells #[.int .i64 x.1, .int .i64 x.2] 37)) b2 = some (.cells #[.int .i64 x.1, .int .i64 x.2] 37) := upd_same
      replace S2 := S2.le' L2
      replace I2 := I2.le L2
      have lg3 := lg2.trans L2
      have hit2 : ((g.upd it o).upd b2 (.cells #[.int .i64 x.1, .int .i64 x.2] 37)) it = some o := L2 _ _ upd_same
      generalize (g.upd it o).upd b2 (.cells #[.int .i64 x.1, .int .i64 x.2] 37) = g3 at *
      refine push_api_Timer S2 (y := x) (by simp [f2, tenc]) rfl (by simp [tenc]) (by omega) (fun b c cap hor h1 h2 h3 => ?_)
      have hb : h b = none ∧ b ≠ it := by
        rcases hor with q | q
        · exact nv b q.symm
        · exact ⟨none_of_le lg3 q, by rintro rfl; rw [hit2] at q; cases q⟩
      have hbr : b ≠ r := by
        rintro rfl; obtain ⟨o', e⟩ := M.mp.alive; rw [hb.1] at e; cases e
      simp (disch := omega) [e0, e1, e5, e14]
      refine ⟨n - 1, by omega, is ++ [i], .slice (some ⟨b, 0, none⟩) ((dueL (vis m is) now).length + 1) cap, by simp; omega, I2.keep (by rw [upd_ne hbr.symm]) (by rw [upd_ne hb.2.symm]), lg3.put hb.1, hit, by simp [e0], by simp [e1], by simp [e14], by simp, ?_, ?_⟩
      · rw [hd]
        exact .inr ⟨b, cap, c, by simp, upd_same, by simpa using h1, h2, h3⟩
      · intro b' e
        simp [blkOf] at e; subst e; exact hb
    · have hd : dueL (vis m (is ++ [i])) now = dueL (vis m is) now := by rw [hsn]; unfold dueL; simp [hle]
      simp (disch := omega) [timers_Timers_Due_r5, e0, e1, e5, e14, ik, hle]
      exact ⟨n - 1, by omega, is ++ [i], v, by simp; omega, I2, lg2, hit, by simp [e0], by simp [e1], by simp [e14], by simp [e5], by rw [hd]; exact S2, nv⟩
end
end Go.Proofs.Ytncnlfidncjmbaa

/- Timers: awake; one set anew fires at the later setting alone. -/
namespace Go.Proofs.Ytncnlfidncjmbaa
open Go
set_option linter.unusedSimpArgs false
set_option linter.unusedVariables false

theorem srt_unique {l l' : TL} (s : SrtT l) (s' : SrtT l') (p : l.Perm l') : l = l' :=
  List.Perm.eq_of_pairwise (le := fun x y => ¬ tlt y x) (fun a b _ _ h1 h2 => by
    unfold tlt at *
    exact Prod.ext (by omega) (by omega)) s s' p

theorem due_unique {l l' m : TL} {now : Int} (p : l.Perm (dueL m now)) (s : SrtT l) (p' : l'.Perm (dueL m now)) (s' : SrtT l') : l = l' := srt_unique s s' (p.trans p'.symm)

theorem tm_at {h : Hp} {v : Value} {xs : TL} {i : Nat} {x : Tm} (S : SlAt h T_api_Timer 2 tenc v xs) (hx : xs[i]? = some x) :
    ∃ b cap c, v = .slice (some ⟨b, 0, none⟩) xs.length cap ∧ h b = some (.cells c T_api_Timer (0, 0)) ∧ c[i * 2]? = some (.int .i64 x.1) ∧ c[i * 2 + 1]? = some (.int .i64 x.2) := by
  obtain ⟨b, cap, c, e, hb, H⟩ := SlAt.at' S hx
  exact ⟨b, cap, c, e, hb, H 0 (by omega), H 1 (by omega)⟩

theorem Fr.leN {g h h' : Hp} {p r : Nat} (a : Fr h h' [p, r] [p, r]) (l : Le g h) (n1 : g p = none) (n2 : g r = none) : Le g h' := a.le l (fun x hx => by
  simp only [List.mem_cons, List.not_mem_nil, or_false] at hx
  rcases hx with rfl | rfl
  · exact n1
  · exact n2)

set_option maxRecDepth 20000 in
theorem awakeT {h : Hp} {Q : Value → Hp → Prop} (hQ : ∀ h', Le h h' → Q (.bool true) h') : Ok Try.prog F_octroilaw10_awake #[] h Q := by
  refine octroilaw10_awake_ok (by simp) ?_
  unfold octroilaw10_awake_D
  simp (disch := omega) [octroilaw10_awake_r0, octroilaw10_awake_r1]
  refine tnewM (fun p r h1 l1 n1 n2 M1 => ?_)
  simp (disch := omega) [octroilaw10_awake_r2, octroilaw10_awake_r4]
  refine tsetM M1 (fun h2 F2 M2 => ?_)
  have l2 := F2.leN l1 n1 n2
  simp (disch := omega) [octroilaw10_awake_r5]
  refine tsetM M2 (fun h3 F3 M3 => ?_)
  have l3 := F3.leN l2 n1 n2
  simp (disch := omega) [octroilaw10_awake_r6]
  refine tsetM M3 (fun h4 F4 M4 => ?_)
  have l4 := F4.leN l3 n1 n2
  simp (disch := omega) [octroilaw10_awake_r7]
  rw [show setTM (setTM (setTM [] 1 10) 2 5) 3 10 = [(1, 10), (2, 5), (3, 10)] by decide] at M4
  refine tdueM M4 (fun v l h5 F5 M5 S hp hs nv => ?_)
  have l5 := F5.leN l4 n1 n2
  have hl : l = [(2, 5), (1, 10), (3, 10)] := due_unique hp hs (by decide) (by unfold SrtT; decide)
  subst hl
  obtain ⟨b, cap, c, hv, hb, q0, q1⟩ := tm_at (i := 0) S rfl
  obtain ⟨b', cap', c', hv', hb', q2, q3⟩ := tm_at (i := 2) S rfl
  rw [hv] at hv'
  simp at hv'
  obtain ⟨rfl, rfl⟩ := hv'
  rw [hb] at hb'
  simp at hb'
  subst hb'
  simp at hv q0 q1 q2 q3
  subst hv
  simp (disch := omega) [octroilaw10_awake_r8, hb, q0, q1, q2, q3]
  refine tlenM M5 ?_
  rw [show leftL [(1, 10), (2, 5), (3, 10)] 10 = [] by decide]
  simp (disch := omega)
  exact .to _ (.refl _) (hQ _ l5)

set_option maxRecDepth 20000 in
theorem TimersMoved_walk {h : Hp} {id one two now : Int} {stop : Bool} :
    Ok Try.prog F_octroilaw10_TimersMoved #[.int .i64 id, .int .i64 one, .int .i64 two, .int .i64 now, .bool stop] h (fun v g => v = .bool true ∧ Le h g) := by
  refine octroilaw10_TimersMoved_ok (by simp) ?_
  unfold octroilaw10_TimersMoved_D
  simp (disch := omega) [octroilaw10_TimersMoved_r0, octroilaw10_TimersMoved_r1]
  refine awakeT (fun h0 l0 => ?_)
  simp (disch := omega) [octroilaw10_TimersMoved_r2]
  refine tnewM (fun p r h1 l1 n1 n2 M1 => ?_)
  replace l1 := l0.trans l1
  replace n1 := none_of_le l0 n1
  replace n2 := none_of_le l0 n2
  by_cases g1 : one < 0
  · simp (disch := omega) [octroilaw10_TimersMoved_r3, octroilaw10_TimersMoved_r4, g1]
    exact .to _ (.refl _) ⟨rfl, l1⟩
  by_cases g2 : 1000000 < one
  · simp (disch := omega) [octroilaw10_TimersMoved_r3, octroilaw10_TimersMoved_r4, g1, g2]
    exact .to _ (.refl _) ⟨rfl, l1⟩
  by_cases g3 : two < 0
  · simp (disch := omega) [octroilaw10_TimersMoved_r3, octroilaw10_TimersMoved_r4, g1, g2, g3]
    exact .to _ (.refl _) ⟨rfl, l1⟩
  by_cases g4 : 1000000 < two
  · simp (disch := omega) [octroilaw10_TimersMoved_r3, octroilaw10_TimersMoved_r4, g1, g2, g3, g4]
    exact .to _ (.refl _) ⟨rfl, l1⟩
  simp (disch := omega) [octroilaw10_TimersMoved_r3, octroilaw10_TimersMoved_r5, g1, g2, g3, g4]
  refine tsetM M1 (fun h2 F2 M2 => ?_)
  have l2 := F2.leN l1 n1 n2
  rw [(setT_ok (m := []) (id := id) (t := one) (by omega) (by simp)).2] at M2
  simp (disch := omega) [octroilaw10_TimersMoved_r6]
  refine tsetM M2 (fun h3 F3 M3 => ?_)
  have l3 := F3.leN l2 n1 n2
  rw [(setT_ok (m := setM id one []) (id := id) (t := two) (by omega) (by simp [setM])).2, show setM id two (setM id one []) = [(id, two)] by simp [setM]] at M3
  cases stop with
  | true =>
    simp (disch := omega) [octroilaw10_TimersMoved_r7, octroilaw10_TimersMoved_r8]
    refine tstopM M3 (fun h4 F4 M4 => ?_)
    have l4 := F4.leN l3 n1 n2
    rw [show stopTM [(id, two)] id = [] by simp [stopTM, delM]] at M4
    simp (disch := omega) [octroilaw10_TimersMoved_r9]
    refine tdueM M4 (fun v l h5 F5 M5 S hp hs nv => ?_)
    have l5 := F5.leN l4 n1 n2
    have hl : l = [] := hp.eq_nil
    subst hl
    obtain ⟨sp, cap, hv⟩ := S.shape'
    subst hv
    simp (disch := omega) [octroilaw10_TimersMoved_r10, octroilaw10_TimersMoved_r11]
    exact .to _ (.refl _) ⟨rfl, l5⟩
  | false =>
    simp (disch := omega) [octroilaw10_TimersMoved_r7, octroilaw10_TimersMoved_r9]
    refine tdueM M3 (fun v l h5 F5 M5 S hp hs nv => ?_)
    have l5 := F5.leN l3 n1 n2
    by_cases hlt : now < two
    · have hl : l = [] := by
        rw [show dueL [(id, two)] now = [] by simp [dueL]; omega] at hp
        exact hp.eq_nil
      subst hl
      obtain ⟨sp, cap, hv⟩ := S.shape'
      subst hv
      simp (disch := omega) [octroilaw10_TimersMoved_r10, octroilaw10_TimersMoved_r11, hlt]
      exact .to _ (.refl _) ⟨rfl, l5⟩
    · have hl : l = [(id, two)] := by
        rw [show dueL [(id, two)] now = [(id, two)] by simp [dueL]; omega] at hp
        exact List.perm_singleton.1 hp
      subst hl
      obtain ⟨b, cap, c, hv, hb, q0, q1⟩ := tm_at (i := 0) S rfl
      simp at hv q0 q1
      subst hv
      simp (disch := omega) [octroilaw10_TimersMoved_r10, octroilaw10_TimersMoved_r12, hlt, hb, q0, q1]
      exact .to _ (.refl _) ⟨rfl, l5⟩
end Go.Proofs.Ytncnlfidncjmbaa

/- Timers: what is due comes by rising times, and ids; what is left is later. -/
namespace Go.Proofs.Ytncnlfidncjmbaa
open Go
set_option linter.unusedSimpArgs false
set_option linter.unusedVariables false

structure OpT where
  k : Int
  id : Int
  t : Int
def OpT.enc (x : OpT) : List Value := [.int .i64 x.k, .int .i64 x.id, .int .i64 x.t]

theorem opT_at {h : Hp} {v : Value} {xs : List OpT} {i : Nat} {x : OpT} (A : ArgSl h 3 OpT.enc (fun _ => True) v xs) (hx : xs[i]? = some x) :
    ∃ b o cap c E fr, v = .slice (some ⟨b, o, none⟩) xs.length cap ∧ h b = some (.cells c E fr) ∧ c[o + i * 3]? = some (.int .i64 x.k) ∧ c[o + i * 3 + 1]? = some (.int .i64 x.id) ∧ c[o + i * 3 + 2]? = some (.int .i64 x.t) := by
  obtain ⟨_, b, o, cap, c, E, fr, e, hb, H⟩ := A.at hx
  exact ⟨b, o, cap, c, E, fr, e, hb, H 0 (by omega), H 1 (by omega), H 2 (by omega)⟩

def setsT (l : List OpT) : TL := l.foldl (fun m o => setTM m o.id o.t) []
theorem setsT_snoc {l : List OpT} {x : OpT} : setsT (l ++ [x]) = setTM (setsT l) x.id x.t := by simp [setsT]

def TorInv (h0 : Hp) (p r : Nat) (lv : Value) (l : List OpT) (now : Int) (n : Nat) (env : Env) (g : Hp) : Prop :=
  ∃ i : Nat, i + n = l.length ∧ TmM g p r (setsT (l.take i)) ∧ Le h0 g ∧ env 0 = lv ∧ env 1 = .int .i64 now ∧ env 6 = .pointer (some ⟨p, 0, none⟩) ∧ env 7 = .int .i64 (i : Nat)

def TodInv (g : Hp) (p : Nat) (k : Nat) (v : Value) (d : TL) (now : Int) (n : Nat) (env : Env) (g' : Hp) : Prop :=
  ∃ i : Nat, g' = g ∧ i + n = d.length ∧ env 1 = .int .i64 now ∧ env 6 = .pointer (some ⟨p, 0, none⟩) ∧ env 8 = .int .i64 (k : Nat) ∧ env 9 = v ∧ env 10 = .int .i64 (i : Nat)

theorem take_snoc {α : Type} {l : List α} {i : Nat} {x : α} (hx : l[i]? = some x) : l.take (i + 1) = l.take i ++ [x] := by rw [List.take_add_one, hx]; rfl

theorem due_strict {m l : TL} {now : Int} (u : Uniq m) (hp : l.Perm (dueL m now)) (hs : SrtT l) : l.Pairwise fun x y => x.2 < y.2 ∨ (x.2 = y.2 ∧ x.1 < y.1) := by
  have hn : (l.map (·.1)).Nodup := (hp.map _).nodup_iff.2 (List.Sublist.nodup (List.Sublist.map _ List.filter_sublist) u)
  have hn' : l.Pairwise fun x y => x.1 ≠ y.1 := by rw [List.Nodup, List.pairwise_map] at hn; exact hn
  exact (hs.and hn').imp fun {x y} q => by
    have := q.1; have := q.2
    unfold tlt at *; omega

theorem due_left {m : TL} {now : Int} : (leftL m now).length = m.length - (dueL m now).length ∧ (dueL m now).length ≤ m.length := by
  induction m with
  | nil => simp [leftL, dueL]
  | cons x xs ih =>
    unfold leftL dueL at *
    by_cases h : x.2 ≤ now
    · rw [List.filter_cons_of_neg (by simp [h]), List.filter_cons_of_pos (by simp [h])]
      simp only [List.length_cons]; omega
    · rw [List.filter_cons_of_pos (by simp [h]), List.filter_cons_of_neg (by simp [h])]
      simp only [List.length_cons]; omega

theorem due_of_left {m : TL} {now : Int} : dueL (leftL m now) now = [] := by
  unfold leftL dueL
  rw [List.filter_filter, List.filter_eq_nil_iff]
  intro x hx; simp

set_option maxRecDepth 20000 in
theorem TimersOrder_walk {h : Hp} {lv : Value} {l : List OpT} {now : Int} (A : ArgSl h 3 OpT.enc (fun _ => True) lv l) :
    Ok Try.prog F_octroilaw10_TimersOrder #[lv, .int .i64 now] h (fun v g => v = .bool true ∧ Le h g) := by
  refine octroilaw10_TimersOrder_ok (by simp) ?_
  unfold octroilaw10_TimersOrder_D
  simp (disch := omega) [octroilaw10_TimersOrder_r0, octroilaw10_TimersOrder_r1]
  refine awakeT (fun h0 l0 => ?_)
  simp (disch := omega) [octroilaw10_TimersOrder_r2]
  refine tnewM (fun p r h1 l1 n1 n2 M1 => ?_)
  replace l1 := l0.trans l1
  replace n1 := none_of_le l0 n1
  replace n2 := none_of_le l0 n2
  obtain ⟨ap, acap, hlv⟩ := A.shape
  by_cases g1 : 400 < (l.length : Int)
  · simp (disch := omega) [octroilaw10_TimersOrder_r3, octroilaw10_TimersOrder_r4, hlv, g1]
    exact .to _ (.refl _) ⟨rfl, l1⟩
  simp (disch := omega) [octroilaw10_TimersOrder_r3, octroilaw10_TimersOrder_r5, hlv, g1]
  refine ⟨TorInv h p r lv l now, ⟨l.length, 0, by omega, M1, l1, by simp [hlv], by simp, by simp, by simp⟩, ?_⟩
  rintro n env g ⟨i, hin, M, lg, e0, e1, e6, e7⟩
  unfold octroilaw10_TimersOrder_L0
  by_cases hm : n = 0
  · have : i = l.length := by omega
    subst this
    rw [List.take_of_length_le (Nat.le_refl _)] at M
    generalize setsT l = m at M
    simp (disch := omega) [octroilaw10_TimersOrder_r6, octroilaw10_TimersOrder_r9, e0, e1, e6, e7, hlv]
    refine tlenM M ?_
    simp (disch := omega) [octroilaw10_TimersOrder_r10, e0, e1, e6, e7]
    refine tdueM M (fun v d g2 F2 M2 S hp hs nv => ?_)
    have l2 := F2.leN lg n1 n2
    have st := due_strict M.un hp hs
    have hdl := hp.length_eq
    have dl := due_left (m := m) (now := now)
    have hle := M.le
    obtain ⟨sp, cap, hv⟩ := S.shape'
    simp (disch := omega) [octroilaw10_TimersOrder_r11, e0, e1, e6, e7]
    refine ⟨TodInv g2 p m.length v d now, ⟨d.length, 0, rfl, by omega, by simp [e1], by simp [e6], by simp, by simp, by simp⟩, ?_⟩
    clear e0 e1 e6 e7
    rintro n env g' ⟨i, rfl, hin, e1, e6, e8, e9, e10⟩
    unfold octroilaw10_TimersOrder_L1
    by_cases hm : n = 0
    · have : i = d.length := by omega
      subst this
      simp (disch := omega) [octroilaw10_TimersOrder_r12, octroilaw10_TimersOrder_r16, e1, e6, e8, e9, e10, hv]
      refine tnextM M2 (fun g3 nx is l3 N => ?_)
      have M3 := M2.to l3
      have hL : (((leftL m now).length : Nat) : Int) = (m.length : Int) - (d.length : Int) := by omega
      simp (disch := omega) [octroilaw10_TimersOrder_r17, e1, e6, e8, e9, e10, hv]
      refine tlenM M3 ?_
      simp (disch := omega) [hL, wrap_i64, e1, e6, e8, e9, e10, hv]
      refine tlenM M3 ?_
      obtain ⟨N1, N2⟩ := N
      by_cases hz : leftL m now = []
      · have hz' : (m.length : Int) - (d.length : Int) = 0 := by rw [hz] at hL; simpa using hL.symm
        have his : is = false := by rw [N1, hz]; simp
        subst his
        simp (disch := omega) [hL, hz', e1, e6, e8, e9, e10, hv]
        refine tdueM M3 (fun v4 d4 g4 F4 M4 S4 hp4 hs4 nv4 => ?_)
        rw [due_of_left] at hp4
        have hd4 := hp4.eq_nil
        subst hd4
        obtain ⟨sp4, cap4, hv4⟩ := S4.shape'
        simp (disch := omega) [hv4]
        exact .to _ (.refl _) ⟨rfl, F4.leN (l2.trans l3) n1 n2⟩
      · have hz' : 0 < (m.length : Int) - (d.length : Int) := by
          have := List.length_pos_iff.2 hz; omega
        have his : is = true := by rw [N1]; simp [hz]
        subst his
        have hnow : now < nx := by
          obtain ⟨⟨e, he, q⟩, _⟩ := N2 hz
          unfold leftL at he
          simp at he
          omega
        have hz2 : d.length < m.length := by omega
        simp (disch := omega) [hL, hz', hz2, hnow, e1, e6, e8, e9, e10, hv]
        refine tdueM M3 (fun v4 d4 g4 F4 M4 S4 hp4 hs4 nv4 => ?_)
        rw [due_of_left] at hp4
        have hd4 := hp4.eq_nil
        subst hd4
        obtain ⟨sp4, cap4, hv4⟩ := S4.shape'
        simp (disch := omega) [hv4]
        exact .to _ (.refl _) ⟨rfl, F4.leN (l2.trans l3) n1 n2⟩
    · obtain ⟨x, hx⟩ : ∃ x, d[i]? = some x := ⟨_, List.getElem?_eq_getElem (by omega)⟩
      have hxm : x ∈ dueL m now := hp.mem_iff.1 (List.mem_of_getElem? hx)
      have hxn : ¬ now < x.2 := by unfold dueL at hxm; simp at hxm; omega
      obtain ⟨b, cap', c, hv', hb, q0, q1⟩ := tm_at S hx
      rw [hv] at hv'
      simp only [Value.slice.injEq, true_and] at hv'
      obtain ⟨rfl, rfl⟩ := hv'
      have hi' : (i : Int) < (d.length : Int) := by omega
      by_cases h0 : i = 0
      · subst h0
        simp at q0 q1
        have hd0 : 0 < d.length := by omega
        simp (disch := omega) [octroilaw10_TimersOrder_r12, octroilaw10_TimersOrder_r13, octroilaw10_TimersOrder_r15, e1, e6, e8, e9, e10, hv, hb, q0, q1, hxn, wrap_i64, hd0]
        exact ⟨n - 1, by omega, 1, rfl, by omega, by simp [e1], by simp [e6], by simp [e8], by simp [e9, hv], by simp⟩
      · obtain ⟨y, hy⟩ : ∃ y, d[i - 1]? = some y := ⟨_, List.getElem?_eq_getElem (by omega)⟩
        obtain ⟨b2, cap2, c2, hv2, hb2, p0, p1⟩ := tm_at S hy
        rw [hv] at hv2
        simp only [Value.slice.injEq, Option.some.injEq, Addr.mk.injEq, true_and, and_true] at hv2
        obtain ⟨rfl, rfl⟩ := hv2
        rw [hb] at hb2
        simp at hb2
        subst hb2
        have hlt := List.pairwise_iff_getElem.1 st (i - 1) i (by omega) (by omega) (by omega)
        rw [(List.getElem?_eq_some_iff.1 hx).2, (List.getElem?_eq_some_iff.1 hy).2] at hlt
        have hi0 : 0 < i := by omega
        have hi1 : ((i : Int) - 1).toNat = i - 1 := by omega
        have hc1 : ¬ x.2 < y.2 := by omega
        have hc2 : ¬ (y.2 = x.2 ∧ x.1 ≤ y.1) := by omega
        by_cases he : y.2 = x.2
        · have hc3 : ¬ x.1 ≤ y.1 := by omega
          simp (disch := omega) [octroilaw10_TimersOrder_r12, octroilaw10_TimersOrder_r13, octroilaw10_TimersOrder_r15, e1, e6, e8, e9, e10, hv, hb, q0, q1, p0, p1, hxn, wrap_i64, hi', hi0, hi1, hc1, he, hc3]
          exact ⟨n - 1, by omega, i + 1, rfl, by omega, by simp [e1], by simp [e6], by simp [e8], by simp [e9, hv], by simp⟩
        · simp (disch := omega) [octroilaw10_TimersOrder_r12, octroilaw10_TimersOrder_r13, octroilaw10_TimersOrder_r15, e1, e6, e8, e9, e10, hv, hb, q0, q1, p0, p1, hxn, wrap_i64, hi', hi0, hi1, hc1, he]
          exact ⟨n - 1, by omega, i + 1, rfl, by omega, by simp [e1], by simp [e6], by simp [e8], by simp [e9, hv], by simp⟩
  · obtain ⟨x, hx⟩ : ∃ x, l[i]? = some x := ⟨_, List.getElem?_eq_getElem (by omega)⟩
    obtain ⟨b, o, cap, c, E, fr, hv, hb, q0, q1, q2⟩ := opT_at (A.le lg) hx
    have hi' : (i : Int) < (l.length : Int) := by omega
    simp (disch := omega) [octroilaw10_TimersOrder_r6, octroilaw10_TimersOrder_r7, octroilaw10_TimersOrder_r8, e0, e1, e6, e7, hv, hb, q0, q1, q2, hi', wrap_i64]
    refine tsetM M (fun h2 F2 M2 => ?_)
    simp (disch := omega) [octroilaw10_TimersOrder_r8, e0, e1, e6, e7, wrap_i64]
    exact ⟨n - 1, by omega, i + 1, by omega, by rw [take_snoc hx, setsT_snoc]; exact M2, F2.leN lg n1 n2, by simp [e0], by simp [e1], by simp [e6], by simp⟩
end Go.Proofs.Ytncnlfidncjmbaa

/- What the list of calls reads: its flat parts. -/
namespace Go.Proofs.Ytncnlfidncjmbaa
open Go

def opKsT : List Lk := [.int .i64, .int .i64, .int .i64]
theorem dec_opT {H : Type} {enc : TypeId × Value → H} {w : World} {base : Nat} {spare : Nat → Bool} {held : Bool} (cs : List Value) (h : okLs enc Try.prog w base spare held opKsT cs) : ∃ x : OpT, cs = x.enc ∧ True := by
  obtain ⟨a, _, rfl, w1, h⟩ := okLs_int h
  obtain ⟨b, _, rfl, w2, h⟩ := okLs_int h
  obtain ⟨c, _, rfl, w3, h⟩ := okLs_int h
  obtain rfl := okLs_nil h
  exact ⟨⟨a, b, c⟩, rfl, trivial⟩

structure StT where
  n : Int
def StT.enc (x : StT) : List Value := [.int .i64 x.n]
def stKsT : List Lk := [.int .i64]
theorem dec_stT {H : Type} {enc : TypeId × Value → H} {w : World} {base : Nat} {spare : Nat → Bool} {held : Bool} (cs : List Value) (h : okLs enc Try.prog w base spare held stKsT cs) : ∃ x : StT, cs = x.enc ∧ True := by
  obtain ⟨a, _, rfl, w1, h⟩ := okLs_int h
  obtain rfl := okLs_nil h
  exact ⟨⟨a⟩, rfl, trivial⟩
end Go.Proofs.Ytncnlfidncjmbaa

/- Timers: what is set, and neither stopped nor set anew, is due once, when its time has come. -/
namespace Go.Proofs.Ytncnlfidncjmbaa
open Go
set_option linter.unusedSimpArgs false
set_option linter.unusedVariables false

theorem stT_at {h : Hp} {v : Value} {xs : List StT} {i : Nat} {x : StT} (A : ArgSl h 1 StT.enc (fun _ => True) v xs) (hx : xs[i]? = some x) :
    ∃ b o cap c E fr, v = .slice (some ⟨b, o, none⟩) xs.length cap ∧ h b = some (.cells c E fr) ∧ c[o + i]? = some (.int .i64 x.n) := by
  obtain ⟨_, b, o, cap, c, E, fr, e, hb, H⟩ := A.at hx
  have := H 0 (by omega)
  simp at this
  exact ⟨b, o, cap, c, E, fr, e, hb, this⟩

theorem filt_id {id : Int} : ∀ {m : TL}, Uniq m → m.filter (fun e => decide (e.1 = id)) = match getM m id with | some v => [(id, v)] | none => []
  | [], _ => rfl
  | x :: xs, u => by
    have u' : Uniq xs := by unfold Uniq at *; rw [List.map_cons, List.nodup_cons] at u; exact u.2
    have hn : x.1 ∉ xs.map (·.1) := by unfold Uniq at u; rw [List.map_cons, List.nodup_cons] at u; exact u.1
    rw [getM_cons]
    by_cases e : x.1 = id
    · rw [List.filter_cons_of_pos (by simp [e]), if_pos e.symm, filt_id u', getM_none.2 (by rw [← e]; exact hn)]
      simp [← e]
    · rw [List.filter_cons_of_neg (by simp [e]), if_neg (fun q => e q.symm), filt_id u']

def cntT (id : Int) (l : TL) : Nat := (l.filter (fun e => decide (e.1 = id))).length
theorem cntT_snoc {id : Int} {l : TL} {x : Tm} : cntT id (l ++ [x]) = cntT id l + (if x.1 = id then 1 else 0) := by
  unfold cntT; rw [List.filter_append, List.length_append]; congr 1
  split <;> simp [*]
theorem cntT_due {id now : Int} {m l : TL} (u : Uniq m) (hp : l.Perm (dueL m now)) : cntT id l = match getM m id with | some v => (if v ≤ now then 1 else 0) | none => 0 := by
  unfold cntT
  rw [(hp.filter _).length_eq]
  have : (dueL m now).filter (fun e => decide (e.1 = id)) = (m.filter (fun e => decide (e.1 = id))).filter (fun e => decide (e.2 ≤ now)) := by
    unfold dueL; rw [List.filter_filter, List.filter_filter]
    refine List.filter_congr fun x _ => Bool.and_comm _ _
  rw [this, filt_id u]
  cases getM m id with
  | none => rfl
  | some v => simp only [List.filter_cons, List.filter_nil]; split <;> simp_all

theorem getM_left {id now : Int} {m : TL} (u : Uniq m) : getM (leftL m now) id = match getM m id with | some v => (if v ≤ now then none else some v) | none => none := by
  have ul : Uniq (leftL m now) := List.Sublist.nodup (List.Sublist.map _ List.filter_sublist) u
  have key : ∀ v, getM (leftL m now) id = some v ↔ getM m id = some v ∧ ¬ v ≤ now := fun v => by
    constructor
    · intro e
      have h1 := getM_mem e
      unfold leftL at h1
      rw [List.mem_filter] at h1
      exact ⟨getM_of_mem u h1.1, by simpa using h1.2⟩
    · intro e
      refine getM_of_mem ul ?_
      unfold leftL
      rw [List.mem_filter]
      exact ⟨getM_mem e.1, by simpa using e.2⟩
  cases hg : getM m id with
  | none =>
    cases hl : getM (leftL m now) id with
    | none => rfl
    | some v => have := ((key v).1 hl).1; rw [hg] at this; cases this
  | some v =>
    simp only
    split
    · rename_i hle
      cases hl : getM (leftL m now) id with
      | none => rfl
      | some v' => have := (key v').1 hl; rw [hg] at this; simp at this; omega
    · rename_i hle
      exact (key v).2 ⟨hg, hle⟩

theorem getM_setTM {m : TL} {a id t : Int} (h : a ≠ id) : getM (setTM m a t) id = getM m id := by
  unfold setTM; split
  · rw [getM_setM, if_neg (fun q => h q.symm)]
  · rfl

def To1 (h0 : Hp) (p r : Nat) (lv sv : Value) (l : List OpT) (id t : Int) (n : Nat) (env : Env) (g : Hp) : Prop :=
  ∃ (i : Nat) (m : TL), i + n = l.length ∧ TmM g p r m ∧ getM m id = some t ∧ Le h0 g ∧ env 0 = lv ∧ env 1 = .int .i64 id ∧ env 2 = .int .i64 t ∧ env 3 = sv ∧ env 10 = .pointer (some ⟨p, 0, none⟩) ∧ env 11 = .int .i64 0 ∧ env 12 = .int .i64 (i : Nat)

def To2 (h0 : Hp) (p r : Nat) (sv : Value) (ss : List StT) (id t : Int) (n : Nat) (env : Env) (g : Hp) : Prop :=
  ∃ (i : Nat) (m : TL) (now : Int) (f : Nat), i + n = ss.length ∧ TmM g p r m ∧ ((f = 0 ∧ getM m id = some t) ∨ (f = 1 ∧ getM m id = none ∧ t ≤ now)) ∧ 0 ≤ now ∧ now ≤ 1000000 * i ∧ Le h0 g ∧
    env 1 = .int .i64 id ∧ env 2 = .int .i64 t ∧ env 3 = sv ∧ env 10 = .pointer (some ⟨p, 0, none⟩) ∧ env 11 = .int .i64 0 ∧ env 13 = .int .i64 now ∧ env 14 = .int .i64 (f : Nat) ∧ env 15 = .int .i64 (i : Nat)

def To3 (g0 : Hp) (p : Nat) (sv dv : Value) (d : TL) (id t now : Int) (f0 i : Nat) (n : Nat) (env : Env) (g : Hp) : Prop :=
  ∃ (k : Nat), g = g0 ∧ k + n = d.length ∧ 
    env 1 = .int .i64 id ∧ env 2 = .int .i64 t ∧ env 3 = sv ∧ env 10 = .pointer (some ⟨p, 0, none⟩) ∧ env 11 = .int .i64 0 ∧ env 13 = .int .i64 now ∧ env 14 = .int .i64 ((f0 + cntT id (d.take k) : Nat) : Int) ∧ env 15 = .int .i64 (i : Nat) ∧ env 16 = dv ∧ env 17 = .int .i64 (k : Nat)

set_option maxRecDepth 20000 in
theorem TimersOnce_walk {h : Hp} {lv sv : Value} {l : List OpT} {ss : List StT} {id t : Int} (A : ArgSl h 3 OpT.enc (fun _ => True) lv l) (B : ArgSl h 1 StT.enc (fun _ => True) sv ss) :
    Ok Try.prog F_octroilaw10_TimersOnce #[lv, .int .i64 id, .int .i64 t, sv] h (fun v g => v = .bool true ∧ Le h g) := by
  refine octroilaw10_TimersOnce_ok (by simp) ?_
  unfold octroilaw10_TimersOnce_D
  simp (disch := omega) [octroilaw10_TimersOnce_r0, octroilaw10_TimersOnce_r1]
  refine awakeT (fun h0 l0 => ?_)
  simp (disch := omega) [octroilaw10_TimersOnce_r2]
  refine tnewM (fun p r h1 l1 n1 n2 M1 => ?_)
  replace l1 := l0.trans l1
  replace n1 := none_of_le l0 n1
  replace n2 := none_of_le l0 n2
  obtain ⟨ap, acap, hlv⟩ := A.shape
  obtain ⟨bp, bcap, hsv⟩ := B.shape
  by_cases g1 : 200 < (l.length : Int)
  · simp (disch := omega) [octroilaw10_TimersOnce_r3, octroilaw10_TimersOnce_r4, hlv, hsv, g1]
    exact .to _ (.refl _) ⟨rfl, l1⟩
  by_cases g2 : 100 < (ss.length : Int)
  · simp (disch := omega) [octroilaw10_TimersOnce_r3, octroilaw10_TimersOnce_r4, hlv, hsv, g1, g2]
    exact .to _ (.refl _) ⟨rfl, l1⟩
  by_cases g3 : t < 0
  · simp (disch := omega) [octroilaw10_TimersOnce_r3, octroilaw10_TimersOnce_r4, hlv, hsv, g1, g2, g3]
    exact .to _ (.refl _) ⟨rfl, l1⟩
  by_cases g4 : 1000000 < t
  · simp (disch := omega) [octroilaw10_TimersOnce_r3, octroilaw10_TimersOnce_r4, hlv, hsv, g1, g2, g3, g4]
    exact .to _ (.refl _) ⟨rfl, l1⟩
  simp (disch := omega) [octroilaw10_TimersOnce_r3, octroilaw10_TimersOnce_r5, hlv, hsv, g1, g2, g3, g4]
  have q1 := setT_ok (m := []) (id := id) (t := t) (by omega) (by simp)
  refine tsetM M1 (fun h2 F2 M2 => ?_)
  rw [q1.2, show setM id t [] = [(id, t)] from rfl] at M2
  rw [q1.1]
  have l2 := F2.leN l1 n1 n2
  simp (disch := omega) [octroilaw10_TimersOnce_r6]
  refine ⟨To1 h p r lv sv l id t, ⟨l.length, 0, [(id, t)], by omega, M2, by simp [getM_cons], l2, by simp [hlv], by simp, by simp, by simp [hsv], by simp, by simp, by simp⟩, ?_⟩
  rintro n env g ⟨i, m, hin, M, hg, lg, e0, e1, e2, e3, e10, e11, e12⟩
  unfold octroilaw10_TimersOnce_L0
  by_cases hm : n = 0
  · have : i = l.length := by omega
    subst this
    simp (disch := omega) [octroilaw10_TimersOnce_r7, octroilaw10_TimersOnce_r14, octroilaw10_TimersOnce_r15, octroilaw10_TimersOnce_r16, e0, e1, e2, e3, e10, e11, e12, hlv]
    refine ⟨To2 h p r sv ss id t, ⟨ss.length, 0, m, 0, 0, by omega, M, .inl ⟨rfl, hg⟩, by omega, by omega, lg, by simp [e1], by simp [e2], by simp [e3], by simp [e10], by simp [e11], by simp, by simp, by simp⟩, ?_⟩
    clear e0 e1 e2 e3 e10 e11 e12 M hg lg
    rintro n env g ⟨i, m, now, f, hin, M, hf, hn0, hn1, lg, e1, e2, e3, e10, e11, e13, e14, e15⟩
    unfold octroilaw10_TimersOnce_L2
    by_cases hm : n = 0
    · have : i = ss.length := by omega
      subst this
      simp (disch := omega) [octroilaw10_TimersOnce_r17, octroilaw10_TimersOnce_r32, e1, e2, e3, e10, e11, e13, e14, e15, hsv]
      exact .to _ (.refl _) ⟨rfl, lg⟩
    · obtain ⟨x, hx⟩ : ∃ x, ss[i]? = some x := ⟨_, List.getElem?_eq_getElem (by omega)⟩
      obtain ⟨b, o, cap, c, E, fr, hv, hb, q0⟩ := stT_at (B.le lg) hx
      have hi' : i < ss.length := by omega
      by_cases s1 : x.n < 0
      · simp (disch := omega) [octroilaw10_TimersOnce_r17, octroilaw10_TimersOnce_r18, octroilaw10_TimersOnce_r19, e1, e2, e3, e10, e11, e13, e14, e15, hv, hb, q0, hi', s1]
        exact .to _ (.refl _) ⟨rfl, lg⟩
      by_cases s2 : 1000000 < x.n
      · simp (disch := omega) [octroilaw10_TimersOnce_r17, octroilaw10_TimersOnce_r18, octroilaw10_TimersOnce_r19, e1, e2, e3, e10, e11, e13, e14, e15, hv, hb, q0, hi', s1, s2]
        exact .to _ (.refl _) ⟨rfl, lg⟩
      simp (disch := omega) [octroilaw10_TimersOnce_r17, octroilaw10_TimersOnce_r18, octroilaw10_TimersOnce_r20, octroilaw10_TimersOnce_r21, e1, e2, e3, e10, e11, e13, e14, e15, hv, hb, q0, hi', s1, s2, wrap_i64]
      refine tdueM M (fun dv d g2 F2 M2 S hp hs nv => ?_)
      have l2 := F2.leN lg n1 n2
      have hcd := cntT_due (id := id) M.un hp
      have hgl := getM_left (id := id) (now := now + x.n) M.un
      obtain ⟨sp, dcap, hdv⟩ := S.shape'
      simp (disch := omega) [octroilaw10_TimersOnce_r22, e1, e2, e3, e10, e11, e13, e14, e15, hv]
      refine ⟨To3 g2 p sv dv d id t (now + x.n) f i, ⟨d.length, 0, rfl, by omega, by simp [e1], by simp [e2], by simp [e3, hv], by simp [e10], by simp [e11], by simp, by simp [e14, cntT], by simp [e15], by simp, by simp⟩, ?_⟩
      clear e1 e2 e3 e10 e11 e13 e14 e15
      rintro n2' env g' ⟨k, rfl, hkn, e1, e2, e3, e10, e11, e13, e14, e15, e16, e17⟩
      unfold octroilaw10_TimersOnce_L1
      by_cases hm2 : n2' = 0
      · have : k = d.length := by omega
        subst this
        rw [List.take_of_length_le (Nat.le_refl _), hcd] at e14
        have hdone : ∃ f' : Nat, env 14 = .int .i64 (f' : Nat) ∧ ((f' = 0 ∧ getM (leftL m (now + x.n)) id = some t ∧ ¬ t ≤ now + x.n) ∨ (f' = 1 ∧ getM (leftL m (now + x.n)) id = none ∧ t ≤ now + x.n)) := by
          rcases hf with ⟨rfl, hg⟩ | ⟨rfl, hg, ht⟩
          · rw [hg] at e14 hgl
            by_cases hle : t ≤ now + x.n
            · exact ⟨1, by simpa [hle] using e14, .inr ⟨rfl, by simpa [hle] using hgl, hle⟩⟩
            · exact ⟨0, by simpa [hle] using e14, .inl ⟨rfl, by simpa [hle] using hgl, hle⟩⟩
          · rw [hg] at e14 hgl
            exact ⟨1, by simpa using e14, .inr ⟨rfl, by simpa using hgl, by omega⟩⟩
        obtain ⟨f', e14', hf'⟩ := hdone
        clear e14
        rcases hf' with ⟨rfl, hg', ht'⟩ | ⟨rfl, hg', ht'⟩
        · simp (disch := omega) [octroilaw10_TimersOnce_r23, octroilaw10_TimersOnce_r29, octroilaw10_TimersOnce_r31, e1, e2, e3, e10, e11, e13, e14', e15, e16, e17, hdv, ht', wrap_i64]
          exact ⟨n - 1, by omega, i + 1, _, now + x.n, 0, by omega, M2, .inl ⟨rfl, hg'⟩, by omega, by omega, l2, by simp [e1], by simp [e2], by simp [e3, hv], by simp [e10], by simp [e11], by simp [e13], by simp [e14'], by simp⟩
        · simp (disch := omega) [octroilaw10_TimersOnce_r23, octroilaw10_TimersOnce_r29, octroilaw10_TimersOnce_r31, e1, e2, e3, e10, e11, e13, e14', e15, e16, e17, hdv, ht', wrap_i64]
          exact ⟨n - 1, by omega, i + 1, _, now + x.n, 1, by omega, M2, .inr ⟨rfl, hg', ht'⟩, by omega, by omega, l2, by simp [e1], by simp [e2], by simp [e3, hv], by simp [e10], by simp [e11], by simp [e13], by simp [e14'], by simp⟩
      · obtain ⟨y, hy⟩ : ∃ y, d[k]? = some y := ⟨_, List.getElem?_eq_getElem (by omega)⟩
        have hym : y ∈ dueL m (now + x.n) := hp.mem_iff.1 (List.mem_of_getElem? hy)
        obtain ⟨b2, cap2, c2, hv2, hb2, p0, p1⟩ := tm_at S hy
        rw [hdv] at hv2
        simp only [Value.slice.injEq, true_and] at hv2
        obtain ⟨rfl, rfl⟩ := hv2
        have hk' : k < d.length := by omega
        have hdl := hp.length_eq
        have hdl2 : (dueL m (now + x.n)).length ≤ m.length := List.length_filter_le _ _
        have hml := M.le
        have hcl : cntT id (d.take k) ≤ d.length := by
          unfold cntT
          exact Nat.le_trans (List.length_filter_le _ _) (by rw [List.length_take]; omega)
        have hfl : f ≤ 1 := by rcases hf with ⟨rfl, _⟩ | ⟨rfl, _⟩ <;> omega
        have tk := take_snoc hy
        have hc := cntT_snoc (id := id) (l := d.take k) (x := y)
        rw [← tk] at hc
        by_cases hid : y.1 = id
        · have hy2 : y.2 = t ∧ t ≤ now + x.n := by
            unfold dueL at hym
            rw [List.mem_filter] at hym
            have h1 := getM_of_mem (a := y.1) (v := y.2) M.un hym.1
            rw [hid] at h1
            have h2 : y.2 ≤ now + x.n := by simpa using hym.2
            rcases hf with ⟨_, hg⟩ | ⟨_, hg, _⟩
            · rw [hg] at h1; simp at h1; omega
            · rw [hg] at h1; cases h1
          rw [if_pos hid] at hc
          have hnt : ¬ now + x.n < t := by omega
          simp (disch := omega) [octroilaw10_TimersOnce_r23, octroilaw10_TimersOnce_r24, octroilaw10_TimersOnce_r25, octroilaw10_TimersOnce_r26, octroilaw10_TimersOnce_r28, e1, e2, e3, e10, e11, e13, e14, e15, e16, e17, hdv, hb2, p0, p1, hk', hid, hy2.1, hnt, wrap_i64]
          exact ⟨n2' - 1, by omega, k + 1, rfl, by omega, by simp [e1], by simp [e2], by simp [e3, hv], by simp [e10], by simp [e11], by simp [e13], by simp; omega, by simp [e15], by simp [e16, hdv], by simp⟩
        · rw [if_neg hid] at hc
          simp (disch := omega) [octroilaw10_TimersOnce_r23, octroilaw10_TimersOnce_r24, octroilaw10_TimersOnce_r28, e1, e2, e3, e10, e11, e13, e14, e15, e16, e17, hdv, hb2, p0, p1, hk', hid, wrap_i64]
          exact ⟨n2' - 1, by omega, k + 1, rfl, by omega, by simp [e1], by simp [e2], by simp [e3, hv], by simp [e10], by simp [e11], by simp [e13], by simp [e14]; omega, by simp [e15], by simp [e16, hdv], by simp⟩
  · obtain ⟨x, hx⟩ : ∃ x, l[i]? = some x := ⟨_, List.getElem?_eq_getElem (by omega)⟩
    obtain ⟨b, o, cap, c, E, fr, hv, hb, q0, q1', q2⟩ := opT_at (A.le lg) hx
    have hi' : i < l.length := by omega
    by_cases hid : x.id = id
    · simp (disch := omega) [octroilaw10_TimersOnce_r7, octroilaw10_TimersOnce_r8, octroilaw10_TimersOnce_r13, e0, e1, e2, e3, e10, e11, e12, hv, hb, q0, q1', q2, hi', hid, wrap_i64]
      exact ⟨n - 1, by omega, i + 1, m, by omega, M, hg, lg, by simp [e0, hv], by simp [e1], by simp [e2], by simp [e3], by simp [e10], by simp [e11], by simp⟩
    by_cases hk0 : x.k = 0
    · simp (disch := omega) [octroilaw10_TimersOnce_r7, octroilaw10_TimersOnce_r8, octroilaw10_TimersOnce_r9, octroilaw10_TimersOnce_r10, e0, e1, e2, e3, e10, e11, e12, hv, hb, q0, q1', q2, hi', hid, hk0, wrap_i64]
      refine tsetM M (fun h2 F2 M2 => ?_)
      have l2 := F2.leN lg n1 n2
      have hb' : h2 b = some (.cells c E fr) := by
        obtain ⟨b', o', cap', c', E', fr', hv', hb', q0', q1'', q2'⟩ := opT_at (A.le l2) hx
        rw [hv] at hv'
        simp only [Value.slice.injEq, Option.some.injEq, Addr.mk.injEq, true_and, and_true] at hv'
        obtain ⟨⟨rfl, rfl⟩, rfl⟩ := hv'
        obtain ⟨b'', o'', _, c'', E'', fr'', hv'', hb'', _⟩ := opT_at A hx
        rw [hv] at hv''
        simp only [Value.slice.injEq, Option.some.injEq, Addr.mk.injEq, true_and, and_true] at hv''
        obtain ⟨⟨rfl, rfl⟩, _⟩ := hv''
        have h1 := lg _ _ hb''
        have h2 := l2 _ _ hb''
        rw [hb] at h1
        rw [h2, ← h1]
      simp (disch := omega) [octroilaw10_TimersOnce_r11, octroilaw10_TimersOnce_r13, e0, e1, e2, e3, e10, e11, e12, hv, hb', q0, q1', q2, hi', hid, hk0, wrap_i64]
      exact ⟨n - 1, by omega, i + 1, _, by omega, M2, by rw [getM_setTM hid]; exact hg, l2, by simp [e0, hv], by simp [e1], by simp [e2], by simp [e3], by simp [e10], by simp [e11], by simp⟩
    · by_cases hk1 : x.k = 1
      · simp (disch := omega) [octroilaw10_TimersOnce_r7, octroilaw10_TimersOnce_r8, octroilaw10_TimersOnce_r9, octroilaw10_TimersOnce_r11, octroilaw10_TimersOnce_r12, e0, e1, e2, e3, e10, e11, e12, hv, hb, q0, q1', q2, hi', hid, hk0, hk1, wrap_i64]
        refine tstopM M (fun h2 F2 M2 => ?_)
        have l2 := F2.leN lg n1 n2
        simp (disch := omega) [octroilaw10_TimersOnce_r13, e0, e1, e2, e3, e10, e11, e12, hv, wrap_i64]
        exact ⟨n - 1, by omega, i + 1, _, by omega, M2, by unfold stopTM; rw [getM_delM M.un, if_neg (fun q => hid q.symm)]; exact hg, l2, by simp [e0, hv], by simp [e1], by simp [e2], by simp [e3], by simp [e10], by simp [e11], by simp⟩
      · simp (disch := omega) [octroilaw10_TimersOnce_r7, octroilaw10_TimersOnce_r8, octroilaw10_TimersOnce_r9, octroilaw10_TimersOnce_r11, octroilaw10_TimersOnce_r13, e0, e1, e2, e3, e10, e11, e12, hv, hb, q0, q1', q2, hi', hid, hk0, hk1, wrap_i64]
        exact ⟨n - 1, by omega, i + 1, m, by omega, M, hg, lg, by simp [e0, hv], by simp [e1], by simp [e2], by simp [e3], by simp [e10], by simp [e11], by simp⟩
end Go.Proofs.Ytncnlfidncjmbaa

/- Timers of the document's answer: Stop, Set, Due, Same. -/
namespace Go.Proofs.Ytncnlfidncjmbaa
open Go
set_option linter.unusedSimpArgs false
set_option linter.unusedVariables false

abbrev T_rf : Nat := 45

/-- The document's timers in memory. -/
structure RfM (h : Hp) (q : Nat) (v : Value) (L : TL) : Prop where
  pt : h q = some (.cells #[v] T_rf (0, 0))
  sl : SlAt h T_api_Timer 2 tenc v L
  ne : blkOf v ≠ some q

/-- What a call on them changes. -/
structure RfG (h h' : Hp) (q : Nat) (v v' : Value) : Prop where
  keep : ∀ x o, h x = some o → x ≠ q → h' x = some o
  fresh : ∀ b, blkOf v' = some b → blkOf v = some b ∨ h b = none

theorem RfG.refl (h : Hp) (q : Nat) (v : Value) : RfG h h q v v := ⟨fun _ _ e _ => e, fun _ e => .inl e⟩
def rstop (L : TL) (id : Int) : TL := L.filter fun e => decide (e.1 ≠ id)
def rstopE (L : TL) (id : Int) : Int := if (rstop L id).length = L.length then 5 else 0
def insT (x : Tm) : TL → TL
  | [] => [x]
  | y :: ys => if y.2 > x.2 ∨ (y.2 = x.2 ∧ y.1 > x.1) then x :: y :: ys else y :: insT x ys
def rsetE (L : TL) (id t : Int) : Int := if t < 0 ∨ 1099511627776 < t then 1 else if rstopE L id ≠ 0 ∧ 256 ≤ L.length then 4 else 0
def rset (L : TL) (id t : Int) : TL := if t < 0 ∨ 1099511627776 < t then L else if rstopE L id ≠ 0 ∧ 256 ≤ L.length then L else insT (id, t) (rstop L id)
def ahead (now : Int) (L : TL) : Nat := (L.takeWhile fun e => decide (e.2 ≤ now)).length

def StInv (h0 : Hp) (q : Nat) (v : Value) (L : TL) (id : Int) (n : Nat) (env : Env) (g : Hp) : Prop :=
  ∃ (i : Nat) (w : Value), i + n = L.length ∧ Le h0 g ∧ SlAt g T_api_Timer 2 tenc w (rstop (L.take i) id) ∧ (∀ b, blkOf w = some b → h0 b = none) ∧
    env 0 = .pointer (some ⟨q, 0, none⟩) ∧ env 1 = .int .i64 id ∧ env 5 = w ∧ env 6 = .int .i64 (i : Nat)

theorem rstopM {h : Hp} {q : Nat} {v : Value} {L : TL} {id : Int} {Q : Value → Hp → Prop} (M : RfM h q v L) (hl : L.length ≤ 1000000)
    (hQ : ∀ v' h', RfG h h' q v v' → RfM h' q v' (rstop L id) → Q (.int .i64 (rstopE L id)) h') : Ok Try.prog F_octroiref10_Timers_Stop #[.pointer (some ⟨q, 0, none⟩), .int .i64 id] h Q := by
  refine octroiref10_Timers_Stop_ok (by simp) ?_
  unfold octroiref10_Timers_Stop_D
  obtain ⟨ap, acap, hv⟩ := M.sl.shape'
  simp (disch := omega) [octroiref10_Timers_Stop_r0, octroiref10_Timers_Stop_r1, octroiref10_Timers_Stop_r2]
  refine ⟨StInv h q v L id, ⟨L.length, 0, .slice none 0 0, by omega, .refl _, .inl ⟨rfl, rfl⟩, by simp [blkOf], by simp, by simp, by simp, by simp⟩, ?_⟩
  rintro n env g ⟨i, w, hin, lg, S, nw, e0, e1, e5, e6⟩
  unfold octroiref10_Timers_Stop_L0
  have hq := lg _ _ M.pt
  have hsl : (rstop (L.take i) id).length ≤ L.length := Nat.le_trans (List.length_filter_le _ _) (by rw [List.length_take]; omega)
  by_cases hm : n = 0
  · have : i = L.length := by omega
    subst this
    rw [List.take_of_length_le (Nat.le_refl _)] at S
    obtain ⟨sp, cap, hw⟩ := S.shape'
    by_cases he : (rstop L id).length = L.length
    · have hrl : rstop L id = L := List.Sublist.eq_of_length List.filter_sublist he
      unfold rstopE at hQ
      rw [if_pos he, hrl] at hQ
      have he' : ((rstop L id).length : Int) = (L.length : Int) := by omega
      simp (disch := omega) [octroiref10_Timers_Stop_r3, octroiref10_Timers_Stop_r7, octroiref10_Timers_Stop_r8, e0, e1, e5, e6, hq, hv, hw, he, he']
      exact .to _ (.refl _) (hQ v g ⟨fun x o e _ => lg _ _ e, fun b e => .inl e⟩ ⟨hq, M.sl.le' lg, M.ne⟩)
    · have he' : ¬ ((rstop L id).length : Int) = (L.length : Int) := by omega
      unfold rstopE at hQ
      rw [if_neg he] at hQ
      simp (disch := omega) [octroiref10_Timers_Stop_r3, octroiref10_Timers_Stop_r7, octroiref10_Timers_Stop_r9, octroiref10_Timers_Stop_r10, e0, e1, e5, e6, hq, hv, hw, he, he']
      rw [← hw]
      have nq : blkOf w ≠ some q := fun e => by have := nw q e; rw [M.pt] at this; cases this
      exact .to _ (.refl _) (hQ w _ ⟨fun x o e n => by rw [upd_ne n]; exact lg _ _ e, fun b e => .inr (nw b e)⟩ ⟨upd_same, S.keep (fun b o e e2 => by rw [upd_ne (fun q2 => nq (by rw [← q2]; exact e))]; exact e2), nq⟩)
  · obtain ⟨x, hx⟩ : ∃ x, L[i]? = some x := ⟨_, List.getElem?_eq_getElem (by omega)⟩
    obtain ⟨b, cap, c, hv', hb, c0, c1⟩ := tm_at (M.sl.le' lg) hx
    have hi' : i < L.length := by omega
    have tk := take_snoc hx
    by_cases hid : x.1 = id
    · have hr : rstop (L.take (i + 1)) id = rstop (L.take i) id := by rw [tk]; unfold rstop; simp [hid]
      simp (disch := omega) [octroiref10_Timers_Stop_r3, octroiref10_Timers_Stop_r4, octroiref10_Timers_Stop_r6, e0, e1, e5, e6, hq, hv', hb, c0, c1, hi', hid, wrap_i64]
      exact ⟨n - 1, by omega, i + 1, w, by omega, lg, by rw [hr]; exact S, nw, by simp [e0], by simp [e1], by simp [e5], by simp⟩
    · have hr : rstop (L.take (i + 1)) id = rstop (L.take i) id ++ [x] := by rw [tk]; unfold rstop; simp [hid]
      simp (disch := omega) [octroiref10_Timers_Stop_r3, octroiref10_Timers_Stop_r4, octroiref10_Timers_Stop_r5, e0, e1, e5, e6, hq, hv', hb, c0, c1, hi', hid, wrap_i64]
      refine snoc_api_Timer S (y := x) rfl (by simp [tenc]) (by omega) (fun b9 w' g' S' G hb9 => ?_)
      simp (disch := omega) [octroiref10_Timers_Stop_r6, e6, wrap_i64]
      have lg' : Le h g' := fun x o e => G.keep x o (lg _ _ e) (fun q => by rw [nw x q.symm] at e; cases e)
      refine ⟨n - 1, by omega, i + 1, w', by omega, lg', by rw [hr]; exact S', fun b e => ?_, by simp [e0], by simp [e1], by simp, by simp⟩
      rcases G.fresh with q1 | q1
      · exact nw b (by rw [← q1]; exact e)
      · exact none_of_le lg (q1 b e)

/-! ### Set -/
theorem insT_pos {x y : Tm} {ys : TL} (h : y.2 > x.2 ∨ (y.2 = x.2 ∧ y.1 > x.1)) : insT x (y :: ys) = x :: y :: ys := by rw [insT, if_pos h]
theorem insT_neg {x y : Tm} {ys : TL} (h : ¬ (y.2 > x.2 ∨ (y.2 = x.2 ∧ y.1 > x.1))) : insT x (y :: ys) = y :: insT x ys := by rw [insT, if_neg h]
theorem insT_length {x : Tm} : ∀ {L : TL}, (insT x L).length = L.length + 1
  | [] => rfl
  | y :: ys => by
    by_cases h : y.2 > x.2 ∨ (y.2 = x.2 ∧ y.1 > x.1)
    · rw [insT_pos h]; rfl
    · rw [insT_neg h, List.length_cons, insT_length]; rfl
theorem insT_perm {x : Tm} : ∀ {L : TL}, (insT x L).Perm (x :: L)
  | [] => .refl _
  | y :: ys => by
    by_cases h : y.2 > x.2 ∨ (y.2 = x.2 ∧ y.1 > x.1)
    · rw [insT_pos h]
    · rw [insT_neg h]; exact ((insT_perm (L := ys)).cons y).trans (.swap _ _ _)

theorem drop_cons {α : Type} {l : List α} {i : Nat} {x : α} (hx : l[i]? = some x) : l.drop i = x :: l.drop (i + 1) := by
  obtain ⟨h1, h2⟩ := List.getElem?_eq_some_iff.1 hx
  rw [List.drop_eq_getElem_cons h1, h2]

def SeInv (h0 : Hp) (q : Nat) (L : TL) (id t : Int) (n : Nat) (env : Env) (g : Hp) : Prop :=
  ∃ (i : Nat) (w : Value) (o : TL) (dn : Bool), i + n = L.length ∧ Le h0 g ∧ SlAt g T_api_Timer 2 tenc w o ∧ (∀ b, blkOf w = some b → h0 b = none) ∧
    (o ++ (if dn then L.drop i else insT (id, t) (L.drop i))) = insT (id, t) L ∧
    env 0 = .pointer (some ⟨q, 0, none⟩) ∧ env 1 = .int .i64 id ∧ env 2 = .int .i64 t ∧ env 8 = w ∧ env 9 = .bool dn ∧ env 10 = .int .i64 (i : Nat)

set_option maxHeartbeats 2000000 in
set_option maxRecDepth 20000 in
theorem rsetM {h : Hp} {q : Nat} {v : Value} {L : TL} {id t : Int} {Q : Value → Hp → Prop} (M : RfM h q v L) (hl : L.length ≤ 1000000)
    (hQ : ∀ v' h', RfG h h' q v v' → RfM h' q v' (rset L id t) → Q (.int .i64 (rsetE L id t)) h') : Ok Try.prog F_octroiref10_Timers_Set #[.pointer (some ⟨q, 0, none⟩), .int .i64 id, .int .i64 t] h Q := by
  refine octroiref10_Timers_Set_ok (by simp) ?_
  unfold octroiref10_Timers_Set_D
  unfold rset rsetE at hQ
  by_cases g1 : t < 0
  · rw [if_pos (.inl g1), if_pos (.inl g1)] at hQ
    simp (disch := omega) [octroiref10_Timers_Set_r0, octroiref10_Timers_Set_r1, octroiref10_Timers_Set_r2, g1]
    exact .to _ (.refl _) (hQ v h (.refl _ _ _) M)
  by_cases g2 : 1099511627776 < t
  · rw [if_pos (.inr g2), if_pos (.inr g2)] at hQ
    simp (disch := omega) [octroiref10_Timers_Set_r0, octroiref10_Timers_Set_r1, octroiref10_Timers_Set_r2, g1, g2]
    exact .to _ (.refl _) (hQ v h (.refl _ _ _) M)
  have g12 : ¬ (t < 0 ∨ 1099511627776 < t) := by omega
  rw [if_neg g12, if_neg g12] at hQ
  simp (disch := omega) [octroiref10_Timers_Set_r0, octroiref10_Timers_Set_r1, octroiref10_Timers_Set_r3, g1, g2]
  refine rstopM M hl (fun v1 h1 G1 M1 => ?_)
  obtain ⟨ap, acap, hv⟩ := M1.sl.shape'
  have hE : rstopE L id = 0 ∨ rstopE L id = 5 := by unfold rstopE; split <;> simp
  have go : ∀ (env : Env), env 0 = .pointer (some ⟨q, 0, none⟩) → env 1 = .int .i64 id → env 2 = .int .i64 t → (rstop L id).length ≤ 1000000 →
      (∀ v' h', RfG h h' q v v' → RfM h' q v' (insT (id, t) (rstop L id)) → Q (.int .i64 0) h') →
      octroiref10_Timers_Set_r6 env h1 (thenK (sq (rg octroiref10_Timers_Set_r7) (sq (sq (rg octroiref10_Timers_Set_r8) (blk 0 (lp octroiref10_Timers_Set_L0))) (sq (sq (rg octroiref10_Timers_Set_r15) (cnd (.tmp 94) (rg octroiref10_Timers_Set_r16) (ex .normal))) (sq (rg octroiref10_Timers_Set_r17) (sq (rg octroiref10_Timers_Set_r18) (ex .ret)))))) (fin Try.prog [.tmp 6] Q) .normal) := by
    intro env e0 e1 e2 hl hQ
    generalize rstop L id = L at *
    simp (disch := omega) [octroiref10_Timers_Set_r6, octroiref10_Timers_Set_r7, octroiref10_Timers_Set_r8]
    refine ⟨SeInv h1 q L id t, ⟨L.length, 0, .slice none 0 0, [], false, by omega, .refl _, .inl ⟨rfl, rfl⟩, by simp [blkOf], by simp, by simp [e0], by simp [e1], by simp [e2], by simp, by simp, by simp⟩, ?_⟩
    clear e0 e1 e2
    rintro n env g ⟨i, w, o, dn, hin, lg, S, nw, ho, e0, e1, e2, e8, e9, e10⟩
    unfold octroiref10_Timers_Set_L0
    have hq := lg _ _ M1.pt
    have hol : o.length + (L.length - i) ≤ L.length + 1 := by
      have h1 := congrArg List.length ho
      rw [List.length_append, insT_length] at h1
      split at h1
      · rw [List.length_drop] at h1; omega
      · rw [insT_length, List.length_drop] at h1; omega
    have endK : ∀ (env : Env) (g : Hp) (w : Value), Le h1 g → SlAt g T_api_Timer 2 tenc w (insT (id, t) L) → (∀ b, blkOf w = some b → h1 b = none) → env 0 = .pointer (some ⟨q, 0, none⟩) → env 8 = w →
        octroiref10_Timers_Set_r17 env g (thenK (sq (rg octroiref10_Timers_Set_r18) (ex .ret)) (fin Try.prog [.tmp 6] Q) .normal) := by
      intro env g w lg S nw e0 e8
      have hq := lg _ _ M1.pt
      have nq : blkOf w ≠ some q := fun e => by have := nw q e; rw [M1.pt] at this; cases this
      obtain ⟨sp, cap, hw⟩ := S.shape'
      simp (disch := omega) [octroiref10_Timers_Set_r17, octroiref10_Timers_Set_r18, e0, e8, hq, hw]
      rw [← hw]
      have K1 : ∀ x o, h1 x = some o → x ≠ q → (g.upd q (.cells #[w] 45 (0, 0))) x = some o := fun x o e n => by rw [upd_ne n]; exact lg _ _ e
      refine .to _ (.refl _) (hQ w _ ⟨fun x o e n => K1 x o (G1.keep x o e n) n, fun b e => .inr ?_⟩ ⟨upd_same, S.keep (fun b o e e2 => by rw [upd_ne (fun q2 => nq (by rw [← q2]; exact e))]; exact e2), nq⟩)
      cases hb : h b with
      | none => rfl
      | some o => have := G1.keep b o hb (by rintro rfl; exact nq e); rw [nw b e] at this; cases this
    by_cases hm : n = 0
    · have : i = L.length := by omega
      subst this
      rw [List.drop_of_length_le (Nat.le_refl _)] at ho
      cases dn with
      | true =>
        simp at ho
        subst ho
        simp (disch := omega) [octroiref10_Timers_Set_r9, octroiref10_Timers_Set_r15, e0, e1, e2, e8, e9, e10, hq, hv]
        refine endK _ g w lg S nw ?_ ?_ <;> simp [e0, e8]
      | false =>
        simp [insT] at ho
        simp (disch := omega) [octroiref10_Timers_Set_r9, octroiref10_Timers_Set_r15, octroiref10_Timers_Set_r16, e0, e1, e2, e8, e9, e10, hq, hv]
        refine snoc_api_Timer S (y := (id, t)) rfl (by simp [tenc]) (by omega) (fun b9 w' g' S' G hb9 => ?_)
        rw [ho] at S'
        refine endK _ g' w' (fun x o e => G.keep x o (lg _ _ e) (fun q => by rw [nw x q.symm] at e; cases e)) S' (fun b e => ?_) ?_ ?_
        · rcases G.fresh with q1 | q1
          · exact nw b (by rw [← q1]; exact e)
          · exact none_of_le lg (q1 b e)
        · simp [e0]
        · simp
    · obtain ⟨x, hx⟩ : ∃ x, L[i]? = some x := ⟨_, List.getElem?_eq_getElem (by omega)⟩
      obtain ⟨b, cap, c, hv', hb, c0, c1⟩ := tm_at (M1.sl.le' lg) hx
      have hi' : i < L.length := by omega
      have dk := drop_cons hx
      have last : ∀ (env : Env) (g : Hp) (w : Value) (o : TL) (dn : Bool), Le h1 g → SlAt g T_api_Timer 2 tenc w o → (∀ b, blkOf w = some b → h1 b = none) → o.length ≤ L.length + 1 → ((o ++ [x]) ++ (if dn then L.drop (i + 1) else insT (id, t) (L.drop (i + 1)))) = insT (id, t) L →
          env 0 = .pointer (some ⟨q, 0, none⟩) → env 1 = .int .i64 id → env 2 = .int .i64 t → env 8 = w → env 9 = .bool dn → env 10 = .int .i64 (i : Nat) →
          octroiref10_Timers_Set_r13 env g (inBlk 1 (thenK (rg octroiref10_Timers_Set_r14) (roundK (SeInv h1 q L id t) n (inBlk 0 (thenK (sq (sq (rg octroiref10_Timers_Set_r15) (cnd (.tmp 94) (rg octroiref10_Timers_Set_r16) (ex .normal))) (sq (rg octroiref10_Timers_Set_r17) (sq (rg octroiref10_Timers_Set_r18) (ex .ret)))) (fin Try.prog [.tmp 6] Q))))) .normal) := by
        intro env g w o dn lg S nw hol ho e0 e1 e2 e8 e9 e10
        obtain ⟨b, cap, c, hv', hb, c0, c1⟩ := tm_at (M1.sl.le' lg) hx
        have hq := lg _ _ M1.pt
        simp (disch := omega) [octroiref10_Timers_Set_r13, e0, e1, e2, e8, e9, e10, hq, hv', hb, c0, c1, hi']
        refine snoc_api_Timer S (y := x) rfl (by simp [tenc]) (by omega) (fun b9 w' g' S' G hb9 => ?_)
        simp (disch := omega) [octroiref10_Timers_Set_r14, e10, wrap_i64]
        refine ⟨n - 1, by omega, i + 1, w', _, dn, by omega, fun x o e => G.keep x o (lg _ _ e) (fun q => by rw [nw x q.symm] at e; cases e), S', fun b e => ?_, ho, by simp [e0], by simp [e1], by simp [e2], by simp, by simp [e9], by simp⟩
        rcases G.fresh with q1 | q1
        · exact nw b (by rw [← q1]; exact e)
        · exact none_of_le lg (q1 b e)
      cases dn with
      | true =>
        rw [dk] at ho
        simp (disch := omega) [octroiref10_Timers_Set_r9, octroiref10_Timers_Set_r10, e0, e1, e2, e8, e9, e10, hq, hv', hb, c0, c1, hi', wrap_i64]
        refine last _ g w o true lg S nw (by omega) (by simpa using ho) ?_ ?_ ?_ ?_ ?_ ?_ <;> simp [e0, e1, e2, e8, e9, e10]
      | false =>
        by_cases hgt : x.2 > t ∨ (x.2 = t ∧ x.1 > id)
        · rw [dk] at ho
          simp only [Bool.false_eq_true, if_false] at ho
          rw [insT_pos (by exact hgt)] at ho
          have ins : ∀ (env : Env), env 0 = .pointer (some ⟨q, 0, none⟩) → env 1 = .int .i64 id → env 2 = .int .i64 t → env 8 = w → env 10 = .int .i64 (i : Nat) →
              octroiref10_Timers_Set_r11 env g (thenK (rg octroiref10_Timers_Set_r12) (thenK (rg octroiref10_Timers_Set_r13) (inBlk 1 (thenK (rg octroiref10_Timers_Set_r14) (roundK (SeInv h1 q L id t) n (inBlk 0 (thenK (sq (sq (rg octroiref10_Timers_Set_r15) (cnd (.tmp 94) (rg octroiref10_Timers_Set_r16) (ex .normal))) (sq (rg octroiref10_Timers_Set_r17) (sq (rg octroiref10_Timers_Set_r18) (ex .ret)))) (fin Try.prog [.tmp 6] Q))))))) .normal) := by
            intro env e0 e1 e2 e8 e10
            simp (disch := omega) [octroiref10_Timers_Set_r11, e0, e1, e2, e8, e10]
            refine snoc_api_Timer S (y := (id, t)) rfl (by simp [tenc]) (by omega) (fun b9 w' g' S' G hb9 => ?_)
            simp (disch := omega) [octroiref10_Timers_Set_r12]
            refine last _ g' w' _ true (fun x o e => G.keep x o (lg _ _ e) (fun q => by rw [nw x q.symm] at e; cases e)) S' (fun b e => ?_) (by simp; omega) (by simpa using ho) ?_ ?_ ?_ ?_ ?_ ?_
            · rcases G.fresh with q1 | q1
              · exact nw b (by rw [← q1]; exact e)
              · exact none_of_le lg (q1 b e)
            all_goals simp [e0, e1, e2, e10]
          by_cases h1 : t < x.2
          · simp (disch := omega) [octroiref10_Timers_Set_r9, octroiref10_Timers_Set_r10, e0, e1, e2, e8, e9, e10, hq, hv', hb, c0, c1, hi', h1, wrap_i64]
            refine ins _ ?_ ?_ ?_ ?_ ?_ <;> simp [e0, e1, e2, e8, e10]
          · have h2 : x.2 = t := by omega
            have h3 : id < x.1 := by omega
            simp (disch := omega) [octroiref10_Timers_Set_r9, octroiref10_Timers_Set_r10, e0, e1, e2, e8, e9, e10, hq, hv', hb, c0, c1, hi', h2, h3, wrap_i64]
            refine ins _ ?_ ?_ ?_ ?_ ?_ <;> simp [e0, e1, e2, e8, e10]
        · rw [dk] at ho
          simp only [Bool.false_eq_true, if_false] at ho
          rw [insT_neg (by exact hgt)] at ho
          have h1 : ¬ t < x.2 := by omega
          by_cases h2 : x.2 = t
          · have h3 : ¬ id < x.1 := by omega
            simp (disch := omega) [octroiref10_Timers_Set_r9, octroiref10_Timers_Set_r10, e0, e1, e2, e8, e9, e10, hq, hv', hb, c0, c1, hi', h1, h2, h3, wrap_i64]
            refine last _ g w o false lg S nw (by omega) (by simpa using ho) ?_ ?_ ?_ ?_ ?_ ?_ <;> simp [e0, e1, e2, e8, e9, e10]
          · simp (disch := omega) [octroiref10_Timers_Set_r9, octroiref10_Timers_Set_r10, e0, e1, e2, e8, e9, e10, hq, hv', hb, c0, c1, hi', h1, h2, wrap_i64]
            refine last _ g w o false lg S nw (by omega) (by simpa using ho) ?_ ?_ ?_ ?_ ?_ ?_ <;> simp [e0, e1, e2, e8, e9, e10]
  have hrl : (rstop L id).length ≤ L.length := List.length_filter_le _ _
  rcases hE with hE | hE
  · rw [if_neg (by rw [hE]; simp), if_neg (by rw [hE]; simp)] at hQ
    rw [hE]
    simp (disch := omega) [octroiref10_Timers_Set_r4]
    exact go _ (by simp) (by simp) (by simp) (by omega) hQ
  · have hsame : (rstop L id).length = L.length := by
      unfold rstopE at hE; split at hE
      · assumption
      · cases hE
    rw [hE]
    by_cases h256 : 256 ≤ L.length
    · rw [if_pos ⟨by rw [hE]; simp, h256⟩, if_pos ⟨by rw [hE]; simp, h256⟩] at hQ
      have h256' : (256 : Int) ≤ ((rstop L id).length : Int) := by omega
      have hp := M1.pt
      simp (disch := omega) [octroiref10_Timers_Set_r4, octroiref10_Timers_Set_r5, hp, hv, h256']
      have hrl2 : rstop L id = L := List.Sublist.eq_of_length List.filter_sublist hsame
      rw [hrl2] at M1
      exact .to _ (.refl _) (hQ v1 h1 G1 M1)
    · have h256n : ¬ (rstopE L id ≠ 0 ∧ 256 ≤ L.length) := by omega
      rw [if_neg h256n, if_neg h256n] at hQ
      have h256' : ¬ (256 : Int) ≤ ((rstop L id).length : Int) := by omega
      have hp := M1.pt
      simp (disch := omega) [octroiref10_Timers_Set_r4, hp, hv, h256']
      exact go _ (by simp) (by simp) (by simp) (by omega) hQ
end Go.Proofs.Ytncnlfidncjmbaa

/- Parts of an own slice: x[:i], x[i:], to be read from. -/
namespace Go.Proofs.Ytncnlfidncjmbaa
open Go
section
variable {P : Program} {h : Hp} {α : Type} {E sz : Nat} {enc : α → List Value} {v : Value} {xs : List α} {t : TypeId}

theorem rr_slice_nil_to {t e : TypeId} {sz : Nat} {g : Hp} (hu : P.underlying t = some (.slice e)) (hs : (P.info? e).map (·.size) = some sz) :
    rrun P (Instr.sliceAt t (.slice none 0 0) none (some (.int .i64 0)) none) g = some (.slice none 0 0) := by
  unfold Instr.sliceAt
  rw [rrun_bnd, rr_underlying, hu, Option.bind_some]
  simp only
  unfold Instr.slice
  rw [rrun_bnd, rr_underlying, hu, Option.bind_some]
  simp only
  have hb : rrun P (Instr.sliceBounds true 0 0 none (some (.int .i64 0)) none) g = some (0, 0, 0) := by
    unfold Instr.sliceBounds
    simp only [rrun_bnd, rrun_pure, Option.bind_some]
    simp only [if_true]
    rw [rr_sliceBound (by omega) (by omega)]; rfl
  rw [rrun_bnd, hb, Option.bind_some]
  simp only [rrun_bnd, rr_sizeOf, hs, Option.bind_some, rrun_pure, Nat.zero_mul, Nat.sub_zero, Option.map_none, if_true]

theorem SlAt.to_rr {e : TypeId} (S : SlAt h E sz enc v xs) (hu : P.underlying t = some (.slice e)) (hs : (P.info? e).map (·.size) = some sz)
    (hl : ∀ y ∈ xs, (enc y).length = sz ∧ ∀ u ∈ enc y, oneCell u = true) {i : Nat} (hi : i ≤ xs.length) :
    ∃ w, (∀ g, rrun P (Instr.sliceAt t v none (some (.int .i64 (i : Nat))) none) g = some w) ∧ Src h sz enc w (xs.take i) := by
  rcases S with ⟨rfl, rfl⟩ | ⟨b, cap, c, rfl, hb, h1, h2, h3⟩
  · simp at hi
    subst hi
    exact ⟨_, fun g => rr_slice_nil_to hu hs, by simp, .inl ⟨none, 0, rfl, by simp⟩⟩
  · refine ⟨_, fun g => rr_slice_to hu hs (by omega) (by omega), ?_⟩
    have hx : 0 + xs.length * sz ≤ c.size := by have := Nat.mul_le_mul_right sz h1; omega
    have := Src.part (i := 0) (n := i) (cap' := cap) (by omega) hl hb hx h3
    simpa using this

theorem SlAt.from_rr {e : TypeId} (S : SlAt h E sz enc v xs) (hu : P.underlying t = some (.slice e)) (hs : (P.info? e).map (·.size) = some sz)
    (hl : ∀ y ∈ xs, (enc y).length = sz ∧ ∀ u ∈ enc y, oneCell u = true) {i : Nat} (hi : i ≤ xs.length) :
    ∃ w, (∀ g, rrun P (Instr.sliceAt t v (some (.int .i64 (i : Nat))) none none) g = some w) ∧ Src h sz enc w (xs.drop i) := by
  obtain ⟨a, cap0, hv⟩ := S.shape'
  by_cases he : i = xs.length
  · subst he
    obtain ⟨a', cap', q⟩ := rr_slice_end (h := noHp) (a := a) (cap := cap0) (len := xs.length) hu hs (i := (xs.length : Nat)) rfl
    subst hv
    refine ⟨_, fun g => ?_, by simp, .inl ⟨a', cap', rfl, by simp⟩⟩
    have hn := fun (g : Hp) => rr_slice_end (P := P) (h := g) (a := a) (cap := cap0) (len := xs.length) hu hs (i := (xs.length : Nat)) rfl
    rw [← q]
    unfold Instr.sliceAt
    simp only [rrun_bnd, rr_underlying, hu, Option.bind_some]
    unfold Instr.slice
    simp only [rrun_bnd, rr_underlying, hu, Option.bind_some]
    have hb : ∀ g, rrun P (Instr.sliceBounds true xs.length cap0 (some (.int .i64 (xs.length : Nat))) none none) g = some (xs.length, xs.length, cap0) := by
      intro g
      unfold Instr.sliceBounds
      simp only [rrun_bnd, rrun_pure, Option.bind_some]
      rw [rr_sliceBound (by omega) (by omega)]; rfl
    rw [hb, hb]
    simp only [rrun_bnd, rr_sizeOf, hs, Option.bind_some, rrun_pure]
  · rcases S with ⟨rfl, rfl⟩ | ⟨b, cap, c, rfl, hb, h1, h2, h3⟩
    · simp at hi; subst hi; simp at he
    · refine ⟨_, fun g => rr_slice_from hu hs (by omega) (by omega) (by omega), ?_⟩
      have hx : 0 + xs.length * sz ≤ c.size := by have := Nat.mul_le_mul_right sz h1; omega
      have := Src.part (i := i) (n := xs.length - i) (cap' := cap - i) (by omega) hl hb hx h3
      have e2 : (xs.drop i).take (xs.length - i) = xs.drop i := List.take_of_length_le (by simp)
      rw [e2] at this
      simpa using this
end
end Go.Proofs.Ytncnlfidncjmbaa
