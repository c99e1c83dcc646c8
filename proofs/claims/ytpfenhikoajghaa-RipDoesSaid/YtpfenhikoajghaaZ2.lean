/- Printed by wip/kit/gen.py out of the translation: formulas of Go functions, and that they are these functions'. -/
import Derived.Test.YtpfenhikoajghaaChecked
import Derived.Test.YtpfenhikoajghaaZ1

set_option linter.unusedSimpArgs false
set_option linter.unusedVariables false

namespace Go.Proofs.Ytpfenhikoajghaa
open Go

set_option maxRecDepth 100000
set_option linter.unusedVariables false

theorem progIsOk : progOk Try.prog = true := by kernel_rfl

/-! ### octroi/octroilaw16.RipWays: function 3 -/
noncomputable def octroilaw16_RipWays_code : Code := match Try.f3.body with | some c => c | none => .skip

/-- law.go:185 -/
def octroilaw16_RipWays_r0 (env : Env) (h : Hp) (K : Env → Hp → Prop) : Prop :=
  arun Try.prog (Instr.box 24 (env 0)) h fun v5_0 h1 =>
  K ((env.set 5 v5_0).set 10 (Go.Value.bool false)) h1
@[congr] theorem octroilaw16_RipWays_r0_congr {env : Env} {h : Hp} {K : Env → Hp → Prop} : octroilaw16_RipWays_r0 env h K = octroilaw16_RipWays_r0 env h K := rfl

/-- law.go:186 -/
def octroilaw16_RipWays_r1 (env : Env) (h : Hp) (K : Env → Hp → Prop) : Prop :=
  Ok Try.prog 9 #[] h fun v20_0 h1 =>
  K ((env.set 20 v20_0).set 11 v20_0) h1
@[congr] theorem octroilaw16_RipWays_r1_congr {env : Env} {h : Hp} {K : Env → Hp → Prop} : octroilaw16_RipWays_r1 env h K = octroilaw16_RipWays_r1 env h K := rfl

/-- law.go:187 -/
def octroilaw16_RipWays_r2 (env : Env) (h : Hp) (K : Env → Hp → Prop) : Prop :=
  Ok Try.prog 10 #[(Go.Value.int Go.IntKind.i64 0), (Go.Value.int Go.IntKind.i64 64)] h fun v21_0 h1 =>
  K ((env.set 21 v21_0).set 12 v21_0) h1
@[congr] theorem octroilaw16_RipWays_r2_congr {env : Env} {h : Hp} {K : Env → Hp → Prop} : octroilaw16_RipWays_r2 env h K = octroilaw16_RipWays_r2 env h K := rfl

/-- law.go:188 -/
def octroilaw16_RipWays_r3 (env : Env) (h : Hp) (K : Env → Hp → Prop) : Prop :=
  rd Try.prog (Op.unary Go.UnOp.not (env 11)) noHp fun v23_1 =>
  gd (yb v23_1 == some false) (fun h k => k (env 12) h) h fun v25_3 h1 =>
  gd (yb v23_1 == some false) (fun h k => rd Try.prog (bop Go.BinOp.eql 26 (Go.Operand.tmp 25) (Go.Operand.const (Go.Value.pointer none)) v25_3 (Go.Value.pointer none)) noHp fun v => k v h) h1 fun v26_4 h2 =>
  rd Try.prog (pck v23_1 (Go.Value.bool true) v26_4) noHp fun v27_5 =>
  gd (yb v27_5 == some false) (fun h k => k (env 1) h) h2 fun v29_7 h3 =>
  gd (yb v27_5 == some false) (fun h k => rd Try.prog (bop Go.BinOp.lss 3 (Go.Operand.tmp 29) (Go.Operand.const (Go.Value.int Go.IntKind.i64 1)) v29_7 (Go.Value.int Go.IntKind.i64 1)) noHp fun v => k v h) h3 fun v30_8 h4 =>
  rd Try.prog (pck v27_5 (Go.Value.bool true) v30_8) noHp fun v31_9 =>
  gd (yb v31_9 == some false) (fun h k => k (env 2) h) h4 fun v33_11 h5 =>
  gd (yb v31_9 == some false) (fun h k => rd Try.prog (bop Go.BinOp.lss 3 (Go.Operand.tmp 33) (Go.Operand.const (Go.Value.int Go.IntKind.i64 1)) v33_11 (Go.Value.int Go.IntKind.i64 1)) noHp fun v => k v h) h5 fun v34_12 h6 =>
  rd Try.prog (pck v31_9 (Go.Value.bool true) v34_12) noHp fun v35_13 =>
  gd (yb v35_13 == some false) (fun h k => k (env 1) h) h6 fun v37_15 h7 =>
  gd (yb v35_13 == some false) (fun h k => rd Try.prog (bop Go.BinOp.gtr 3 (Go.Operand.tmp 37) (Go.Operand.const (Go.Value.int Go.IntKind.i64 16)) v37_15 (Go.Value.int Go.IntKind.i64 16)) noHp fun v => k v h) h7 fun v38_16 h8 =>
  rd Try.prog (pck v35_13 (Go.Value.bool true) v38_16) noHp fun v39_17 =>
  gd (yb v39_17 == some false) (fun h k => k (env 2) h) h8 fun v41_19 h9 =>
  gd (yb v39_17 == some false) (fun h k => rd Try.prog (bop Go.BinOp.gtr 3 (Go.Operand.tmp 41) (Go.Operand.const (Go.Value.int Go.IntKind.i64 16)) v41_19 (Go.Value.int Go.IntKind.i64 16)) noHp fun v => k v h) h9 fun v42_20 h10 =>
  rd Try.prog (pck v39_17 (Go.Value.bool true) v42_20) noHp fun v43_21 =>
  gd (yb v43_21 == some false) (fun h k => k (env 3) h) h10 fun v45_23 h11 =>
  gd (yb v43_21 == some false) (fun h k => rd Try.prog (bop Go.BinOp.lss 3 (Go.Operand.tmp 45) (Go.Operand.const (Go.Value.int Go.IntKind.i64 1)) v45_23 (Go.Value.int Go.IntKind.i64 1)) noHp fun v => k v h) h11 fun v46_24 h12 =>
  rd Try.prog (pck v43_21 (Go.Value.bool true) v46_24) noHp fun v47_25 =>
  gd (yb v47_25 == some false) (fun h k => k (env 4) h) h12 fun v49_27 h13 =>
  gd (yb v47_25 == some false) (fun h k => rd Try.prog (bop Go.BinOp.lss 3 (Go.Operand.tmp 49) (Go.Operand.const (Go.Value.int Go.IntKind.i64 1)) v49_27 (Go.Value.int Go.IntKind.i64 1)) noHp fun v => k v h) h13 fun v50_28 h14 =>
  rd Try.prog (pck v47_25 (Go.Value.bool true) v50_28) noHp fun v51_29 =>
  gd (yb v51_29 == some false) (fun h k => k (env 3) h) h14 fun v53_31 h15 =>
  gd (yb v51_29 == some false) (fun h k => rd Try.prog (bop Go.BinOp.gtr 3 (Go.Operand.tmp 53) (Go.Operand.const (Go.Value.int Go.IntKind.i64 16)) v53_31 (Go.Value.int Go.IntKind.i64 16)) noHp fun v => k v h) h15 fun v54_32 h16 =>
  rd Try.prog (pck v51_29 (Go.Value.bool true) v54_32) noHp fun v55_33 =>
  gd (yb v55_33 == some false) (fun h k => k (env 4) h) h16 fun v57_35 h17 =>
  gd (yb v55_33 == some false) (fun h k => rd Try.prog (bop Go.BinOp.gtr 3 (Go.Operand.tmp 57) (Go.Operand.const (Go.Value.int Go.IntKind.i64 16)) v57_35 (Go.Value.int Go.IntKind.i64 16)) noHp fun v => k v h) h17 fun v58_36 h18 =>
  rd Try.prog (pck v55_33 (Go.Value.bool true) v58_36) noHp fun v59_37 =>
  K ((((((((((((((((((((((((((((((((((((((env.set 22 (env 11)).set 23 v23_1).set 24 v23_1).set 25 v25_3).set 26 v26_4).set 27 v27_5).set 28 v27_5).set 29 v29_7).set 30 v30_8).set 31 v31_9).set 32 v31_9).set 33 v33_11).set 34 v34_12).set 35 v35_13).set 36 v35_13).set 37 v37_15).set 38 v38_16).set 39 v39_17).set 40 v39_17).set 41 v41_19).set 42 v42_20).set 43 v43_21).set 44 v43_21).set 45 v45_23).set 46 v46_24).set 47 v47_25).set 48 v47_25).set 49 v49_27).set 50 v50_28).set 51 v51_29).set 52 v51_29).set 53 v53_31).set 54 v54_32).set 55 v55_33).set 56 v55_33).set 57 v57_35).set 58 v58_36).set 59 v59_37) h18
@[congr] theorem octroilaw16_RipWays_r3_congr {env : Env} {h : Hp} {K : Env → Hp → Prop} : octroilaw16_RipWays_r3 env h K = octroilaw16_RipWays_r3 env h K := rfl

/-- law.go:189 -/
def octroilaw16_RipWays_r4 (env : Env) (h : Hp) (K : Env → Hp → Prop) : Prop :=
  gd (yb (env 11) == some true) (fun h k => k (env 12) h) h fun v62_2 h1 =>
  gd (yb (env 11) == some true) (fun h k => rd Try.prog (bop Go.BinOp.neq 26 (Go.Operand.tmp 62) (Go.Operand.const (Go.Value.pointer none)) v62_2 (Go.Value.pointer none)) noHp fun v => k v h) h1 fun v63_3 h2 =>
  rd Try.prog (pck (env 11) v63_3 (Go.Value.bool false)) noHp fun v64_4 =>
  K ((((((env.set 60 (env 11)).set 61 (env 11)).set 62 v62_2).set 63 v63_3).set 64 v64_4).set 10 v64_4) h2
@[congr] theorem octroilaw16_RipWays_r4_congr {env : Env} {h : Hp} {K : Env → Hp → Prop} : octroilaw16_RipWays_r4 env h K = octroilaw16_RipWays_r4 env h K := rfl

/-- law.go:191 -/
def octroilaw16_RipWays_r5 (env : Env) (h : Hp) (K : Env → Hp → Prop) : Prop :=
  rd Try.prog (Instr.loadAt 24 (env 5)) h fun v68_2 =>
  rd Try.prog (Instr.build 33 #[(0, v68_2), (3, (env 1))]) noHp fun v70_4 =>
  Ok Try.prog 11 #[(env 12), (Go.Value.int Go.IntKind.i64 1), (env 3), v70_4, (Go.Value.int Go.IntKind.i64 0)] h fun v71_5 h1 =>
  rd Try.prog (Instr.extract v71_5 0) noHp fun v72_7 =>
  rd Try.prog (Instr.extract v71_5 1) noHp fun v73_8 =>
  K (((((((((((env.set 66 (env 12)).set 67 (env 3)).set 68 v68_2).set 69 (env 1)).set 70 v70_4).set 71 v71_5).set 65 v71_5).set 72 v72_7).set 73 v73_8).set 13 v72_7).set 14 v73_8) h1
@[congr] theorem octroilaw16_RipWays_r5_congr {env : Env} {h : Hp} {K : Env → Hp → Prop} : octroilaw16_RipWays_r5 env h K = octroilaw16_RipWays_r5 env h K := rfl

/-- law.go:192 -/
def octroilaw16_RipWays_r6 (env : Env) (h : Hp) (K : Env → Hp → Prop) : Prop :=
  rd Try.prog (Instr.loadAt 24 (env 5)) h fun v77_2 =>
  rd Try.prog (Instr.build 33 #[(0, v77_2), (3, (env 2))]) noHp fun v79_4 =>
  Ok Try.prog 11 #[(env 12), (Go.Value.int Go.IntKind.i64 2), (env 4), v79_4, (Go.Value.int Go.IntKind.i64 0)] h fun v80_5 h1 =>
  rd Try.prog (Instr.extract v80_5 0) noHp fun v81_7 =>
  rd Try.prog (Instr.extract v80_5 1) noHp fun v82_8 =>
  K (((((((((((env.set 75 (env 12)).set 76 (env 4)).set 77 v77_2).set 78 (env 2)).set 79 v79_4).set 80 v80_5).set 74 v80_5).set 81 v81_7).set 82 v82_8).set 15 v81_7).set 16 v82_8) h1
@[congr] theorem octroilaw16_RipWays_r6_congr {env : Env} {h : Hp} {K : Env → Hp → Prop} : octroilaw16_RipWays_r6 env h K = octroilaw16_RipWays_r6 env h K := rfl

/-- law.go:193 -/
def octroilaw16_RipWays_r7 (env : Env) (h : Hp) (K : Env → Hp → Prop) : Prop :=
  rd Try.prog (bop Go.BinOp.eql 28 (Go.Operand.tmp 83) (Go.Operand.const (Go.Value.int Go.IntKind.i64 1)) (env 14) (Go.Value.int Go.IntKind.i64 1)) noHp fun v84_1 =>
  K ((env.set 83 (env 14)).set 84 v84_1) h
@[congr] theorem octroilaw16_RipWays_r7_congr {env : Env} {h : Hp} {K : Env → Hp → Prop} : octroilaw16_RipWays_r7 env h K = octroilaw16_RipWays_r7 env h K := rfl

/-- law.go:194 -/
def octroilaw16_RipWays_r8 (env : Env) (h : Hp) (K : Env → Hp → Prop) : Prop :=
  rd Try.prog (bop Go.BinOp.eql 28 (Go.Operand.tmp 85) (Go.Operand.const (Go.Value.int Go.IntKind.i64 1)) (env 16) (Go.Value.int Go.IntKind.i64 1)) noHp fun v86_1 =>
  gd (yb v86_1 == some true) (fun h k => k (env 12) h) h fun v88_3 h1 =>
  gd (yb v86_1 == some true) (fun h k => Ok Try.prog 12 #[v88_3] h k) h1 fun v89_4 h2 =>
  gd (yb v86_1 == some true) (fun h k => rd Try.prog (bop Go.BinOp.eql 3 (Go.Operand.tmp 89) (Go.Operand.const (Go.Value.int Go.IntKind.i64 0)) v89_4 (Go.Value.int Go.IntKind.i64 0)) noHp fun v => k v h) h2 fun v90_5 h3 =>
  rd Try.prog (pck v86_1 v90_5 (Go.Value.bool false)) noHp fun v91_6 =>
  K ((((((((env.set 85 (env 16)).set 86 v86_1).set 87 v86_1).set 88 v88_3).set 89 v89_4).set 90 v90_5).set 91 v91_6).set 10 v91_6) h3
@[congr] theorem octroilaw16_RipWays_r8_congr {env : Env} {h : Hp} {K : Env → Hp → Prop} : octroilaw16_RipWays_r8 env h K = octroilaw16_RipWays_r8 env h K := rfl

/-- law.go:196 -/
def octroilaw16_RipWays_r9 (env : Env) (h : Hp) (K : Env → Hp → Prop) : Prop :=
  rd Try.prog (bop Go.BinOp.add 3 (Go.Operand.tmp 92) (Go.Operand.tmp 93) (env 1) (env 3)) noHp fun v94_2 =>
  K ((((env.set 92 (env 1)).set 93 (env 3)).set 94 v94_2).set 17 v94_2) h
@[congr] theorem octroilaw16_RipWays_r9_congr {env : Env} {h : Hp} {K : Env → Hp → Prop} : octroilaw16_RipWays_r9 env h K = octroilaw16_RipWays_r9 env h K := rfl

/-- law.go:197 -/
def octroilaw16_RipWays_r10 (env : Env) (h : Hp) (K : Env → Hp → Prop) : Prop :=
  rd Try.prog (bop Go.BinOp.add 3 (Go.Operand.tmp 95) (Go.Operand.tmp 96) (env 2) (env 4)) noHp fun v97_2 =>
  K ((((env.set 95 (env 2)).set 96 (env 4)).set 97 v97_2).set 18 v97_2) h
@[congr] theorem octroilaw16_RipWays_r10_congr {env : Env} {h : Hp} {K : Env → Hp → Prop} : octroilaw16_RipWays_r10 env h K = octroilaw16_RipWays_r10 env h K := rfl

/-- law.go:198 -/
def octroilaw16_RipWays_r11 (env : Env) (h : Hp) (K : Env → Hp → Prop) : Prop :=
  Ok Try.prog 13 #[(env 12)] h fun v99_1 h1 =>
  K (((env.set 98 (env 12)).set 99 v99_1).set 19 v99_1) h1
@[congr] theorem octroilaw16_RipWays_r11_congr {env : Env} {h : Hp} {K : Env → Hp → Prop} : octroilaw16_RipWays_r11 env h K = octroilaw16_RipWays_r11 env h K := rfl

/-- law.go:199 -/
def octroilaw16_RipWays_r12 (env : Env) (h : Hp) (K : Env → Hp → Prop) : Prop :=
  rd Try.prog (bop Go.BinOp.geq 3 (Go.Operand.tmp 100) (Go.Operand.const (Go.Value.int Go.IntKind.i64 16)) (env 17) (Go.Value.int Go.IntKind.i64 16)) noHp fun v101_1 =>
  gd (yb v101_1 == some true) (fun h k => k (env 18) h) h fun v103_3 h1 =>
  gd (yb v101_1 == some true) (fun h k => rd Try.prog (bop Go.BinOp.geq 3 (Go.Operand.tmp 103) (Go.Operand.const (Go.Value.int Go.IntKind.i64 16)) v103_3 (Go.Value.int Go.IntKind.i64 16)) noHp fun v => k v h) h1 fun v104_4 h2 =>
  rd Try.prog (pck v101_1 v104_4 (Go.Value.bool false)) noHp fun v105_5 =>
  K ((((((env.set 100 (env 17)).set 101 v101_1).set 102 v101_1).set 103 v103_3).set 104 v104_4).set 105 v105_5) h2
@[congr] theorem octroilaw16_RipWays_r12_congr {env : Env} {h : Hp} {K : Env → Hp → Prop} : octroilaw16_RipWays_r12 env h K = octroilaw16_RipWays_r12 env h K := rfl

/-- law.go:200 -/
def octroilaw16_RipWays_r13 (env : Env) (h : Hp) (K : Env → Hp → Prop) : Prop :=
  rd Try.prog (Builtin.len_ #[35] 3 #[(env 19)]) h fun v107_1 =>
  rd Try.prog (bop Go.BinOp.eql 3 (Go.Operand.tmp 107) (Go.Operand.const (Go.Value.int Go.IntKind.i64 0)) v107_1 (Go.Value.int Go.IntKind.i64 0)) noHp fun v108_2 =>
  K ((((env.set 106 (env 19)).set 107 v107_1).set 108 v108_2).set 10 v108_2) h
@[congr] theorem octroilaw16_RipWays_r13_congr {env : Env} {h : Hp} {K : Env → Hp → Prop} : octroilaw16_RipWays_r13 env h K = octroilaw16_RipWays_r13 env h K := rfl

/-- law.go:202 -/
def octroilaw16_RipWays_r14 (env : Env) (h : Hp) (K : Env → Hp → Prop) : Prop :=
  rd Try.prog (Builtin.len_ #[35] 3 #[(env 19)]) h fun v110_1 =>
  rd Try.prog (bop Go.BinOp.neq 3 (Go.Operand.tmp 110) (Go.Operand.const (Go.Value.int Go.IntKind.i64 1)) v110_1 (Go.Value.int Go.IntKind.i64 1)) noHp fun v111_2 =>
  K (((env.set 109 (env 19)).set 110 v110_1).set 111 v111_2) h
@[congr] theorem octroilaw16_RipWays_r14_congr {env : Env} {h : Hp} {K : Env → Hp → Prop} : octroilaw16_RipWays_r14 env h K = octroilaw16_RipWays_r14 env h K := rfl

/-- law.go:203 -/
def octroilaw16_RipWays_r15 (env : Env) (h : Hp) (K : Env → Hp → Prop) : Prop :=
  K (env.set 10 (Go.Value.bool false)) h
@[congr] theorem octroilaw16_RipWays_r15_congr {env : Env} {h : Hp} {K : Env → Hp → Prop} : octroilaw16_RipWays_r15 env h K = octroilaw16_RipWays_r15 env h K := rfl

/-- law.go:205 -/
def octroilaw16_RipWays_r16 (env : Env) (h : Hp) (K : Env → Hp → Prop) : Prop :=
  rd Try.prog (bop Go.BinOp.lss 3 (Go.Operand.tmp 112) (Go.Operand.tmp 113) (env 18) (env 17)) noHp fun v114_2 =>
  K (((env.set 112 (env 18)).set 113 (env 17)).set 114 v114_2) h
@[congr] theorem octroilaw16_RipWays_r16_congr {env : Env} {h : Hp} {K : Env → Hp → Prop} : octroilaw16_RipWays_r16 env h K = octroilaw16_RipWays_r16 env h K := rfl

/-- law.go:206 -/
def octroilaw16_RipWays_r17 (env : Env) (h : Hp) (K : Env → Hp → Prop) : Prop :=
  rd Try.prog (Instr.indexAt 35 (env 19) (Go.Value.int Go.IntKind.i64 0)) noHp fun v116_1 =>
  rd Try.prog (Instr.fieldAt 38 v116_1 3) noHp fun v117_2 =>
  rd Try.prog (Instr.loadAt 3 v117_2) h fun v118_3 =>
  rd Try.prog (bop Go.BinOp.eql 3 (Go.Operand.tmp 118) (Go.Operand.tmp 119) v118_3 (env 18)) noHp fun v120_5 =>
  gd (yb v120_5 == some true) (fun h k => k (env 19) h) h fun v122_7 h1 =>
  gd (yb v120_5 == some true) (fun h k => rd Try.prog (Instr.indexAt 35 v122_7 (Go.Value.int Go.IntKind.i64 0)) noHp fun v => k v h) h1 fun v123_8 h2 =>
  gd (yb v120_5 == some true) (fun h k => rd Try.prog (Instr.fieldAt 38 v123_8 4) noHp fun v => k v h) h2 fun v124_9 h3 =>
  gd (yb v120_5 == some true) (fun h k => rd Try.prog (Instr.loadAt 3 v124_9) h fun v => k v h) h3 fun v125_10 h4 =>
  gd (yb v120_5 == some true) (fun h k => rd Try.prog (bop Go.BinOp.eql 3 (Go.Operand.tmp 125) (Go.Operand.const (Go.Value.int Go.IntKind.i64 2)) v125_10 (Go.Value.int Go.IntKind.i64 2)) noHp fun v => k v h) h4 fun v126_11 h5 =>
  rd Try.prog (pck v120_5 v126_11 (Go.Value.bool false)) noHp fun v127_12 =>
  K ((((((((((((((env.set 115 (env 19)).set 116 v116_1).set 117 v117_2).set 118 v118_3).set 119 (env 18)).set 120 v120_5).set 121 v120_5).set 122 v122_7).set 123 v123_8).set 124 v124_9).set 125 v125_10).set 126 v126_11).set 127 v127_12).set 10 v127_12) h5
@[congr] theorem octroilaw16_RipWays_r17_congr {env : Env} {h : Hp} {K : Env → Hp → Prop} : octroilaw16_RipWays_r17 env h K = octroilaw16_RipWays_r17 env h K := rfl

/-- law.go:208 -/
def octroilaw16_RipWays_r18 (env : Env) (h : Hp) (K : Env → Hp → Prop) : Prop :=
  rd Try.prog (Instr.indexAt 35 (env 19) (Go.Value.int Go.IntKind.i64 0)) noHp fun v129_1 =>
  rd Try.prog (Instr.fieldAt 38 v129_1 3) noHp fun v130_2 =>
  rd Try.prog (Instr.loadAt 3 v130_2) h fun v131_3 =>
  rd Try.prog (bop Go.BinOp.eql 3 (Go.Operand.tmp 131) (Go.Operand.tmp 132) v131_3 (env 17)) noHp fun v133_5 =>
  gd (yb v133_5 == some true) (fun h k => k (env 19) h) h fun v135_7 h1 =>
  gd (yb v133_5 == some true) (fun h k => rd Try.prog (Instr.indexAt 35 v135_7 (Go.Value.int Go.IntKind.i64 0)) noHp fun v => k v h) h1 fun v136_8 h2 =>
  gd (yb v133_5 == some true) (fun h k => rd Try.prog (Instr.fieldAt 38 v136_8 4) noHp fun v => k v h) h2 fun v137_9 h3 =>
  gd (yb v133_5 == some true) (fun h k => rd Try.prog (Instr.loadAt 3 v137_9) h fun v => k v h) h3 fun v138_10 h4 =>
  gd (yb v133_5 == some true) (fun h k => rd Try.prog (bop Go.BinOp.eql 3 (Go.Operand.tmp 138) (Go.Operand.const (Go.Value.int Go.IntKind.i64 1)) v138_10 (Go.Value.int Go.IntKind.i64 1)) noHp fun v => k v h) h4 fun v139_11 h5 =>
  rd Try.prog (pck v133_5 v139_11 (Go.Value.bool false)) noHp fun v140_12 =>
  K ((((((((((((((env.set 128 (env 19)).set 129 v129_1).set 130 v130_2).set 131 v131_3).set 132 (env 17)).set 133 v133_5).set 134 v133_5).set 135 v135_7).set 136 v136_8).set 137 v137_9).set 138 v138_10).set 139 v139_11).set 140 v140_12).set 10 v140_12) h5
@[congr] theorem octroilaw16_RipWays_r18_congr {env : Env} {h : Hp} {K : Env → Hp → Prop} : octroilaw16_RipWays_r18 env h K = octroilaw16_RipWays_r18 env h K := rfl

def octroilaw16_RipWays_D : Den := (sq (rg octroilaw16_RipWays_r0) (sq (rg octroilaw16_RipWays_r1) (sq (rg octroilaw16_RipWays_r2) (sq (sq (rg octroilaw16_RipWays_r3) (cnd (Go.Operand.tmp 59) (sq (rg octroilaw16_RipWays_r4) (ex .ret)) (ex .normal))) (sq (rg octroilaw16_RipWays_r5) (sq (rg octroilaw16_RipWays_r6) (sq (sq (rg octroilaw16_RipWays_r7) (cnd (Go.Operand.tmp 84) (sq (rg octroilaw16_RipWays_r8) (ex .ret)) (ex .normal))) (sq (rg octroilaw16_RipWays_r9) (sq (rg octroilaw16_RipWays_r10) (sq (rg octroilaw16_RipWays_r11) (sq (sq (rg octroilaw16_RipWays_r12) (cnd (Go.Operand.tmp 105) (sq (rg octroilaw16_RipWays_r13) (ex .ret)) (ex .normal))) (sq (sq (rg octroilaw16_RipWays_r14) (cnd (Go.Operand.tmp 111) (sq (rg octroilaw16_RipWays_r15) (ex .ret)) (ex .normal))) (sq (sq (rg octroilaw16_RipWays_r16) (cnd (Go.Operand.tmp 114) (sq (rg octroilaw16_RipWays_r17) (ex .ret)) (ex .normal))) (sq (rg octroilaw16_RipWays_r18) (ex .ret)))))))))))))))

theorem octroilaw16_RipWays_eq : (den Try.prog 141 octroilaw16_RipWays_code).1 = octroilaw16_RipWays_D := by kernel_rfl

theorem octroilaw16_RipWays_ok {args : Array Value} {h : Hp} {Q : Value → Hp → Prop} (hn : args.size ≤ 141) (D : octroilaw16_RipWays_D (fin Try.prog [(Go.ResultVar.tmp 10)] Q) (env0 args) h) : Ok Try.prog 3 args h Q :=
  ok_of_den progIsOk Try.func3 (c := octroilaw16_RipWays_code) (by kernel_rfl) hn (by show (den Try.prog 141 octroilaw16_RipWays_code).1 _ _ _; rw [octroilaw16_RipWays_eq]; exact D)

/-! ### octroi/octroilaw16.RipFull: function 4 -/
noncomputable def octroilaw16_RipFull_code : Code := match Try.f4.body with | some c => c | none => .skip

/-- more.go:39 -/
def octroilaw16_RipFull_r0 (env : Env) (h : Hp) (K : Env → Hp → Prop) : Prop :=
  arun Try.prog (Instr.box 24 (env 1)) h fun v4_0 h1 =>
  K ((env.set 4 v4_0).set 6 (Go.Value.bool false)) h1
@[congr] theorem octroilaw16_RipFull_r0_congr {env : Env} {h : Hp} {K : Env → Hp → Prop} : octroilaw16_RipFull_r0 env h K = octroilaw16_RipFull_r0 env h K := rfl

/-- more.go:40 -/
def octroilaw16_RipFull_r1 (env : Env) (h : Hp) (K : Env → Hp → Prop) : Prop :=
  Ok Try.prog 9 #[] h fun v17_0 h1 =>
  K ((env.set 17 v17_0).set 7 v17_0) h1
@[congr] theorem octroilaw16_RipFull_r1_congr {env : Env} {h : Hp} {K : Env → Hp → Prop} : octroilaw16_RipFull_r1 env h K = octroilaw16_RipFull_r1 env h K := rfl

/-- more.go:41 -/
def octroilaw16_RipFull_r2 (env : Env) (h : Hp) (K : Env → Hp → Prop) : Prop :=
  Ok Try.prog 10 #[(Go.Value.int Go.IntKind.i64 0), (env 0)] h fun v19_1 h1 =>
  K (((env.set 18 (env 0)).set 19 v19_1).set 8 v19_1) h1
@[congr] theorem octroilaw16_RipFull_r2_congr {env : Env} {h : Hp} {K : Env → Hp → Prop} : octroilaw16_RipFull_r2 env h K = octroilaw16_RipFull_r2 env h K := rfl

/-- more.go:42 -/
def octroilaw16_RipFull_r3 (env : Env) (h : Hp) (K : Env → Hp → Prop) : Prop :=
  rd Try.prog (Op.unary Go.UnOp.not (env 7)) noHp fun v21_1 =>
  gd (yb v21_1 == some false) (fun h k => k (env 8) h) h fun v23_3 h1 =>
  gd (yb v21_1 == some false) (fun h k => rd Try.prog (bop Go.BinOp.eql 26 (Go.Operand.tmp 23) (Go.Operand.const (Go.Value.pointer none)) v23_3 (Go.Value.pointer none)) noHp fun v => k v h) h1 fun v24_4 h2 =>
  rd Try.prog (pck v21_1 (Go.Value.bool true) v24_4) noHp fun v25_5 =>
  gd (yb v25_5 == some false) (fun h k => k (env 0) h) h2 fun v27_7 h3 =>
  gd (yb v25_5 == some false) (fun h k => rd Try.prog (bop Go.BinOp.lss 3 (Go.Operand.tmp 27) (Go.Operand.const (Go.Value.int Go.IntKind.i64 1)) v27_7 (Go.Value.int Go.IntKind.i64 1)) noHp fun v => k v h) h3 fun v28_8 h4 =>
  rd Try.prog (pck v25_5 (Go.Value.bool true) v28_8) noHp fun v29_9 =>
  gd (yb v29_9 == some false) (fun h k => k (env 0) h) h4 fun v31_11 h5 =>
  gd (yb v29_9 == some false) (fun h k => rd Try.prog (bop Go.BinOp.gtr 3 (Go.Operand.tmp 31) (Go.Operand.const (Go.Value.int Go.IntKind.i64 20)) v31_11 (Go.Value.int Go.IntKind.i64 20)) noHp fun v => k v h) h5 fun v32_12 h6 =>
  rd Try.prog (pck v29_9 (Go.Value.bool true) v32_12) noHp fun v33_13 =>
  gd (yb v33_13 == some false) (fun h k => k (env 2) h) h6 fun v35_15 h7 =>
  gd (yb v33_13 == some false) (fun h k => rd Try.prog (bop Go.BinOp.lss 3 (Go.Operand.tmp 35) (Go.Operand.const (Go.Value.int Go.IntKind.i64 1)) v35_15 (Go.Value.int Go.IntKind.i64 1)) noHp fun v => k v h) h7 fun v36_16 h8 =>
  rd Try.prog (pck v33_13 (Go.Value.bool true) v36_16) noHp fun v37_17 =>
  gd (yb v37_17 == some false) (fun h k => k (env 2) h) h8 fun v39_19 h9 =>
  gd (yb v37_17 == some false) (fun h k => rd Try.prog (bop Go.BinOp.gtr 3 (Go.Operand.tmp 39) (Go.Operand.const (Go.Value.int Go.IntKind.i64 14)) v39_19 (Go.Value.int Go.IntKind.i64 14)) noHp fun v => k v h) h9 fun v40_20 h10 =>
  rd Try.prog (pck v37_17 (Go.Value.bool true) v40_20) noHp fun v41_21 =>
  K ((((((((((((((((((((((env.set 20 (env 7)).set 21 v21_1).set 22 v21_1).set 23 v23_3).set 24 v24_4).set 25 v25_5).set 26 v25_5).set 27 v27_7).set 28 v28_8).set 29 v29_9).set 30 v29_9).set 31 v31_11).set 32 v32_12).set 33 v33_13).set 34 v33_13).set 35 v35_15).set 36 v36_16).set 37 v37_17).set 38 v37_17).set 39 v39_19).set 40 v40_20).set 41 v41_21) h10
@[congr] theorem octroilaw16_RipFull_r3_congr {env : Env} {h : Hp} {K : Env → Hp → Prop} : octroilaw16_RipFull_r3 env h K = octroilaw16_RipFull_r3 env h K := rfl

/-- more.go:43 -/
def octroilaw16_RipFull_r4 (env : Env) (h : Hp) (K : Env → Hp → Prop) : Prop :=
  gd (yb (env 7) == some true) (fun h k => k (env 8) h) h fun v44_2 h1 =>
  gd (yb (env 7) == some true) (fun h k => rd Try.prog (bop Go.BinOp.neq 26 (Go.Operand.tmp 44) (Go.Operand.const (Go.Value.pointer none)) v44_2 (Go.Value.pointer none)) noHp fun v => k v h) h1 fun v45_3 h2 =>
  rd Try.prog (pck (env 7) v45_3 (Go.Value.bool false)) noHp fun v46_4 =>
  K ((((((env.set 42 (env 7)).set 43 (env 7)).set 44 v44_2).set 45 v45_3).set 46 v46_4).set 6 v46_4) h2
@[congr] theorem octroilaw16_RipFull_r4_congr {env : Env} {h : Hp} {K : Env → Hp → Prop} : octroilaw16_RipFull_r4 env h K = octroilaw16_RipFull_r4 env h K := rfl

/-- more.go:45 -/
def octroilaw16_RipFull_r5 (env : Env) (h : Hp) (K : Env → Hp → Prop) : Prop :=
  K (env.set 9 (Go.Value.int Go.IntKind.i64 0)) h
@[congr] theorem octroilaw16_RipFull_r5_congr {env : Env} {h : Hp} {K : Env → Hp → Prop} : octroilaw16_RipFull_r5 env h K = octroilaw16_RipFull_r5 env h K := rfl

/-- more.go:45 -/
def octroilaw16_RipFull_r6 (env : Env) (h : Hp) (K : Env → Hp → Prop) : Prop :=
  rd Try.prog (bop Go.BinOp.lss 3 (Go.Operand.tmp 47) (Go.Operand.tmp 48) (env 9) (env 0)) noHp fun v49_2 =>
  K (((env.set 47 (env 9)).set 48 (env 0)).set 49 v49_2) h
@[congr] theorem octroilaw16_RipFull_r6_congr {env : Env} {h : Hp} {K : Env → Hp → Prop} : octroilaw16_RipFull_r6 env h K = octroilaw16_RipFull_r6 env h K := rfl

/-- more.go:46 -/
def octroilaw16_RipFull_r7 (env : Env) (h : Hp) (K : Env → Hp → Prop) : Prop :=
  rd Try.prog (bop Go.BinOp.add 3 (Go.Operand.const (Go.Value.int Go.IntKind.i64 200)) (Go.Operand.tmp 54) (Go.Value.int Go.IntKind.i64 200) (env 9)) noHp fun v55_2 =>
  rd Try.prog (convert 3 22 v55_2) noHp fun v56_3 =>
  rd Try.prog (bop Go.BinOp.shl 22 (Go.Operand.tmp 56) (Go.Operand.const (Go.Value.int Go.IntKind.u64 24)) v56_3 (Go.Value.int Go.IntKind.u64 24)) noHp fun v57_4 =>
  rd Try.prog (Instr.build 24 #[(0, v57_4), (1, (Go.Value.int Go.IntKind.i64 8))]) noHp fun v58_5 =>
  rd Try.prog (Instr.build 33 #[(0, v58_5), (3, (Go.Value.int Go.IntKind.i64 5))]) noHp fun v59_6 =>
  Ok Try.prog 11 #[(env 8), (Go.Value.int Go.IntKind.i64 1), (Go.Value.int Go.IntKind.i64 1), v59_6, (Go.Value.int Go.IntKind.i64 0)] h fun v60_7 h1 =>
  rd Try.prog (Instr.extract v60_7 0) noHp fun v61_9 =>
  rd Try.prog (Instr.extract v60_7 1) noHp fun v62_10 =>
  K (((((((((((((env.set 53 (env 8)).set 54 (env 9)).set 55 v55_2).set 56 v56_3).set 57 v57_4).set 58 v58_5).set 59 v59_6).set 60 v60_7).set 52 v60_7).set 61 v61_9).set 62 v62_10).set 10 v61_9).set 11 v62_10) h1
@[congr] theorem octroilaw16_RipFull_r7_congr {env : Env} {h : Hp} {K : Env → Hp → Prop} : octroilaw16_RipFull_r7 env h K = octroilaw16_RipFull_r7 env h K := rfl

/-- more.go:47 -/
def octroilaw16_RipFull_r8 (env : Env) (h : Hp) (K : Env → Hp → Prop) : Prop :=
  rd Try.prog (bop Go.BinOp.neq 28 (Go.Operand.tmp 63) (Go.Operand.const (Go.Value.int Go.IntKind.i64 0)) (env 11) (Go.Value.int Go.IntKind.i64 0)) noHp fun v64_1 =>
  K ((env.set 63 (env 11)).set 64 v64_1) h
@[congr] theorem octroilaw16_RipFull_r8_congr {env : Env} {h : Hp} {K : Env → Hp → Prop} : octroilaw16_RipFull_r8 env h K = octroilaw16_RipFull_r8 env h K := rfl

/-- more.go:48 -/
def octroilaw16_RipFull_r9 (env : Env) (h : Hp) (K : Env → Hp → Prop) : Prop :=
  K (env.set 6 (Go.Value.bool false)) h
@[congr] theorem octroilaw16_RipFull_r9_congr {env : Env} {h : Hp} {K : Env → Hp → Prop} : octroilaw16_RipFull_r9 env h K = octroilaw16_RipFull_r9 env h K := rfl

/-- more.go:45 -/
def octroilaw16_RipFull_r10 (env : Env) (h : Hp) (K : Env → Hp → Prop) : Prop :=
  rd Try.prog (bop Go.BinOp.add 3 (Go.Operand.tmp 50) (Go.Operand.const (Go.Value.int Go.IntKind.i64 1)) (env 9) (Go.Value.int Go.IntKind.i64 1)) noHp fun v51_1 =>
  K (((env.set 50 (env 9)).set 51 v51_1).set 9 v51_1) h
@[congr] theorem octroilaw16_RipFull_r10_congr {env : Env} {h : Hp} {K : Env → Hp → Prop} : octroilaw16_RipFull_r10 env h K = octroilaw16_RipFull_r10 env h K := rfl

def octroilaw16_RipFull_L0 : Den := (sq (sq (rg octroilaw16_RipFull_r6) (cnd (Go.Operand.tmp 49) (ex .normal) (ex (.exit 0)))) (sq (blk 1 (sq (rg octroilaw16_RipFull_r7) (sq (rg octroilaw16_RipFull_r8) (cnd (Go.Operand.tmp 64) (sq (rg octroilaw16_RipFull_r9) (ex .ret)) (ex .normal))))) (rg octroilaw16_RipFull_r10)))

/-- more.go:51 -/
def octroilaw16_RipFull_r11 (env : Env) (h : Hp) (K : Env → Hp → Prop) : Prop :=
  rd Try.prog (Instr.loadAt 24 (env 4)) h fun v67_1 =>
  rd Try.prog (Instr.build 33 #[(0, v67_1), (3, (env 2))]) noHp fun v69_3 =>
  Ok Try.prog 11 #[(env 8), (Go.Value.int Go.IntKind.i64 1), (Go.Value.int Go.IntKind.i64 1), v69_3, (Go.Value.int Go.IntKind.i64 0)] h fun v70_4 h1 =>
  rd Try.prog (Instr.extract v70_4 0) noHp fun v71_6 =>
  rd Try.prog (Instr.extract v70_4 1) noHp fun v72_7 =>
  K ((((((((((env.set 66 (env 8)).set 67 v67_1).set 68 (env 2)).set 69 v69_3).set 70 v70_4).set 65 v70_4).set 71 v71_6).set 72 v72_7).set 12 v71_6).set 13 v72_7) h1
@[congr] theorem octroilaw16_RipFull_r11_congr {env : Env} {h : Hp} {K : Env → Hp → Prop} : octroilaw16_RipFull_r11 env h K = octroilaw16_RipFull_r11 env h K := rfl

/-- more.go:52 -/
def octroilaw16_RipFull_r12 (env : Env) (h : Hp) (K : Env → Hp → Prop) : Prop :=
  rd Try.prog (Instr.build 24 #[(0, (Go.Value.int Go.IntKind.u32 3355443200)), (1, (Go.Value.int Go.IntKind.i64 8))]) noHp fun v75_1 =>
  rd Try.prog (Instr.build 33 #[(0, v75_1), (3, (Go.Value.int Go.IntKind.i64 1))]) noHp fun v76_2 =>
  Ok Try.prog 11 #[(env 8), (Go.Value.int Go.IntKind.i64 2), (Go.Value.int Go.IntKind.i64 1), v76_2, (Go.Value.int Go.IntKind.i64 0)] h fun v77_3 h1 =>
  rd Try.prog (Instr.extract v77_3 0) noHp fun v78_5 =>
  rd Try.prog (Instr.extract v77_3 1) noHp fun v79_6 =>
  K (((((((((env.set 74 (env 8)).set 75 v75_1).set 76 v76_2).set 77 v77_3).set 73 v77_3).set 78 v78_5).set 79 v79_6).set 14 v78_5).set 15 v79_6) h1
@[congr] theorem octroilaw16_RipFull_r12_congr {env : Env} {h : Hp} {K : Env → Hp → Prop} : octroilaw16_RipFull_r12 env h K = octroilaw16_RipFull_r12 env h K := rfl

/-- more.go:53 -/
def octroilaw16_RipFull_r13 (env : Env) (h : Hp) (K : Env → Hp → Prop) : Prop :=
  rd Try.prog (Instr.fieldAt 24 (env 4) 1) noHp fun v80_0 =>
  rd Try.prog (Instr.loadAt 3 v80_0) h fun v81_1 =>
  rd Try.prog (bop Go.BinOp.eql 3 (Go.Operand.tmp 81) (Go.Operand.const (Go.Value.int Go.IntKind.i64 8)) v81_1 (Go.Value.int Go.IntKind.i64 8)) noHp fun v82_2 =>
  gd (yb v82_2 == some true) (fun h k => rd Try.prog (Instr.fieldAt 24 (env 4) 0) noHp fun v => k v h) h fun v84_4 h1 =>
  gd (yb v82_2 == some true) (fun h k => rd Try.prog (Instr.loadAt 22 v84_4) h fun v => k v h) h1 fun v85_5 h2 =>
  gd (yb v82_2 == some true) (fun h k => rd Try.prog (bop Go.BinOp.rem 22 (Go.Operand.tmp 85) (Go.Operand.const (Go.Value.int Go.IntKind.u32 16777216)) v85_5 (Go.Value.int Go.IntKind.u32 16777216)) noHp fun v => k v h) h2 fun v86_6 h3 =>
  gd (yb v82_2 == some true) (fun h k => rd Try.prog (bop Go.BinOp.eql 22 (Go.Operand.tmp 86) (Go.Operand.const (Go.Value.int Go.IntKind.u32 0)) v86_6 (Go.Value.int Go.IntKind.u32 0)) noHp fun v => k v h) h3 fun v87_7 h4 =>
  rd Try.prog (pck v82_2 v87_7 (Go.Value.bool false)) noHp fun v88_8 =>
  gd (yb v88_8 == some true) (fun h k => rd Try.prog (Instr.fieldAt 24 (env 4) 0) noHp fun v => k v h) h4 fun v90_10 h5 =>
  gd (yb v88_8 == some true) (fun h k => rd Try.prog (Instr.loadAt 22 v90_10) h fun v => k v h) h5 fun v91_11 h6 =>
  gd (yb v88_8 == some true) (fun h k => rd Try.prog (bop Go.BinOp.shr 22 (Go.Operand.tmp 91) (Go.Operand.const (Go.Value.int Go.IntKind.u64 24)) v91_11 (Go.Value.int Go.IntKind.u64 24)) noHp fun v => k v h) h6 fun v92_12 h7 =>
  gd (yb v88_8 == some true) (fun h k => rd Try.prog (bop Go.BinOp.geq 22 (Go.Operand.tmp 92) (Go.Operand.const (Go.Value.int Go.IntKind.u32 200)) v92_12 (Go.Value.int Go.IntKind.u32 200)) noHp fun v => k v h) h7 fun v93_13 h8 =>
  rd Try.prog (pck v88_8 v93_13 (Go.Value.bool false)) noHp fun v94_14 =>
  gd (yb v94_14 == some true) (fun h k => rd Try.prog (Instr.fieldAt 24 (env 4) 0) noHp fun v => k v h) h8 fun v96_16 h9 =>
  gd (yb v94_14 == some true) (fun h k => rd Try.prog (Instr.loadAt 22 v96_16) h fun v => k v h) h9 fun v97_17 h10 =>
  gd (yb v94_14 == some true) (fun h k => rd Try.prog (bop Go.BinOp.shr 22 (Go.Operand.tmp 97) (Go.Operand.const (Go.Value.int Go.IntKind.u64 24)) v97_17 (Go.Value.int Go.IntKind.u64 24)) noHp fun v => k v h) h10 fun v98_18 h11 =>
  gd (yb v94_14 == some true) (fun h k => rd Try.prog (convert 22 3 v98_18) noHp fun v => k v h) h11 fun v99_19 h12 =>
  gd (yb v94_14 == some true) (fun h k => k (env 0) h) h12 fun v100_20 h13 =>
  gd (yb v94_14 == some true) (fun h k => rd Try.prog (bop Go.BinOp.add 3 (Go.Operand.const (Go.Value.int Go.IntKind.i64 200)) (Go.Operand.tmp 100) (Go.Value.int Go.IntKind.i64 200) v100_20) noHp fun v => k v h) h13 fun v101_21 h14 =>
  gd (yb v94_14 == some true) (fun h k => rd Try.prog (bop Go.BinOp.lss 3 (Go.Operand.tmp 99) (Go.Operand.tmp 101) v99_19 v101_21) noHp fun v => k v h) h14 fun v102_22 h15 =>
  rd Try.prog (pck v94_14 v102_22 (Go.Value.bool false)) noHp fun v103_23 =>
  K (((((((((((((((((((((((((env.set 80 v80_0).set 81 v81_1).set 82 v82_2).set 83 v82_2).set 84 v84_4).set 85 v85_5).set 86 v86_6).set 87 v87_7).set 88 v88_8).set 89 v88_8).set 90 v90_10).set 91 v91_11).set 92 v92_12).set 93 v93_13).set 94 v94_14).set 95 v94_14).set 96 v96_16).set 97 v97_17).set 98 v98_18).set 99 v99_19).set 100 v100_20).set 101 v101_21).set 102 v102_22).set 103 v103_23).set 16 v103_23) h15
@[congr] theorem octroilaw16_RipFull_r13_congr {env : Env} {h : Hp} {K : Env → Hp → Prop} : octroilaw16_RipFull_r13 env h K = octroilaw16_RipFull_r13 env h K := rfl

/-- more.go:54 -/
def octroilaw16_RipFull_r14 (env : Env) (h : Hp) (K : Env → Hp → Prop) : Prop :=
  rd Try.prog (bop Go.BinOp.eql 28 (Go.Operand.tmp 104) (Go.Operand.const (Go.Value.int Go.IntKind.i64 0)) (env 13) (Go.Value.int Go.IntKind.i64 0)) noHp fun v105_1 =>
  rd Try.prog (bop Go.BinOp.eql 4 (Go.Operand.tmp 105) (Go.Operand.tmp 106) v105_1 (env 16)) noHp fun v107_3 =>
  gd (yb v107_3 == some true) (fun h k => k (env 8) h) h fun v109_5 h1 =>
  gd (yb v107_3 == some true) (fun h k => Ok Try.prog 12 #[v109_5] h k) h1 fun v110_6 h2 =>
  gd (yb v107_3 == some true) (fun h k => k (env 0) h) h2 fun v111_7 h3 =>
  gd (yb v107_3 == some true) (fun h k => rd Try.prog (bop Go.BinOp.eql 3 (Go.Operand.tmp 110) (Go.Operand.tmp 111) v110_6 v111_7) noHp fun v => k v h) h3 fun v112_8 h4 =>
  rd Try.prog (pck v107_3 v112_8 (Go.Value.bool false)) noHp fun v113_9 =>
  gd (yb v113_9 == some true) (fun h k => k (env 15) h) h4 fun v115_11 h5 =>
  gd (yb v113_9 == some true) (fun h k => rd Try.prog (bop Go.BinOp.eql 28 (Go.Operand.tmp 115) (Go.Operand.const (Go.Value.int Go.IntKind.i64 0)) v115_11 (Go.Value.int Go.IntKind.i64 0)) noHp fun v => k v h) h5 fun v116_12 h6 =>
  rd Try.prog (pck v113_9 v116_12 (Go.Value.bool false)) noHp fun v117_13 =>
  gd (yb v117_13 == some true) (fun h k => k (env 14) h) h6 fun v119_15 h7 =>
  gd (yb v117_13 == some true) (fun h k => k v119_15 h) h7 fun v120_16 h8 =>
  gd (yb v120_16 == some false) (fun h k => k (env 16) h) h8 fun v121_17 h9 =>
  gd (yb v120_16 == some false) (fun h k => k v121_17 h) h9 fun v122_18 h10 =>
  gd (yb v122_18 == some true) (fun h k => k (env 2) h) h10 fun v123_19 h11 =>
  gd (yb v122_18 == some true) (fun h k => rd Try.prog (bop Go.BinOp.eql 3 (Go.Operand.tmp 123) (Go.Operand.const (Go.Value.int Go.IntKind.i64 1)) v123_19 (Go.Value.int Go.IntKind.i64 1)) noHp fun v => k v h) h11 fun v124_20 h12 =>
  gd (yb v120_16 == some false) (fun h k => rd Try.prog (pck v122_18 v124_20 (Go.Value.bool false)) noHp fun v => k v h) h12 fun v125_21 h13 =>
  gd (yb v117_13 == some true) (fun h k => rd Try.prog (pck v120_16 (Go.Value.bool true) v125_21) noHp fun v => k v h) h13 fun v126_22 h14 =>
  rd Try.prog (pck v117_13 v126_22 (Go.Value.bool false)) noHp fun v127_23 =>
  K (((((((((((((((((((((((((env.set 104 (env 13)).set 105 v105_1).set 106 (env 16)).set 107 v107_3).set 108 v107_3).set 109 v109_5).set 110 v110_6).set 111 v111_7).set 112 v112_8).set 113 v113_9).set 114 v113_9).set 115 v115_11).set 116 v116_12).set 117 v117_13).set 118 v117_13).set 119 v119_15).set 120 v120_16).set 121 v121_17).set 122 v122_18).set 123 v123_19).set 124 v124_20).set 125 v125_21).set 126 v126_22).set 127 v127_23).set 6 v127_23) h14
@[congr] theorem octroilaw16_RipFull_r14_congr {env : Env} {h : Hp} {K : Env → Hp → Prop} : octroilaw16_RipFull_r14 env h K = octroilaw16_RipFull_r14 env h K := rfl

def octroilaw16_RipFull_D : Den := (sq (rg octroilaw16_RipFull_r0) (sq (rg octroilaw16_RipFull_r1) (sq (rg octroilaw16_RipFull_r2) (sq (sq (rg octroilaw16_RipFull_r3) (cnd (Go.Operand.tmp 41) (sq (rg octroilaw16_RipFull_r4) (ex .ret)) (ex .normal))) (sq (sq (rg octroilaw16_RipFull_r5) (blk 0 (lp octroilaw16_RipFull_L0))) (sq (rg octroilaw16_RipFull_r11) (sq (rg octroilaw16_RipFull_r12) (sq (rg octroilaw16_RipFull_r13) (sq (rg octroilaw16_RipFull_r14) (ex .ret))))))))))

theorem octroilaw16_RipFull_eq : (den Try.prog 128 octroilaw16_RipFull_code).1 = octroilaw16_RipFull_D := by kernel_rfl

theorem octroilaw16_RipFull_ok {args : Array Value} {h : Hp} {Q : Value → Hp → Prop} (hn : args.size ≤ 128) (D : octroilaw16_RipFull_D (fin Try.prog [(Go.ResultVar.tmp 6)] Q) (env0 args) h) : Ok Try.prog 4 args h Q :=
  ok_of_den progIsOk Try.func4 (c := octroilaw16_RipFull_code) (by kernel_rfl) hn (by show (den Try.prog 128 octroilaw16_RipFull_code).1 _ _ _; rw [octroilaw16_RipFull_eq]; exact D)

/-! ### octroi/octroilaw16.RipDoes: function 5 -/
noncomputable def octroilaw16_RipDoes_code : Code := match Try.f5.body with | some c => c | none => .skip

/-- law.go:87 -/
def octroilaw16_RipDoes_r0 (env : Env) (h : Hp) (K : Env → Hp → Prop) : Prop :=
  K (env.set 8 (Go.Value.bool false)) h
@[congr] theorem octroilaw16_RipDoes_r0_congr {env : Env} {h : Hp} {K : Env → Hp → Prop} : octroilaw16_RipDoes_r0 env h K = octroilaw16_RipDoes_r0 env h K := rfl

/-- law.go:88 -/
def octroilaw16_RipDoes_r1 (env : Env) (h : Hp) (K : Env → Hp → Prop) : Prop :=
  Ok Try.prog 9 #[] h fun v20_0 h1 =>
  K ((env.set 20 v20_0).set 9 v20_0) h1
@[congr] theorem octroilaw16_RipDoes_r1_congr {env : Env} {h : Hp} {K : Env → Hp → Prop} : octroilaw16_RipDoes_r1 env h K = octroilaw16_RipDoes_r1 env h K := rfl

/-- law.go:89 -/
def octroilaw16_RipDoes_r2 (env : Env) (h : Hp) (K : Env → Hp → Prop) : Prop :=
  Ok Try.prog 14 #[(env 2)] h fun v22_1 h1 =>
  K (((env.set 21 (env 2)).set 22 v22_1).set 10 v22_1) h1
@[congr] theorem octroilaw16_RipDoes_r2_congr {env : Env} {h : Hp} {K : Env → Hp → Prop} : octroilaw16_RipDoes_r2 env h K = octroilaw16_RipDoes_r2 env h K := rfl

/-- law.go:90 -/
def octroilaw16_RipDoes_r3 (env : Env) (h : Hp) (K : Env → Hp → Prop) : Prop :=
  Ok Try.prog 10 #[(env 0), (env 1)] h fun v25_2 h1 =>
  K ((((env.set 23 (env 0)).set 24 (env 1)).set 25 v25_2).set 11 v25_2) h1
@[congr] theorem octroilaw16_RipDoes_r3_congr {env : Env} {h : Hp} {K : Env → Hp → Prop} : octroilaw16_RipDoes_r3 env h K = octroilaw16_RipDoes_r3 env h K := rfl

/-- law.go:91 -/
def octroilaw16_RipDoes_r4 (env : Env) (h : Hp) (K : Env → Hp → Prop) : Prop :=
  rd Try.prog (Op.unary Go.UnOp.not (env 9)) noHp fun v27_1 =>
  gd (yb v27_1 == some false) (fun h k => k (env 10) h) h fun v29_3 h1 =>
  gd (yb v27_1 == some false) (fun h k => rd Try.prog (Op.unary Go.UnOp.not v29_3) noHp fun v => k v h) h1 fun v30_4 h2 =>
  rd Try.prog (pck v27_1 (Go.Value.bool true) v30_4) noHp fun v31_5 =>
  gd (yb v31_5 == some false) (fun h k => k (env 11) h) h2 fun v33_7 h3 =>
  gd (yb v31_5 == some false) (fun h k => rd Try.prog (bop Go.BinOp.eql 26 (Go.Operand.tmp 33) (Go.Operand.const (Go.Value.pointer none)) v33_7 (Go.Value.pointer none)) noHp fun v => k v h) h3 fun v34_8 h4 =>
  rd Try.prog (pck v31_5 (Go.Value.bool true) v34_8) noHp fun v35_9 =>
  K ((((((((((env.set 26 (env 9)).set 27 v27_1).set 28 v27_1).set 29 v29_3).set 30 v30_4).set 31 v31_5).set 32 v31_5).set 33 v33_7).set 34 v34_8).set 35 v35_9) h4
@[congr] theorem octroilaw16_RipDoes_r4_congr {env : Env} {h : Hp} {K : Env → Hp → Prop} : octroilaw16_RipDoes_r4 env h K = octroilaw16_RipDoes_r4 env h K := rfl

/-- law.go:92 -/
def octroilaw16_RipDoes_r5 (env : Env) (h : Hp) (K : Env → Hp → Prop) : Prop :=
  gd (yb (env 9) == some true) (fun h k => k (env 11) h) h fun v38_2 h1 =>
  gd (yb (env 9) == some true) (fun h k => rd Try.prog (bop Go.BinOp.neq 26 (Go.Operand.tmp 38) (Go.Operand.const (Go.Value.pointer none)) v38_2 (Go.Value.pointer none)) noHp fun v => k v h) h1 fun v39_3 h2 =>
  rd Try.prog (pck (env 9) v39_3 (Go.Value.bool false)) noHp fun v40_4 =>
  K ((((((env.set 36 (env 9)).set 37 (env 9)).set 38 v38_2).set 39 v39_3).set 40 v40_4).set 8 v40_4) h2
@[congr] theorem octroilaw16_RipDoes_r5_congr {env : Env} {h : Hp} {K : Env → Hp → Prop} : octroilaw16_RipDoes_r5 env h K = octroilaw16_RipDoes_r5 env h K := rfl

/-- law.go:94 -/
def octroilaw16_RipDoes_r6 (env : Env) (h : Hp) (K : Env → Hp → Prop) : Prop :=
  Ok Try.prog 15 #[(env 0), (env 1)] h fun v43_2 h1 =>
  K ((((env.set 41 (env 0)).set 42 (env 1)).set 43 v43_2).set 12 v43_2) h1
@[congr] theorem octroilaw16_RipDoes_r6_congr {env : Env} {h : Hp} {K : Env → Hp → Prop} : octroilaw16_RipDoes_r6 env h K = octroilaw16_RipDoes_r6 env h K := rfl

/-- law.go:95 -/
def octroilaw16_RipDoes_r7 (env : Env) (h : Hp) (K : Env → Hp → Prop) : Prop :=
  K (env.set 13 (Go.Value.int Go.IntKind.i64 0)) h
@[congr] theorem octroilaw16_RipDoes_r7_congr {env : Env} {h : Hp} {K : Env → Hp → Prop} : octroilaw16_RipDoes_r7 env h K = octroilaw16_RipDoes_r7 env h K := rfl

/-- law.go:95 -/
def octroilaw16_RipDoes_r8 (env : Env) (h : Hp) (K : Env → Hp → Prop) : Prop :=
  rd Try.prog (Builtin.len_ #[42] 3 #[(env 2)]) h fun v46_2 =>
  rd Try.prog (bop Go.BinOp.lss 3 (Go.Operand.tmp 44) (Go.Operand.tmp 46) (env 13) v46_2) noHp fun v47_3 =>
  K ((((env.set 44 (env 13)).set 45 (env 2)).set 46 v46_2).set 47 v47_3) h
@[congr] theorem octroilaw16_RipDoes_r8_congr {env : Env} {h : Hp} {K : Env → Hp → Prop} : octroilaw16_RipDoes_r8 env h K = octroilaw16_RipDoes_r8 env h K := rfl

/-- law.go:96 -/
def octroilaw16_RipDoes_r9 (env : Env) (h : Hp) (K : Env → Hp → Prop) : Prop :=
  rd Try.prog (Instr.indexAt 42 (env 2) (env 13)) noHp fun v54_3 =>
  rd Try.prog (Instr.loadAt 48 v54_3) h fun v55_4 =>
  Ok Try.prog 16 #[(env 11), v55_4] h fun v56_5 h1 =>
  rd Try.prog (Instr.extract v56_5 0) noHp fun v57_7 =>
  rd Try.prog (Instr.extract v56_5 1) noHp fun v58_8 =>
  K (((((((((((env.set 51 (env 11)).set 52 (env 2)).set 53 (env 13)).set 54 v54_3).set 55 v55_4).set 56 v56_5).set 50 v56_5).set 57 v57_7).set 58 v58_8).set 14 v57_7).set 15 v58_8) h1
@[congr] theorem octroilaw16_RipDoes_r9_congr {env : Env} {h : Hp} {K : Env → Hp → Prop} : octroilaw16_RipDoes_r9 env h K = octroilaw16_RipDoes_r9 env h K := rfl

/-- law.go:97 -/
def octroilaw16_RipDoes_r10 (env : Env) (h : Hp) (K : Env → Hp → Prop) : Prop :=
  rd Try.prog (Instr.indexAt 42 (env 2) (env 13)) noHp fun v63_3 =>
  rd Try.prog (Instr.loadAt 48 v63_3) h fun v64_4 =>
  Ok Try.prog 17 #[(env 12), v64_4] h fun v65_5 h1 =>
  rd Try.prog (Instr.extract v65_5 0) noHp fun v66_7 =>
  rd Try.prog (Instr.extract v65_5 1) noHp fun v67_8 =>
  K (((((((((((env.set 60 (env 12)).set 61 (env 2)).set 62 (env 13)).set 63 v63_3).set 64 v64_4).set 65 v65_5).set 59 v65_5).set 66 v66_7).set 67 v67_8).set 16 v66_7).set 17 v67_8) h1
@[congr] theorem octroilaw16_RipDoes_r10_congr {env : Env} {h : Hp} {K : Env → Hp → Prop} : octroilaw16_RipDoes_r10 env h K = octroilaw16_RipDoes_r10 env h K := rfl

/-- law.go:98 -/
def octroilaw16_RipDoes_r11 (env : Env) (h : Hp) (K : Env → Hp → Prop) : Prop :=
  Ok Try.prog 13 #[(env 11)] h fun v69_1 h1 =>
  Ok Try.prog 19 #[(env 12)] h1 fun v71_3 h2 =>
  Ok Try.prog 18 #[v69_1, v71_3] h2 fun v72_4 h3 =>
  K ((((((env.set 68 (env 11)).set 69 v69_1).set 70 (env 12)).set 71 v71_3).set 72 v72_4).set 18 v72_4) h3
@[congr] theorem octroilaw16_RipDoes_r11_congr {env : Env} {h : Hp} {K : Env → Hp → Prop} : octroilaw16_RipDoes_r11 env h K = octroilaw16_RipDoes_r11 env h K := rfl

/-- law.go:99 -/
def octroilaw16_RipDoes_r12 (env : Env) (h : Hp) (K : Env → Hp → Prop) : Prop :=
  Ok Try.prog 21 #[(env 11), (env 3)] h fun v75_2 h1 =>
  Ok Try.prog 22 #[(env 12), (env 3)] h1 fun v78_5 h2 =>
  Ok Try.prog 20 #[v75_2, v78_5] h2 fun v79_6 h3 =>
  K ((((((((env.set 73 (env 11)).set 74 (env 3)).set 75 v75_2).set 76 (env 12)).set 77 (env 3)).set 78 v78_5).set 79 v79_6).set 19 v79_6) h3
@[congr] theorem octroilaw16_RipDoes_r12_congr {env : Env} {h : Hp} {K : Env → Hp → Prop} : octroilaw16_RipDoes_r12 env h K = octroilaw16_RipDoes_r12 env h K := rfl

/-- law.go:100 (in any order) -/
def octroilaw16_RipDoes_r13 (env : Env) (h : Hp) (K : Env → Hp → Prop) : Prop :=
  rd Try.prog (bop Go.BinOp.neq 4 (Go.Operand.tmp 80) (Go.Operand.tmp 81) (env 14) (env 16)) noHp fun v82_2 =>
  gd (yb v82_2 == some false) (fun h k => k (env 15) h) h fun v84_4 h1 =>
  gd (yb v82_2 == some false) (fun h k => k (env 17) h) h1 fun v85_5 h2 =>
  gd (yb v82_2 == some false) (fun h k => rd Try.prog (bop Go.BinOp.neq 28 (Go.Operand.tmp 84) (Go.Operand.tmp 85) v84_4 v85_5) noHp fun v => k v h) h2 fun v86_6 h3 =>
  rd Try.prog (pck v82_2 (Go.Value.bool true) v86_6) noHp fun v87_7 =>
  gd (yb v87_7 == some false) (fun h k => k (env 18) h) h3 fun v89_9 h4 =>
  gd (yb v87_7 == some false) (fun h k => rd Try.prog (Op.unary Go.UnOp.not v89_9) noHp fun v => k v h) h4 fun v90_10 h5 =>
  rd Try.prog (pck v87_7 (Go.Value.bool true) v90_10) noHp fun v91_11 =>
  gd (yb v91_11 == some false) (fun h k => k (env 19) h) h5 fun v93_13 h6 =>
  gd (yb v91_11 == some false) (fun h k => rd Try.prog (Op.unary Go.UnOp.not v93_13) noHp fun v => k v h) h6 fun v94_14 h7 =>
  rd Try.prog (pck v91_11 (Go.Value.bool true) v94_14) noHp fun v95_15 =>
  gd (yb v95_15 == some false) (fun h k => k (env 11) h) h7 fun v97_17 h8 =>
  gd (yb v95_15 == some false) (fun h k => k (env 12) h) h8 fun v99_18 h9 =>
  gd (yb v95_15 == some false) (fun h k => nck v99_18 (k v99_18 h)) h9 fun v100_19 h10 =>
  gd (yb v95_15 == some false) (fun h k => rd Try.prog (Instr.fieldAt 56 v100_19 2) noHp fun v => k v h) h10 fun v101_20 h11 =>
  gd (yb v95_15 == some false) (fun h k => rd Try.prog (Instr.loadAt 54 v101_20) h fun v => k v h) h11 fun v102_21 h12 =>
  gd (yb v95_15 == some false) (fun h k => rd Try.prog (Builtin.len_ #[54] 3 #[v102_21]) h fun v => k v h) h12 fun v103_22 h13 =>
  gd (yb v95_15 == some false) (fun h k => Ok Try.prog 12 #[v97_17] h k) h13 fun v98_23 h14 =>
  (((yb v95_15 == some false) = true → rrun Try.prog (Builtin.len_ #[54] 3 #[v102_21]) h14 = some v103_22) ∧ ((yb v95_15 == some false) = true → rrun Try.prog (Instr.loadAt 54 v101_20) h14 = some v102_21) ∧ True) ∧
  gd (yb v95_15 == some false) (fun h k => rd Try.prog (bop Go.BinOp.neq 3 (Go.Operand.tmp 98) (Go.Operand.tmp 103) v98_23 v103_22) noHp fun v => k v h) h14 fun v104_24 h15 =>
  rd Try.prog (pck v95_15 (Go.Value.bool true) v104_24) noHp fun v105_25 =>
  K ((((((((((((((((((((((((((env.set 80 (env 14)).set 81 (env 16)).set 82 v82_2).set 83 v82_2).set 84 v84_4).set 85 v85_5).set 86 v86_6).set 87 v87_7).set 88 v87_7).set 89 v89_9).set 90 v90_10).set 91 v91_11).set 92 v91_11).set 93 v93_13).set 94 v94_14).set 95 v95_15).set 96 v95_15).set 97 v97_17).set 99 v99_18).set 100 v100_19).set 101 v101_20).set 102 v102_21).set 103 v103_22).set 98 v98_23).set 104 v104_24).set 105 v105_25) h15
@[congr] theorem octroilaw16_RipDoes_r13_congr {env : Env} {h : Hp} {K : Env → Hp → Prop} : octroilaw16_RipDoes_r13 env h K = octroilaw16_RipDoes_r13 env h K := rfl

/-- law.go:101 -/
def octroilaw16_RipDoes_r14 (env : Env) (h : Hp) (K : Env → Hp → Prop) : Prop :=
  K (env.set 8 (Go.Value.bool false)) h
@[congr] theorem octroilaw16_RipDoes_r14_congr {env : Env} {h : Hp} {K : Env → Hp → Prop} : octroilaw16_RipDoes_r14 env h K = octroilaw16_RipDoes_r14 env h K := rfl

/-- law.go:95 -/
def octroilaw16_RipDoes_r15 (env : Env) (h : Hp) (K : Env → Hp → Prop) : Prop :=
  rd Try.prog (bop Go.BinOp.add 3 (Go.Operand.tmp 48) (Go.Operand.const (Go.Value.int Go.IntKind.i64 1)) (env 13) (Go.Value.int Go.IntKind.i64 1)) noHp fun v49_1 =>
  K (((env.set 48 (env 13)).set 49 v49_1).set 13 v49_1) h
@[congr] theorem octroilaw16_RipDoes_r15_congr {env : Env} {h : Hp} {K : Env → Hp → Prop} : octroilaw16_RipDoes_r15 env h K = octroilaw16_RipDoes_r15 env h K := rfl

def octroilaw16_RipDoes_L0 : Den := (sq (sq (rg octroilaw16_RipDoes_r8) (cnd (Go.Operand.tmp 47) (ex .normal) (ex (.exit 0)))) (sq (blk 1 (sq (rg octroilaw16_RipDoes_r9) (sq (rg octroilaw16_RipDoes_r10) (sq (rg octroilaw16_RipDoes_r11) (sq (rg octroilaw16_RipDoes_r12) (sq (rg octroilaw16_RipDoes_r13) (cnd (Go.Operand.tmp 105) (sq (rg octroilaw16_RipDoes_r14) (ex .ret)) (ex .normal)))))))) (rg octroilaw16_RipDoes_r15)))

/-- law.go:104 -/
def octroilaw16_RipDoes_r16 (env : Env) (h : Hp) (K : Env → Hp → Prop) : Prop :=
  K (env.set 8 (Go.Value.bool true)) h
@[congr] theorem octroilaw16_RipDoes_r16_congr {env : Env} {h : Hp} {K : Env → Hp → Prop} : octroilaw16_RipDoes_r16 env h K = octroilaw16_RipDoes_r16 env h K := rfl

def octroilaw16_RipDoes_D : Den := (sq (rg octroilaw16_RipDoes_r0) (sq (rg octroilaw16_RipDoes_r1) (sq (rg octroilaw16_RipDoes_r2) (sq (rg octroilaw16_RipDoes_r3) (sq (sq (rg octroilaw16_RipDoes_r4) (cnd (Go.Operand.tmp 35) (sq (rg octroilaw16_RipDoes_r5) (ex .ret)) (ex .normal))) (sq (rg octroilaw16_RipDoes_r6) (sq (sq (rg octroilaw16_RipDoes_r7) (blk 0 (lp octroilaw16_RipDoes_L0))) (sq (rg octroilaw16_RipDoes_r16) (ex .ret)))))))))

theorem octroilaw16_RipDoes_eq : (den Try.prog 106 octroilaw16_RipDoes_code).1 = octroilaw16_RipDoes_D := by kernel_rfl

theorem octroilaw16_RipDoes_ok {args : Array Value} {h : Hp} {Q : Value → Hp → Prop} (hn : args.size ≤ 106) (D : octroilaw16_RipDoes_D (fin Try.prog [(Go.ResultVar.tmp 8)] Q) (env0 args) h) : Ok Try.prog 5 args h Q :=
  ok_of_den progIsOk Try.func5 (c := octroilaw16_RipDoes_code) (by kernel_rfl) hn (by show (den Try.prog 106 octroilaw16_RipDoes_code).1 _ _ _; rw [octroilaw16_RipDoes_eq]; exact D)

/-! ### octroi/octroilaw16.RipTags: function 6 -/
noncomputable def octroilaw16_RipTags_code : Code := match Try.f6.body with | some c => c | none => .skip

/-- law.go:108 -/
def octroilaw16_RipTags_r0 (env : Env) (h : Hp) (K : Env → Hp → Prop) : Prop :=
  K (env.set 6 (Go.Value.bool false)) h
@[congr] theorem octroilaw16_RipTags_r0_congr {env : Env} {h : Hp} {K : Env → Hp → Prop} : octroilaw16_RipTags_r0 env h K = octroilaw16_RipTags_r0 env h K := rfl

/-- law.go:109 -/
def octroilaw16_RipTags_r1 (env : Env) (h : Hp) (K : Env → Hp → Prop) : Prop :=
  Ok Try.prog 9 #[] h fun v13_0 h1 =>
  K ((env.set 13 v13_0).set 7 v13_0) h1
@[congr] theorem octroilaw16_RipTags_r1_congr {env : Env} {h : Hp} {K : Env → Hp → Prop} : octroilaw16_RipTags_r1 env h K = octroilaw16_RipTags_r1 env h K := rfl

/-- law.go:110 -/
def octroilaw16_RipTags_r2 (env : Env) (h : Hp) (K : Env → Hp → Prop) : Prop :=
  Ok Try.prog 14 #[(env 1)] h fun v15_1 h1 =>
  K (((env.set 14 (env 1)).set 15 v15_1).set 8 v15_1) h1
@[congr] theorem octroilaw16_RipTags_r2_congr {env : Env} {h : Hp} {K : Env → Hp → Prop} : octroilaw16_RipTags_r2 env h K = octroilaw16_RipTags_r2 env h K := rfl

/-- law.go:111 -/
def octroilaw16_RipTags_r3 (env : Env) (h : Hp) (K : Env → Hp → Prop) : Prop :=
  Ok Try.prog 10 #[(env 0), (Go.Value.int Go.IntKind.i64 64)] h fun v17_1 h1 =>
  K (((env.set 16 (env 0)).set 17 v17_1).set 9 v17_1) h1
@[congr] theorem octroilaw16_RipTags_r3_congr {env : Env} {h : Hp} {K : Env → Hp → Prop} : octroilaw16_RipTags_r3 env h K = octroilaw16_RipTags_r3 env h K := rfl

/-- law.go:112 -/
def octroilaw16_RipTags_r4 (env : Env) (h : Hp) (K : Env → Hp → Prop) : Prop :=
  rd Try.prog (Op.unary Go.UnOp.not (env 7)) noHp fun v19_1 =>
  gd (yb v19_1 == some false) (fun h k => k (env 8) h) h fun v21_3 h1 =>
  gd (yb v19_1 == some false) (fun h k => rd Try.prog (Op.unary Go.UnOp.not v21_3) noHp fun v => k v h) h1 fun v22_4 h2 =>
  rd Try.prog (pck v19_1 (Go.Value.bool true) v22_4) noHp fun v23_5 =>
  gd (yb v23_5 == some false) (fun h k => k (env 9) h) h2 fun v25_7 h3 =>
  gd (yb v23_5 == some false) (fun h k => rd Try.prog (bop Go.BinOp.eql 26 (Go.Operand.tmp 25) (Go.Operand.const (Go.Value.pointer none)) v25_7 (Go.Value.pointer none)) noHp fun v => k v h) h3 fun v26_8 h4 =>
  rd Try.prog (pck v23_5 (Go.Value.bool true) v26_8) noHp fun v27_9 =>
  K ((((((((((env.set 18 (env 7)).set 19 v19_1).set 20 v19_1).set 21 v21_3).set 22 v22_4).set 23 v23_5).set 24 v23_5).set 25 v25_7).set 26 v26_8).set 27 v27_9) h4
@[congr] theorem octroilaw16_RipTags_r4_congr {env : Env} {h : Hp} {K : Env → Hp → Prop} : octroilaw16_RipTags_r4 env h K = octroilaw16_RipTags_r4 env h K := rfl

/-- law.go:113 -/
def octroilaw16_RipTags_r5 (env : Env) (h : Hp) (K : Env → Hp → Prop) : Prop :=
  gd (yb (env 7) == some true) (fun h k => k (env 9) h) h fun v30_2 h1 =>
  gd (yb (env 7) == some true) (fun h k => rd Try.prog (bop Go.BinOp.neq 26 (Go.Operand.tmp 30) (Go.Operand.const (Go.Value.pointer none)) v30_2 (Go.Value.pointer none)) noHp fun v => k v h) h1 fun v31_3 h2 =>
  rd Try.prog (pck (env 7) v31_3 (Go.Value.bool false)) noHp fun v32_4 =>
  K ((((((env.set 28 (env 7)).set 29 (env 7)).set 30 v30_2).set 31 v31_3).set 32 v32_4).set 6 v32_4) h2
@[congr] theorem octroilaw16_RipTags_r5_congr {env : Env} {h : Hp} {K : Env → Hp → Prop} : octroilaw16_RipTags_r5 env h K = octroilaw16_RipTags_r5 env h K := rfl

/-- law.go:115 -/
def octroilaw16_RipTags_r6 (env : Env) (h : Hp) (K : Env → Hp → Prop) : Prop :=
  K (env.set 10 (Go.Value.int Go.IntKind.i64 0)) h
@[congr] theorem octroilaw16_RipTags_r6_congr {env : Env} {h : Hp} {K : Env → Hp → Prop} : octroilaw16_RipTags_r6 env h K = octroilaw16_RipTags_r6 env h K := rfl

/-- law.go:115 -/
def octroilaw16_RipTags_r7 (env : Env) (h : Hp) (K : Env → Hp → Prop) : Prop :=
  rd Try.prog (Builtin.len_ #[42] 3 #[(env 1)]) h fun v35_2 =>
  rd Try.prog (bop Go.BinOp.lss 3 (Go.Operand.tmp 33) (Go.Operand.tmp 35) (env 10) v35_2) noHp fun v36_3 =>
  K ((((env.set 33 (env 10)).set 34 (env 1)).set 35 v35_2).set 36 v36_3) h
@[congr] theorem octroilaw16_RipTags_r7_congr {env : Env} {h : Hp} {K : Env → Hp → Prop} : octroilaw16_RipTags_r7 env h K = octroilaw16_RipTags_r7 env h K := rfl

/-- law.go:116 -/
def octroilaw16_RipTags_r8 (env : Env) (h : Hp) (K : Env → Hp → Prop) : Prop :=
  rd Try.prog (Instr.indexAt 42 (env 1) (env 10)) noHp fun v42_3 =>
  rd Try.prog (Instr.loadAt 48 v42_3) h fun v43_4 =>
  Ok Try.prog 16 #[(env 9), v43_4] h fun v44_5 h1 =>
  K ((((((env.set 39 (env 9)).set 40 (env 1)).set 41 (env 10)).set 42 v42_3).set 43 v43_4).set 44 v44_5) h1
@[congr] theorem octroilaw16_RipTags_r8_congr {env : Env} {h : Hp} {K : Env → Hp → Prop} : octroilaw16_RipTags_r8 env h K = octroilaw16_RipTags_r8 env h K := rfl

/-- law.go:115 -/
def octroilaw16_RipTags_r9 (env : Env) (h : Hp) (K : Env → Hp → Prop) : Prop :=
  rd Try.prog (bop Go.BinOp.add 3 (Go.Operand.tmp 37) (Go.Operand.const (Go.Value.int Go.IntKind.i64 1)) (env 10) (Go.Value.int Go.IntKind.i64 1)) noHp fun v38_1 =>
  K (((env.set 37 (env 10)).set 38 v38_1).set 10 v38_1) h
@[congr] theorem octroilaw16_RipTags_r9_congr {env : Env} {h : Hp} {K : Env → Hp → Prop} : octroilaw16_RipTags_r9 env h K = octroilaw16_RipTags_r9 env h K := rfl

def octroilaw16_RipTags_L0 : Den := (sq (sq (rg octroilaw16_RipTags_r7) (cnd (Go.Operand.tmp 36) (ex .normal) (ex (.exit 0)))) (sq (blk 1 (rg octroilaw16_RipTags_r8)) (rg octroilaw16_RipTags_r9)))

/-- law.go:118 -/
def octroilaw16_RipTags_r10 (env : Env) (h : Hp) (K : Env → Hp → Prop) : Prop :=
  Ok Try.prog 21 #[(env 9), (env 2)] h fun v47_2 h1 =>
  K ((((env.set 45 (env 9)).set 46 (env 2)).set 47 v47_2).set 11 v47_2) h1
@[congr] theorem octroilaw16_RipTags_r10_congr {env : Env} {h : Hp} {K : Env → Hp → Prop} : octroilaw16_RipTags_r10 env h K = octroilaw16_RipTags_r10 env h K := rfl

/-- law.go:119 -/
def octroilaw16_RipTags_r11 (env : Env) (h : Hp) (K : Env → Hp → Prop) : Prop :=
  K (env.set 12 (Go.Value.int Go.IntKind.i64 0)) h
@[congr] theorem octroilaw16_RipTags_r11_congr {env : Env} {h : Hp} {K : Env → Hp → Prop} : octroilaw16_RipTags_r11 env h K = octroilaw16_RipTags_r11 env h K := rfl

/-- law.go:119 -/
def octroilaw16_RipTags_r12 (env : Env) (h : Hp) (K : Env → Hp → Prop) : Prop :=
  rd Try.prog (Builtin.len_ #[52] 3 #[(env 11)]) h fun v50_2 =>
  rd Try.prog (bop Go.BinOp.lss 3 (Go.Operand.tmp 48) (Go.Operand.tmp 50) (env 12) v50_2) noHp fun v51_3 =>
  K ((((env.set 48 (env 12)).set 49 (env 11)).set 50 v50_2).set 51 v51_3) h
@[congr] theorem octroilaw16_RipTags_r12_congr {env : Env} {h : Hp} {K : Env → Hp → Prop} : octroilaw16_RipTags_r12 env h K = octroilaw16_RipTags_r12 env h K := rfl

/-- law.go:120 -/
def octroilaw16_RipTags_r13 (env : Env) (h : Hp) (K : Env → Hp → Prop) : Prop :=
  rd Try.prog (Instr.indexAt 52 (env 11) (env 12)) noHp fun v56_2 =>
  rd Try.prog (Instr.fieldAt 33 v56_2 1) noHp fun v57_3 =>
  rd Try.prog (Instr.loadAt 31 v57_3) h fun v58_4 =>
  Ok Try.prog 23 #[v58_4, (env 0)] h fun v60_6 h1 =>
  gd (yb v60_6 == some false) (fun h k => k (env 11) h) h1 fun v62_8 h2 =>
  gd (yb v60_6 == some false) (fun h k => k (env 12) h) h2 fun v63_9 h3 =>
  gd (yb v60_6 == some false) (fun h k => rd Try.prog (Instr.indexAt 52 v62_8 v63_9) noHp fun v => k v h) h3 fun v64_10 h4 =>
  gd (yb v60_6 == some false) (fun h k => rd Try.prog (Instr.fieldAt 33 v64_10 3) noHp fun v => k v h) h4 fun v65_11 h5 =>
  gd (yb v60_6 == some false) (fun h k => rd Try.prog (Instr.loadAt 3 v65_11) h fun v => k v h) h5 fun v66_12 h6 =>
  gd (yb v60_6 == some false) (fun h k => rd Try.prog (bop Go.BinOp.lss 3 (Go.Operand.tmp 66) (Go.Operand.const (Go.Value.int Go.IntKind.i64 1)) v66_12 (Go.Value.int Go.IntKind.i64 1)) noHp fun v => k v h) h6 fun v67_13 h7 =>
  rd Try.prog (pck v60_6 (Go.Value.bool true) v67_13) noHp fun v68_14 =>
  gd (yb v68_14 == some false) (fun h k => k (env 11) h) h7 fun v70_16 h8 =>
  gd (yb v68_14 == some false) (fun h k => k (env 12) h) h8 fun v71_17 h9 =>
  gd (yb v68_14 == some false) (fun h k => rd Try.prog (Instr.indexAt 52 v70_16 v71_17) noHp fun v => k v h) h9 fun v72_18 h10 =>
  gd (yb v68_14 == some false) (fun h k => rd Try.prog (Instr.fieldAt 33 v72_18 3) noHp fun v => k v h) h10 fun v73_19 h11 =>
  gd (yb v68_14 == some false) (fun h k => rd Try.prog (Instr.loadAt 3 v73_19) h fun v => k v h) h11 fun v74_20 h12 =>
  gd (yb v68_14 == some false) (fun h k => rd Try.prog (bop Go.BinOp.gtr 3 (Go.Operand.tmp 74) (Go.Operand.const (Go.Value.int Go.IntKind.i64 16)) v74_20 (Go.Value.int Go.IntKind.i64 16)) noHp fun v => k v h) h12 fun v75_21 h13 =>
  rd Try.prog (pck v68_14 (Go.Value.bool true) v75_21) noHp fun v76_22 =>
  K (((((((((((((((((((((((env.set 54 (env 11)).set 55 (env 12)).set 56 v56_2).set 57 v57_3).set 58 v58_4).set 59 (env 0)).set 60 v60_6).set 61 v60_6).set 62 v62_8).set 63 v63_9).set 64 v64_10).set 65 v65_11).set 66 v66_12).set 67 v67_13).set 68 v68_14).set 69 v68_14).set 70 v70_16).set 71 v71_17).set 72 v72_18).set 73 v73_19).set 74 v74_20).set 75 v75_21).set 76 v76_22) h13
@[congr] theorem octroilaw16_RipTags_r13_congr {env : Env} {h : Hp} {K : Env → Hp → Prop} : octroilaw16_RipTags_r13 env h K = octroilaw16_RipTags_r13 env h K := rfl

/-- law.go:121 -/
def octroilaw16_RipTags_r14 (env : Env) (h : Hp) (K : Env → Hp → Prop) : Prop :=
  K (env.set 6 (Go.Value.bool false)) h
@[congr] theorem octroilaw16_RipTags_r14_congr {env : Env} {h : Hp} {K : Env → Hp → Prop} : octroilaw16_RipTags_r14 env h K = octroilaw16_RipTags_r14 env h K := rfl

/-- law.go:119 -/
def octroilaw16_RipTags_r15 (env : Env) (h : Hp) (K : Env → Hp → Prop) : Prop :=
  rd Try.prog (bop Go.BinOp.add 3 (Go.Operand.tmp 52) (Go.Operand.const (Go.Value.int Go.IntKind.i64 1)) (env 12) (Go.Value.int Go.IntKind.i64 1)) noHp fun v53_1 =>
  K (((env.set 52 (env 12)).set 53 v53_1).set 12 v53_1) h
@[congr] theorem octroilaw16_RipTags_r15_congr {env : Env} {h : Hp} {K : Env → Hp → Prop} : octroilaw16_RipTags_r15 env h K = octroilaw16_RipTags_r15 env h K := rfl

def octroilaw16_RipTags_L1 : Den := (sq (sq (rg octroilaw16_RipTags_r12) (cnd (Go.Operand.tmp 51) (ex .normal) (ex (.exit 2)))) (sq (blk 3 (sq (rg octroilaw16_RipTags_r13) (cnd (Go.Operand.tmp 76) (sq (rg octroilaw16_RipTags_r14) (ex .ret)) (ex .normal)))) (rg octroilaw16_RipTags_r15)))

/-- law.go:124 -/
def octroilaw16_RipTags_r16 (env : Env) (h : Hp) (K : Env → Hp → Prop) : Prop :=
  rd Try.prog (Builtin.len_ #[52] 3 #[(env 11)]) h fun v78_1 =>
  Ok Try.prog 12 #[(env 9)] h fun v80_3 h1 =>
  rd Try.prog (bop Go.BinOp.eql 3 (Go.Operand.tmp 78) (Go.Operand.tmp 80) v78_1 v80_3) noHp fun v81_4 =>
  gd (yb v81_4 == some true) (fun h k => k (env 9) h) h1 fun v83_6 h2 =>
  gd (yb v81_4 == some true) (fun h k => Ok Try.prog 12 #[v83_6] h k) h2 fun v84_7 h3 =>
  gd (yb v81_4 == some true) (fun h k => rd Try.prog (bop Go.BinOp.leq 3 (Go.Operand.tmp 84) (Go.Operand.const (Go.Value.int Go.IntKind.i64 64)) v84_7 (Go.Value.int Go.IntKind.i64 64)) noHp fun v => k v h) h3 fun v85_8 h4 =>
  rd Try.prog (pck v81_4 v85_8 (Go.Value.bool false)) noHp fun v86_9 =>
  K (((((((((((env.set 77 (env 11)).set 78 v78_1).set 79 (env 9)).set 80 v80_3).set 81 v81_4).set 82 v81_4).set 83 v83_6).set 84 v84_7).set 85 v85_8).set 86 v86_9).set 6 v86_9) h4
@[congr] theorem octroilaw16_RipTags_r16_congr {env : Env} {h : Hp} {K : Env → Hp → Prop} : octroilaw16_RipTags_r16 env h K = octroilaw16_RipTags_r16 env h K := rfl

def octroilaw16_RipTags_D : Den := (sq (rg octroilaw16_RipTags_r0) (sq (rg octroilaw16_RipTags_r1) (sq (rg octroilaw16_RipTags_r2) (sq (rg octroilaw16_RipTags_r3) (sq (sq (rg octroilaw16_RipTags_r4) (cnd (Go.Operand.tmp 27) (sq (rg octroilaw16_RipTags_r5) (ex .ret)) (ex .normal))) (sq (sq (rg octroilaw16_RipTags_r6) (blk 0 (lp octroilaw16_RipTags_L0))) (sq (rg octroilaw16_RipTags_r10) (sq (sq (rg octroilaw16_RipTags_r11) (blk 2 (lp octroilaw16_RipTags_L1))) (sq (rg octroilaw16_RipTags_r16) (ex .ret))))))))))

theorem octroilaw16_RipTags_eq : (den Try.prog 87 octroilaw16_RipTags_code).1 = octroilaw16_RipTags_D := by kernel_rfl

theorem octroilaw16_RipTags_ok {args : Array Value} {h : Hp} {Q : Value → Hp → Prop} (hn : args.size ≤ 87) (D : octroilaw16_RipTags_D (fin Try.prog [(Go.ResultVar.tmp 6)] Q) (env0 args) h) : Ok Try.prog 6 args h Q :=
  ok_of_den progIsOk Try.func6 (c := octroilaw16_RipTags_code) (by kernel_rfl) hn (by show (den Try.prog 87 octroilaw16_RipTags_code).1 _ _ _; rw [octroilaw16_RipTags_eq]; exact D)

/-! ### octroi/octroilaw16.RipPoison: function 7 -/
noncomputable def octroilaw16_RipPoison_code : Code := match Try.f7.body with | some c => c | none => .skip

/-- law.go:128 -/
def octroilaw16_RipPoison_r0 (env : Env) (h : Hp) (K : Env → Hp → Prop) : Prop :=
  K (env.set 4 (Go.Value.bool false)) h
@[congr] theorem octroilaw16_RipPoison_r0_congr {env : Env} {h : Hp} {K : Env → Hp → Prop} : octroilaw16_RipPoison_r0 env h K = octroilaw16_RipPoison_r0 env h K := rfl

/-- law.go:129 -/
def octroilaw16_RipPoison_r1 (env : Env) (h : Hp) (K : Env → Hp → Prop) : Prop :=
  Ok Try.prog 9 #[] h fun v14_0 h1 =>
  K ((env.set 14 v14_0).set 5 v14_0) h1
@[congr] theorem octroilaw16_RipPoison_r1_congr {env : Env} {h : Hp} {K : Env → Hp → Prop} : octroilaw16_RipPoison_r1 env h K = octroilaw16_RipPoison_r1 env h K := rfl

/-- law.go:130 -/
def octroilaw16_RipPoison_r2 (env : Env) (h : Hp) (K : Env → Hp → Prop) : Prop :=
  Ok Try.prog 14 #[(env 0)] h fun v16_1 h1 =>
  K (((env.set 15 (env 0)).set 16 v16_1).set 6 v16_1) h1
@[congr] theorem octroilaw16_RipPoison_r2_congr {env : Env} {h : Hp} {K : Env → Hp → Prop} : octroilaw16_RipPoison_r2 env h K = octroilaw16_RipPoison_r2 env h K := rfl

/-- law.go:131 -/
def octroilaw16_RipPoison_r3 (env : Env) (h : Hp) (K : Env → Hp → Prop) : Prop :=
  Ok Try.prog 10 #[(Go.Value.int Go.IntKind.i64 0), (Go.Value.int Go.IntKind.i64 64)] h fun v17_0 h1 =>
  K ((env.set 17 v17_0).set 7 v17_0) h1
@[congr] theorem octroilaw16_RipPoison_r3_congr {env : Env} {h : Hp} {K : Env → Hp → Prop} : octroilaw16_RipPoison_r3 env h K = octroilaw16_RipPoison_r3 env h K := rfl

/-- law.go:132 -/
def octroilaw16_RipPoison_r4 (env : Env) (h : Hp) (K : Env → Hp → Prop) : Prop :=
  rd Try.prog (Op.unary Go.UnOp.not (env 5)) noHp fun v19_1 =>
  gd (yb v19_1 == some false) (fun h k => k (env 6) h) h fun v21_3 h1 =>
  gd (yb v19_1 == some false) (fun h k => rd Try.prog (Op.unary Go.UnOp.not v21_3) noHp fun v => k v h) h1 fun v22_4 h2 =>
  rd Try.prog (pck v19_1 (Go.Value.bool true) v22_4) noHp fun v23_5 =>
  gd (yb v23_5 == some false) (fun h k => k (env 7) h) h2 fun v25_7 h3 =>
  gd (yb v23_5 == some false) (fun h k => rd Try.prog (bop Go.BinOp.eql 26 (Go.Operand.tmp 25) (Go.Operand.const (Go.Value.pointer none)) v25_7 (Go.Value.pointer none)) noHp fun v => k v h) h3 fun v26_8 h4 =>
  rd Try.prog (pck v23_5 (Go.Value.bool true) v26_8) noHp fun v27_9 =>
  gd (yb v27_9 == some false) (fun h k => k (env 1) h) h4 fun v29_11 h5 =>
  gd (yb v27_9 == some false) (fun h k => rd Try.prog (bop Go.BinOp.lss 3 (Go.Operand.tmp 29) (Go.Operand.const (Go.Value.int Go.IntKind.i64 1)) v29_11 (Go.Value.int Go.IntKind.i64 1)) noHp fun v => k v h) h5 fun v30_12 h6 =>
  rd Try.prog (pck v27_9 (Go.Value.bool true) v30_12) noHp fun v31_13 =>
  K ((((((((((((((env.set 18 (env 5)).set 19 v19_1).set 20 v19_1).set 21 v21_3).set 22 v22_4).set 23 v23_5).set 24 v23_5).set 25 v25_7).set 26 v26_8).set 27 v27_9).set 28 v27_9).set 29 v29_11).set 30 v30_12).set 31 v31_13) h6
@[congr] theorem octroilaw16_RipPoison_r4_congr {env : Env} {h : Hp} {K : Env → Hp → Prop} : octroilaw16_RipPoison_r4 env h K = octroilaw16_RipPoison_r4 env h K := rfl

/-- law.go:133 -/
def octroilaw16_RipPoison_r5 (env : Env) (h : Hp) (K : Env → Hp → Prop) : Prop :=
  gd (yb (env 5) == some true) (fun h k => k (env 7) h) h fun v34_2 h1 =>
  gd (yb (env 5) == some true) (fun h k => rd Try.prog (bop Go.BinOp.neq 26 (Go.Operand.tmp 34) (Go.Operand.const (Go.Value.pointer none)) v34_2 (Go.Value.pointer none)) noHp fun v => k v h) h1 fun v35_3 h2 =>
  rd Try.prog (pck (env 5) v35_3 (Go.Value.bool false)) noHp fun v36_4 =>
  K ((((((env.set 32 (env 5)).set 33 (env 5)).set 34 v34_2).set 35 v35_3).set 36 v36_4).set 4 v36_4) h2
@[congr] theorem octroilaw16_RipPoison_r5_congr {env : Env} {h : Hp} {K : Env → Hp → Prop} : octroilaw16_RipPoison_r5 env h K = octroilaw16_RipPoison_r5 env h K := rfl

/-- law.go:135 -/
def octroilaw16_RipPoison_r6 (env : Env) (h : Hp) (K : Env → Hp → Prop) : Prop :=
  K (env.set 8 (Go.Value.int Go.IntKind.i64 0)) h
@[congr] theorem octroilaw16_RipPoison_r6_congr {env : Env} {h : Hp} {K : Env → Hp → Prop} : octroilaw16_RipPoison_r6 env h K = octroilaw16_RipPoison_r6 env h K := rfl

/-- law.go:135 -/
def octroilaw16_RipPoison_r7 (env : Env) (h : Hp) (K : Env → Hp → Prop) : Prop :=
  rd Try.prog (Builtin.len_ #[42] 3 #[(env 0)]) h fun v39_2 =>
  rd Try.prog (bop Go.BinOp.lss 3 (Go.Operand.tmp 37) (Go.Operand.tmp 39) (env 8) v39_2) noHp fun v40_3 =>
  K ((((env.set 37 (env 8)).set 38 (env 0)).set 39 v39_2).set 40 v40_3) h
@[congr] theorem octroilaw16_RipPoison_r7_congr {env : Env} {h : Hp} {K : Env → Hp → Prop} : octroilaw16_RipPoison_r7 env h K = octroilaw16_RipPoison_r7 env h K := rfl

/-- law.go:136 -/
def octroilaw16_RipPoison_r8 (env : Env) (h : Hp) (K : Env → Hp → Prop) : Prop :=
  rd Try.prog (Instr.indexAt 42 (env 0) (env 8)) noHp fun v46_3 =>
  rd Try.prog (Instr.loadAt 48 v46_3) h fun v47_4 =>
  Ok Try.prog 16 #[(env 7), v47_4] h fun v48_5 h1 =>
  K ((((((env.set 43 (env 7)).set 44 (env 0)).set 45 (env 8)).set 46 v46_3).set 47 v47_4).set 48 v48_5) h1
@[congr] theorem octroilaw16_RipPoison_r8_congr {env : Env} {h : Hp} {K : Env → Hp → Prop} : octroilaw16_RipPoison_r8 env h K = octroilaw16_RipPoison_r8 env h K := rfl

/-- law.go:135 -/
def octroilaw16_RipPoison_r9 (env : Env) (h : Hp) (K : Env → Hp → Prop) : Prop :=
  rd Try.prog (bop Go.BinOp.add 3 (Go.Operand.tmp 41) (Go.Operand.const (Go.Value.int Go.IntKind.i64 1)) (env 8) (Go.Value.int Go.IntKind.i64 1)) noHp fun v42_1 =>
  K (((env.set 41 (env 8)).set 42 v42_1).set 8 v42_1) h
@[congr] theorem octroilaw16_RipPoison_r9_congr {env : Env} {h : Hp} {K : Env → Hp → Prop} : octroilaw16_RipPoison_r9 env h K = octroilaw16_RipPoison_r9 env h K := rfl

def octroilaw16_RipPoison_L0 : Den := (sq (sq (rg octroilaw16_RipPoison_r7) (cnd (Go.Operand.tmp 40) (ex .normal) (ex (.exit 0)))) (sq (blk 1 (rg octroilaw16_RipPoison_r8)) (rg octroilaw16_RipPoison_r9)))

/-- law.go:138 -/
def octroilaw16_RipPoison_r10 (env : Env) (h : Hp) (K : Env → Hp → Prop) : Prop :=
  Ok Try.prog 21 #[(env 7), (env 1)] h fun v51_2 h1 =>
  K ((((env.set 49 (env 7)).set 50 (env 1)).set 51 v51_2).set 9 v51_2) h1
@[congr] theorem octroilaw16_RipPoison_r10_congr {env : Env} {h : Hp} {K : Env → Hp → Prop} : octroilaw16_RipPoison_r10 env h K = octroilaw16_RipPoison_r10 env h K := rfl

/-- law.go:139 -/
def octroilaw16_RipPoison_r11 (env : Env) (h : Hp) (K : Env → Hp → Prop) : Prop :=
  Ok Try.prog 13 #[(env 7)] h fun v53_1 h1 =>
  K (((env.set 52 (env 7)).set 53 v53_1).set 10 v53_1) h1
@[congr] theorem octroilaw16_RipPoison_r11_congr {env : Env} {h : Hp} {K : Env → Hp → Prop} : octroilaw16_RipPoison_r11 env h K = octroilaw16_RipPoison_r11 env h K := rfl

/-- law.go:140 -/
def octroilaw16_RipPoison_r12 (env : Env) (h : Hp) (K : Env → Hp → Prop) : Prop :=
  K (env.set 11 (Go.Value.int Go.IntKind.i64 0)) h
@[congr] theorem octroilaw16_RipPoison_r12_congr {env : Env} {h : Hp} {K : Env → Hp → Prop} : octroilaw16_RipPoison_r12 env h K = octroilaw16_RipPoison_r12 env h K := rfl

/-- law.go:140 -/
def octroilaw16_RipPoison_r13 (env : Env) (h : Hp) (K : Env → Hp → Prop) : Prop :=
  rd Try.prog (Builtin.len_ #[52] 3 #[(env 9)]) h fun v56_2 =>
  rd Try.prog (bop Go.BinOp.lss 3 (Go.Operand.tmp 54) (Go.Operand.tmp 56) (env 11) v56_2) noHp fun v57_3 =>
  K ((((env.set 54 (env 11)).set 55 (env 9)).set 56 v56_2).set 57 v57_3) h
@[congr] theorem octroilaw16_RipPoison_r13_congr {env : Env} {h : Hp} {K : Env → Hp → Prop} : octroilaw16_RipPoison_r13 env h K = octroilaw16_RipPoison_r13 env h K := rfl

/-- law.go:141 -/
def octroilaw16_RipPoison_r14 (env : Env) (h : Hp) (K : Env → Hp → Prop) : Prop :=
  K (env.set 12 (Go.Value.bool false)) h
@[congr] theorem octroilaw16_RipPoison_r14_congr {env : Env} {h : Hp} {K : Env → Hp → Prop} : octroilaw16_RipPoison_r14 env h K = octroilaw16_RipPoison_r14 env h K := rfl

/-- law.go:142 -/
def octroilaw16_RipPoison_r15 (env : Env) (h : Hp) (K : Env → Hp → Prop) : Prop :=
  K (env.set 13 (Go.Value.int Go.IntKind.i64 0)) h
@[congr] theorem octroilaw16_RipPoison_r15_congr {env : Env} {h : Hp} {K : Env → Hp → Prop} : octroilaw16_RipPoison_r15 env h K = octroilaw16_RipPoison_r15 env h K := rfl

/-- law.go:142 -/
def octroilaw16_RipPoison_r16 (env : Env) (h : Hp) (K : Env → Hp → Prop) : Prop :=
  rd Try.prog (Builtin.len_ #[35] 3 #[(env 10)]) h fun v62_2 =>
  rd Try.prog (bop Go.BinOp.lss 3 (Go.Operand.tmp 60) (Go.Operand.tmp 62) (env 13) v62_2) noHp fun v63_3 =>
  K ((((env.set 60 (env 13)).set 61 (env 10)).set 62 v62_2).set 63 v63_3) h
@[congr] theorem octroilaw16_RipPoison_r16_congr {env : Env} {h : Hp} {K : Env → Hp → Prop} : octroilaw16_RipPoison_r16 env h K = octroilaw16_RipPoison_r16 env h K := rfl

/-- law.go:143 (in any order) -/
def octroilaw16_RipPoison_r17 (env : Env) (h : Hp) (K : Env → Hp → Prop) : Prop :=
  rd Try.prog (Instr.indexAt 35 (env 10) (env 13)) noHp fun v68_2 =>
  rd Try.prog (Instr.fieldAt 38 v68_2 0) noHp fun v69_3 =>
  rd Try.prog (Instr.loadAt 24 v69_3) h fun v70_4 =>
  rd Try.prog (Instr.indexAt 52 (env 9) (env 11)) noHp fun v73_7 =>
  rd Try.prog (Instr.fieldAt 33 v73_7 0) noHp fun v74_8 =>
  rd Try.prog (Instr.loadAt 24 v74_8) h fun v75_9 =>
  rd Try.prog (bop Go.BinOp.eql 24 (Go.Operand.tmp 70) (Go.Operand.tmp 75) v70_4 v75_9) noHp fun v76_10 =>
  K (((((((((((env.set 66 (env 10)).set 67 (env 13)).set 68 v68_2).set 69 v69_3).set 70 v70_4).set 71 (env 9)).set 72 (env 11)).set 73 v73_7).set 74 v74_8).set 75 v75_9).set 76 v76_10) h
@[congr] theorem octroilaw16_RipPoison_r17_congr {env : Env} {h : Hp} {K : Env → Hp → Prop} : octroilaw16_RipPoison_r17 env h K = octroilaw16_RipPoison_r17 env h K := rfl

/-- law.go:144 -/
def octroilaw16_RipPoison_r18 (env : Env) (h : Hp) (K : Env → Hp → Prop) : Prop :=
  K (env.set 12 (Go.Value.bool true)) h
@[congr] theorem octroilaw16_RipPoison_r18_congr {env : Env} {h : Hp} {K : Env → Hp → Prop} : octroilaw16_RipPoison_r18 env h K = octroilaw16_RipPoison_r18 env h K := rfl

/-- law.go:145 (in any order) -/
def octroilaw16_RipPoison_r19 (env : Env) (h : Hp) (K : Env → Hp → Prop) : Prop :=
  rd Try.prog (Instr.indexAt 52 (env 9) (env 11)) noHp fun v79_2 =>
  rd Try.prog (Instr.fieldAt 33 v79_2 3) noHp fun v80_3 =>
  rd Try.prog (Instr.loadAt 3 v80_3) h fun v81_4 =>
  rd Try.prog (bop Go.BinOp.eql 3 (Go.Operand.tmp 81) (Go.Operand.const (Go.Value.int Go.IntKind.i64 16)) v81_4 (Go.Value.int Go.IntKind.i64 16)) noHp fun v82_5 =>
  rd Try.prog (Instr.indexAt 35 (env 10) (env 13)) noHp fun v85_8 =>
  rd Try.prog (Instr.fieldAt 38 v85_8 4) noHp fun v86_9 =>
  rd Try.prog (Instr.loadAt 3 v86_9) h fun v87_10 =>
  rd Try.prog (bop Go.BinOp.eql 3 (Go.Operand.tmp 87) (Go.Operand.tmp 88) v87_10 (env 1)) noHp fun v89_12 =>
  rd Try.prog (bop Go.BinOp.neq 4 (Go.Operand.tmp 82) (Go.Operand.tmp 89) v82_5 v89_12) noHp fun v90_13 =>
  gd (yb v90_13 == some false) (fun h k => k (env 10) h) h fun v92_15 h1 =>
  gd (yb v90_13 == some false) (fun h k => k (env 13) h) h1 fun v93_16 h2 =>
  gd (yb v90_13 == some false) (fun h k => rd Try.prog (Instr.indexAt 35 v92_15 v93_16) noHp fun v => k v h) h2 fun v94_17 h3 =>
  gd (yb v90_13 == some false) (fun h k => rd Try.prog (Instr.fieldAt 38 v94_17 4) noHp fun v => k v h) h3 fun v95_18 h4 =>
  gd (yb v90_13 == some false) (fun h k => rd Try.prog (Instr.loadAt 3 v95_18) h fun v => k v h) h4 fun v96_19 h5 =>
  gd (yb v90_13 == some false) (fun h k => k (env 1) h) h5 fun v97_20 h6 =>
  gd (yb v90_13 == some false) (fun h k => rd Try.prog (bop Go.BinOp.neq 3 (Go.Operand.tmp 96) (Go.Operand.tmp 97) v96_19 v97_20) noHp fun v => k v h) h6 fun v98_21 h7 =>
  gd (yb v90_13 == some false) (fun h k => k v98_21 h) h7 fun v99_22 h8 =>
  gd (yb v99_22 == some true) (fun h k => k (env 9) h) h8 fun v100_23 h9 =>
  gd (yb v99_22 == some true) (fun h k => k (env 11) h) h9 fun v101_24 h10 =>
  gd (yb v99_22 == some true) (fun h k => rd Try.prog (Instr.indexAt 52 v100_23 v101_24) noHp fun v => k v h) h10 fun v102_25 h11 =>
  gd (yb v99_22 == some true) (fun h k => rd Try.prog (Instr.fieldAt 33 v102_25 3) noHp fun v => k v h) h11 fun v103_26 h12 =>
  gd (yb v99_22 == some true) (fun h k => rd Try.prog (Instr.loadAt 3 v103_26) h fun v => k v h) h12 fun v104_27 h13 =>
  gd (yb v99_22 == some true) (fun h k => k (env 10) h) h13 fun v105_28 h14 =>
  gd (yb v99_22 == some true) (fun h k => k (env 13) h) h14 fun v106_29 h15 =>
  gd (yb v99_22 == some true) (fun h k => rd Try.prog (Instr.indexAt 35 v105_28 v106_29) noHp fun v => k v h) h15 fun v107_30 h16 =>
  gd (yb v99_22 == some true) (fun h k => rd Try.prog (Instr.fieldAt 38 v107_30 3) noHp fun v => k v h) h16 fun v108_31 h17 =>
  gd (yb v99_22 == some true) (fun h k => rd Try.prog (Instr.loadAt 3 v108_31) h fun v => k v h) h17 fun v109_32 h18 =>
  gd (yb v99_22 == some true) (fun h k => rd Try.prog (bop Go.BinOp.neq 3 (Go.Operand.tmp 104) (Go.Operand.tmp 109) v104_27 v109_32) noHp fun v => k v h) h18 fun v110_33 h19 =>
  gd (yb v99_22 == some true) (fun h k => k v110_33 h) h19 fun v111_34 h20 =>
  gd (yb v111_34 == some false) (fun h k => k (env 9) h) h20 fun v112_35 h21 =>
  gd (yb v111_34 == some false) (fun h k => k (env 11) h) h21 fun v113_36 h22 =>
  gd (yb v111_34 == some false) (fun h k => rd Try.prog (Instr.indexAt 52 v112_35 v113_36) noHp fun v => k v h) h22 fun v114_37 h23 =>
  gd (yb v111_34 == some false) (fun h k => rd Try.prog (Instr.fieldAt 33 v114_37 1) noHp fun v => k v h) h23 fun v115_38 h24 =>
  gd (yb v111_34 == some false) (fun h k => rd Try.prog (Instr.loadAt 31 v115_38) h fun v => k v h) h24 fun v116_39 h25 =>
  gd (yb v111_34 == some false) (fun h k => k (env 10) h) h25 fun v117_40 h26 =>
  gd (yb v111_34 == some false) (fun h k => k (env 13) h) h26 fun v118_41 h27 =>
  gd (yb v111_34 == some false) (fun h k => rd Try.prog (Instr.indexAt 35 v117_40 v118_41) noHp fun v => k v h) h27 fun v119_42 h28 =>
  gd (yb v111_34 == some false) (fun h k => rd Try.prog (Instr.fieldAt 38 v119_42 5) noHp fun v => k v h) h28 fun v120_43 h29 =>
  gd (yb v111_34 == some false) (fun h k => rd Try.prog (Instr.loadAt 31 v120_43) h fun v => k v h) h29 fun v121_44 h30 =>
  gd (yb v111_34 == some false) (fun h k => rd Try.prog (bop Go.BinOp.neq 31 (Go.Operand.tmp 116) (Go.Operand.tmp 121) v116_39 v121_44) noHp fun v => k v h) h30 fun v122_45 h31 =>
  gd (yb v99_22 == some true) (fun h k => rd Try.prog (pck v111_34 (Go.Value.bool true) v122_45) noHp fun v => k v h) h31 fun v123_46 h32 =>
  gd (yb v90_13 == some false) (fun h k => rd Try.prog (pck v99_22 v123_46 (Go.Value.bool false)) noHp fun v => k v h) h32 fun v124_47 h33 =>
  rd Try.prog (pck v90_13 (Go.Value.bool true) v124_47) noHp fun v125_48 =>
  K (((((((((((((((((((((((((((((((((((((((((((((((((env.set 77 (env 9)).set 78 (env 11)).set 79 v79_2).set 80 v80_3).set 81 v81_4).set 82 v82_5).set 83 (env 10)).set 84 (env 13)).set 85 v85_8).set 86 v86_9).set 87 v87_10).set 88 (env 1)).set 89 v89_12).set 90 v90_13).set 91 v90_13).set 92 v92_15).set 93 v93_16).set 94 v94_17).set 95 v95_18).set 96 v96_19).set 97 v97_20).set 98 v98_21).set 99 v99_22).set 100 v100_23).set 101 v101_24).set 102 v102_25).set 103 v103_26).set 104 v104_27).set 105 v105_28).set 106 v106_29).set 107 v107_30).set 108 v108_31).set 109 v109_32).set 110 v110_33).set 111 v111_34).set 112 v112_35).set 113 v113_36).set 114 v114_37).set 115 v115_38).set 116 v116_39).set 117 v117_40).set 118 v118_41).set 119 v119_42).set 120 v120_43).set 121 v121_44).set 122 v122_45).set 123 v123_46).set 124 v124_47).set 125 v125_48) h33
@[congr] theorem octroilaw16_RipPoison_r19_congr {env : Env} {h : Hp} {K : Env → Hp → Prop} : octroilaw16_RipPoison_r19 env h K = octroilaw16_RipPoison_r19 env h K := rfl

/-- law.go:146 -/
def octroilaw16_RipPoison_r20 (env : Env) (h : Hp) (K : Env → Hp → Prop) : Prop :=
  K (env.set 4 (Go.Value.bool false)) h
@[congr] theorem octroilaw16_RipPoison_r20_congr {env : Env} {h : Hp} {K : Env → Hp → Prop} : octroilaw16_RipPoison_r20 env h K = octroilaw16_RipPoison_r20 env h K := rfl

/-- law.go:142 -/
def octroilaw16_RipPoison_r21 (env : Env) (h : Hp) (K : Env → Hp → Prop) : Prop :=
  rd Try.prog (bop Go.BinOp.add 3 (Go.Operand.tmp 64) (Go.Operand.const (Go.Value.int Go.IntKind.i64 1)) (env 13) (Go.Value.int Go.IntKind.i64 1)) noHp fun v65_1 =>
  K (((env.set 64 (env 13)).set 65 v65_1).set 13 v65_1) h
@[congr] theorem octroilaw16_RipPoison_r21_congr {env : Env} {h : Hp} {K : Env → Hp → Prop} : octroilaw16_RipPoison_r21 env h K = octroilaw16_RipPoison_r21 env h K := rfl

def octroilaw16_RipPoison_L1 : Den := (sq (sq (rg octroilaw16_RipPoison_r16) (cnd (Go.Operand.tmp 63) (ex .normal) (ex (.exit 4)))) (sq (blk 5 (sq (rg octroilaw16_RipPoison_r17) (cnd (Go.Operand.tmp 76) (sq (rg octroilaw16_RipPoison_r18) (sq (rg octroilaw16_RipPoison_r19) (cnd (Go.Operand.tmp 125) (sq (rg octroilaw16_RipPoison_r20) (ex .ret)) (ex .normal)))) (ex .normal)))) (rg octroilaw16_RipPoison_r21)))

/-- law.go:150 -/
def octroilaw16_RipPoison_r22 (env : Env) (h : Hp) (K : Env → Hp → Prop) : Prop :=
  rd Try.prog (Op.unary Go.UnOp.not (env 12)) noHp fun v127_1 =>
  gd (yb v127_1 == some true) (fun h k => k (env 9) h) h fun v129_3 h1 =>
  gd (yb v127_1 == some true) (fun h k => k (env 11) h) h1 fun v130_4 h2 =>
  gd (yb v127_1 == some true) (fun h k => rd Try.prog (Instr.indexAt 52 v129_3 v130_4) noHp fun v => k v h) h2 fun v131_5 h3 =>
  gd (yb v127_1 == some true) (fun h k => rd Try.prog (Instr.fieldAt 33 v131_5 3) noHp fun v => k v h) h3 fun v132_6 h4 =>
  gd (yb v127_1 == some true) (fun h k => rd Try.prog (Instr.loadAt 3 v132_6) h fun v => k v h) h4 fun v133_7 h5 =>
  gd (yb v127_1 == some true) (fun h k => rd Try.prog (bop Go.BinOp.neq 3 (Go.Operand.tmp 133) (Go.Operand.const (Go.Value.int Go.IntKind.i64 16)) v133_7 (Go.Value.int Go.IntKind.i64 16)) noHp fun v => k v h) h5 fun v134_8 h6 =>
  rd Try.prog (pck v127_1 v134_8 (Go.Value.bool false)) noHp fun v135_9 =>
  K ((((((((((env.set 126 (env 12)).set 127 v127_1).set 128 v127_1).set 129 v129_3).set 130 v130_4).set 131 v131_5).set 132 v132_6).set 133 v133_7).set 134 v134_8).set 135 v135_9) h6
@[congr] theorem octroilaw16_RipPoison_r22_congr {env : Env} {h : Hp} {K : Env → Hp → Prop} : octroilaw16_RipPoison_r22 env h K = octroilaw16_RipPoison_r22 env h K := rfl

/-- law.go:151 -/
def octroilaw16_RipPoison_r23 (env : Env) (h : Hp) (K : Env → Hp → Prop) : Prop :=
  K (env.set 4 (Go.Value.bool false)) h
@[congr] theorem octroilaw16_RipPoison_r23_congr {env : Env} {h : Hp} {K : Env → Hp → Prop} : octroilaw16_RipPoison_r23 env h K = octroilaw16_RipPoison_r23 env h K := rfl

/-- law.go:140 -/
def octroilaw16_RipPoison_r24 (env : Env) (h : Hp) (K : Env → Hp → Prop) : Prop :=
  rd Try.prog (bop Go.BinOp.add 3 (Go.Operand.tmp 58) (Go.Operand.const (Go.Value.int Go.IntKind.i64 1)) (env 11) (Go.Value.int Go.IntKind.i64 1)) noHp fun v59_1 =>
  K (((env.set 58 (env 11)).set 59 v59_1).set 11 v59_1) h
@[congr] theorem octroilaw16_RipPoison_r24_congr {env : Env} {h : Hp} {K : Env → Hp → Prop} : octroilaw16_RipPoison_r24 env h K = octroilaw16_RipPoison_r24 env h K := rfl

def octroilaw16_RipPoison_L2 : Den := (sq (sq (rg octroilaw16_RipPoison_r13) (cnd (Go.Operand.tmp 57) (ex .normal) (ex (.exit 2)))) (sq (blk 3 (sq (rg octroilaw16_RipPoison_r14) (sq (sq (rg octroilaw16_RipPoison_r15) (blk 4 (lp octroilaw16_RipPoison_L1))) (sq (rg octroilaw16_RipPoison_r22) (cnd (Go.Operand.tmp 135) (sq (rg octroilaw16_RipPoison_r23) (ex .ret)) (ex .normal)))))) (rg octroilaw16_RipPoison_r24)))

/-- law.go:154 -/
def octroilaw16_RipPoison_r25 (env : Env) (h : Hp) (K : Env → Hp → Prop) : Prop :=
  K (env.set 4 (Go.Value.bool true)) h
@[congr] theorem octroilaw16_RipPoison_r25_congr {env : Env} {h : Hp} {K : Env → Hp → Prop} : octroilaw16_RipPoison_r25 env h K = octroilaw16_RipPoison_r25 env h K := rfl

def octroilaw16_RipPoison_D : Den := (sq (rg octroilaw16_RipPoison_r0) (sq (rg octroilaw16_RipPoison_r1) (sq (rg octroilaw16_RipPoison_r2) (sq (rg octroilaw16_RipPoison_r3) (sq (sq (rg octroilaw16_RipPoison_r4) (cnd (Go.Operand.tmp 31) (sq (rg octroilaw16_RipPoison_r5) (ex .ret)) (ex .normal))) (sq (sq (rg octroilaw16_RipPoison_r6) (blk 0 (lp octroilaw16_RipPoison_L0))) (sq (rg octroilaw16_RipPoison_r10) (sq (rg octroilaw16_RipPoison_r11) (sq (sq (rg octroilaw16_RipPoison_r12) (blk 2 (lp octroilaw16_RipPoison_L2))) (sq (rg octroilaw16_RipPoison_r25) (ex .ret)))))))))))

theorem octroilaw16_RipPoison_eq : (den Try.prog 136 octroilaw16_RipPoison_code).1 = octroilaw16_RipPoison_D := by kernel_rfl

theorem octroilaw16_RipPoison_ok {args : Array Value} {h : Hp} {Q : Value → Hp → Prop} (hn : args.size ≤ 136) (D : octroilaw16_RipPoison_D (fin Try.prog [(Go.ResultVar.tmp 4)] Q) (env0 args) h) : Ok Try.prog 7 args h Q :=
  ok_of_den progIsOk Try.func7 (c := octroilaw16_RipPoison_code) (by kernel_rfl) hn (by show (den Try.prog 136 octroilaw16_RipPoison_code).1 _ _ _; rw [octroilaw16_RipPoison_eq]; exact D)

/-! ### octroi/octroilaw16.RipOwns: function 8 -/
noncomputable def octroilaw16_RipOwns_code : Code := match Try.f8.body with | some c => c | none => .skip

/-- more.go:9 -/
def octroilaw16_RipOwns_r0 (env : Env) (h : Hp) (K : Env → Hp → Prop) : Prop :=
  arun Try.prog (Instr.box 24 (env 0)) h fun v4_0 h1 =>
  K ((env.set 4 v4_0).set 8 (Go.Value.bool false)) h1
@[congr] theorem octroilaw16_RipOwns_r0_congr {env : Env} {h : Hp} {K : Env → Hp → Prop} : octroilaw16_RipOwns_r0 env h K = octroilaw16_RipOwns_r0 env h K := rfl

/-- more.go:10 -/
def octroilaw16_RipOwns_r1 (env : Env) (h : Hp) (K : Env → Hp → Prop) : Prop :=
  Ok Try.prog 9 #[] h fun v20_0 h1 =>
  K ((env.set 20 v20_0).set 9 v20_0) h1
@[congr] theorem octroilaw16_RipOwns_r1_congr {env : Env} {h : Hp} {K : Env → Hp → Prop} : octroilaw16_RipOwns_r1 env h K = octroilaw16_RipOwns_r1 env h K := rfl

/-- more.go:11 -/
def octroilaw16_RipOwns_r2 (env : Env) (h : Hp) (K : Env → Hp → Prop) : Prop :=
  Ok Try.prog 14 #[(env 2)] h fun v22_1 h1 =>
  K (((env.set 21 (env 2)).set 22 v22_1).set 10 v22_1) h1
@[congr] theorem octroilaw16_RipOwns_r2_congr {env : Env} {h : Hp} {K : Env → Hp → Prop} : octroilaw16_RipOwns_r2 env h K = octroilaw16_RipOwns_r2 env h K := rfl

/-- more.go:12 -/
def octroilaw16_RipOwns_r3 (env : Env) (h : Hp) (K : Env → Hp → Prop) : Prop :=
  Ok Try.prog 10 #[(Go.Value.int Go.IntKind.i64 0), (Go.Value.int Go.IntKind.i64 64)] h fun v23_0 h1 =>
  K ((env.set 23 v23_0).set 11 v23_0) h1
@[congr] theorem octroilaw16_RipOwns_r3_congr {env : Env} {h : Hp} {K : Env → Hp → Prop} : octroilaw16_RipOwns_r3 env h K = octroilaw16_RipOwns_r3 env h K := rfl

/-- more.go:13 -/
def octroilaw16_RipOwns_r4 (env : Env) (h : Hp) (K : Env → Hp → Prop) : Prop :=
  rd Try.prog (Op.unary Go.UnOp.not (env 9)) noHp fun v25_1 =>
  gd (yb v25_1 == some false) (fun h k => k (env 10) h) h fun v27_3 h1 =>
  gd (yb v25_1 == some false) (fun h k => rd Try.prog (Op.unary Go.UnOp.not v27_3) noHp fun v => k v h) h1 fun v28_4 h2 =>
  rd Try.prog (pck v25_1 (Go.Value.bool true) v28_4) noHp fun v29_5 =>
  gd (yb v29_5 == some false) (fun h k => k (env 11) h) h2 fun v31_7 h3 =>
  gd (yb v29_5 == some false) (fun h k => rd Try.prog (bop Go.BinOp.eql 26 (Go.Operand.tmp 31) (Go.Operand.const (Go.Value.pointer none)) v31_7 (Go.Value.pointer none)) noHp fun v => k v h) h3 fun v32_8 h4 =>
  rd Try.prog (pck v29_5 (Go.Value.bool true) v32_8) noHp fun v33_9 =>
  K ((((((((((env.set 24 (env 9)).set 25 v25_1).set 26 v25_1).set 27 v27_3).set 28 v28_4).set 29 v29_5).set 30 v29_5).set 31 v31_7).set 32 v32_8).set 33 v33_9) h4
@[congr] theorem octroilaw16_RipOwns_r4_congr {env : Env} {h : Hp} {K : Env → Hp → Prop} : octroilaw16_RipOwns_r4 env h K = octroilaw16_RipOwns_r4 env h K := rfl

/-- more.go:14 -/
def octroilaw16_RipOwns_r5 (env : Env) (h : Hp) (K : Env → Hp → Prop) : Prop :=
  gd (yb (env 9) == some true) (fun h k => k (env 11) h) h fun v36_2 h1 =>
  gd (yb (env 9) == some true) (fun h k => rd Try.prog (bop Go.BinOp.neq 26 (Go.Operand.tmp 36) (Go.Operand.const (Go.Value.pointer none)) v36_2 (Go.Value.pointer none)) noHp fun v => k v h) h1 fun v37_3 h2 =>
  rd Try.prog (pck (env 9) v37_3 (Go.Value.bool false)) noHp fun v38_4 =>
  K ((((((env.set 34 (env 9)).set 35 (env 9)).set 36 v36_2).set 37 v37_3).set 38 v38_4).set 8 v38_4) h2
@[congr] theorem octroilaw16_RipOwns_r5_congr {env : Env} {h : Hp} {K : Env → Hp → Prop} : octroilaw16_RipOwns_r5 env h K = octroilaw16_RipOwns_r5 env h K := rfl

/-- more.go:16 -/
def octroilaw16_RipOwns_r6 (env : Env) (h : Hp) (K : Env → Hp → Prop) : Prop :=
  rd Try.prog (Instr.loadAt 24 (env 4)) h fun v40_1 =>
  Ok Try.prog 24 #[(env 11), v40_1, (env 1), (Go.Value.int Go.IntKind.u16 0), (Go.Value.int Go.IntKind.i64 0)] h fun v42_3 h1 =>
  rd Try.prog (bop Go.BinOp.neq 28 (Go.Operand.tmp 42) (Go.Operand.const (Go.Value.int Go.IntKind.i64 0)) v42_3 (Go.Value.int Go.IntKind.i64 0)) noHp fun v43_4 =>
  K (((((env.set 39 (env 11)).set 40 v40_1).set 41 (env 1)).set 42 v42_3).set 43 v43_4) h1
@[congr] theorem octroilaw16_RipOwns_r6_congr {env : Env} {h : Hp} {K : Env → Hp → Prop} : octroilaw16_RipOwns_r6 env h K = octroilaw16_RipOwns_r6 env h K := rfl

/-- more.go:17 -/
def octroilaw16_RipOwns_r7 (env : Env) (h : Hp) (K : Env → Hp → Prop) : Prop :=
  rd Try.prog (bop Go.BinOp.lss 3 (Go.Operand.tmp 44) (Go.Operand.const (Go.Value.int Go.IntKind.i64 1)) (env 1) (Go.Value.int Go.IntKind.i64 1)) noHp fun v45_1 =>
  gd (yb v45_1 == some false) (fun h k => k (env 1) h) h fun v47_3 h1 =>
  gd (yb v45_1 == some false) (fun h k => rd Try.prog (bop Go.BinOp.gtr 3 (Go.Operand.tmp 47) (Go.Operand.const (Go.Value.int Go.IntKind.i64 15)) v47_3 (Go.Value.int Go.IntKind.i64 15)) noHp fun v => k v h) h1 fun v48_4 h2 =>
  rd Try.prog (pck v45_1 (Go.Value.bool true) v48_4) noHp fun v49_5 =>
  gd (yb v49_5 == some false) (fun h k => k (env 11) h) h2 fun v51_7 h3 =>
  gd (yb v49_5 == some false) (fun h k => Ok Try.prog 13 #[v51_7] h k) h3 fun v52_8 h4 =>
  gd (yb v49_5 == some false) (fun h k => rd Try.prog (Builtin.len_ #[35] 3 #[v52_8]) h fun v => k v h) h4 fun v53_9 h5 =>
  gd (yb v49_5 == some false) (fun h k => rd Try.prog (bop Go.BinOp.eql 3 (Go.Operand.tmp 53) (Go.Operand.const (Go.Value.int Go.IntKind.i64 0)) v53_9 (Go.Value.int Go.IntKind.i64 0)) noHp fun v => k v h) h5 fun v54_10 h6 =>
  rd Try.prog (pck v49_5 (Go.Value.bool true) v54_10) noHp fun v55_11 =>
  K (((((((((((((env.set 44 (env 1)).set 45 v45_1).set 46 v45_1).set 47 v47_3).set 48 v48_4).set 49 v49_5).set 50 v49_5).set 51 v51_7).set 52 v52_8).set 53 v53_9).set 54 v54_10).set 55 v55_11).set 8 v55_11) h6
@[congr] theorem octroilaw16_RipOwns_r7_congr {env : Env} {h : Hp} {K : Env → Hp → Prop} : octroilaw16_RipOwns_r7 env h K = octroilaw16_RipOwns_r7 env h K := rfl

/-- more.go:19 -/
def octroilaw16_RipOwns_r8 (env : Env) (h : Hp) (K : Env → Hp → Prop) : Prop :=
  K (env.set 12 (Go.Value.int Go.IntKind.i64 0)) h
@[congr] theorem octroilaw16_RipOwns_r8_congr {env : Env} {h : Hp} {K : Env → Hp → Prop} : octroilaw16_RipOwns_r8 env h K = octroilaw16_RipOwns_r8 env h K := rfl

/-- more.go:19 -/
def octroilaw16_RipOwns_r9 (env : Env) (h : Hp) (K : Env → Hp → Prop) : Prop :=
  rd Try.prog (Builtin.len_ #[42] 3 #[(env 2)]) h fun v58_2 =>
  rd Try.prog (bop Go.BinOp.lss 3 (Go.Operand.tmp 56) (Go.Operand.tmp 58) (env 12) v58_2) noHp fun v59_3 =>
  K ((((env.set 56 (env 12)).set 57 (env 2)).set 58 v58_2).set 59 v59_3) h
@[congr] theorem octroilaw16_RipOwns_r9_congr {env : Env} {h : Hp} {K : Env → Hp → Prop} : octroilaw16_RipOwns_r9 env h K = octroilaw16_RipOwns_r9 env h K := rfl

/-- more.go:20 -/
def octroilaw16_RipOwns_r10 (env : Env) (h : Hp) (K : Env → Hp → Prop) : Prop :=
  rd Try.prog (Instr.indexAt 42 (env 2) (env 12)) noHp fun v64_2 =>
  rd Try.prog (Instr.fieldAt 48 v64_2 0) noHp fun v65_3 =>
  rd Try.prog (Instr.loadAt 3 v65_3) h fun v66_4 =>
  rd Try.prog (bop Go.BinOp.geq 3 (Go.Operand.tmp 66) (Go.Operand.const (Go.Value.int Go.IntKind.i64 2)) v66_4 (Go.Value.int Go.IntKind.i64 2)) noHp fun v67_5 =>
  K ((((((env.set 62 (env 2)).set 63 (env 12)).set 64 v64_2).set 65 v65_3).set 66 v66_4).set 67 v67_5) h
@[congr] theorem octroilaw16_RipOwns_r10_congr {env : Env} {h : Hp} {K : Env → Hp → Prop} : octroilaw16_RipOwns_r10 env h K = octroilaw16_RipOwns_r10 env h K := rfl

/-- more.go:21 -/
def octroilaw16_RipOwns_r11 (env : Env) (h : Hp) (K : Env → Hp → Prop) : Prop :=
  rd Try.prog (Instr.indexAt 42 (env 2) (env 12)) noHp fun v71_3 =>
  rd Try.prog (Instr.loadAt 48 v71_3) h fun v72_4 =>
  Ok Try.prog 16 #[(env 11), v72_4] h fun v73_5 h1 =>
  K ((((((env.set 68 (env 11)).set 69 (env 2)).set 70 (env 12)).set 71 v71_3).set 72 v72_4).set 73 v73_5) h1
@[congr] theorem octroilaw16_RipOwns_r11_congr {env : Env} {h : Hp} {K : Env → Hp → Prop} : octroilaw16_RipOwns_r11 env h K = octroilaw16_RipOwns_r11 env h K := rfl

/-- more.go:19 -/
def octroilaw16_RipOwns_r12 (env : Env) (h : Hp) (K : Env → Hp → Prop) : Prop :=
  rd Try.prog (bop Go.BinOp.add 3 (Go.Operand.tmp 60) (Go.Operand.const (Go.Value.int Go.IntKind.i64 1)) (env 12) (Go.Value.int Go.IntKind.i64 1)) noHp fun v61_1 =>
  K (((env.set 60 (env 12)).set 61 v61_1).set 12 v61_1) h
@[congr] theorem octroilaw16_RipOwns_r12_congr {env : Env} {h : Hp} {K : Env → Hp → Prop} : octroilaw16_RipOwns_r12 env h K = octroilaw16_RipOwns_r12 env h K := rfl

def octroilaw16_RipOwns_L0 : Den := (sq (sq (rg octroilaw16_RipOwns_r9) (cnd (Go.Operand.tmp 59) (ex .normal) (ex (.exit 0)))) (sq (blk 1 (sq (rg octroilaw16_RipOwns_r10) (cnd (Go.Operand.tmp 67) (rg octroilaw16_RipOwns_r11) (ex .normal)))) (rg octroilaw16_RipOwns_r12)))

/-- more.go:24 -/
def octroilaw16_RipOwns_r13 (env : Env) (h : Hp) (K : Env → Hp → Prop) : Prop :=
  K (env.set 13 (Go.Value.bool false)) h
@[congr] theorem octroilaw16_RipOwns_r13_congr {env : Env} {h : Hp} {K : Env → Hp → Prop} : octroilaw16_RipOwns_r13 env h K = octroilaw16_RipOwns_r13 env h K := rfl

/-- more.go:25 -/
def octroilaw16_RipOwns_r14 (env : Env) (h : Hp) (K : Env → Hp → Prop) : Prop :=
  Ok Try.prog 13 #[(env 11)] h fun v75_1 h1 =>
  K (((env.set 74 (env 11)).set 75 v75_1).set 14 v75_1) h1
@[congr] theorem octroilaw16_RipOwns_r14_congr {env : Env} {h : Hp} {K : Env → Hp → Prop} : octroilaw16_RipOwns_r14 env h K = octroilaw16_RipOwns_r14 env h K := rfl

/-- more.go:26 -/
def octroilaw16_RipOwns_r15 (env : Env) (h : Hp) (K : Env → Hp → Prop) : Prop :=
  K (env.set 15 (Go.Value.int Go.IntKind.i64 0)) h
@[congr] theorem octroilaw16_RipOwns_r15_congr {env : Env} {h : Hp} {K : Env → Hp → Prop} : octroilaw16_RipOwns_r15 env h K = octroilaw16_RipOwns_r15 env h K := rfl

/-- more.go:26 -/
def octroilaw16_RipOwns_r16 (env : Env) (h : Hp) (K : Env → Hp → Prop) : Prop :=
  rd Try.prog (Builtin.len_ #[35] 3 #[(env 14)]) h fun v78_2 =>
  rd Try.prog (bop Go.BinOp.lss 3 (Go.Operand.tmp 76) (Go.Operand.tmp 78) (env 15) v78_2) noHp fun v79_3 =>
  K ((((env.set 76 (env 15)).set 77 (env 14)).set 78 v78_2).set 79 v79_3) h
@[congr] theorem octroilaw16_RipOwns_r16_congr {env : Env} {h : Hp} {K : Env → Hp → Prop} : octroilaw16_RipOwns_r16 env h K = octroilaw16_RipOwns_r16 env h K := rfl

/-- more.go:27 (in any order) -/
def octroilaw16_RipOwns_r17 (env : Env) (h : Hp) (K : Env → Hp → Prop) : Prop :=
  gd (yb (env 13) == some false) (fun h k => k (env 14) h) h fun v84_2 h1 =>
  gd (yb (env 13) == some false) (fun h k => k (env 15) h) h1 fun v85_3 h2 =>
  gd (yb (env 13) == some false) (fun h k => rd Try.prog (Instr.indexAt 35 v84_2 v85_3) noHp fun v => k v h) h2 fun v86_4 h3 =>
  gd (yb (env 13) == some false) (fun h k => rd Try.prog (Instr.fieldAt 38 v86_4 0) noHp fun v => k v h) h3 fun v87_5 h4 =>
  gd (yb (env 13) == some false) (fun h k => rd Try.prog (Instr.loadAt 24 v87_5) h fun v => k v h) h4 fun v88_6 h5 =>
  gd (yb (env 13) == some false) (fun h k => rd Try.prog (Instr.loadAt 24 (env 4)) h fun v => k v h) h5 fun v89_7 h6 =>
  gd (yb (env 13) == some false) (fun h k => rd Try.prog (bop Go.BinOp.eql 24 (Go.Operand.tmp 88) (Go.Operand.tmp 89) v88_6 v89_7) noHp fun v => k v h) h6 fun v90_8 h7 =>
  gd (yb (env 13) == some false) (fun h k => k v90_8 h) h7 fun v91_9 h8 =>
  gd (yb v91_9 == some true) (fun h k => k (env 14) h) h8 fun v92_10 h9 =>
  gd (yb v91_9 == some true) (fun h k => k (env 15) h) h9 fun v93_11 h10 =>
  gd (yb v91_9 == some true) (fun h k => rd Try.prog (Instr.indexAt 35 v92_10 v93_11) noHp fun v => k v h) h10 fun v94_12 h11 =>
  gd (yb v91_9 == some true) (fun h k => rd Try.prog (Instr.fieldAt 38 v94_12 4) noHp fun v => k v h) h11 fun v95_13 h12 =>
  gd (yb v91_9 == some true) (fun h k => rd Try.prog (Instr.loadAt 3 v95_13) h fun v => k v h) h12 fun v96_14 h13 =>
  gd (yb v91_9 == some true) (fun h k => rd Try.prog (bop Go.BinOp.eql 3 (Go.Operand.tmp 96) (Go.Operand.const (Go.Value.int Go.IntKind.i64 0)) v96_14 (Go.Value.int Go.IntKind.i64 0)) noHp fun v => k v h) h13 fun v97_15 h14 =>
  gd (yb (env 13) == some false) (fun h k => rd Try.prog (pck v91_9 v97_15 (Go.Value.bool false)) noHp fun v => k v h) h14 fun v98_16 h15 =>
  gd (yb (env 13) == some false) (fun h k => k v98_16 h) h15 fun v99_17 h16 =>
  gd (yb v99_17 == some true) (fun h k => k (env 14) h) h16 fun v100_18 h17 =>
  gd (yb v99_17 == some true) (fun h k => k (env 15) h) h17 fun v101_19 h18 =>
  gd (yb v99_17 == some true) (fun h k => rd Try.prog (Instr.indexAt 35 v100_18 v101_19) noHp fun v => k v h) h18 fun v102_20 h19 =>
  gd (yb v99_17 == some true) (fun h k => rd Try.prog (Instr.fieldAt 38 v102_20 3) noHp fun v => k v h) h19 fun v103_21 h20 =>
  gd (yb v99_17 == some true) (fun h k => rd Try.prog (Instr.loadAt 3 v103_21) h fun v => k v h) h20 fun v104_22 h21 =>
  gd (yb v99_17 == some true) (fun h k => k (env 1) h) h21 fun v105_23 h22 =>
  gd (yb v99_17 == some true) (fun h k => rd Try.prog (bop Go.BinOp.eql 3 (Go.Operand.tmp 104) (Go.Operand.tmp 105) v104_22 v105_23) noHp fun v => k v h) h22 fun v106_24 h23 =>
  gd (yb (env 13) == some false) (fun h k => rd Try.prog (pck v99_17 v106_24 (Go.Value.bool false)) noHp fun v => k v h) h23 fun v107_25 h24 =>
  gd (yb (env 13) == some false) (fun h k => k v107_25 h) h24 fun v108_26 h25 =>
  gd (yb v108_26 == some true) (fun h k => k (env 14) h) h25 fun v109_27 h26 =>
  gd (yb v108_26 == some true) (fun h k => k (env 15) h) h26 fun v110_28 h27 =>
  gd (yb v108_26 == some true) (fun h k => rd Try.prog (Instr.indexAt 35 v109_27 v110_28) noHp fun v => k v h) h27 fun v111_29 h28 =>
  gd (yb v108_26 == some true) (fun h k => rd Try.prog (Instr.fieldAt 38 v111_29 5) noHp fun v => k v h) h28 fun v112_30 h29 =>
  gd (yb v108_26 == some true) (fun h k => rd Try.prog (Instr.loadAt 31 v112_30) h fun v => k v h) h29 fun v113_31 h30 =>
  gd (yb v108_26 == some true) (fun h k => rd Try.prog (bop Go.BinOp.eql 31 (Go.Operand.tmp 113) (Go.Operand.const (Go.Value.int Go.IntKind.u16 0)) v113_31 (Go.Value.int Go.IntKind.u16 0)) noHp fun v => k v h) h30 fun v114_32 h31 =>
  gd (yb (env 13) == some false) (fun h k => rd Try.prog (pck v108_26 v114_32 (Go.Value.bool false)) noHp fun v => k v h) h31 fun v115_33 h32 =>
  rd Try.prog (pck (env 13) (Go.Value.bool true) v115_33) noHp fun v116_34 =>
  K ((((((((((((((((((((((((((((((((((((env.set 82 (env 13)).set 83 (env 13)).set 84 v84_2).set 85 v85_3).set 86 v86_4).set 87 v87_5).set 88 v88_6).set 89 v89_7).set 90 v90_8).set 91 v91_9).set 92 v92_10).set 93 v93_11).set 94 v94_12).set 95 v95_13).set 96 v96_14).set 97 v97_15).set 98 v98_16).set 99 v99_17).set 100 v100_18).set 101 v101_19).set 102 v102_20).set 103 v103_21).set 104 v104_22).set 105 v105_23).set 106 v106_24).set 107 v107_25).set 108 v108_26).set 109 v109_27).set 110 v110_28).set 111 v111_29).set 112 v112_30).set 113 v113_31).set 114 v114_32).set 115 v115_33).set 116 v116_34).set 13 v116_34) h32
@[congr] theorem octroilaw16_RipOwns_r17_congr {env : Env} {h : Hp} {K : Env → Hp → Prop} : octroilaw16_RipOwns_r17 env h K = octroilaw16_RipOwns_r17 env h K := rfl

/-- more.go:26 -/
def octroilaw16_RipOwns_r18 (env : Env) (h : Hp) (K : Env → Hp → Prop) : Prop :=
  rd Try.prog (bop Go.BinOp.add 3 (Go.Operand.tmp 80) (Go.Operand.const (Go.Value.int Go.IntKind.i64 1)) (env 15) (Go.Value.int Go.IntKind.i64 1)) noHp fun v81_1 =>
  K (((env.set 80 (env 15)).set 81 v81_1).set 15 v81_1) h
@[congr] theorem octroilaw16_RipOwns_r18_congr {env : Env} {h : Hp} {K : Env → Hp → Prop} : octroilaw16_RipOwns_r18 env h K = octroilaw16_RipOwns_r18 env h K := rfl

def octroilaw16_RipOwns_L1 : Den := (sq (sq (rg octroilaw16_RipOwns_r16) (cnd (Go.Operand.tmp 79) (ex .normal) (ex (.exit 2)))) (sq (blk 3 (rg octroilaw16_RipOwns_r17)) (rg octroilaw16_RipOwns_r18)))

/-- more.go:29 -/
def octroilaw16_RipOwns_r19 (env : Env) (h : Hp) (K : Env → Hp → Prop) : Prop :=
  rd Try.prog (Instr.loadAt 24 (env 4)) h fun v118_1 =>
  Ok Try.prog 25 #[(env 11), v118_1, (Go.Value.int Go.IntKind.i64 0)] h fun v119_2 h1 =>
  K ((((env.set 117 (env 11)).set 118 v118_1).set 119 v119_2).set 16 v119_2) h1
@[congr] theorem octroilaw16_RipOwns_r19_congr {env : Env} {h : Hp} {K : Env → Hp → Prop} : octroilaw16_RipOwns_r19 env h K = octroilaw16_RipOwns_r19 env h K := rfl

/-- more.go:30 -/
def octroilaw16_RipOwns_r20 (env : Env) (h : Hp) (K : Env → Hp → Prop) : Prop :=
  Ok Try.prog 21 #[(env 11), (env 3)] h fun v122_2 h1 =>
  K ((((env.set 120 (env 11)).set 121 (env 3)).set 122 v122_2).set 17 v122_2) h1
@[congr] theorem octroilaw16_RipOwns_r20_congr {env : Env} {h : Hp} {K : Env → Hp → Prop} : octroilaw16_RipOwns_r20 env h K = octroilaw16_RipOwns_r20 env h K := rfl

/-- more.go:31 -/
def octroilaw16_RipOwns_r21 (env : Env) (h : Hp) (K : Env → Hp → Prop) : Prop :=
  K (env.set 18 (Go.Value.bool false)) h
@[congr] theorem octroilaw16_RipOwns_r21_congr {env : Env} {h : Hp} {K : Env → Hp → Prop} : octroilaw16_RipOwns_r21 env h K = octroilaw16_RipOwns_r21 env h K := rfl

/-- more.go:32 -/
def octroilaw16_RipOwns_r22 (env : Env) (h : Hp) (K : Env → Hp → Prop) : Prop :=
  K (env.set 19 (Go.Value.int Go.IntKind.i64 0)) h
@[congr] theorem octroilaw16_RipOwns_r22_congr {env : Env} {h : Hp} {K : Env → Hp → Prop} : octroilaw16_RipOwns_r22 env h K = octroilaw16_RipOwns_r22 env h K := rfl

/-- more.go:32 -/
def octroilaw16_RipOwns_r23 (env : Env) (h : Hp) (K : Env → Hp → Prop) : Prop :=
  rd Try.prog (Builtin.len_ #[52] 3 #[(env 17)]) h fun v125_2 =>
  rd Try.prog (bop Go.BinOp.lss 3 (Go.Operand.tmp 123) (Go.Operand.tmp 125) (env 19) v125_2) noHp fun v126_3 =>
  K ((((env.set 123 (env 19)).set 124 (env 17)).set 125 v125_2).set 126 v126_3) h
@[congr] theorem octroilaw16_RipOwns_r23_congr {env : Env} {h : Hp} {K : Env → Hp → Prop} : octroilaw16_RipOwns_r23 env h K = octroilaw16_RipOwns_r23 env h K := rfl

/-- more.go:33 (in any order) -/
def octroilaw16_RipOwns_r24 (env : Env) (h : Hp) (K : Env → Hp → Prop) : Prop :=
  gd (yb (env 18) == some false) (fun h k => k (env 17) h) h fun v131_2 h1 =>
  gd (yb (env 18) == some false) (fun h k => k (env 19) h) h1 fun v132_3 h2 =>
  gd (yb (env 18) == some false) (fun h k => rd Try.prog (Instr.indexAt 52 v131_2 v132_3) noHp fun v => k v h) h2 fun v133_4 h3 =>
  gd (yb (env 18) == some false) (fun h k => rd Try.prog (Instr.fieldAt 33 v133_4 0) noHp fun v => k v h) h3 fun v134_5 h4 =>
  gd (yb (env 18) == some false) (fun h k => rd Try.prog (Instr.loadAt 24 v134_5) h fun v => k v h) h4 fun v135_6 h5 =>
  gd (yb (env 18) == some false) (fun h k => rd Try.prog (Instr.loadAt 24 (env 4)) h fun v => k v h) h5 fun v136_7 h6 =>
  gd (yb (env 18) == some false) (fun h k => rd Try.prog (bop Go.BinOp.eql 24 (Go.Operand.tmp 135) (Go.Operand.tmp 136) v135_6 v136_7) noHp fun v => k v h) h6 fun v137_8 h7 =>
  gd (yb (env 18) == some false) (fun h k => k v137_8 h) h7 fun v138_9 h8 =>
  gd (yb v138_9 == some true) (fun h k => k (env 17) h) h8 fun v139_10 h9 =>
  gd (yb v138_9 == some true) (fun h k => k (env 19) h) h9 fun v140_11 h10 =>
  gd (yb v138_9 == some true) (fun h k => rd Try.prog (Instr.indexAt 52 v139_10 v140_11) noHp fun v => k v h) h10 fun v141_12 h11 =>
  gd (yb v138_9 == some true) (fun h k => rd Try.prog (Instr.fieldAt 33 v141_12 3) noHp fun v => k v h) h11 fun v142_13 h12 =>
  gd (yb v138_9 == some true) (fun h k => rd Try.prog (Instr.loadAt 3 v142_13) h fun v => k v h) h12 fun v143_14 h13 =>
  gd (yb v138_9 == some true) (fun h k => rd Try.prog (bop Go.BinOp.eql 3 (Go.Operand.tmp 143) (Go.Operand.const (Go.Value.int Go.IntKind.i64 16)) v143_14 (Go.Value.int Go.IntKind.i64 16)) noHp fun v => k v h) h13 fun v144_15 h14 =>
  gd (yb (env 18) == some false) (fun h k => rd Try.prog (pck v138_9 v144_15 (Go.Value.bool false)) noHp fun v => k v h) h14 fun v145_16 h15 =>
  rd Try.prog (pck (env 18) (Go.Value.bool true) v145_16) noHp fun v146_17 =>
  K (((((((((((((((((((env.set 129 (env 18)).set 130 (env 18)).set 131 v131_2).set 132 v132_3).set 133 v133_4).set 134 v134_5).set 135 v135_6).set 136 v136_7).set 137 v137_8).set 138 v138_9).set 139 v139_10).set 140 v140_11).set 141 v141_12).set 142 v142_13).set 143 v143_14).set 144 v144_15).set 145 v145_16).set 146 v146_17).set 18 v146_17) h15
@[congr] theorem octroilaw16_RipOwns_r24_congr {env : Env} {h : Hp} {K : Env → Hp → Prop} : octroilaw16_RipOwns_r24 env h K = octroilaw16_RipOwns_r24 env h K := rfl

/-- more.go:32 -/
def octroilaw16_RipOwns_r25 (env : Env) (h : Hp) (K : Env → Hp → Prop) : Prop :=
  rd Try.prog (bop Go.BinOp.add 3 (Go.Operand.tmp 127) (Go.Operand.const (Go.Value.int Go.IntKind.i64 1)) (env 19) (Go.Value.int Go.IntKind.i64 1)) noHp fun v128_1 =>
  K (((env.set 127 (env 19)).set 128 v128_1).set 19 v128_1) h
@[congr] theorem octroilaw16_RipOwns_r25_congr {env : Env} {h : Hp} {K : Env → Hp → Prop} : octroilaw16_RipOwns_r25 env h K = octroilaw16_RipOwns_r25 env h K := rfl

def octroilaw16_RipOwns_L2 : Den := (sq (sq (rg octroilaw16_RipOwns_r23) (cnd (Go.Operand.tmp 126) (ex .normal) (ex (.exit 4)))) (sq (blk 5 (rg octroilaw16_RipOwns_r24)) (rg octroilaw16_RipOwns_r25)))

/-- more.go:35 -/
def octroilaw16_RipOwns_r26 (env : Env) (h : Hp) (K : Env → Hp → Prop) : Prop :=
  gd (yb (env 13) == some true) (fun h k => k (env 16) h) h fun v149_2 h1 =>
  gd (yb (env 13) == some true) (fun h k => rd Try.prog (bop Go.BinOp.eql 28 (Go.Operand.tmp 149) (Go.Operand.const (Go.Value.int Go.IntKind.i64 0)) v149_2 (Go.Value.int Go.IntKind.i64 0)) noHp fun v => k v h) h1 fun v150_3 h2 =>
  rd Try.prog (pck (env 13) v150_3 (Go.Value.bool false)) noHp fun v151_4 =>
  gd (yb v151_4 == some true) (fun h k => k (env 18) h) h2 fun v153_6 h3 =>
  rd Try.prog (pck v151_4 v153_6 (Go.Value.bool false)) noHp fun v154_7 =>
  gd (yb v154_7 == some true) (fun h k => k (env 11) h) h3 fun v156_9 h4 =>
  gd (yb v154_7 == some true) (fun h k => rd Try.prog (Instr.loadAt 24 (env 4)) h fun v => k v h) h4 fun v157_10 h5 =>
  gd (yb v154_7 == some true) (fun h k => Ok Try.prog 25 #[v156_9, v157_10, (Go.Value.int Go.IntKind.i64 0)] h k) h5 fun v158_11 h6 =>
  gd (yb v154_7 == some true) (fun h k => rd Try.prog (bop Go.BinOp.eql 28 (Go.Operand.tmp 158) (Go.Operand.const (Go.Value.int Go.IntKind.i64 5)) v158_11 (Go.Value.int Go.IntKind.i64 5)) noHp fun v => k v h) h6 fun v159_12 h7 =>
  rd Try.prog (pck v154_7 v159_12 (Go.Value.bool false)) noHp fun v160_13 =>
  K (((((((((((((((env.set 147 (env 13)).set 148 (env 13)).set 149 v149_2).set 150 v150_3).set 151 v151_4).set 152 v151_4).set 153 v153_6).set 154 v154_7).set 155 v154_7).set 156 v156_9).set 157 v157_10).set 158 v158_11).set 159 v159_12).set 160 v160_13).set 8 v160_13) h7
@[congr] theorem octroilaw16_RipOwns_r26_congr {env : Env} {h : Hp} {K : Env → Hp → Prop} : octroilaw16_RipOwns_r26 env h K = octroilaw16_RipOwns_r26 env h K := rfl

def octroilaw16_RipOwns_D : Den := (sq (rg octroilaw16_RipOwns_r0) (sq (rg octroilaw16_RipOwns_r1) (sq (rg octroilaw16_RipOwns_r2) (sq (rg octroilaw16_RipOwns_r3) (sq (sq (rg octroilaw16_RipOwns_r4) (cnd (Go.Operand.tmp 33) (sq (rg octroilaw16_RipOwns_r5) (ex .ret)) (ex .normal))) (sq (sq (rg octroilaw16_RipOwns_r6) (cnd (Go.Operand.tmp 43) (sq (rg octroilaw16_RipOwns_r7) (ex .ret)) (ex .normal))) (sq (sq (rg octroilaw16_RipOwns_r8) (blk 0 (lp octroilaw16_RipOwns_L0))) (sq (rg octroilaw16_RipOwns_r13) (sq (rg octroilaw16_RipOwns_r14) (sq (sq (rg octroilaw16_RipOwns_r15) (blk 2 (lp octroilaw16_RipOwns_L1))) (sq (rg octroilaw16_RipOwns_r19) (sq (rg octroilaw16_RipOwns_r20) (sq (rg octroilaw16_RipOwns_r21) (sq (sq (rg octroilaw16_RipOwns_r22) (blk 4 (lp octroilaw16_RipOwns_L2))) (sq (rg octroilaw16_RipOwns_r26) (ex .ret))))))))))))))))

theorem octroilaw16_RipOwns_eq : (den Try.prog 161 octroilaw16_RipOwns_code).1 = octroilaw16_RipOwns_D := by kernel_rfl

theorem octroilaw16_RipOwns_ok {args : Array Value} {h : Hp} {Q : Value → Hp → Prop} (hn : args.size ≤ 161) (D : octroilaw16_RipOwns_D (fin Try.prog [(Go.ResultVar.tmp 8)] Q) (env0 args) h) : Ok Try.prog 8 args h Q :=
  ok_of_den progIsOk Try.func8 (c := octroilaw16_RipOwns_code) (by kernel_rfl) hn (by show (den Try.prog 161 octroilaw16_RipOwns_code).1 _ _ _; rw [octroilaw16_RipOwns_eq]; exact D)

/-! ### octroi/octroilaw16.awake: function 9 -/
noncomputable def octroilaw16_awake_code : Code := match Try.f9.body with | some c => c | none => .skip

/-- law.go:20 -/
def octroilaw16_awake_r0 (env : Env) (h : Hp) (K : Env → Hp → Prop) : Prop :=
  K (env.set 0 (Go.Value.bool false)) h
@[congr] theorem octroilaw16_awake_r0_congr {env : Env} {h : Hp} {K : Env → Hp → Prop} : octroilaw16_awake_r0 env h K = octroilaw16_awake_r0 env h K := rfl

/-- law.go:21 -/
def octroilaw16_awake_r1 (env : Env) (h : Hp) (K : Env → Hp → Prop) : Prop :=
  Ok Try.prog 10 #[(Go.Value.int Go.IntKind.i64 0), (Go.Value.int Go.IntKind.i64 10)] h fun v9_0 h1 =>
  K ((env.set 9 v9_0).set 1 v9_0) h1
@[congr] theorem octroilaw16_awake_r1_congr {env : Env} {h : Hp} {K : Env → Hp → Prop} : octroilaw16_awake_r1 env h K = octroilaw16_awake_r1 env h K := rfl

/-- law.go:22 -/
def octroilaw16_awake_r2 (env : Env) (h : Hp) (K : Env → Hp → Prop) : Prop :=
  rd Try.prog (bop Go.BinOp.eql 26 (Go.Operand.tmp 10) (Go.Operand.const (Go.Value.pointer none)) (env 1) (Go.Value.pointer none)) noHp fun v11_1 =>
  K ((env.set 10 (env 1)).set 11 v11_1) h
@[congr] theorem octroilaw16_awake_r2_congr {env : Env} {h : Hp} {K : Env → Hp → Prop} : octroilaw16_awake_r2 env h K = octroilaw16_awake_r2 env h K := rfl

/-- law.go:23 -/
def octroilaw16_awake_r3 (env : Env) (h : Hp) (K : Env → Hp → Prop) : Prop :=
  K (env.set 0 (Go.Value.bool false)) h
@[congr] theorem octroilaw16_awake_r3_congr {env : Env} {h : Hp} {K : Env → Hp → Prop} : octroilaw16_awake_r3 env h K = octroilaw16_awake_r3 env h K := rfl

/-- law.go:25 -/
def octroilaw16_awake_r4 (env : Env) (h : Hp) (K : Env → Hp → Prop) : Prop :=
  rd Try.prog (Instr.build 24 #[(0, (Go.Value.int Go.IntKind.u32 167772160)), (1, (Go.Value.int Go.IntKind.i64 8))]) noHp fun v12_0 =>
  arun Try.prog (Instr.alloc 24 true (Go.Value.tuple #[])) h fun v2_1 h1 =>
  arun Try.prog (Instr.storeAt 24 v2_1 v12_0) h1 fun _ h2 =>
  K ((env.set 12 v12_0).set 2 v2_1) h2
@[congr] theorem octroilaw16_awake_r4_congr {env : Env} {h : Hp} {K : Env → Hp → Prop} : octroilaw16_awake_r4 env h K = octroilaw16_awake_r4 env h K := rfl

/-- law.go:26 -/
def octroilaw16_awake_r5 (env : Env) (h : Hp) (K : Env → Hp → Prop) : Prop :=
  rd Try.prog (Instr.loadAt 24 (env 2)) h fun v15_1 =>
  rd Try.prog (Instr.build 33 #[(0, v15_1), (3, (Go.Value.int Go.IntKind.i64 3))]) noHp fun v16_2 =>
  Ok Try.prog 11 #[(env 1), (Go.Value.int Go.IntKind.i64 2), (Go.Value.int Go.IntKind.i64 1), v16_2, (Go.Value.int Go.IntKind.i64 0)] h fun v17_3 h1 =>
  rd Try.prog (Instr.extract v17_3 0) noHp fun v18_5 =>
  rd Try.prog (Instr.extract v17_3 1) noHp fun v19_6 =>
  K (((((((((env.set 14 (env 1)).set 15 v15_1).set 16 v16_2).set 17 v17_3).set 13 v17_3).set 18 v18_5).set 19 v19_6).set 3 v18_5).set 4 v19_6) h1
@[congr] theorem octroilaw16_awake_r5_congr {env : Env} {h : Hp} {K : Env → Hp → Prop} : octroilaw16_awake_r5 env h K = octroilaw16_awake_r5 env h K := rfl

/-- law.go:27 -/
def octroilaw16_awake_r6 (env : Env) (h : Hp) (K : Env → Hp → Prop) : Prop :=
  Ok Try.prog 13 #[(env 1)] h fun v21_1 h1 =>
  K (((env.set 20 (env 1)).set 21 v21_1).set 5 v21_1) h1
@[congr] theorem octroilaw16_awake_r6_congr {env : Env} {h : Hp} {K : Env → Hp → Prop} : octroilaw16_awake_r6 env h K = octroilaw16_awake_r6 env h K := rfl

/-- law.go:28 -/
def octroilaw16_awake_r7 (env : Env) (h : Hp) (K : Env → Hp → Prop) : Prop :=
  Ok Try.prog 21 #[(env 1), (Go.Value.int Go.IntKind.i64 2)] h fun v23_1 h1 =>
  K (((env.set 22 (env 1)).set 23 v23_1).set 6 v23_1) h1
@[congr] theorem octroilaw16_awake_r7_congr {env : Env} {h : Hp} {K : Env → Hp → Prop} : octroilaw16_awake_r7 env h K = octroilaw16_awake_r7 env h K := rfl

/-- law.go:29 -/
def octroilaw16_awake_r8 (env : Env) (h : Hp) (K : Env → Hp → Prop) : Prop :=
  Ok Try.prog 21 #[(env 1), (Go.Value.int Go.IntKind.i64 3)] h fun v25_1 h1 =>
  K (((env.set 24 (env 1)).set 25 v25_1).set 7 v25_1) h1
@[congr] theorem octroilaw16_awake_r8_congr {env : Env} {h : Hp} {K : Env → Hp → Prop} : octroilaw16_awake_r8 env h K = octroilaw16_awake_r8 env h K := rfl

/-- law.go:30 -/
def octroilaw16_awake_r9 (env : Env) (h : Hp) (K : Env → Hp → Prop) : Prop :=
  rd Try.prog (Builtin.len_ #[35] 3 #[(env 5)]) h fun v27_1 =>
  rd Try.prog (bop Go.BinOp.neq 3 (Go.Operand.tmp 27) (Go.Operand.const (Go.Value.int Go.IntKind.i64 1)) v27_1 (Go.Value.int Go.IntKind.i64 1)) noHp fun v28_2 =>
  gd (yb v28_2 == some false) (fun h k => k (env 6) h) h fun v30_4 h1 =>
  gd (yb v28_2 == some false) (fun h k => rd Try.prog (Builtin.len_ #[52] 3 #[v30_4]) h fun v => k v h) h1 fun v31_5 h2 =>
  gd (yb v28_2 == some false) (fun h k => rd Try.prog (bop Go.BinOp.neq 3 (Go.Operand.tmp 31) (Go.Operand.const (Go.Value.int Go.IntKind.i64 1)) v31_5 (Go.Value.int Go.IntKind.i64 1)) noHp fun v => k v h) h2 fun v32_6 h3 =>
  rd Try.prog (pck v28_2 (Go.Value.bool true) v32_6) noHp fun v33_7 =>
  gd (yb v33_7 == some false) (fun h k => k (env 7) h) h3 fun v35_9 h4 =>
  gd (yb v33_7 == some false) (fun h k => rd Try.prog (Builtin.len_ #[52] 3 #[v35_9]) h fun v => k v h) h4 fun v36_10 h5 =>
  gd (yb v33_7 == some false) (fun h k => rd Try.prog (bop Go.BinOp.neq 3 (Go.Operand.tmp 36) (Go.Operand.const (Go.Value.int Go.IntKind.i64 1)) v36_10 (Go.Value.int Go.IntKind.i64 1)) noHp fun v => k v h) h5 fun v37_11 h6 =>
  rd Try.prog (pck v33_7 (Go.Value.bool true) v37_11) noHp fun v38_12 =>
  K (((((((((((((env.set 26 (env 5)).set 27 v27_1).set 28 v28_2).set 29 v28_2).set 30 v30_4).set 31 v31_5).set 32 v32_6).set 33 v33_7).set 34 v33_7).set 35 v35_9).set 36 v36_10).set 37 v37_11).set 38 v38_12) h6
@[congr] theorem octroilaw16_awake_r9_congr {env : Env} {h : Hp} {K : Env → Hp → Prop} : octroilaw16_awake_r9 env h K = octroilaw16_awake_r9 env h K := rfl

/-- law.go:31 -/
def octroilaw16_awake_r10 (env : Env) (h : Hp) (K : Env → Hp → Prop) : Prop :=
  K (env.set 0 (Go.Value.bool false)) h
@[congr] theorem octroilaw16_awake_r10_congr {env : Env} {h : Hp} {K : Env → Hp → Prop} : octroilaw16_awake_r10 env h K = octroilaw16_awake_r10 env h K := rfl

/-- law.go:33 -/
def octroilaw16_awake_r11 (env : Env) (h : Hp) (K : Env → Hp → Prop) : Prop :=
  Ok Try.prog 26 #[(env 1), (Go.Value.int Go.IntKind.i64 180)] h fun v40_1 h1 =>
  K (((env.set 39 (env 1)).set 40 v40_1).set 8 v40_1) h1
@[congr] theorem octroilaw16_awake_r11_congr {env : Env} {h : Hp} {K : Env → Hp → Prop} : octroilaw16_awake_r11 env h K = octroilaw16_awake_r11 env h K := rfl

/-- law.go:34 -/
def octroilaw16_awake_r12 (env : Env) (h : Hp) (K : Env → Hp → Prop) : Prop :=
  gd (yb (env 3) == some true) (fun h k => k (env 4) h) h fun v43_2 h1 =>
  gd (yb (env 3) == some true) (fun h k => rd Try.prog (bop Go.BinOp.eql 28 (Go.Operand.tmp 43) (Go.Operand.const (Go.Value.int Go.IntKind.i64 0)) v43_2 (Go.Value.int Go.IntKind.i64 0)) noHp fun v => k v h) h1 fun v44_3 h2 =>
  rd Try.prog (pck (env 3) v44_3 (Go.Value.bool false)) noHp fun v45_4 =>
  gd (yb v45_4 == some true) (fun h k => k (env 5) h) h2 fun v47_6 h3 =>
  gd (yb v45_4 == some true) (fun h k => rd Try.prog (Instr.indexAt 35 v47_6 (Go.Value.int Go.IntKind.i64 0)) noHp fun v => k v h) h3 fun v48_7 h4 =>
  gd (yb v45_4 == some true) (fun h k => rd Try.prog (Instr.fieldAt 38 v48_7 3) noHp fun v => k v h) h4 fun v49_8 h5 =>
  gd (yb v45_4 == some true) (fun h k => rd Try.prog (Instr.loadAt 3 v49_8) h fun v => k v h) h5 fun v50_9 h6 =>
  gd (yb v45_4 == some true) (fun h k => rd Try.prog (bop Go.BinOp.eql 3 (Go.Operand.tmp 50) (Go.Operand.const (Go.Value.int Go.IntKind.i64 4)) v50_9 (Go.Value.int Go.IntKind.i64 4)) noHp fun v => k v h) h6 fun v51_10 h7 =>
  rd Try.prog (pck v45_4 v51_10 (Go.Value.bool false)) noHp fun v52_11 =>
  gd (yb v52_11 == some true) (fun h k => k (env 5) h) h7 fun v54_13 h8 =>
  gd (yb v52_11 == some true) (fun h k => rd Try.prog (Instr.indexAt 35 v54_13 (Go.Value.int Go.IntKind.i64 0)) noHp fun v => k v h) h8 fun v55_14 h9 =>
  gd (yb v52_11 == some true) (fun h k => rd Try.prog (Instr.fieldAt 38 v55_14 4) noHp fun v => k v h) h9 fun v56_15 h10 =>
  gd (yb v52_11 == some true) (fun h k => rd Try.prog (Instr.loadAt 3 v56_15) h fun v => k v h) h10 fun v57_16 h11 =>
  gd (yb v52_11 == some true) (fun h k => rd Try.prog (bop Go.BinOp.eql 3 (Go.Operand.tmp 57) (Go.Operand.const (Go.Value.int Go.IntKind.i64 2)) v57_16 (Go.Value.int Go.IntKind.i64 2)) noHp fun v => k v h) h11 fun v58_17 h12 =>
  rd Try.prog (pck v52_11 v58_17 (Go.Value.bool false)) noHp fun v59_18 =>
  gd (yb v59_18 == some true) (fun h k => k (env 6) h) h12 fun v61_20 h13 =>
  gd (yb v59_18 == some true) (fun h k => rd Try.prog (Instr.indexAt 52 v61_20 (Go.Value.int Go.IntKind.i64 0)) noHp fun v => k v h) h13 fun v62_21 h14 =>
  gd (yb v59_18 == some true) (fun h k => rd Try.prog (Instr.fieldAt 33 v62_21 3) noHp fun v => k v h) h14 fun v63_22 h15 =>
  gd (yb v59_18 == some true) (fun h k => rd Try.prog (Instr.loadAt 3 v63_22) h fun v => k v h) h15 fun v64_23 h16 =>
  gd (yb v59_18 == some true) (fun h k => rd Try.prog (bop Go.BinOp.eql 3 (Go.Operand.tmp 64) (Go.Operand.const (Go.Value.int Go.IntKind.i64 16)) v64_23 (Go.Value.int Go.IntKind.i64 16)) noHp fun v => k v h) h16 fun v65_24 h17 =>
  rd Try.prog (pck v59_18 v65_24 (Go.Value.bool false)) noHp fun v66_25 =>
  gd (yb v66_25 == some true) (fun h k => k (env 7) h) h17 fun v68_27 h18 =>
  gd (yb v66_25 == some true) (fun h k => rd Try.prog (Instr.indexAt 52 v68_27 (Go.Value.int Go.IntKind.i64 0)) noHp fun v => k v h) h18 fun v69_28 h19 =>
  gd (yb v66_25 == some true) (fun h k => rd Try.prog (Instr.fieldAt 33 v69_28 3) noHp fun v => k v h) h19 fun v70_29 h20 =>
  gd (yb v66_25 == some true) (fun h k => rd Try.prog (Instr.loadAt 3 v70_29) h fun v => k v h) h20 fun v71_30 h21 =>
  gd (yb v66_25 == some true) (fun h k => rd Try.prog (bop Go.BinOp.eql 3 (Go.Operand.tmp 71) (Go.Operand.const (Go.Value.int Go.IntKind.i64 4)) v71_30 (Go.Value.int Go.IntKind.i64 4)) noHp fun v => k v h) h21 fun v72_31 h22 =>
  rd Try.prog (pck v66_25 v72_31 (Go.Value.bool false)) noHp fun v73_32 =>
  gd (yb v73_32 == some true) (fun h k => k (env 8) h) h22 fun v75_34 h23 =>
  rd Try.prog (pck v73_32 v75_34 (Go.Value.bool false)) noHp fun v76_35 =>
  gd (yb v76_35 == some true) (fun h k => k (env 1) h) h23 fun v78_37 h24 =>
  gd (yb v76_35 == some true) (fun h k => Ok Try.prog 13 #[v78_37] h k) h24 fun v79_38 h25 =>
  gd (yb v76_35 == some true) (fun h k => rd Try.prog (Builtin.len_ #[35] 3 #[v79_38]) h fun v => k v h) h25 fun v80_39 h26 =>
  gd (yb v76_35 == some true) (fun h k => rd Try.prog (bop Go.BinOp.eql 3 (Go.Operand.tmp 80) (Go.Operand.const (Go.Value.int Go.IntKind.i64 0)) v80_39 (Go.Value.int Go.IntKind.i64 0)) noHp fun v => k v h) h26 fun v81_40 h27 =>
  rd Try.prog (pck v76_35 v81_40 (Go.Value.bool false)) noHp fun v82_41 =>
  gd (yb v82_41 == some true) (fun h k => k (env 1) h) h27 fun v84_43 h28 =>
  gd (yb v82_41 == some true) (fun h k => Ok Try.prog 12 #[v84_43] h k) h28 fun v85_44 h29 =>
  gd (yb v82_41 == some true) (fun h k => rd Try.prog (bop Go.BinOp.eql 3 (Go.Operand.tmp 85) (Go.Operand.const (Go.Value.int Go.IntKind.i64 1)) v85_44 (Go.Value.int Go.IntKind.i64 1)) noHp fun v => k v h) h29 fun v86_45 h30 =>
  rd Try.prog (pck v82_41 v86_45 (Go.Value.bool false)) noHp fun v87_46 =>
  K ((((((((((((((((((((((((((((((((((((((((((((((((env.set 41 (env 3)).set 42 (env 3)).set 43 v43_2).set 44 v44_3).set 45 v45_4).set 46 v45_4).set 47 v47_6).set 48 v48_7).set 49 v49_8).set 50 v50_9).set 51 v51_10).set 52 v52_11).set 53 v52_11).set 54 v54_13).set 55 v55_14).set 56 v56_15).set 57 v57_16).set 58 v58_17).set 59 v59_18).set 60 v59_18).set 61 v61_20).set 62 v62_21).set 63 v63_22).set 64 v64_23).set 65 v65_24).set 66 v66_25).set 67 v66_25).set 68 v68_27).set 69 v69_28).set 70 v70_29).set 71 v71_30).set 72 v72_31).set 73 v73_32).set 74 v73_32).set 75 v75_34).set 76 v76_35).set 77 v76_35).set 78 v78_37).set 79 v79_38).set 80 v80_39).set 81 v81_40).set 82 v82_41).set 83 v82_41).set 84 v84_43).set 85 v85_44).set 86 v86_45).set 87 v87_46).set 0 v87_46) h30
@[congr] theorem octroilaw16_awake_r12_congr {env : Env} {h : Hp} {K : Env → Hp → Prop} : octroilaw16_awake_r12 env h K = octroilaw16_awake_r12 env h K := rfl

def octroilaw16_awake_D : Den := (sq (rg octroilaw16_awake_r0) (sq (rg octroilaw16_awake_r1) (sq (sq (rg octroilaw16_awake_r2) (cnd (Go.Operand.tmp 11) (sq (rg octroilaw16_awake_r3) (ex .ret)) (ex .normal))) (sq (rg octroilaw16_awake_r4) (sq (rg octroilaw16_awake_r5) (sq (rg octroilaw16_awake_r6) (sq (rg octroilaw16_awake_r7) (sq (rg octroilaw16_awake_r8) (sq (sq (rg octroilaw16_awake_r9) (cnd (Go.Operand.tmp 38) (sq (rg octroilaw16_awake_r10) (ex .ret)) (ex .normal))) (sq (rg octroilaw16_awake_r11) (sq (rg octroilaw16_awake_r12) (ex .ret))))))))))))

theorem octroilaw16_awake_eq : (den Try.prog 88 octroilaw16_awake_code).1 = octroilaw16_awake_D := by kernel_rfl

theorem octroilaw16_awake_ok {args : Array Value} {h : Hp} {Q : Value → Hp → Prop} (hn : args.size ≤ 88) (D : octroilaw16_awake_D (fin Try.prog [(Go.ResultVar.tmp 0)] Q) (env0 args) h) : Ok Try.prog 9 args h Q :=
  ok_of_den progIsOk Try.func9 (c := octroilaw16_awake_code) (by kernel_rfl) hn (by show (den Try.prog 88 octroilaw16_awake_code).1 _ _ _; rw [octroilaw16_awake_eq]; exact D)

/-! ### octroi/rip.New: function 10 -/
noncomputable def rip_New_code : Code := match Try.f10.body with | some c => c | none => .skip

/-- rip.go:40 -/
def rip_New_r0 (env : Env) (h : Hp) (K : Env → Hp → Prop) : Prop :=
  K (env.set 4 (Go.Value.pointer none)) h
@[congr] theorem rip_New_r0_congr {env : Env} {h : Hp} {K : Env → Hp → Prop} : rip_New_r0 env h K = rip_New_r0 env h K := rfl

/-- rip.go:41 -/
def rip_New_r1 (env : Env) (h : Hp) (K : Env → Hp → Prop) : Prop :=
  rd Try.prog (Builtin.min_ #[3, 3] 3 #[(env 1), (Go.Value.int Go.IntKind.i64 64)]) h fun v7_2 =>
  arun Try.prog (Instr.makeMap 65 none) h fun v8_3 h1 =>
  rd Try.prog (Instr.build 67 #[(0, (env 0)), (1, v7_2), (2, v8_3)]) noHp fun v9_4 =>
  arun Try.prog (Instr.box 67 v9_4) h1 fun v10_5 h2 =>
  K (((((((env.set 5 (env 0)).set 6 (env 1)).set 7 v7_2).set 8 v8_3).set 9 v9_4).set 10 v10_5).set 4 v10_5) h2
@[congr] theorem rip_New_r1_congr {env : Env} {h : Hp} {K : Env → Hp → Prop} : rip_New_r1 env h K = rip_New_r1 env h K := rfl

def rip_New_D : Den := (sq (rg rip_New_r0) (sq (rg rip_New_r1) (ex .ret)))

theorem rip_New_eq : (den Try.prog 11 rip_New_code).1 = rip_New_D := by kernel_rfl

theorem rip_New_ok {args : Array Value} {h : Hp} {Q : Value → Hp → Prop} (hn : args.size ≤ 11) (D : rip_New_D (fin Try.prog [(Go.ResultVar.tmp 4)] Q) (env0 args) h) : Ok Try.prog 10 args h Q :=
  ok_of_den progIsOk Try.func10 (c := rip_New_code) (by kernel_rfl) hn (by show (den Try.prog 11 rip_New_code).1 _ _ _; rw [rip_New_eq]; exact D)

/-! ### (*octroi/rip.Rip).Hear: function 11 -/
noncomputable def rip_Rip_Hear_code : Code := match Try.f11.body with | some c => c | none => .skip

/-- rip.go:101 -/
def rip_Rip_Hear_r0 (env : Env) (h : Hp) (K : Env → Hp → Prop) : Prop :=
  arun Try.prog (Instr.box 33 (env 3)) h fun v8_0 h1 =>
  K (((env.set 8 v8_0).set 10 (Go.Value.bool false)).set 11 (Go.Value.int Go.IntKind.i64 0)) h1
@[congr] theorem rip_Rip_Hear_r0_congr {env : Env} {h : Hp} {K : Env → Hp → Prop} : rip_Rip_Hear_r0 env h K = rip_Rip_Hear_r0 env h K := rfl

/-- rip.go:103 -/
def rip_Rip_Hear_r1 (env : Env) (h : Hp) (K : Env → Hp → Prop) : Prop :=
  rd Try.prog (bop Go.BinOp.lss 3 (Go.Operand.tmp 15) (Go.Operand.const (Go.Value.int Go.IntKind.i64 1)) (env 1) (Go.Value.int Go.IntKind.i64 1)) noHp fun v16_1 =>
  gd (yb v16_1 == some false) (fun h k => k (env 1) h) h fun v18_3 h1 =>
  gd (yb v16_1 == some false) (fun h k => rd Try.prog (bop Go.BinOp.gtr 3 (Go.Operand.tmp 18) (Go.Operand.const (Go.Value.int Go.IntKind.i64 32)) v18_3 (Go.Value.int Go.IntKind.i64 32)) noHp fun v => k v h) h1 fun v19_4 h2 =>
  rd Try.prog (pck v16_1 (Go.Value.bool true) v19_4) noHp fun v20_5 =>
  gd (yb v20_5 == some false) (fun h k => k (env 2) h) h2 fun v22_7 h3 =>
  gd (yb v20_5 == some false) (fun h k => rd Try.prog (bop Go.BinOp.lss 3 (Go.Operand.tmp 22) (Go.Operand.const (Go.Value.int Go.IntKind.i64 1)) v22_7 (Go.Value.int Go.IntKind.i64 1)) noHp fun v => k v h) h3 fun v23_8 h4 =>
  rd Try.prog (pck v20_5 (Go.Value.bool true) v23_8) noHp fun v24_9 =>
  gd (yb v24_9 == some false) (fun h k => k (env 2) h) h4 fun v26_11 h5 =>
  gd (yb v24_9 == some false) (fun h k => rd Try.prog (bop Go.BinOp.gtr 3 (Go.Operand.tmp 26) (Go.Operand.const (Go.Value.int Go.IntKind.i64 16)) v26_11 (Go.Value.int Go.IntKind.i64 16)) noHp fun v => k v h) h5 fun v27_12 h6 =>
  rd Try.prog (pck v24_9 (Go.Value.bool true) v27_12) noHp fun v28_13 =>
  gd (yb v28_13 == some false) (fun h k => rd Try.prog (Instr.fieldAt 33 (env 8) 0) noHp fun v => k v h) h6 fun v30_15 h7 =>
  gd (yb v28_13 == some false) (fun h k => rd Try.prog (Instr.loadAt 24 v30_15) h fun v => k v h) h7 fun v31_16 h8 =>
  gd (yb v28_13 == some false) (fun h k => Ok Try.prog 27 #[v31_16] h k) h8 fun v32_17 h9 =>
  gd (yb v28_13 == some false) (fun h k => rd Try.prog (Op.unary Go.UnOp.not v32_17) noHp fun v => k v h) h9 fun v33_18 h10 =>
  rd Try.prog (pck v28_13 (Go.Value.bool true) v33_18) noHp fun v34_19 =>
  gd (yb v34_19 == some false) (fun h k => rd Try.prog (Instr.fieldAt 33 (env 8) 3) noHp fun v => k v h) h10 fun v36_21 h11 =>
  gd (yb v34_19 == some false) (fun h k => rd Try.prog (Instr.loadAt 3 v36_21) h fun v => k v h) h11 fun v37_22 h12 =>
  gd (yb v34_19 == some false) (fun h k => rd Try.prog (bop Go.BinOp.lss 3 (Go.Operand.tmp 37) (Go.Operand.const (Go.Value.int Go.IntKind.i64 1)) v37_22 (Go.Value.int Go.IntKind.i64 1)) noHp fun v => k v h) h12 fun v38_23 h13 =>
  rd Try.prog (pck v34_19 (Go.Value.bool true) v38_23) noHp fun v39_24 =>
  gd (yb v39_24 == some false) (fun h k => rd Try.prog (Instr.fieldAt 33 (env 8) 3) noHp fun v => k v h) h13 fun v41_26 h14 =>
  gd (yb v39_24 == some false) (fun h k => rd Try.prog (Instr.loadAt 3 v41_26) h fun v => k v h) h14 fun v42_27 h15 =>
  gd (yb v39_24 == some false) (fun h k => rd Try.prog (bop Go.BinOp.gtr 3 (Go.Operand.tmp 42) (Go.Operand.const (Go.Value.int Go.IntKind.i64 16)) v42_27 (Go.Value.int Go.IntKind.i64 16)) noHp fun v => k v h) h15 fun v43_28 h16 =>
  rd Try.prog (pck v39_24 (Go.Value.bool true) v43_28) noHp fun v44_29 =>
  K (((((((((((((((((((((((((((((((env.set 15 (env 1)).set 16 v16_1).set 17 v16_1).set 18 v18_3).set 19 v19_4).set 20 v20_5).set 21 v20_5).set 22 v22_7).set 23 v23_8).set 24 v24_9).set 25 v24_9).set 26 v26_11).set 27 v27_12).set 28 v28_13).set 29 v28_13).set 30 v30_15).set 31 v31_16).set 32 v32_17).set 33 v33_18).set 34 v34_19).set 35 v34_19).set 36 v36_21).set 37 v37_22).set 38 v38_23).set 39 v39_24).set 40 v39_24).set 41 v41_26).set 42 v42_27).set 43 v43_28).set 44 v44_29).set 14 v44_29) h16
@[congr] theorem rip_Rip_Hear_r1_congr {env : Env} {h : Hp} {K : Env → Hp → Prop} : rip_Rip_Hear_r1 env h K = rip_Rip_Hear_r1 env h K := rfl

/-- rip.go:104 -/
def rip_Rip_Hear_r2 (env : Env) (h : Hp) (K : Env → Hp → Prop) : Prop :=
  K ((env.set 10 (Go.Value.bool false)).set 11 (Go.Value.int Go.IntKind.i64 1)) h
@[congr] theorem rip_Rip_Hear_r2_congr {env : Env} {h : Hp} {K : Env → Hp → Prop} : rip_Rip_Hear_r2 env h K = rip_Rip_Hear_r2 env h K := rfl

/-- rip.go:105 (in any order) -/
def rip_Rip_Hear_r3 (env : Env) (h : Hp) (K : Env → Hp → Prop) : Prop :=
  rd Try.prog (Instr.fieldAt 33 (env 8) 1) noHp fun v46_0 =>
  rd Try.prog (Instr.loadAt 31 v46_0) h fun v47_1 =>
  nck (env 0) (
  rd Try.prog (Instr.fieldAt 67 (env 0) 0) noHp fun v50_4 =>
  rd Try.prog (Instr.loadAt 3 v50_4) h fun v51_5 =>
  Ok Try.prog 23 #[v47_1, v51_5] h fun v52_6 h1 =>
  (True) ∧
  K ((((((((env.set 46 v46_0).set 47 v47_1).set 48 (env 0)).set 49 (env 0)).set 50 v50_4).set 51 v51_5).set 52 v52_6).set 45 v52_6) h1)
@[congr] theorem rip_Rip_Hear_r3_congr {env : Env} {h : Hp} {K : Env → Hp → Prop} : rip_Rip_Hear_r3 env h K = rip_Rip_Hear_r3 env h K := rfl

/-- rip.go:106 -/
def rip_Rip_Hear_r4 (env : Env) (h : Hp) (K : Env → Hp → Prop) : Prop :=
  K ((env.set 10 (Go.Value.bool false)).set 11 (Go.Value.int Go.IntKind.i64 6)) h
@[congr] theorem rip_Rip_Hear_r4_congr {env : Env} {h : Hp} {K : Env → Hp → Prop} : rip_Rip_Hear_r4 env h K = rip_Rip_Hear_r4 env h K := rfl

/-- rip.go:108 -/
def rip_Rip_Hear_r5 (env : Env) (h : Hp) (K : Env → Hp → Prop) : Prop :=
  rd Try.prog (Instr.fieldAt 33 (env 8) 3) noHp fun v53_0 =>
  rd Try.prog (Instr.loadAt 3 v53_0) h fun v54_1 =>
  Ok Try.prog 28 #[v54_1, (env 2)] h fun v56_3 h1 =>
  K (((((env.set 53 v53_0).set 54 v54_1).set 55 (env 2)).set 56 v56_3).set 12 v56_3) h1
@[congr] theorem rip_Rip_Hear_r5_congr {env : Env} {h : Hp} {K : Env → Hp → Prop} : rip_Rip_Hear_r5 env h K = rip_Rip_Hear_r5 env h K := rfl

/-- rip.go:109 (in any order) -/
def rip_Rip_Hear_r6 (env : Env) (h : Hp) (K : Env → Hp → Prop) : Prop :=
  nck (env 0) (
  rd Try.prog (Instr.fieldAt 67 (env 0) 2) noHp fun v59_2 =>
  rd Try.prog (Instr.loadAt 65 v59_2) h fun v60_3 =>
  rd Try.prog (Instr.fieldAt 33 (env 8) 0) noHp fun v61_4 =>
  rd Try.prog (Instr.loadAt 24 v61_4) h fun v62_5 =>
  rd Try.prog (Instr.lookup 65 v60_3 v62_5 false) h fun v63_6 =>
  K ((((((((env.set 57 (env 0)).set 58 (env 0)).set 59 v59_2).set 60 v60_3).set 61 v61_4).set 62 v62_5).set 63 v63_6).set 13 v63_6) h)
@[congr] theorem rip_Rip_Hear_r6_congr {env : Env} {h : Hp} {K : Env → Hp → Prop} : rip_Rip_Hear_r6 env h K = rip_Rip_Hear_r6 env h K := rfl

/-- rip.go:111 -/
def rip_Rip_Hear_r7 (env : Env) (h : Hp) (K : Env → Hp → Prop) : Prop :=
  rd Try.prog (bop Go.BinOp.neq 70 (Go.Operand.tmp 65) (Go.Operand.const (Go.Value.pointer none)) (env 13) (Go.Value.pointer none)) noHp fun v66_1 =>
  K (((env.set 65 (env 13)).set 66 v66_1).set 64 v66_1) h
@[congr] theorem rip_Rip_Hear_r7_congr {env : Env} {h : Hp} {K : Env → Hp → Prop} : rip_Rip_Hear_r7 env h K = rip_Rip_Hear_r7 env h K := rfl

/-- rip.go:112 -/
def rip_Rip_Hear_r8 (env : Env) (h : Hp) (K : Env → Hp → Prop) : Prop :=
  rd Try.prog (Instr.fieldAt 33 (env 8) 1) noHp fun v70_3 =>
  rd Try.prog (Instr.loadAt 31 v70_3) h fun v71_4 =>
  Ok Try.prog 29 #[(env 13), (env 1), (env 12), v71_4, (env 4)] h fun v73_6 h1 =>
  K (((((((((env.set 67 (env 13)).set 68 (env 1)).set 69 (env 12)).set 70 v70_3).set 71 v71_4).set 72 (env 4)).set 73 v73_6).set 10 v73_6).set 11 (Go.Value.int Go.IntKind.i64 0)) h1
@[congr] theorem rip_Rip_Hear_r8_congr {env : Env} {h : Hp} {K : Env → Hp → Prop} : rip_Rip_Hear_r8 env h K = rip_Rip_Hear_r8 env h K := rfl

/-- rip.go:113 -/
def rip_Rip_Hear_r9 (env : Env) (h : Hp) (K : Env → Hp → Prop) : Prop :=
  rd Try.prog (bop Go.BinOp.eql 3 (Go.Operand.tmp 75) (Go.Operand.const (Go.Value.int Go.IntKind.i64 16)) (env 12) (Go.Value.int Go.IntKind.i64 16)) noHp fun v76_1 =>
  K (((env.set 75 (env 12)).set 76 v76_1).set 74 v76_1) h
@[congr] theorem rip_Rip_Hear_r9_congr {env : Env} {h : Hp} {K : Env → Hp → Prop} : rip_Rip_Hear_r9 env h K = rip_Rip_Hear_r9 env h K := rfl

/-- rip.go:114 -/
def rip_Rip_Hear_r10 (env : Env) (h : Hp) (K : Env → Hp → Prop) : Prop :=
  K ((env.set 10 (Go.Value.bool false)).set 11 (Go.Value.int Go.IntKind.i64 0)) h
@[congr] theorem rip_Rip_Hear_r10_congr {env : Env} {h : Hp} {K : Env → Hp → Prop} : rip_Rip_Hear_r10 env h K = rip_Rip_Hear_r10 env h K := rfl

/-- rip.go:115 (in any order) -/
def rip_Rip_Hear_r11 (env : Env) (h : Hp) (K : Env → Hp → Prop) : Prop :=
  nck (env 0) (
  rd Try.prog (Instr.fieldAt 67 (env 0) 2) noHp fun v80_2 =>
  rd Try.prog (Instr.loadAt 65 v80_2) h fun v81_3 =>
  rd Try.prog (Builtin.len_ #[65] 3 #[v81_3]) h fun v82_4 =>
  nck (env 0) (
  rd Try.prog (Instr.fieldAt 67 (env 0) 1) noHp fun v85_7 =>
  rd Try.prog (Instr.loadAt 3 v85_7) h fun v86_8 =>
  rd Try.prog (bop Go.BinOp.geq 3 (Go.Operand.tmp 82) (Go.Operand.tmp 86) v82_4 v86_8) noHp fun v87_9 =>
  K (((((((((((env.set 78 (env 0)).set 79 (env 0)).set 80 v80_2).set 81 v81_3).set 82 v82_4).set 83 (env 0)).set 84 (env 0)).set 85 v85_7).set 86 v86_8).set 87 v87_9).set 77 v87_9) h))
@[congr] theorem rip_Rip_Hear_r11_congr {env : Env} {h : Hp} {K : Env → Hp → Prop} : rip_Rip_Hear_r11 env h K = rip_Rip_Hear_r11 env h K := rfl

/-- rip.go:116 -/
def rip_Rip_Hear_r12 (env : Env) (h : Hp) (K : Env → Hp → Prop) : Prop :=
  K ((env.set 10 (Go.Value.bool false)).set 11 (Go.Value.int Go.IntKind.i64 4)) h
@[congr] theorem rip_Rip_Hear_r12_congr {env : Env} {h : Hp} {K : Env → Hp → Prop} : rip_Rip_Hear_r12 env h K = rip_Rip_Hear_r12 env h K := rfl

/-- rip.go:118 (in any order) -/
def rip_Rip_Hear_r13 (env : Env) (h : Hp) (K : Env → Hp → Prop) : Prop :=
  nck (env 0) (
  rd Try.prog (Instr.fieldAt 67 (env 0) 2) noHp fun v90_2 =>
  rd Try.prog (Instr.loadAt 65 v90_2) h fun v91_3 =>
  rd Try.prog (Instr.fieldAt 33 (env 8) 0) noHp fun v92_4 =>
  rd Try.prog (Instr.loadAt 24 v92_4) h fun v93_5 =>
  rd Try.prog (bop Go.BinOp.add 3 (Go.Operand.tmp 96) (Go.Operand.const (Go.Value.int Go.IntKind.i64 180)) (env 4) (Go.Value.int Go.IntKind.i64 180)) noHp fun v97_9 =>
  rd Try.prog (Instr.fieldAt 33 (env 8) 1) noHp fun v98_10 =>
  rd Try.prog (Instr.loadAt 31 v98_10) h fun v99_11 =>
  rd Try.prog (Instr.build 73 #[(0, (env 12)), (1, (env 1)), (2, v97_9), (3, v99_11)]) noHp fun v100_12 =>
  arun Try.prog (Instr.box 73 v100_12) h fun v101_13 h1 =>
  (rrun Try.prog (Instr.loadAt 24 v92_4) h1 = some v93_5 ∧ rrun Try.prog (Instr.loadAt 65 v90_2) h1 = some v91_3 ∧ True) ∧
  arun Try.prog (Instr.mapUpdate 65 v91_3 v93_5 v101_13) h1 fun _ h2 =>
  (True) ∧
  K ((((((((((((((env.set 88 (env 0)).set 89 (env 0)).set 90 v90_2).set 91 v91_3).set 92 v92_4).set 93 v93_5).set 94 (env 12)).set 95 (env 1)).set 96 (env 4)).set 97 v97_9).set 98 v98_10).set 99 v99_11).set 100 v100_12).set 101 v101_13) h2)
@[congr] theorem rip_Rip_Hear_r13_congr {env : Env} {h : Hp} {K : Env → Hp → Prop} : rip_Rip_Hear_r13 env h K = rip_Rip_Hear_r13 env h K := rfl

/-- rip.go:119 -/
def rip_Rip_Hear_r14 (env : Env) (h : Hp) (K : Env → Hp → Prop) : Prop :=
  K ((env.set 10 (Go.Value.bool true)).set 11 (Go.Value.int Go.IntKind.i64 0)) h
@[congr] theorem rip_Rip_Hear_r14_congr {env : Env} {h : Hp} {K : Env → Hp → Prop} : rip_Rip_Hear_r14 env h K = rip_Rip_Hear_r14 env h K := rfl

def rip_Rip_Hear_D : Den := (sq (rg rip_Rip_Hear_r0) (sq (blk 0 (sq (rg rip_Rip_Hear_r1) (cnd (Go.Operand.tmp 14) (sq (rg rip_Rip_Hear_r2) (ex .ret)) (sq (rg rip_Rip_Hear_r3) (cnd (Go.Operand.tmp 45) (sq (rg rip_Rip_Hear_r4) (ex .ret)) (ex .normal)))))) (sq (rg rip_Rip_Hear_r5) (sq (rg rip_Rip_Hear_r6) (sq (blk 1 (sq (rg rip_Rip_Hear_r7) (cnd (Go.Operand.tmp 64) (sq (rg rip_Rip_Hear_r8) (ex .ret)) (sq (rg rip_Rip_Hear_r9) (cnd (Go.Operand.tmp 74) (sq (rg rip_Rip_Hear_r10) (ex .ret)) (sq (rg rip_Rip_Hear_r11) (cnd (Go.Operand.tmp 77) (sq (rg rip_Rip_Hear_r12) (ex .ret)) (ex .normal)))))))) (sq (rg rip_Rip_Hear_r13) (sq (rg rip_Rip_Hear_r14) (ex .ret))))))))

theorem rip_Rip_Hear_eq : (den Try.prog 102 rip_Rip_Hear_code).1 = rip_Rip_Hear_D := by kernel_rfl

theorem rip_Rip_Hear_ok {args : Array Value} {h : Hp} {Q : Value → Hp → Prop} (hn : args.size ≤ 102) (D : rip_Rip_Hear_D (fin Try.prog [(Go.ResultVar.tmp 10), (Go.ResultVar.tmp 11)] Q) (env0 args) h) : Ok Try.prog 11 args h Q :=
  ok_of_den progIsOk Try.func11 (c := rip_Rip_Hear_code) (by kernel_rfl) hn (by show (den Try.prog 102 rip_Rip_Hear_code).1 _ _ _; rw [rip_Rip_Hear_eq]; exact D)

/-! ### (*octroi/rip.Rip).Len: function 12 -/
noncomputable def rip_Rip_Len_code : Code := match Try.f12.body with | some c => c | none => .skip

/-- rip.go:177 -/
def rip_Rip_Len_r0 (env : Env) (h : Hp) (K : Env → Hp → Prop) : Prop :=
  K (env.set 2 (Go.Value.int Go.IntKind.i64 0)) h
@[congr] theorem rip_Rip_Len_r0_congr {env : Env} {h : Hp} {K : Env → Hp → Prop} : rip_Rip_Len_r0 env h K = rip_Rip_Len_r0 env h K := rfl

/-- rip.go:177 -/
def rip_Rip_Len_r1 (env : Env) (h : Hp) (K : Env → Hp → Prop) : Prop :=
  nck (env 0) (
  rd Try.prog (Instr.fieldAt 67 (env 0) 2) noHp fun v5_2 =>
  rd Try.prog (Instr.loadAt 65 v5_2) h fun v6_3 =>
  rd Try.prog (Builtin.len_ #[65] 3 #[v6_3]) h fun v7_4 =>
  K ((((((env.set 3 (env 0)).set 4 (env 0)).set 5 v5_2).set 6 v6_3).set 7 v7_4).set 2 v7_4) h)
@[congr] theorem rip_Rip_Len_r1_congr {env : Env} {h : Hp} {K : Env → Hp → Prop} : rip_Rip_Len_r1 env h K = rip_Rip_Len_r1 env h K := rfl

def rip_Rip_Len_D : Den := (sq (rg rip_Rip_Len_r0) (sq (rg rip_Rip_Len_r1) (ex .ret)))

theorem rip_Rip_Len_eq : (den Try.prog 8 rip_Rip_Len_code).1 = rip_Rip_Len_D := by kernel_rfl

theorem rip_Rip_Len_ok {args : Array Value} {h : Hp} {Q : Value → Hp → Prop} (hn : args.size ≤ 8) (D : rip_Rip_Len_D (fin Try.prog [(Go.ResultVar.tmp 2)] Q) (env0 args) h) : Ok Try.prog 12 args h Q :=
  ok_of_den progIsOk Try.func12 (c := rip_Rip_Len_code) (by kernel_rfl) hn (by show (den Try.prog 8 rip_Rip_Len_code).1 _ _ _; rw [rip_Rip_Len_eq]; exact D)

end Go.Proofs.Ytpfenhikoajghaa
