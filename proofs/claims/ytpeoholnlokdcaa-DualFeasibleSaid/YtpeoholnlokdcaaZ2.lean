/- Printed by wip/kit/gen.py out of the translation: formulas of Go functions, and that they are these functions'. -/
import Derived.Test.YtpeoholnlokdcaaChecked
import Derived.Test.YtpeoholnlokdcaaZ1

set_option linter.unusedSimpArgs false
set_option linter.unusedVariables false

namespace Go.Proofs.Ytpeoholnlokdcaa
open Go

set_option maxRecDepth 100000
set_option linter.unusedVariables false

theorem progIsOk : progOk Try.prog = true := by kernel_rfl

/-! ### octroi/octroilaw18.DualBest: function 3 -/
noncomputable def octroilaw18_DualBest_code : Code := match Try.f3.body with | some c => c | none => .skip

/-- more.go:11 -/
def octroilaw18_DualBest_r0 (env : Env) (h : Hp) (K : Env → Hp → Prop) : Prop :=
  arun Try.prog (Instr.box 23 (env 0)) h fun v4_0 h1 =>
  arun Try.prog (Instr.box 23 (env 1)) h1 fun v5_1 h2 =>
  arun Try.prog (Instr.box 23 (env 2)) h2 fun v6_2 h3 =>
  arun Try.prog (Instr.box 23 (env 3)) h3 fun v7_3 h4 =>
  K (((((env.set 4 v4_0).set 5 v5_1).set 6 v6_2).set 7 v7_3).set 8 (Go.Value.bool false)) h4
@[congr] theorem octroilaw18_DualBest_r0_congr {env : Env} {h : Hp} {K : Env → Hp → Prop} : octroilaw18_DualBest_r0 env h K = octroilaw18_DualBest_r0 env h K := rfl

/-- more.go:12 -/
def octroilaw18_DualBest_r1 (env : Env) (h : Hp) (K : Env → Hp → Prop) : Prop :=
  Ok Try.prog 9 #[] h fun v24_0 h1 =>
  K ((env.set 24 v24_0).set 9 v24_0) h1
@[congr] theorem octroilaw18_DualBest_r1_congr {env : Env} {h : Hp} {K : Env → Hp → Prop} : octroilaw18_DualBest_r1 env h K = octroilaw18_DualBest_r1 env h K := rfl

/-- more.go:13 -/
def octroilaw18_DualBest_r2 (env : Env) (h : Hp) (K : Env → Hp → Prop) : Prop :=
  Ok Try.prog 10 #[(Go.Value.int Go.IntKind.i64 0), (Go.Value.int Go.IntKind.i64 10)] h fun v25_0 h1 =>
  K ((env.set 25 v25_0).set 10 v25_0) h1
@[congr] theorem octroilaw18_DualBest_r2_congr {env : Env} {h : Hp} {K : Env → Hp → Prop} : octroilaw18_DualBest_r2 env h K = octroilaw18_DualBest_r2 env h K := rfl

/-- more.go:14 -/
def octroilaw18_DualBest_r3 (env : Env) (h : Hp) (K : Env → Hp → Prop) : Prop :=
  rd Try.prog (Instr.loadAt 23 (env 4)) h fun v26_0 =>
  Ok Try.prog 11 #[v26_0] h fun v27_1 h1 =>
  K (((env.set 26 v26_0).set 27 v27_1).set 11 v27_1) h1
@[congr] theorem octroilaw18_DualBest_r3_congr {env : Env} {h : Hp} {K : Env → Hp → Prop} : octroilaw18_DualBest_r3 env h K = octroilaw18_DualBest_r3 env h K := rfl

/-- more.go:15 -/
def octroilaw18_DualBest_r4 (env : Env) (h : Hp) (K : Env → Hp → Prop) : Prop :=
  rd Try.prog (Instr.loadAt 23 (env 5)) h fun v28_0 =>
  Ok Try.prog 11 #[v28_0] h fun v29_1 h1 =>
  K (((env.set 28 v28_0).set 29 v29_1).set 12 v29_1) h1
@[congr] theorem octroilaw18_DualBest_r4_congr {env : Env} {h : Hp} {K : Env → Hp → Prop} : octroilaw18_DualBest_r4 env h K = octroilaw18_DualBest_r4 env h K := rfl

/-- more.go:16 -/
def octroilaw18_DualBest_r5 (env : Env) (h : Hp) (K : Env → Hp → Prop) : Prop :=
  rd Try.prog (Op.unary Go.UnOp.not (env 9)) noHp fun v31_1 =>
  gd (yb v31_1 == some false) (fun h k => k (env 10) h) h fun v33_3 h1 =>
  gd (yb v31_1 == some false) (fun h k => rd Try.prog (bop Go.BinOp.eql 25 (Go.Operand.tmp 33) (Go.Operand.const (Go.Value.pointer none)) v33_3 (Go.Value.pointer none)) noHp fun v => k v h) h1 fun v34_4 h2 =>
  rd Try.prog (pck v31_1 (Go.Value.bool true) v34_4) noHp fun v35_5 =>
  gd (yb v35_5 == some false) (fun h k => k (env 11) h) h2 fun v37_7 h3 =>
  gd (yb v35_5 == some false) (fun h k => rd Try.prog (Op.unary Go.UnOp.not v37_7) noHp fun v => k v h) h3 fun v38_8 h4 =>
  rd Try.prog (pck v35_5 (Go.Value.bool true) v38_8) noHp fun v39_9 =>
  gd (yb v39_9 == some false) (fun h k => k (env 12) h) h4 fun v41_11 h5 =>
  gd (yb v39_9 == some false) (fun h k => rd Try.prog (Op.unary Go.UnOp.not v41_11) noHp fun v => k v h) h5 fun v42_12 h6 =>
  rd Try.prog (pck v39_9 (Go.Value.bool true) v42_12) noHp fun v43_13 =>
  K ((((((((((((((env.set 30 (env 9)).set 31 v31_1).set 32 v31_1).set 33 v33_3).set 34 v34_4).set 35 v35_5).set 36 v35_5).set 37 v37_7).set 38 v38_8).set 39 v39_9).set 40 v39_9).set 41 v41_11).set 42 v42_12).set 43 v43_13) h6
@[congr] theorem octroilaw18_DualBest_r5_congr {env : Env} {h : Hp} {K : Env → Hp → Prop} : octroilaw18_DualBest_r5 env h K = octroilaw18_DualBest_r5 env h K := rfl

/-- more.go:17 -/
def octroilaw18_DualBest_r6 (env : Env) (h : Hp) (K : Env → Hp → Prop) : Prop :=
  gd (yb (env 9) == some true) (fun h k => k (env 10) h) h fun v46_2 h1 =>
  gd (yb (env 9) == some true) (fun h k => rd Try.prog (bop Go.BinOp.neq 25 (Go.Operand.tmp 46) (Go.Operand.const (Go.Value.pointer none)) v46_2 (Go.Value.pointer none)) noHp fun v => k v h) h1 fun v47_3 h2 =>
  rd Try.prog (pck (env 9) v47_3 (Go.Value.bool false)) noHp fun v48_4 =>
  K ((((((env.set 44 (env 9)).set 45 (env 9)).set 46 v46_2).set 47 v47_3).set 48 v48_4).set 8 v48_4) h2
@[congr] theorem octroilaw18_DualBest_r6_congr {env : Env} {h : Hp} {K : Env → Hp → Prop} : octroilaw18_DualBest_r6 env h K = octroilaw18_DualBest_r6 env h K := rfl

/-- more.go:19 -/
def octroilaw18_DualBest_r7 (env : Env) (h : Hp) (K : Env → Hp → Prop) : Prop :=
  rd Try.prog (Instr.loadAt 23 (env 6)) h fun v51_1 =>
  Ok Try.prog 12 #[(env 10), (Go.Value.int Go.IntKind.i64 2), v51_1] h fun v52_2 h1 =>
  rd Try.prog (Instr.extract v52_2 0) noHp fun v53_4 =>
  rd Try.prog (Instr.extract v52_2 1) noHp fun v54_5 =>
  K ((((((((env.set 50 (env 10)).set 51 v51_1).set 52 v52_2).set 49 v52_2).set 53 v53_4).set 54 v54_5).set 13 v53_4).set 14 v54_5) h1
@[congr] theorem octroilaw18_DualBest_r7_congr {env : Env} {h : Hp} {K : Env → Hp → Prop} : octroilaw18_DualBest_r7 env h K = octroilaw18_DualBest_r7 env h K := rfl

/-- more.go:20 -/
def octroilaw18_DualBest_r8 (env : Env) (h : Hp) (K : Env → Hp → Prop) : Prop :=
  rd Try.prog (Instr.loadAt 23 (env 7)) h fun v57_1 =>
  Ok Try.prog 12 #[(env 10), (Go.Value.int Go.IntKind.i64 3), v57_1] h fun v58_2 h1 =>
  rd Try.prog (Instr.extract v58_2 0) noHp fun v59_4 =>
  rd Try.prog (Instr.extract v58_2 1) noHp fun v60_5 =>
  K ((((((((env.set 56 (env 10)).set 57 v57_1).set 58 v58_2).set 55 v58_2).set 59 v59_4).set 60 v60_5).set 15 v59_4).set 16 v60_5) h1
@[congr] theorem octroilaw18_DualBest_r8_congr {env : Env} {h : Hp} {K : Env → Hp → Prop} : octroilaw18_DualBest_r8 env h K = octroilaw18_DualBest_r8 env h K := rfl

/-- more.go:21 -/
def octroilaw18_DualBest_r9 (env : Env) (h : Hp) (K : Env → Hp → Prop) : Prop :=
  rd Try.prog (bop Go.BinOp.neq 29 (Go.Operand.tmp 61) (Go.Operand.const (Go.Value.int Go.IntKind.i64 0)) (env 14) (Go.Value.int Go.IntKind.i64 0)) noHp fun v62_1 =>
  gd (yb v62_1 == some false) (fun h k => k (env 16) h) h fun v64_3 h1 =>
  gd (yb v62_1 == some false) (fun h k => rd Try.prog (bop Go.BinOp.neq 29 (Go.Operand.tmp 64) (Go.Operand.const (Go.Value.int Go.IntKind.i64 0)) v64_3 (Go.Value.int Go.IntKind.i64 0)) noHp fun v => k v h) h1 fun v65_4 h2 =>
  rd Try.prog (pck v62_1 (Go.Value.bool true) v65_4) noHp fun v66_5 =>
  K ((((((env.set 61 (env 14)).set 62 v62_1).set 63 v62_1).set 64 v64_3).set 65 v65_4).set 66 v66_5) h2
@[congr] theorem octroilaw18_DualBest_r9_congr {env : Env} {h : Hp} {K : Env → Hp → Prop} : octroilaw18_DualBest_r9 env h K = octroilaw18_DualBest_r9 env h K := rfl

/-- more.go:22 -/
def octroilaw18_DualBest_r10 (env : Env) (h : Hp) (K : Env → Hp → Prop) : Prop :=
  rd Try.prog (Instr.loadAt 23 (env 6)) h fun v67_0 =>
  Ok Try.prog 13 #[v67_0] h fun v68_1 h1 =>
  rd Try.prog (Op.unary Go.UnOp.not v68_1) noHp fun v69_2 =>
  gd (yb v69_2 == some false) (fun h k => rd Try.prog (Instr.loadAt 23 (env 7)) h fun v => k v h) h1 fun v71_4 h2 =>
  gd (yb v69_2 == some false) (fun h k => Ok Try.prog 13 #[v71_4] h k) h2 fun v72_5 h3 =>
  gd (yb v69_2 == some false) (fun h k => rd Try.prog (Op.unary Go.UnOp.not v72_5) noHp fun v => k v h) h3 fun v73_6 h4 =>
  rd Try.prog (pck v69_2 (Go.Value.bool true) v73_6) noHp fun v74_7 =>
  K (((((((((env.set 67 v67_0).set 68 v68_1).set 69 v69_2).set 70 v69_2).set 71 v71_4).set 72 v72_5).set 73 v73_6).set 74 v74_7).set 8 v74_7) h4
@[congr] theorem octroilaw18_DualBest_r10_congr {env : Env} {h : Hp} {K : Env → Hp → Prop} : octroilaw18_DualBest_r10 env h K = octroilaw18_DualBest_r10 env h K := rfl

/-- more.go:24 -/
def octroilaw18_DualBest_r11 (env : Env) (h : Hp) (K : Env → Hp → Prop) : Prop :=
  rd Try.prog (Instr.loadAt 23 (env 4)) h fun v76_1 =>
  rd Try.prog (Instr.build 38 #[(1, v76_1)]) noHp fun v77_2 =>
  rd Try.prog (Instr.build 40 #[(1, (Go.Value.int Go.IntKind.i64 1)), (2, (Go.Value.int Go.IntKind.u32 1)), (4, v77_2)]) noHp fun v78_3 =>
  Ok Try.prog 14 #[(env 10), (Go.Value.int Go.IntKind.i64 2), v78_3] h fun v79_4 h1 =>
  K (((((env.set 75 (env 10)).set 76 v76_1).set 77 v77_2).set 78 v78_3).set 79 v79_4) h1
@[congr] theorem octroilaw18_DualBest_r11_congr {env : Env} {h : Hp} {K : Env → Hp → Prop} : octroilaw18_DualBest_r11 env h K = octroilaw18_DualBest_r11 env h K := rfl

/-- more.go:25 -/
def octroilaw18_DualBest_r12 (env : Env) (h : Hp) (K : Env → Hp → Prop) : Prop :=
  rd Try.prog (Instr.build 35 #[]) noHp fun v82_1 =>
  Ok Try.prog 15 #[(env 10), v82_1] h fun v83_2 h1 =>
  rd Try.prog (Instr.extract v83_2 0) noHp fun v84_4 =>
  rd Try.prog (Instr.extract v83_2 1) noHp fun v85_5 =>
  K ((((((((env.set 81 (env 10)).set 82 v82_1).set 83 v83_2).set 80 v83_2).set 84 v84_4).set 85 v85_5).set 17 v84_4).set 18 v85_5) h1
@[congr] theorem octroilaw18_DualBest_r12_congr {env : Env} {h : Hp} {K : Env → Hp → Prop} : octroilaw18_DualBest_r12 env h K = octroilaw18_DualBest_r12 env h K := rfl

/-- more.go:26 -/
def octroilaw18_DualBest_r13 (env : Env) (h : Hp) (K : Env → Hp → Prop) : Prop :=
  rd Try.prog (Instr.loadAt 23 (env 5)) h fun v87_1 =>
  rd Try.prog (Instr.build 38 #[(1, v87_1)]) noHp fun v88_2 =>
  rd Try.prog (Instr.build 40 #[(1, (Go.Value.int Go.IntKind.i64 1)), (2, (Go.Value.int Go.IntKind.u32 1)), (4, v88_2)]) noHp fun v89_3 =>
  Ok Try.prog 14 #[(env 10), (Go.Value.int Go.IntKind.i64 3), v89_3] h fun v90_4 h1 =>
  K (((((env.set 86 (env 10)).set 87 v87_1).set 88 v88_2).set 89 v89_3).set 90 v90_4) h1
@[congr] theorem octroilaw18_DualBest_r13_congr {env : Env} {h : Hp} {K : Env → Hp → Prop} : octroilaw18_DualBest_r13 env h K = octroilaw18_DualBest_r13 env h K := rfl

/-- more.go:27 -/
def octroilaw18_DualBest_r14 (env : Env) (h : Hp) (K : Env → Hp → Prop) : Prop :=
  rd Try.prog (Instr.build 35 #[]) noHp fun v93_1 =>
  Ok Try.prog 15 #[(env 10), v93_1] h fun v94_2 h1 =>
  rd Try.prog (Instr.extract v94_2 0) noHp fun v95_4 =>
  rd Try.prog (Instr.extract v94_2 1) noHp fun v96_5 =>
  K ((((((((env.set 92 (env 10)).set 93 v93_1).set 94 v94_2).set 91 v94_2).set 95 v95_4).set 96 v96_5).set 19 v95_4).set 20 v96_5) h1
@[congr] theorem octroilaw18_DualBest_r14_congr {env : Env} {h : Hp} {K : Env → Hp → Prop} : octroilaw18_DualBest_r14 env h K = octroilaw18_DualBest_r14 env h K := rfl

/-- more.go:28 -/
def octroilaw18_DualBest_r15 (env : Env) (h : Hp) (K : Env → Hp → Prop) : Prop :=
  rd Try.prog (Instr.loadAt 23 (env 4)) h fun v97_0 =>
  rd Try.prog (Instr.loadAt 23 (env 6)) h fun v98_1 =>
  Ok Try.prog 16 #[v97_0, v98_1] h fun v99_2 h1 =>
  arun Try.prog (Instr.alloc 23 true (Go.Value.tuple #[])) h1 fun v21_3 h2 =>
  arun Try.prog (Instr.storeAt 23 v21_3 v99_2) h2 fun _ h3 =>
  K ((((env.set 97 v97_0).set 98 v98_1).set 99 v99_2).set 21 v21_3) h3
@[congr] theorem octroilaw18_DualBest_r15_congr {env : Env} {h : Hp} {K : Env → Hp → Prop} : octroilaw18_DualBest_r15 env h K = octroilaw18_DualBest_r15 env h K := rfl

/-- more.go:29 -/
def octroilaw18_DualBest_r16 (env : Env) (h : Hp) (K : Env → Hp → Prop) : Prop :=
  rd Try.prog (Instr.loadAt 23 (env 5)) h fun v100_0 =>
  rd Try.prog (Instr.loadAt 23 (env 7)) h fun v101_1 =>
  Ok Try.prog 16 #[v100_0, v101_1] h fun v102_2 h1 =>
  arun Try.prog (Instr.alloc 23 true (Go.Value.tuple #[])) h1 fun v22_3 h2 =>
  arun Try.prog (Instr.storeAt 23 v22_3 v102_2) h2 fun _ h3 =>
  K ((((env.set 100 v100_0).set 101 v101_1).set 102 v102_2).set 22 v22_3) h3
@[congr] theorem octroilaw18_DualBest_r16_congr {env : Env} {h : Hp} {K : Env → Hp → Prop} : octroilaw18_DualBest_r16 env h K = octroilaw18_DualBest_r16 env h K := rfl

/-- more.go:30 -/
def octroilaw18_DualBest_r17 (env : Env) (h : Hp) (K : Env → Hp → Prop) : Prop :=
  rd Try.prog (Instr.loadAt 23 (env 21)) h fun v103_0 =>
  Ok Try.prog 17 #[v103_0] h fun v104_1 h1 =>
  rd Try.prog (Op.unary Go.UnOp.not v104_1) noHp fun v105_2 =>
  gd (yb v105_2 == some false) (fun h k => rd Try.prog (Instr.loadAt 23 (env 22)) h fun v => k v h) h1 fun v107_4 h2 =>
  gd (yb v105_2 == some false) (fun h k => Ok Try.prog 17 #[v107_4] h k) h2 fun v108_5 h3 =>
  gd (yb v105_2 == some false) (fun h k => rd Try.prog (Op.unary Go.UnOp.not v108_5) noHp fun v => k v h) h3 fun v109_6 h4 =>
  rd Try.prog (pck v105_2 (Go.Value.bool true) v109_6) noHp fun v110_7 =>
  gd (yb v110_7 == some false) (fun h k => rd Try.prog (Instr.loadAt 23 (env 4)) h fun v => k v h) h4 fun v112_9 h5 =>
  gd (yb v110_7 == some false) (fun h k => Ok Try.prog 18 #[v112_9] h k) h5 fun v113_10 h6 =>
  gd (yb v110_7 == some false) (fun h k => k (env 19) h) h6 fun v114_11 h7 =>
  gd (yb v110_7 == some false) (fun h k => rd Try.prog (bop Go.BinOp.geq 3 (Go.Operand.tmp 113) (Go.Operand.tmp 114) v113_10 v114_11) noHp fun v => k v h) h7 fun v115_12 h8 =>
  rd Try.prog (pck v110_7 (Go.Value.bool true) v115_12) noHp fun v116_13 =>
  gd (yb v116_13 == some false) (fun h k => rd Try.prog (Instr.loadAt 23 (env 5)) h fun v => k v h) h8 fun v118_15 h9 =>
  gd (yb v116_13 == some false) (fun h k => Ok Try.prog 18 #[v118_15] h k) h9 fun v119_16 h10 =>
  gd (yb v116_13 == some false) (fun h k => k (env 19) h) h10 fun v120_17 h11 =>
  gd (yb v116_13 == some false) (fun h k => rd Try.prog (bop Go.BinOp.geq 3 (Go.Operand.tmp 119) (Go.Operand.tmp 120) v119_16 v120_17) noHp fun v => k v h) h11 fun v121_18 h12 =>
  rd Try.prog (pck v116_13 (Go.Value.bool true) v121_18) noHp fun v122_19 =>
  gd (yb v122_19 == some false) (fun h k => k (env 20) h) h12 fun v124_21 h13 =>
  gd (yb v122_19 == some false) (fun h k => rd Try.prog (Op.unary Go.UnOp.not v124_21) noHp fun v => k v h) h13 fun v125_22 h14 =>
  rd Try.prog (pck v122_19 (Go.Value.bool true) v125_22) noHp fun v126_23 =>
  gd (yb v126_23 == some false) (fun h k => k (env 19) h) h14 fun v128_25 h15 =>
  gd (yb v126_23 == some false) (fun h k => k (env 17) h) h15 fun v129_26 h16 =>
  gd (yb v126_23 == some false) (fun h k => rd Try.prog (bop Go.BinOp.gtr 3 (Go.Operand.tmp 128) (Go.Operand.tmp 129) v128_25 v129_26) noHp fun v => k v h) h16 fun v130_27 h17 =>
  rd Try.prog (pck v126_23 (Go.Value.bool true) v130_27) noHp fun v131_28 =>
  K (((((((((((((((((((((((((((((env.set 103 v103_0).set 104 v104_1).set 105 v105_2).set 106 v105_2).set 107 v107_4).set 108 v108_5).set 109 v109_6).set 110 v110_7).set 111 v110_7).set 112 v112_9).set 113 v113_10).set 114 v114_11).set 115 v115_12).set 116 v116_13).set 117 v116_13).set 118 v118_15).set 119 v119_16).set 120 v120_17).set 121 v121_18).set 122 v122_19).set 123 v122_19).set 124 v124_21).set 125 v125_22).set 126 v126_23).set 127 v126_23).set 128 v128_25).set 129 v129_26).set 130 v130_27).set 131 v131_28) h17
@[congr] theorem octroilaw18_DualBest_r17_congr {env : Env} {h : Hp} {K : Env → Hp → Prop} : octroilaw18_DualBest_r17 env h K = octroilaw18_DualBest_r17 env h K := rfl

/-- more.go:31 -/
def octroilaw18_DualBest_r18 (env : Env) (h : Hp) (K : Env → Hp → Prop) : Prop :=
  K (env.set 8 (Go.Value.bool true)) h
@[congr] theorem octroilaw18_DualBest_r18_congr {env : Env} {h : Hp} {K : Env → Hp → Prop} : octroilaw18_DualBest_r18 env h K = octroilaw18_DualBest_r18 env h K := rfl

/-- more.go:33 -/
def octroilaw18_DualBest_r19 (env : Env) (h : Hp) (K : Env → Hp → Prop) : Prop :=
  Ok Try.prog 19 #[(env 10)] h fun v133_1 h1 =>
  K (((env.set 132 (env 10)).set 133 v133_1).set 23 v133_1) h1
@[congr] theorem octroilaw18_DualBest_r19_congr {env : Env} {h : Hp} {K : Env → Hp → Prop} : octroilaw18_DualBest_r19 env h K = octroilaw18_DualBest_r19 env h K := rfl

/-- more.go:34 -/
def octroilaw18_DualBest_r20 (env : Env) (h : Hp) (K : Env → Hp → Prop) : Prop :=
  rd Try.prog (Builtin.len_ #[45] 3 #[(env 23)]) h fun v135_1 =>
  rd Try.prog (bop Go.BinOp.neq 3 (Go.Operand.tmp 135) (Go.Operand.const (Go.Value.int Go.IntKind.i64 1)) v135_1 (Go.Value.int Go.IntKind.i64 1)) noHp fun v136_2 =>
  K (((env.set 134 (env 23)).set 135 v135_1).set 136 v136_2) h
@[congr] theorem octroilaw18_DualBest_r20_congr {env : Env} {h : Hp} {K : Env → Hp → Prop} : octroilaw18_DualBest_r20 env h K = octroilaw18_DualBest_r20 env h K := rfl

/-- more.go:35 -/
def octroilaw18_DualBest_r21 (env : Env) (h : Hp) (K : Env → Hp → Prop) : Prop :=
  K (env.set 8 (Go.Value.bool false)) h
@[congr] theorem octroilaw18_DualBest_r21_congr {env : Env} {h : Hp} {K : Env → Hp → Prop} : octroilaw18_DualBest_r21 env h K = octroilaw18_DualBest_r21 env h K := rfl

/-- more.go:37 -/
def octroilaw18_DualBest_r22 (env : Env) (h : Hp) (K : Env → Hp → Prop) : Prop :=
  rd Try.prog (Instr.loadAt 23 (env 22)) h fun v137_0 =>
  rd Try.prog (Instr.loadAt 23 (env 21)) h fun v138_1 =>
  Ok Try.prog 20 #[v137_0, v138_1] h fun v139_2 h1 =>
  K (((env.set 137 v137_0).set 138 v138_1).set 139 v139_2) h1
@[congr] theorem octroilaw18_DualBest_r22_congr {env : Env} {h : Hp} {K : Env → Hp → Prop} : octroilaw18_DualBest_r22 env h K = octroilaw18_DualBest_r22 env h K := rfl

/-- more.go:38 (in any order) -/
def octroilaw18_DualBest_r23 (env : Env) (h : Hp) (K : Env → Hp → Prop) : Prop :=
  rd Try.prog (Instr.indexAt 45 (env 23) (Go.Value.int Go.IntKind.i64 0)) noHp fun v141_1 =>
  rd Try.prog (Instr.fieldAt 49 v141_1 4) noHp fun v142_2 =>
  rd Try.prog (Instr.loadAt 3 v142_2) h fun v143_3 =>
  rd Try.prog (bop Go.BinOp.eql 3 (Go.Operand.tmp 143) (Go.Operand.const (Go.Value.int Go.IntKind.i64 3)) v143_3 (Go.Value.int Go.IntKind.i64 3)) noHp fun v144_4 =>
  gd (yb v144_4 == some true) (fun h k => k (env 23) h) h fun v146_6 h1 =>
  gd (yb v144_4 == some true) (fun h k => rd Try.prog (Instr.indexAt 45 v146_6 (Go.Value.int Go.IntKind.i64 0)) noHp fun v => k v h) h1 fun v147_7 h2 =>
  gd (yb v144_4 == some true) (fun h k => rd Try.prog (Instr.fieldAt 49 v147_7 3) noHp fun v => k v h) h2 fun v148_8 h3 =>
  gd (yb v144_4 == some true) (fun h k => rd Try.prog (Instr.loadAt 3 v148_8) h fun v => k v h) h3 fun v149_9 h4 =>
  gd (yb v144_4 == some true) (fun h k => rd Try.prog (Instr.loadAt 23 (env 22)) h fun v => k v h) h4 fun v150_10 h5 =>
  gd (yb v144_4 == some true) (fun h k => Ok Try.prog 18 #[v150_10] h k) h5 fun v151_11 h6 =>
  (((yb v144_4 == some true) = true → rrun Try.prog (Instr.loadAt 3 v148_8) h6 = some v149_9) ∧ True) ∧
  gd (yb v144_4 == some true) (fun h k => rd Try.prog (bop Go.BinOp.eql 3 (Go.Operand.tmp 149) (Go.Operand.tmp 151) v149_9 v151_11) noHp fun v => k v h) h6 fun v152_12 h7 =>
  rd Try.prog (pck v144_4 v152_12 (Go.Value.bool false)) noHp fun v153_13 =>
  K (((((((((((((((env.set 140 (env 23)).set 141 v141_1).set 142 v142_2).set 143 v143_3).set 144 v144_4).set 145 v144_4).set 146 v146_6).set 147 v147_7).set 148 v148_8).set 149 v149_9).set 150 v150_10).set 151 v151_11).set 152 v152_12).set 153 v153_13).set 8 v153_13) h7
@[congr] theorem octroilaw18_DualBest_r23_congr {env : Env} {h : Hp} {K : Env → Hp → Prop} : octroilaw18_DualBest_r23 env h K = octroilaw18_DualBest_r23 env h K := rfl

/-- more.go:40 (in any order) -/
def octroilaw18_DualBest_r24 (env : Env) (h : Hp) (K : Env → Hp → Prop) : Prop :=
  rd Try.prog (Instr.indexAt 45 (env 23) (Go.Value.int Go.IntKind.i64 0)) noHp fun v155_1 =>
  rd Try.prog (Instr.fieldAt 49 v155_1 4) noHp fun v156_2 =>
  rd Try.prog (Instr.loadAt 3 v156_2) h fun v157_3 =>
  rd Try.prog (bop Go.BinOp.eql 3 (Go.Operand.tmp 157) (Go.Operand.const (Go.Value.int Go.IntKind.i64 2)) v157_3 (Go.Value.int Go.IntKind.i64 2)) noHp fun v158_4 =>
  gd (yb v158_4 == some true) (fun h k => k (env 23) h) h fun v160_6 h1 =>
  gd (yb v158_4 == some true) (fun h k => rd Try.prog (Instr.indexAt 45 v160_6 (Go.Value.int Go.IntKind.i64 0)) noHp fun v => k v h) h1 fun v161_7 h2 =>
  gd (yb v158_4 == some true) (fun h k => rd Try.prog (Instr.fieldAt 49 v161_7 3) noHp fun v => k v h) h2 fun v162_8 h3 =>
  gd (yb v158_4 == some true) (fun h k => rd Try.prog (Instr.loadAt 3 v162_8) h fun v => k v h) h3 fun v163_9 h4 =>
  gd (yb v158_4 == some true) (fun h k => rd Try.prog (Instr.loadAt 23 (env 21)) h fun v => k v h) h4 fun v164_10 h5 =>
  gd (yb v158_4 == some true) (fun h k => Ok Try.prog 18 #[v164_10] h k) h5 fun v165_11 h6 =>
  (((yb v158_4 == some true) = true → rrun Try.prog (Instr.loadAt 3 v162_8) h6 = some v163_9) ∧ True) ∧
  gd (yb v158_4 == some true) (fun h k => rd Try.prog (bop Go.BinOp.eql 3 (Go.Operand.tmp 163) (Go.Operand.tmp 165) v163_9 v165_11) noHp fun v => k v h) h6 fun v166_12 h7 =>
  rd Try.prog (pck v158_4 v166_12 (Go.Value.bool false)) noHp fun v167_13 =>
  K (((((((((((((((env.set 154 (env 23)).set 155 v155_1).set 156 v156_2).set 157 v157_3).set 158 v158_4).set 159 v158_4).set 160 v160_6).set 161 v161_7).set 162 v162_8).set 163 v163_9).set 164 v164_10).set 165 v165_11).set 166 v166_12).set 167 v167_13).set 8 v167_13) h7
@[congr] theorem octroilaw18_DualBest_r24_congr {env : Env} {h : Hp} {K : Env → Hp → Prop} : octroilaw18_DualBest_r24 env h K = octroilaw18_DualBest_r24 env h K := rfl

def octroilaw18_DualBest_D : Den := (sq (rg octroilaw18_DualBest_r0) (sq (rg octroilaw18_DualBest_r1) (sq (rg octroilaw18_DualBest_r2) (sq (rg octroilaw18_DualBest_r3) (sq (rg octroilaw18_DualBest_r4) (sq (sq (rg octroilaw18_DualBest_r5) (cnd (Go.Operand.tmp 43) (sq (rg octroilaw18_DualBest_r6) (ex .ret)) (ex .normal))) (sq (rg octroilaw18_DualBest_r7) (sq (rg octroilaw18_DualBest_r8) (sq (sq (rg octroilaw18_DualBest_r9) (cnd (Go.Operand.tmp 66) (sq (rg octroilaw18_DualBest_r10) (ex .ret)) (ex .normal))) (sq (rg octroilaw18_DualBest_r11) (sq (rg octroilaw18_DualBest_r12) (sq (rg octroilaw18_DualBest_r13) (sq (rg octroilaw18_DualBest_r14) (sq (rg octroilaw18_DualBest_r15) (sq (rg octroilaw18_DualBest_r16) (sq (sq (rg octroilaw18_DualBest_r17) (cnd (Go.Operand.tmp 131) (sq (rg octroilaw18_DualBest_r18) (ex .ret)) (ex .normal))) (sq (rg octroilaw18_DualBest_r19) (sq (sq (rg octroilaw18_DualBest_r20) (cnd (Go.Operand.tmp 136) (sq (rg octroilaw18_DualBest_r21) (ex .ret)) (ex .normal))) (sq (sq (rg octroilaw18_DualBest_r22) (cnd (Go.Operand.tmp 139) (sq (rg octroilaw18_DualBest_r23) (ex .ret)) (ex .normal))) (sq (rg octroilaw18_DualBest_r24) (ex .ret)))))))))))))))))))))

theorem octroilaw18_DualBest_eq : (den Try.prog 168 octroilaw18_DualBest_code).1 = octroilaw18_DualBest_D := by kernel_rfl

theorem octroilaw18_DualBest_ok {args : Array Value} {h : Hp} {Q : Value → Hp → Prop} (hn : args.size ≤ 168) (D : octroilaw18_DualBest_D (fin Try.prog [(Go.ResultVar.tmp 8)] Q) (env0 args) h) : Ok Try.prog 3 args h Q :=
  ok_of_den progIsOk Try.func3 (c := octroilaw18_DualBest_code) (by kernel_rfl) hn (by show (den Try.prog 168 octroilaw18_DualBest_code).1 _ _ _; rw [octroilaw18_DualBest_eq]; exact D)

/-! ### octroi/octroilaw18.DualAsks: function 4 -/
noncomputable def octroilaw18_DualAsks_code : Code := match Try.f4.body with | some c => c | none => .skip

/-- more.go:44 -/
def octroilaw18_DualAsks_r0 (env : Env) (h : Hp) (K : Env → Hp → Prop) : Prop :=
  arun Try.prog (Instr.box 23 (env 0)) h fun v2_0 h1 =>
  K ((env.set 2 v2_0).set 4 (Go.Value.bool false)) h1
@[congr] theorem octroilaw18_DualAsks_r0_congr {env : Env} {h : Hp} {K : Env → Hp → Prop} : octroilaw18_DualAsks_r0 env h K = octroilaw18_DualAsks_r0 env h K := rfl

/-- more.go:45 -/
def octroilaw18_DualAsks_r1 (env : Env) (h : Hp) (K : Env → Hp → Prop) : Prop :=
  Ok Try.prog 9 #[] h fun v21_0 h1 =>
  K ((env.set 21 v21_0).set 5 v21_0) h1
@[congr] theorem octroilaw18_DualAsks_r1_congr {env : Env} {h : Hp} {K : Env → Hp → Prop} : octroilaw18_DualAsks_r1 env h K = octroilaw18_DualAsks_r1 env h K := rfl

/-- more.go:46 -/
def octroilaw18_DualAsks_r2 (env : Env) (h : Hp) (K : Env → Hp → Prop) : Prop :=
  Ok Try.prog 10 #[(Go.Value.int Go.IntKind.i64 0), (Go.Value.int Go.IntKind.i64 10)] h fun v22_0 h1 =>
  K ((env.set 22 v22_0).set 6 v22_0) h1
@[congr] theorem octroilaw18_DualAsks_r2_congr {env : Env} {h : Hp} {K : Env → Hp → Prop} : octroilaw18_DualAsks_r2 env h K = octroilaw18_DualAsks_r2 env h K := rfl

/-- more.go:47 -/
def octroilaw18_DualAsks_r3 (env : Env) (h : Hp) (K : Env → Hp → Prop) : Prop :=
  rd Try.prog (Instr.loadAt 23 (env 2)) h fun v23_0 =>
  arun Try.prog (Instr.alloc 23 true (Go.Value.tuple #[])) h fun v7_1 h1 =>
  arun Try.prog (Instr.storeAt 23 v7_1 v23_0) h1 fun _ h2 =>
  K ((env.set 23 v23_0).set 7 v7_1) h2
@[congr] theorem octroilaw18_DualAsks_r3_congr {env : Env} {h : Hp} {K : Env → Hp → Prop} : octroilaw18_DualAsks_r3 env h K = octroilaw18_DualAsks_r3 env h K := rfl

/-- more.go:48 -/
def octroilaw18_DualAsks_r4 (env : Env) (h : Hp) (K : Env → Hp → Prop) : Prop :=
  rd Try.prog (Instr.fieldAt 23 (env 2) 1) noHp fun v24_0 =>
  rd Try.prog (Instr.loadAt 3 v24_0) h fun v25_1 =>
  rd Try.prog (bop Go.BinOp.add 3 (Go.Operand.tmp 25) (Go.Operand.tmp 26) v25_1 (env 1)) noHp fun v27_3 =>
  rd Try.prog (Instr.fieldAt 23 (env 7) 1) noHp fun v28_4 =>
  arun Try.prog (Instr.storeAt 3 v28_4 v27_3) h fun _ h1 =>
  K (((((env.set 24 v24_0).set 25 v25_1).set 26 (env 1)).set 27 v27_3).set 28 v28_4) h1
@[congr] theorem octroilaw18_DualAsks_r4_congr {env : Env} {h : Hp} {K : Env → Hp → Prop} : octroilaw18_DualAsks_r4 env h K = octroilaw18_DualAsks_r4 env h K := rfl

/-- more.go:49 -/
def octroilaw18_DualAsks_r5 (env : Env) (h : Hp) (K : Env → Hp → Prop) : Prop :=
  rd Try.prog (Instr.loadAt 23 (env 2)) h fun v29_0 =>
  Ok Try.prog 11 #[v29_0] h fun v30_1 h1 =>
  K (((env.set 29 v29_0).set 30 v30_1).set 8 v30_1) h1
@[congr] theorem octroilaw18_DualAsks_r5_congr {env : Env} {h : Hp} {K : Env → Hp → Prop} : octroilaw18_DualAsks_r5 env h K = octroilaw18_DualAsks_r5 env h K := rfl

/-- more.go:50 -/
def octroilaw18_DualAsks_r6 (env : Env) (h : Hp) (K : Env → Hp → Prop) : Prop :=
  rd Try.prog (Instr.loadAt 23 (env 7)) h fun v31_0 =>
  Ok Try.prog 11 #[v31_0] h fun v32_1 h1 =>
  K (((env.set 31 v31_0).set 32 v32_1).set 9 v32_1) h1
@[congr] theorem octroilaw18_DualAsks_r6_congr {env : Env} {h : Hp} {K : Env → Hp → Prop} : octroilaw18_DualAsks_r6 env h K = octroilaw18_DualAsks_r6 env h K := rfl

/-- more.go:51 -/
def octroilaw18_DualAsks_r7 (env : Env) (h : Hp) (K : Env → Hp → Prop) : Prop :=
  rd Try.prog (Op.unary Go.UnOp.not (env 5)) noHp fun v34_1 =>
  gd (yb v34_1 == some false) (fun h k => k (env 6) h) h fun v36_3 h1 =>
  gd (yb v34_1 == some false) (fun h k => rd Try.prog (bop Go.BinOp.eql 25 (Go.Operand.tmp 36) (Go.Operand.const (Go.Value.pointer none)) v36_3 (Go.Value.pointer none)) noHp fun v => k v h) h1 fun v37_4 h2 =>
  rd Try.prog (pck v34_1 (Go.Value.bool true) v37_4) noHp fun v38_5 =>
  gd (yb v38_5 == some false) (fun h k => k (env 8) h) h2 fun v40_7 h3 =>
  gd (yb v38_5 == some false) (fun h k => rd Try.prog (Op.unary Go.UnOp.not v40_7) noHp fun v => k v h) h3 fun v41_8 h4 =>
  rd Try.prog (pck v38_5 (Go.Value.bool true) v41_8) noHp fun v42_9 =>
  gd (yb v42_9 == some false) (fun h k => k (env 9) h) h4 fun v44_11 h5 =>
  gd (yb v42_9 == some false) (fun h k => rd Try.prog (Op.unary Go.UnOp.not v44_11) noHp fun v => k v h) h5 fun v45_12 h6 =>
  rd Try.prog (pck v42_9 (Go.Value.bool true) v45_12) noHp fun v46_13 =>
  gd (yb v46_13 == some false) (fun h k => k (env 1) h) h6 fun v48_15 h7 =>
  gd (yb v46_13 == some false) (fun h k => rd Try.prog (bop Go.BinOp.lss 3 (Go.Operand.tmp 48) (Go.Operand.const (Go.Value.int Go.IntKind.i64 1)) v48_15 (Go.Value.int Go.IntKind.i64 1)) noHp fun v => k v h) h7 fun v49_16 h8 =>
  rd Try.prog (pck v46_13 (Go.Value.bool true) v49_16) noHp fun v50_17 =>
  gd (yb v50_17 == some false) (fun h k => k (env 1) h) h8 fun v52_19 h9 =>
  gd (yb v50_17 == some false) (fun h k => rd Try.prog (bop Go.BinOp.gtr 3 (Go.Operand.tmp 52) (Go.Operand.const (Go.Value.int Go.IntKind.i64 1000000)) v52_19 (Go.Value.int Go.IntKind.i64 1000000)) noHp fun v => k v h) h9 fun v53_20 h10 =>
  rd Try.prog (pck v50_17 (Go.Value.bool true) v53_20) noHp fun v54_21 =>
  gd (yb v54_21 == some false) (fun h k => rd Try.prog (Instr.fieldAt 23 (env 7) 1) noHp fun v => k v h) h10 fun v56_23 h11 =>
  gd (yb v54_21 == some false) (fun h k => rd Try.prog (Instr.loadAt 3 v56_23) h fun v => k v h) h11 fun v57_24 h12 =>
  gd (yb v54_21 == some false) (fun h k => rd Try.prog (bop Go.BinOp.gtr 3 (Go.Operand.tmp 57) (Go.Operand.const (Go.Value.int Go.IntKind.i64 10000000)) v57_24 (Go.Value.int Go.IntKind.i64 10000000)) noHp fun v => k v h) h12 fun v58_25 h13 =>
  rd Try.prog (pck v54_21 (Go.Value.bool true) v58_25) noHp fun v59_26 =>
  gd (yb v59_26 == some false) (fun h k => rd Try.prog (Instr.fieldAt 23 (env 2) 2) noHp fun v => k v h) h13 fun v61_28 h14 =>
  gd (yb v59_26 == some false) (fun h k => rd Try.prog (Instr.loadAt 3 v61_28) h fun v => k v h) h14 fun v62_29 h15 =>
  gd (yb v59_26 == some false) (fun h k => rd Try.prog (bop Go.BinOp.gtr 3 (Go.Operand.tmp 62) (Go.Operand.const (Go.Value.int Go.IntKind.i64 90)) v62_29 (Go.Value.int Go.IntKind.i64 90)) noHp fun v => k v h) h15 fun v63_30 h16 =>
  rd Try.prog (pck v59_26 (Go.Value.bool true) v63_30) noHp fun v64_31 =>
  K ((((((((((((((((((((((((((((((((env.set 33 (env 5)).set 34 v34_1).set 35 v34_1).set 36 v36_3).set 37 v37_4).set 38 v38_5).set 39 v38_5).set 40 v40_7).set 41 v41_8).set 42 v42_9).set 43 v42_9).set 44 v44_11).set 45 v45_12).set 46 v46_13).set 47 v46_13).set 48 v48_15).set 49 v49_16).set 50 v50_17).set 51 v50_17).set 52 v52_19).set 53 v53_20).set 54 v54_21).set 55 v54_21).set 56 v56_23).set 57 v57_24).set 58 v58_25).set 59 v59_26).set 60 v59_26).set 61 v61_28).set 62 v62_29).set 63 v63_30).set 64 v64_31) h16
@[congr] theorem octroilaw18_DualAsks_r7_congr {env : Env} {h : Hp} {K : Env → Hp → Prop} : octroilaw18_DualAsks_r7 env h K = octroilaw18_DualAsks_r7 env h K := rfl

/-- more.go:52 -/
def octroilaw18_DualAsks_r8 (env : Env) (h : Hp) (K : Env → Hp → Prop) : Prop :=
  gd (yb (env 5) == some true) (fun h k => k (env 6) h) h fun v67_2 h1 =>
  gd (yb (env 5) == some true) (fun h k => rd Try.prog (bop Go.BinOp.neq 25 (Go.Operand.tmp 67) (Go.Operand.const (Go.Value.pointer none)) v67_2 (Go.Value.pointer none)) noHp fun v => k v h) h1 fun v68_3 h2 =>
  rd Try.prog (pck (env 5) v68_3 (Go.Value.bool false)) noHp fun v69_4 =>
  K ((((((env.set 65 (env 5)).set 66 (env 5)).set 67 v67_2).set 68 v68_3).set 69 v69_4).set 4 v69_4) h2
@[congr] theorem octroilaw18_DualAsks_r8_congr {env : Env} {h : Hp} {K : Env → Hp → Prop} : octroilaw18_DualAsks_r8 env h K = octroilaw18_DualAsks_r8 env h K := rfl

/-- more.go:54 -/
def octroilaw18_DualAsks_r9 (env : Env) (h : Hp) (K : Env → Hp → Prop) : Prop :=
  rd Try.prog (Instr.build 23 #[(0, (Go.Value.int Go.IntKind.i64 10000)), (1, (Go.Value.int Go.IntKind.i64 10)), (2, (Go.Value.int Go.IntKind.i64 1))]) noHp fun v70_0 =>
  arun Try.prog (Instr.alloc 23 true (Go.Value.tuple #[])) h fun v10_1 h1 =>
  arun Try.prog (Instr.storeAt 23 v10_1 v70_0) h1 fun _ h2 =>
  K ((env.set 70 v70_0).set 10 v10_1) h2
@[congr] theorem octroilaw18_DualAsks_r9_congr {env : Env} {h : Hp} {K : Env → Hp → Prop} : octroilaw18_DualAsks_r9 env h K = octroilaw18_DualAsks_r9 env h K := rfl

/-- more.go:55 -/
def octroilaw18_DualAsks_r10 (env : Env) (h : Hp) (K : Env → Hp → Prop) : Prop :=
  rd Try.prog (Instr.loadAt 23 (env 10)) h fun v72_1 =>
  Ok Try.prog 12 #[(env 6), (Go.Value.int Go.IntKind.i64 2), v72_1] h fun v73_2 h1 =>
  K (((env.set 71 (env 6)).set 72 v72_1).set 73 v73_2) h1
@[congr] theorem octroilaw18_DualAsks_r10_congr {env : Env} {h : Hp} {K : Env → Hp → Prop} : octroilaw18_DualAsks_r10 env h K = octroilaw18_DualAsks_r10 env h K := rfl

/-- more.go:56 -/
def octroilaw18_DualAsks_r11 (env : Env) (h : Hp) (K : Env → Hp → Prop) : Prop :=
  rd Try.prog (Instr.loadAt 23 (env 10)) h fun v75_1 =>
  Ok Try.prog 12 #[(env 6), (Go.Value.int Go.IntKind.i64 3), v75_1] h fun v76_2 h1 =>
  K (((env.set 74 (env 6)).set 75 v75_1).set 76 v76_2) h1
@[congr] theorem octroilaw18_DualAsks_r11_congr {env : Env} {h : Hp} {K : Env → Hp → Prop} : octroilaw18_DualAsks_r11 env h K = octroilaw18_DualAsks_r11 env h K := rfl

/-- more.go:57 -/
def octroilaw18_DualAsks_r12 (env : Env) (h : Hp) (K : Env → Hp → Prop) : Prop :=
  rd Try.prog (Instr.loadAt 23 (env 2)) h fun v78_1 =>
  rd Try.prog (Instr.build 38 #[(1, v78_1)]) noHp fun v79_2 =>
  rd Try.prog (Instr.build 40 #[(1, (Go.Value.int Go.IntKind.i64 1)), (2, (Go.Value.int Go.IntKind.u32 1)), (4, v79_2)]) noHp fun v80_3 =>
  Ok Try.prog 14 #[(env 6), (Go.Value.int Go.IntKind.i64 2), v80_3] h fun v81_4 h1 =>
  K (((((env.set 77 (env 6)).set 78 v78_1).set 79 v79_2).set 80 v80_3).set 81 v81_4) h1
@[congr] theorem octroilaw18_DualAsks_r12_congr {env : Env} {h : Hp} {K : Env → Hp → Prop} : octroilaw18_DualAsks_r12 env h K = octroilaw18_DualAsks_r12 env h K := rfl

/-- more.go:58 -/
def octroilaw18_DualAsks_r13 (env : Env) (h : Hp) (K : Env → Hp → Prop) : Prop :=
  rd Try.prog (Instr.build 35 #[]) noHp fun v84_1 =>
  Ok Try.prog 15 #[(env 6), v84_1] h fun v85_2 h1 =>
  rd Try.prog (Instr.extract v85_2 0) noHp fun v86_4 =>
  rd Try.prog (Instr.extract v85_2 1) noHp fun v87_5 =>
  K ((((((((env.set 83 (env 6)).set 84 v84_1).set 85 v85_2).set 82 v85_2).set 86 v86_4).set 87 v87_5).set 11 v86_4).set 12 v87_5) h1
@[congr] theorem octroilaw18_DualAsks_r13_congr {env : Env} {h : Hp} {K : Env → Hp → Prop} : octroilaw18_DualAsks_r13 env h K = octroilaw18_DualAsks_r13 env h K := rfl

/-- more.go:59 -/
def octroilaw18_DualAsks_r14 (env : Env) (h : Hp) (K : Env → Hp → Prop) : Prop :=
  rd Try.prog (Instr.loadAt 23 (env 7)) h fun v90_1 =>
  rd Try.prog (Instr.build 38 #[(1, v90_1)]) noHp fun v91_2 =>
  rd Try.prog (Instr.build 40 #[(1, (Go.Value.int Go.IntKind.i64 1)), (2, (Go.Value.int Go.IntKind.u32 2)), (4, v91_2)]) noHp fun v92_3 =>
  Ok Try.prog 14 #[(env 6), (Go.Value.int Go.IntKind.i64 2), v92_3] h fun v93_4 h1 =>
  rd Try.prog (Instr.extract v93_4 0) noHp fun v94_6 =>
  rd Try.prog (Instr.extract v93_4 1) noHp fun v95_7 =>
  K ((((((((((env.set 89 (env 6)).set 90 v90_1).set 91 v91_2).set 92 v92_3).set 93 v93_4).set 88 v93_4).set 94 v94_6).set 95 v95_7).set 13 v94_6).set 14 v95_7) h1
@[congr] theorem octroilaw18_DualAsks_r14_congr {env : Env} {h : Hp} {K : Env → Hp → Prop} : octroilaw18_DualAsks_r14 env h K = octroilaw18_DualAsks_r14 env h K := rfl

/-- more.go:60 -/
def octroilaw18_DualAsks_r15 (env : Env) (h : Hp) (K : Env → Hp → Prop) : Prop :=
  rd Try.prog (Instr.build 35 #[]) noHp fun v98_1 =>
  Ok Try.prog 15 #[(env 6), v98_1] h fun v99_2 h1 =>
  rd Try.prog (Instr.extract v99_2 0) noHp fun v100_4 =>
  rd Try.prog (Instr.extract v99_2 1) noHp fun v101_5 =>
  K ((((((((env.set 97 (env 6)).set 98 v98_1).set 99 v99_2).set 96 v99_2).set 100 v100_4).set 101 v101_5).set 15 v100_4).set 16 v101_5) h1
@[congr] theorem octroilaw18_DualAsks_r15_congr {env : Env} {h : Hp} {K : Env → Hp → Prop} : octroilaw18_DualAsks_r15 env h K = octroilaw18_DualAsks_r15 env h K := rfl

/-- more.go:61 (in any order) -/
def octroilaw18_DualAsks_r16 (env : Env) (h : Hp) (K : Env → Hp → Prop) : Prop :=
  rd Try.prog (Instr.loadAt 23 (env 7)) h fun v102_0 =>
  rd Try.prog (Instr.loadAt 23 (env 10)) h fun v103_1 =>
  rd Try.prog (Instr.loadAt 23 (env 2)) h fun v106_2 =>
  rd Try.prog (Instr.loadAt 23 (env 10)) h fun v107_3 =>
  Ok Try.prog 16 #[v102_0, v103_1] h fun v104_4 h1 =>
  (rrun Try.prog (Instr.loadAt 23 (env 10)) h1 = some v107_3 ∧ rrun Try.prog (Instr.loadAt 23 (env 2)) h1 = some v106_2 ∧ True) ∧
  Ok Try.prog 18 #[v104_4] h1 fun v105_5 h2 =>
  (rrun Try.prog (Instr.loadAt 23 (env 10)) h2 = some v107_3 ∧ rrun Try.prog (Instr.loadAt 23 (env 2)) h2 = some v106_2 ∧ True) ∧
  Ok Try.prog 16 #[v106_2, v107_3] h2 fun v108_6 h3 =>
  (True) ∧
  Ok Try.prog 18 #[v108_6] h3 fun v109_7 h4 =>
  (True) ∧
  rd Try.prog (bop Go.BinOp.eql 3 (Go.Operand.tmp 105) (Go.Operand.tmp 109) v105_5 v109_7) noHp fun v110_8 =>
  K (((((((((env.set 102 v102_0).set 103 v103_1).set 106 v106_2).set 107 v107_3).set 104 v104_4).set 105 v105_5).set 108 v108_6).set 109 v109_7).set 110 v110_8) h4
@[congr] theorem octroilaw18_DualAsks_r16_congr {env : Env} {h : Hp} {K : Env → Hp → Prop} : octroilaw18_DualAsks_r16 env h K = octroilaw18_DualAsks_r16 env h K := rfl

/-- more.go:62 -/
def octroilaw18_DualAsks_r17 (env : Env) (h : Hp) (K : Env → Hp → Prop) : Prop :=
  rd Try.prog (bop Go.BinOp.eql 29 (Go.Operand.tmp 111) (Go.Operand.const (Go.Value.int Go.IntKind.i64 0)) (env 14) (Go.Value.int Go.IntKind.i64 0)) noHp fun v112_1 =>
  K (((env.set 111 (env 14)).set 112 v112_1).set 4 v112_1) h
@[congr] theorem octroilaw18_DualAsks_r17_congr {env : Env} {h : Hp} {K : Env → Hp → Prop} : octroilaw18_DualAsks_r17 env h K = octroilaw18_DualAsks_r17 env h K := rfl

/-- more.go:64 -/
def octroilaw18_DualAsks_r18 (env : Env) (h : Hp) (K : Env → Hp → Prop) : Prop :=
  rd Try.prog (bop Go.BinOp.neq 29 (Go.Operand.tmp 113) (Go.Operand.const (Go.Value.int Go.IntKind.i64 0)) (env 14) (Go.Value.int Go.IntKind.i64 0)) noHp fun v114_1 =>
  gd (yb v114_1 == some false) (fun h k => k (env 13) h) h fun v116_3 h1 =>
  gd (yb v114_1 == some false) (fun h k => rd Try.prog (Builtin.len_ #[28] 3 #[v116_3]) h fun v => k v h) h1 fun v117_4 h2 =>
  gd (yb v114_1 == some false) (fun h k => rd Try.prog (bop Go.BinOp.neq 3 (Go.Operand.tmp 117) (Go.Operand.const (Go.Value.int Go.IntKind.i64 2)) v117_4 (Go.Value.int Go.IntKind.i64 2)) noHp fun v => k v h) h2 fun v118_5 h3 =>
  rd Try.prog (pck v114_1 (Go.Value.bool true) v118_5) noHp fun v119_6 =>
  gd (yb v119_6 == some false) (fun h k => k (env 13) h) h3 fun v121_8 h4 =>
  gd (yb v119_6 == some false) (fun h k => rd Try.prog (Instr.indexAt 28 v121_8 (Go.Value.int Go.IntKind.i64 0)) noHp fun v => k v h) h4 fun v122_9 h5 =>
  gd (yb v119_6 == some false) (fun h k => rd Try.prog (Instr.fieldAt 40 v122_9 1) noHp fun v => k v h) h5 fun v123_10 h6 =>
  gd (yb v119_6 == some false) (fun h k => rd Try.prog (Instr.loadAt 3 v123_10) h fun v => k v h) h6 fun v124_11 h7 =>
  gd (yb v119_6 == some false) (fun h k => rd Try.prog (bop Go.BinOp.neq 3 (Go.Operand.tmp 124) (Go.Operand.const (Go.Value.int Go.IntKind.i64 2)) v124_11 (Go.Value.int Go.IntKind.i64 2)) noHp fun v => k v h) h7 fun v125_12 h8 =>
  rd Try.prog (pck v119_6 (Go.Value.bool true) v125_12) noHp fun v126_13 =>
  gd (yb v126_13 == some false) (fun h k => k (env 13) h) h8 fun v128_15 h9 =>
  gd (yb v126_13 == some false) (fun h k => rd Try.prog (Instr.indexAt 28 v128_15 (Go.Value.int Go.IntKind.i64 1)) noHp fun v => k v h) h9 fun v129_16 h10 =>
  gd (yb v126_13 == some false) (fun h k => rd Try.prog (Instr.fieldAt 40 v129_16 1) noHp fun v => k v h) h10 fun v130_17 h11 =>
  gd (yb v126_13 == some false) (fun h k => rd Try.prog (Instr.loadAt 3 v130_17) h fun v => k v h) h11 fun v131_18 h12 =>
  gd (yb v126_13 == some false) (fun h k => rd Try.prog (bop Go.BinOp.neq 3 (Go.Operand.tmp 131) (Go.Operand.const (Go.Value.int Go.IntKind.i64 2)) v131_18 (Go.Value.int Go.IntKind.i64 2)) noHp fun v => k v h) h12 fun v132_19 h13 =>
  rd Try.prog (pck v126_13 (Go.Value.bool true) v132_19) noHp fun v133_20 =>
  gd (yb v133_20 == some false) (fun h k => k (env 16) h) h13 fun v135_22 h14 =>
  rd Try.prog (pck v133_20 (Go.Value.bool true) v135_22) noHp fun v136_23 =>
  gd (yb v136_23 == some false) (fun h k => k (env 15) h) h14 fun v138_25 h15 =>
  gd (yb v136_23 == some false) (fun h k => k (env 11) h) h15 fun v139_26 h16 =>
  gd (yb v136_23 == some false) (fun h k => rd Try.prog (bop Go.BinOp.neq 3 (Go.Operand.tmp 138) (Go.Operand.tmp 139) v138_25 v139_26) noHp fun v => k v h) h16 fun v140_27 h17 =>
  rd Try.prog (pck v136_23 (Go.Value.bool true) v140_27) noHp fun v141_28 =>
  K (((((((((((((((((((((((((((((env.set 113 (env 14)).set 114 v114_1).set 115 v114_1).set 116 v116_3).set 117 v117_4).set 118 v118_5).set 119 v119_6).set 120 v119_6).set 121 v121_8).set 122 v122_9).set 123 v123_10).set 124 v124_11).set 125 v125_12).set 126 v126_13).set 127 v126_13).set 128 v128_15).set 129 v129_16).set 130 v130_17).set 131 v131_18).set 132 v132_19).set 133 v133_20).set 134 v133_20).set 135 v135_22).set 136 v136_23).set 137 v136_23).set 138 v138_25).set 139 v139_26).set 140 v140_27).set 141 v141_28) h17
@[congr] theorem octroilaw18_DualAsks_r18_congr {env : Env} {h : Hp} {K : Env → Hp → Prop} : octroilaw18_DualAsks_r18 env h K = octroilaw18_DualAsks_r18 env h K := rfl

/-- more.go:65 -/
def octroilaw18_DualAsks_r19 (env : Env) (h : Hp) (K : Env → Hp → Prop) : Prop :=
  K (env.set 4 (Go.Value.bool false)) h
@[congr] theorem octroilaw18_DualAsks_r19_congr {env : Env} {h : Hp} {K : Env → Hp → Prop} : octroilaw18_DualAsks_r19 env h K = octroilaw18_DualAsks_r19 env h K := rfl

/-- more.go:67 -/
def octroilaw18_DualAsks_r20 (env : Env) (h : Hp) (K : Env → Hp → Prop) : Prop :=
  rd Try.prog (Instr.indexAt 28 (env 13) (Go.Value.int Go.IntKind.i64 1)) noHp fun v144_2 =>
  rd Try.prog (Instr.fieldAt 40 v144_2 2) noHp fun v145_3 =>
  rd Try.prog (Instr.loadAt 33 v145_3) h fun v146_4 =>
  rd Try.prog (Instr.build 40 #[(1, (Go.Value.int Go.IntKind.i64 3)), (2, (Go.Value.int Go.IntKind.u32 1)), (3, v146_4)]) noHp fun v147_5 =>
  Ok Try.prog 14 #[(env 6), (Go.Value.int Go.IntKind.i64 3), v147_5] h fun v148_6 h1 =>
  K (((((((env.set 142 (env 6)).set 143 (env 13)).set 144 v144_2).set 145 v145_3).set 146 v146_4).set 147 v147_5).set 148 v148_6) h1
@[congr] theorem octroilaw18_DualAsks_r20_congr {env : Env} {h : Hp} {K : Env → Hp → Prop} : octroilaw18_DualAsks_r20 env h K = octroilaw18_DualAsks_r20 env h K := rfl

/-- more.go:68 -/
def octroilaw18_DualAsks_r21 (env : Env) (h : Hp) (K : Env → Hp → Prop) : Prop :=
  rd Try.prog (Instr.build 35 #[]) noHp fun v151_1 =>
  Ok Try.prog 15 #[(env 6), v151_1] h fun v152_2 h1 =>
  rd Try.prog (Instr.extract v152_2 0) noHp fun v153_4 =>
  rd Try.prog (Instr.extract v152_2 1) noHp fun v154_5 =>
  K ((((((((env.set 150 (env 6)).set 151 v151_1).set 152 v152_2).set 149 v152_2).set 153 v153_4).set 154 v154_5).set 17 v153_4).set 18 v154_5) h1
@[congr] theorem octroilaw18_DualAsks_r21_congr {env : Env} {h : Hp} {K : Env → Hp → Prop} : octroilaw18_DualAsks_r21 env h K = octroilaw18_DualAsks_r21 env h K := rfl

/-- more.go:69 (in any order) -/
def octroilaw18_DualAsks_r22 (env : Env) (h : Hp) (K : Env → Hp → Prop) : Prop :=
  rd Try.prog (Instr.indexAt 28 (env 13) (Go.Value.int Go.IntKind.i64 0)) noHp fun v157_2 =>
  rd Try.prog (Instr.fieldAt 40 v157_2 2) noHp fun v158_3 =>
  rd Try.prog (Instr.loadAt 33 v158_3) h fun v159_4 =>
  rd Try.prog (Instr.loadAt 23 (env 7)) h fun v160_5 =>
  rd Try.prog (Instr.build 38 #[(1, v160_5)]) noHp fun v161_6 =>
  rd Try.prog (Instr.build 40 #[(1, (Go.Value.int Go.IntKind.i64 3)), (2, (Go.Value.int Go.IntKind.u32 3)), (3, v159_4), (4, v161_6)]) noHp fun v162_7 =>
  Ok Try.prog 14 #[(env 6), (Go.Value.int Go.IntKind.i64 2), v162_7] h fun v163_8 h1 =>
  (True) ∧
  K (((((((((env.set 155 (env 6)).set 156 (env 13)).set 157 v157_2).set 158 v158_3).set 159 v159_4).set 160 v160_5).set 161 v161_6).set 162 v162_7).set 163 v163_8) h1
@[congr] theorem octroilaw18_DualAsks_r22_congr {env : Env} {h : Hp} {K : Env → Hp → Prop} : octroilaw18_DualAsks_r22 env h K = octroilaw18_DualAsks_r22 env h K := rfl

/-- more.go:70 -/
def octroilaw18_DualAsks_r23 (env : Env) (h : Hp) (K : Env → Hp → Prop) : Prop :=
  rd Try.prog (Instr.build 35 #[]) noHp fun v166_1 =>
  Ok Try.prog 15 #[(env 6), v166_1] h fun v167_2 h1 =>
  rd Try.prog (Instr.extract v167_2 0) noHp fun v168_4 =>
  rd Try.prog (Instr.extract v167_2 1) noHp fun v169_5 =>
  K ((((((((env.set 165 (env 6)).set 166 v166_1).set 167 v167_2).set 164 v167_2).set 168 v168_4).set 169 v169_5).set 19 v168_4).set 20 v169_5) h1
@[congr] theorem octroilaw18_DualAsks_r23_congr {env : Env} {h : Hp} {K : Env → Hp → Prop} : octroilaw18_DualAsks_r23 env h K = octroilaw18_DualAsks_r23 env h K := rfl

/-- more.go:71 -/
def octroilaw18_DualAsks_r24 (env : Env) (h : Hp) (K : Env → Hp → Prop) : Prop :=
  rd Try.prog (bop Go.BinOp.eql 3 (Go.Operand.tmp 170) (Go.Operand.tmp 171) (env 17) (env 11)) noHp fun v172_2 =>
  gd (yb v172_2 == some true) (fun h k => k (env 18) h) h fun v174_4 h1 =>
  gd (yb v172_2 == some true) (fun h k => rd Try.prog (Op.unary Go.UnOp.not v174_4) noHp fun v => k v h) h1 fun v175_5 h2 =>
  rd Try.prog (pck v172_2 v175_5 (Go.Value.bool false)) noHp fun v176_6 =>
  gd (yb v176_6 == some true) (fun h k => k (env 20) h) h2 fun v178_8 h3 =>
  rd Try.prog (pck v176_6 v178_8 (Go.Value.bool false)) noHp fun v179_9 =>
  gd (yb v179_9 == some true) (fun h k => k (env 19) h) h3 fun v181_11 h4 =>
  gd (yb v179_9 == some true) (fun h k => rd Try.prog (Instr.loadAt 23 (env 7)) h fun v => k v h) h4 fun v182_12 h5 =>
  gd (yb v179_9 == some true) (fun h k => rd Try.prog (Instr.loadAt 23 (env 10)) h fun v => k v h) h5 fun v183_13 h6 =>
  gd (yb v179_9 == some true) (fun h k => Ok Try.prog 16 #[v182_12, v183_13] h k) h6 fun v184_14 h7 =>
  gd (yb v179_9 == some true) (fun h k => Ok Try.prog 18 #[v184_14] h k) h7 fun v185_15 h8 =>
  gd (yb v179_9 == some true) (fun h k => rd Try.prog (bop Go.BinOp.eql 3 (Go.Operand.tmp 181) (Go.Operand.tmp 185) v181_11 v185_15) noHp fun v => k v h) h8 fun v186_16 h9 =>
  rd Try.prog (pck v179_9 v186_16 (Go.Value.bool false)) noHp fun v187_17 =>
  K (((((((((((((((((((env.set 170 (env 17)).set 171 (env 11)).set 172 v172_2).set 173 v172_2).set 174 v174_4).set 175 v175_5).set 176 v176_6).set 177 v176_6).set 178 v178_8).set 179 v179_9).set 180 v179_9).set 181 v181_11).set 182 v182_12).set 183 v183_13).set 184 v184_14).set 185 v185_15).set 186 v186_16).set 187 v187_17).set 4 v187_17) h9
@[congr] theorem octroilaw18_DualAsks_r24_congr {env : Env} {h : Hp} {K : Env → Hp → Prop} : octroilaw18_DualAsks_r24 env h K = octroilaw18_DualAsks_r24 env h K := rfl

def octroilaw18_DualAsks_D : Den := (sq (rg octroilaw18_DualAsks_r0) (sq (rg octroilaw18_DualAsks_r1) (sq (rg octroilaw18_DualAsks_r2) (sq (rg octroilaw18_DualAsks_r3) (sq (rg octroilaw18_DualAsks_r4) (sq (rg octroilaw18_DualAsks_r5) (sq (rg octroilaw18_DualAsks_r6) (sq (sq (rg octroilaw18_DualAsks_r7) (cnd (Go.Operand.tmp 64) (sq (rg octroilaw18_DualAsks_r8) (ex .ret)) (ex .normal))) (sq (rg octroilaw18_DualAsks_r9) (sq (rg octroilaw18_DualAsks_r10) (sq (rg octroilaw18_DualAsks_r11) (sq (rg octroilaw18_DualAsks_r12) (sq (rg octroilaw18_DualAsks_r13) (sq (rg octroilaw18_DualAsks_r14) (sq (rg octroilaw18_DualAsks_r15) (sq (sq (rg octroilaw18_DualAsks_r16) (cnd (Go.Operand.tmp 110) (sq (rg octroilaw18_DualAsks_r17) (ex .ret)) (ex .normal))) (sq (sq (rg octroilaw18_DualAsks_r18) (cnd (Go.Operand.tmp 141) (sq (rg octroilaw18_DualAsks_r19) (ex .ret)) (ex .normal))) (sq (rg octroilaw18_DualAsks_r20) (sq (rg octroilaw18_DualAsks_r21) (sq (rg octroilaw18_DualAsks_r22) (sq (rg octroilaw18_DualAsks_r23) (sq (rg octroilaw18_DualAsks_r24) (ex .ret)))))))))))))))))))))))

theorem octroilaw18_DualAsks_eq : (den Try.prog 188 octroilaw18_DualAsks_code).1 = octroilaw18_DualAsks_D := by kernel_rfl

theorem octroilaw18_DualAsks_ok {args : Array Value} {h : Hp} {Q : Value → Hp → Prop} (hn : args.size ≤ 188) (D : octroilaw18_DualAsks_D (fin Try.prog [(Go.ResultVar.tmp 4)] Q) (env0 args) h) : Ok Try.prog 4 args h Q :=
  ok_of_den progIsOk Try.func4 (c := octroilaw18_DualAsks_code) (by kernel_rfl) hn (by show (den Try.prog 188 octroilaw18_DualAsks_code).1 _ _ _; rw [octroilaw18_DualAsks_eq]; exact D)

/-! ### octroi/octroilaw18.DualAnswers: function 5 -/
noncomputable def octroilaw18_DualAnswers_code : Code := match Try.f5.body with | some c => c | none => .skip

/-- law.go:128 -/
def octroilaw18_DualAnswers_r0 (env : Env) (h : Hp) (K : Env → Hp → Prop) : Prop :=
  arun Try.prog (Instr.box 40 (env 4)) h fun v9_0 h1 =>
  K ((env.set 9 v9_0).set 10 (Go.Value.bool false)) h1
@[congr] theorem octroilaw18_DualAnswers_r0_congr {env : Env} {h : Hp} {K : Env → Hp → Prop} : octroilaw18_DualAnswers_r0 env h K = octroilaw18_DualAnswers_r0 env h K := rfl

/-- law.go:129 -/
def octroilaw18_DualAnswers_r1 (env : Env) (h : Hp) (K : Env → Hp → Prop) : Prop :=
  Ok Try.prog 9 #[] h fun v18_0 h1 =>
  K ((env.set 18 v18_0).set 11 v18_0) h1
@[congr] theorem octroilaw18_DualAnswers_r1_congr {env : Env} {h : Hp} {K : Env → Hp → Prop} : octroilaw18_DualAnswers_r1 env h K = octroilaw18_DualAnswers_r1 env h K := rfl

/-- law.go:130 -/
def octroilaw18_DualAnswers_r2 (env : Env) (h : Hp) (K : Env → Hp → Prop) : Prop :=
  Ok Try.prog 10 #[(env 0), (env 1)] h fun v21_2 h1 =>
  K ((((env.set 19 (env 0)).set 20 (env 1)).set 21 v21_2).set 12 v21_2) h1
@[congr] theorem octroilaw18_DualAnswers_r2_congr {env : Env} {h : Hp} {K : Env → Hp → Prop} : octroilaw18_DualAnswers_r2 env h K = octroilaw18_DualAnswers_r2 env h K := rfl

/-- law.go:131 -/
def octroilaw18_DualAnswers_r3 (env : Env) (h : Hp) (K : Env → Hp → Prop) : Prop :=
  rd Try.prog (Op.unary Go.UnOp.not (env 11)) noHp fun v23_1 =>
  gd (yb v23_1 == some false) (fun h k => k (env 12) h) h fun v25_3 h1 =>
  gd (yb v23_1 == some false) (fun h k => rd Try.prog (bop Go.BinOp.eql 25 (Go.Operand.tmp 25) (Go.Operand.const (Go.Value.pointer none)) v25_3 (Go.Value.pointer none)) noHp fun v => k v h) h1 fun v26_4 h2 =>
  rd Try.prog (pck v23_1 (Go.Value.bool true) v26_4) noHp fun v27_5 =>
  gd (yb v27_5 == some false) (fun h k => k (env 2) h) h2 fun v29_7 h3 =>
  gd (yb v27_5 == some false) (fun h k => rd Try.prog (Builtin.len_ #[52] 3 #[v29_7]) h fun v => k v h) h3 fun v30_8 h4 =>
  gd (yb v27_5 == some false) (fun h k => rd Try.prog (bop Go.BinOp.gtr 3 (Go.Operand.tmp 30) (Go.Operand.const (Go.Value.int Go.IntKind.i64 120)) v30_8 (Go.Value.int Go.IntKind.i64 120)) noHp fun v => k v h) h4 fun v31_9 h5 =>
  rd Try.prog (pck v27_5 (Go.Value.bool true) v31_9) noHp fun v32_10 =>
  K (((((((((((env.set 22 (env 11)).set 23 v23_1).set 24 v23_1).set 25 v25_3).set 26 v26_4).set 27 v27_5).set 28 v27_5).set 29 v29_7).set 30 v30_8).set 31 v31_9).set 32 v32_10) h5
@[congr] theorem octroilaw18_DualAnswers_r3_congr {env : Env} {h : Hp} {K : Env → Hp → Prop} : octroilaw18_DualAnswers_r3 env h K = octroilaw18_DualAnswers_r3 env h K := rfl

/-- law.go:132 -/
def octroilaw18_DualAnswers_r4 (env : Env) (h : Hp) (K : Env → Hp → Prop) : Prop :=
  gd (yb (env 11) == some true) (fun h k => k (env 12) h) h fun v35_2 h1 =>
  gd (yb (env 11) == some true) (fun h k => rd Try.prog (bop Go.BinOp.neq 25 (Go.Operand.tmp 35) (Go.Operand.const (Go.Value.pointer none)) v35_2 (Go.Value.pointer none)) noHp fun v => k v h) h1 fun v36_3 h2 =>
  rd Try.prog (pck (env 11) v36_3 (Go.Value.bool false)) noHp fun v37_4 =>
  K ((((((env.set 33 (env 11)).set 34 (env 11)).set 35 v35_2).set 36 v36_3).set 37 v37_4).set 10 v37_4) h2
@[congr] theorem octroilaw18_DualAnswers_r4_congr {env : Env} {h : Hp} {K : Env → Hp → Prop} : octroilaw18_DualAnswers_r4 env h K = octroilaw18_DualAnswers_r4 env h K := rfl

/-- law.go:134 -/
def octroilaw18_DualAnswers_r5 (env : Env) (h : Hp) (K : Env → Hp → Prop) : Prop :=
  K (env.set 13 (Go.Value.int Go.IntKind.i64 0)) h
@[congr] theorem octroilaw18_DualAnswers_r5_congr {env : Env} {h : Hp} {K : Env → Hp → Prop} : octroilaw18_DualAnswers_r5 env h K = octroilaw18_DualAnswers_r5 env h K := rfl

/-- law.go:134 -/
def octroilaw18_DualAnswers_r6 (env : Env) (h : Hp) (K : Env → Hp → Prop) : Prop :=
  rd Try.prog (Builtin.len_ #[52] 3 #[(env 2)]) h fun v40_2 =>
  rd Try.prog (bop Go.BinOp.lss 3 (Go.Operand.tmp 38) (Go.Operand.tmp 40) (env 13) v40_2) noHp fun v41_3 =>
  K ((((env.set 38 (env 13)).set 39 (env 2)).set 40 v40_2).set 41 v41_3) h
@[congr] theorem octroilaw18_DualAnswers_r6_congr {env : Env} {h : Hp} {K : Env → Hp → Prop} : octroilaw18_DualAnswers_r6 env h K = octroilaw18_DualAnswers_r6 env h K := rfl

/-- law.go:135 -/
def octroilaw18_DualAnswers_r7 (env : Env) (h : Hp) (K : Env → Hp → Prop) : Prop :=
  rd Try.prog (Instr.indexAt 52 (env 2) (env 13)) noHp fun v47_3 =>
  rd Try.prog (Instr.loadAt 55 v47_3) h fun v48_4 =>
  Ok Try.prog 21 #[(env 12), v48_4] h fun v49_5 h1 =>
  K ((((((env.set 44 (env 12)).set 45 (env 2)).set 46 (env 13)).set 47 v47_3).set 48 v48_4).set 49 v49_5) h1
@[congr] theorem octroilaw18_DualAnswers_r7_congr {env : Env} {h : Hp} {K : Env → Hp → Prop} : octroilaw18_DualAnswers_r7 env h K = octroilaw18_DualAnswers_r7 env h K := rfl

/-- law.go:134 -/
def octroilaw18_DualAnswers_r8 (env : Env) (h : Hp) (K : Env → Hp → Prop) : Prop :=
  rd Try.prog (bop Go.BinOp.add 3 (Go.Operand.tmp 42) (Go.Operand.const (Go.Value.int Go.IntKind.i64 1)) (env 13) (Go.Value.int Go.IntKind.i64 1)) noHp fun v43_1 =>
  K (((env.set 42 (env 13)).set 43 v43_1).set 13 v43_1) h
@[congr] theorem octroilaw18_DualAnswers_r8_congr {env : Env} {h : Hp} {K : Env → Hp → Prop} : octroilaw18_DualAnswers_r8 env h K = octroilaw18_DualAnswers_r8 env h K := rfl

def octroilaw18_DualAnswers_L0 : Den := (sq (sq (rg octroilaw18_DualAnswers_r6) (cnd (Go.Operand.tmp 41) (ex .normal) (ex (.exit 0)))) (sq (blk 1 (rg octroilaw18_DualAnswers_r7)) (rg octroilaw18_DualAnswers_r8)))

/-- law.go:137 -/
def octroilaw18_DualAnswers_r9 (env : Env) (h : Hp) (K : Env → Hp → Prop) : Prop :=
  rd Try.prog (Instr.fieldAt 40 (env 9) 1) noHp fun v50_0 =>
  arun Try.prog (Instr.storeAt 3 v50_0 (Go.Value.int Go.IntKind.i64 2)) h fun _ h1 =>
  K (env.set 50 v50_0) h1
@[congr] theorem octroilaw18_DualAnswers_r9_congr {env : Env} {h : Hp} {K : Env → Hp → Prop} : octroilaw18_DualAnswers_r9 env h K = octroilaw18_DualAnswers_r9 env h K := rfl

/-- law.go:138 -/
def octroilaw18_DualAnswers_r10 (env : Env) (h : Hp) (K : Env → Hp → Prop) : Prop :=
  rd Try.prog (Instr.loadAt 40 (env 9)) h fun v54_2 =>
  Ok Try.prog 14 #[(env 12), (env 3), v54_2] h fun v55_3 h1 =>
  rd Try.prog (Instr.extract v55_3 0) noHp fun v56_5 =>
  rd Try.prog (Instr.extract v55_3 1) noHp fun v57_6 =>
  K (((((((((env.set 52 (env 12)).set 53 (env 3)).set 54 v54_2).set 55 v55_3).set 51 v55_3).set 56 v56_5).set 57 v57_6).set 14 v56_5).set 15 v57_6) h1
@[congr] theorem octroilaw18_DualAnswers_r10_congr {env : Env} {h : Hp} {K : Env → Hp → Prop} : octroilaw18_DualAnswers_r10 env h K = octroilaw18_DualAnswers_r10 env h K := rfl

/-- law.go:139 -/
def octroilaw18_DualAnswers_r11 (env : Env) (h : Hp) (K : Env → Hp → Prop) : Prop :=
  rd Try.prog (bop Go.BinOp.eql 29 (Go.Operand.tmp 58) (Go.Operand.const (Go.Value.int Go.IntKind.i64 1)) (env 15) (Go.Value.int Go.IntKind.i64 1)) noHp fun v59_1 =>
  gd (yb v59_1 == some false) (fun h k => k (env 15) h) h fun v61_3 h1 =>
  gd (yb v59_1 == some false) (fun h k => rd Try.prog (bop Go.BinOp.eql 29 (Go.Operand.tmp 61) (Go.Operand.const (Go.Value.int Go.IntKind.i64 5)) v61_3 (Go.Value.int Go.IntKind.i64 5)) noHp fun v => k v h) h1 fun v62_4 h2 =>
  rd Try.prog (pck v59_1 (Go.Value.bool true) v62_4) noHp fun v63_5 =>
  K ((((((env.set 58 (env 15)).set 59 v59_1).set 60 v59_1).set 61 v61_3).set 62 v62_4).set 63 v63_5) h2
@[congr] theorem octroilaw18_DualAnswers_r11_congr {env : Env} {h : Hp} {K : Env → Hp → Prop} : octroilaw18_DualAnswers_r11 env h K = octroilaw18_DualAnswers_r11 env h K := rfl

/-- law.go:140 -/
def octroilaw18_DualAnswers_r12 (env : Env) (h : Hp) (K : Env → Hp → Prop) : Prop :=
  rd Try.prog (Builtin.len_ #[28] 3 #[(env 14)]) h fun v65_1 =>
  rd Try.prog (bop Go.BinOp.eql 3 (Go.Operand.tmp 65) (Go.Operand.const (Go.Value.int Go.IntKind.i64 0)) v65_1 (Go.Value.int Go.IntKind.i64 0)) noHp fun v66_2 =>
  K ((((env.set 64 (env 14)).set 65 v65_1).set 66 v66_2).set 10 v66_2) h
@[congr] theorem octroilaw18_DualAnswers_r12_congr {env : Env} {h : Hp} {K : Env → Hp → Prop} : octroilaw18_DualAnswers_r12 env h K = octroilaw18_DualAnswers_r12 env h K := rfl

/-- law.go:142 -/
def octroilaw18_DualAnswers_r13 (env : Env) (h : Hp) (K : Env → Hp → Prop) : Prop :=
  K (env.set 16 (Go.Value.int Go.IntKind.i64 0)) h
@[congr] theorem octroilaw18_DualAnswers_r13_congr {env : Env} {h : Hp} {K : Env → Hp → Prop} : octroilaw18_DualAnswers_r13 env h K = octroilaw18_DualAnswers_r13 env h K := rfl

/-- law.go:143 -/
def octroilaw18_DualAnswers_r14 (env : Env) (h : Hp) (K : Env → Hp → Prop) : Prop :=
  K (env.set 17 (Go.Value.int Go.IntKind.i64 0)) h
@[congr] theorem octroilaw18_DualAnswers_r14_congr {env : Env} {h : Hp} {K : Env → Hp → Prop} : octroilaw18_DualAnswers_r14 env h K = octroilaw18_DualAnswers_r14 env h K := rfl

/-- law.go:143 -/
def octroilaw18_DualAnswers_r15 (env : Env) (h : Hp) (K : Env → Hp → Prop) : Prop :=
  rd Try.prog (Builtin.len_ #[28] 3 #[(env 14)]) h fun v69_2 =>
  rd Try.prog (bop Go.BinOp.lss 3 (Go.Operand.tmp 67) (Go.Operand.tmp 69) (env 17) v69_2) noHp fun v70_3 =>
  K ((((env.set 67 (env 17)).set 68 (env 14)).set 69 v69_2).set 70 v70_3) h
@[congr] theorem octroilaw18_DualAnswers_r15_congr {env : Env} {h : Hp} {K : Env → Hp → Prop} : octroilaw18_DualAnswers_r15 env h K = octroilaw18_DualAnswers_r15 env h K := rfl

/-- law.go:144 -/
def octroilaw18_DualAnswers_r16 (env : Env) (h : Hp) (K : Env → Hp → Prop) : Prop :=
  rd Try.prog (Instr.indexAt 28 (env 14) (env 17)) noHp fun v75_2 =>
  rd Try.prog (Instr.fieldAt 40 v75_2 1) noHp fun v76_3 =>
  rd Try.prog (Instr.loadAt 3 v76_3) h fun v77_4 =>
  rd Try.prog (bop Go.BinOp.eql 3 (Go.Operand.tmp 77) (Go.Operand.const (Go.Value.int Go.IntKind.i64 3)) v77_4 (Go.Value.int Go.IntKind.i64 3)) noHp fun v78_5 =>
  K ((((((env.set 73 (env 14)).set 74 (env 17)).set 75 v75_2).set 76 v76_3).set 77 v77_4).set 78 v78_5) h
@[congr] theorem octroilaw18_DualAnswers_r16_congr {env : Env} {h : Hp} {K : Env → Hp → Prop} : octroilaw18_DualAnswers_r16 env h K = octroilaw18_DualAnswers_r16 env h K := rfl

/-- law.go:145 -/
def octroilaw18_DualAnswers_r17 (env : Env) (h : Hp) (K : Env → Hp → Prop) : Prop :=
  rd Try.prog (bop Go.BinOp.add 3 (Go.Operand.tmp 79) (Go.Operand.const (Go.Value.int Go.IntKind.i64 1)) (env 16) (Go.Value.int Go.IntKind.i64 1)) noHp fun v80_1 =>
  K (((env.set 79 (env 16)).set 80 v80_1).set 16 v80_1) h
@[congr] theorem octroilaw18_DualAnswers_r17_congr {env : Env} {h : Hp} {K : Env → Hp → Prop} : octroilaw18_DualAnswers_r17 env h K = octroilaw18_DualAnswers_r17 env h K := rfl

/-- law.go:146 (in any order) -/
def octroilaw18_DualAnswers_r18 (env : Env) (h : Hp) (K : Env → Hp → Prop) : Prop :=
  rd Try.prog (Instr.indexAt 28 (env 14) (env 17)) noHp fun v83_2 =>
  rd Try.prog (Instr.fieldAt 40 v83_2 0) noHp fun v84_3 =>
  rd Try.prog (Instr.loadAt 3 v84_3) h fun v85_4 =>
  rd Try.prog (bop Go.BinOp.neq 3 (Go.Operand.tmp 85) (Go.Operand.tmp 86) v85_4 (env 3)) noHp fun v87_6 =>
  gd (yb v87_6 == some false) (fun h k => k (env 14) h) h fun v89_8 h1 =>
  gd (yb v87_6 == some false) (fun h k => k (env 17) h) h1 fun v90_9 h2 =>
  gd (yb v87_6 == some false) (fun h k => rd Try.prog (Instr.indexAt 28 v89_8 v90_9) noHp fun v => k v h) h2 fun v91_10 h3 =>
  gd (yb v87_6 == some false) (fun h k => rd Try.prog (Instr.fieldAt 40 v91_10 3) noHp fun v => k v h) h3 fun v92_11 h4 =>
  gd (yb v87_6 == some false) (fun h k => rd Try.prog (Instr.loadAt 33 v92_11) h fun v => k v h) h4 fun v93_12 h5 =>
  gd (yb v87_6 == some false) (fun h k => rd Try.prog (Instr.fieldAt 40 (env 9) 2) noHp fun v => k v h) h5 fun v94_13 h6 =>
  gd (yb v87_6 == some false) (fun h k => rd Try.prog (Instr.loadAt 33 v94_13) h fun v => k v h) h6 fun v95_14 h7 =>
  gd (yb v87_6 == some false) (fun h k => rd Try.prog (bop Go.BinOp.neq 33 (Go.Operand.tmp 93) (Go.Operand.tmp 95) v93_12 v95_14) noHp fun v => k v h) h7 fun v96_15 h8 =>
  rd Try.prog (pck v87_6 (Go.Value.bool true) v96_15) noHp fun v97_16 =>
  gd (yb v97_16 == some false) (fun h k => k (env 14) h) h8 fun v99_18 h9 =>
  gd (yb v97_16 == some false) (fun h k => k (env 17) h) h9 fun v100_19 h10 =>
  gd (yb v97_16 == some false) (fun h k => rd Try.prog (Instr.indexAt 28 v99_18 v100_19) noHp fun v => k v h) h10 fun v101_20 h11 =>
  gd (yb v97_16 == some false) (fun h k => rd Try.prog (Instr.fieldAt 40 v101_20 4) noHp fun v => k v h) h11 fun v102_21 h12 =>
  gd (yb v97_16 == some false) (fun h k => rd Try.prog (Instr.fieldAt 38 v102_21 0) noHp fun v => k v h) h12 fun v103_22 h13 =>
  gd (yb v97_16 == some false) (fun h k => rd Try.prog (Instr.loadAt 35 v103_22) h fun v => k v h) h13 fun v104_23 h14 =>
  gd (yb v97_16 == some false) (fun h k => rd Try.prog (Instr.fieldAt 40 (env 9) 4) noHp fun v => k v h) h14 fun v105_24 h15 =>
  gd (yb v97_16 == some false) (fun h k => rd Try.prog (Instr.fieldAt 38 v105_24 0) noHp fun v => k v h) h15 fun v106_25 h16 =>
  gd (yb v97_16 == some false) (fun h k => rd Try.prog (Instr.loadAt 35 v106_25) h fun v => k v h) h16 fun v107_26 h17 =>
  gd (yb v97_16 == some false) (fun h k => rd Try.prog (bop Go.BinOp.neq 35 (Go.Operand.tmp 104) (Go.Operand.tmp 107) v104_23 v107_26) noHp fun v => k v h) h17 fun v108_27 h18 =>
  rd Try.prog (pck v97_16 (Go.Value.bool true) v108_27) noHp fun v109_28 =>
  K (((((((((((((((((((((((((((((env.set 81 (env 14)).set 82 (env 17)).set 83 v83_2).set 84 v84_3).set 85 v85_4).set 86 (env 3)).set 87 v87_6).set 88 v87_6).set 89 v89_8).set 90 v90_9).set 91 v91_10).set 92 v92_11).set 93 v93_12).set 94 v94_13).set 95 v95_14).set 96 v96_15).set 97 v97_16).set 98 v97_16).set 99 v99_18).set 100 v100_19).set 101 v101_20).set 102 v102_21).set 103 v103_22).set 104 v104_23).set 105 v105_24).set 106 v106_25).set 107 v107_26).set 108 v108_27).set 109 v109_28) h18
@[congr] theorem octroilaw18_DualAnswers_r18_congr {env : Env} {h : Hp} {K : Env → Hp → Prop} : octroilaw18_DualAnswers_r18 env h K = octroilaw18_DualAnswers_r18 env h K := rfl

/-- law.go:147 -/
def octroilaw18_DualAnswers_r19 (env : Env) (h : Hp) (K : Env → Hp → Prop) : Prop :=
  K (env.set 10 (Go.Value.bool false)) h
@[congr] theorem octroilaw18_DualAnswers_r19_congr {env : Env} {h : Hp} {K : Env → Hp → Prop} : octroilaw18_DualAnswers_r19 env h K = octroilaw18_DualAnswers_r19 env h K := rfl

/-- law.go:143 -/
def octroilaw18_DualAnswers_r20 (env : Env) (h : Hp) (K : Env → Hp → Prop) : Prop :=
  rd Try.prog (bop Go.BinOp.add 3 (Go.Operand.tmp 71) (Go.Operand.const (Go.Value.int Go.IntKind.i64 1)) (env 17) (Go.Value.int Go.IntKind.i64 1)) noHp fun v72_1 =>
  K (((env.set 71 (env 17)).set 72 v72_1).set 17 v72_1) h
@[congr] theorem octroilaw18_DualAnswers_r20_congr {env : Env} {h : Hp} {K : Env → Hp → Prop} : octroilaw18_DualAnswers_r20 env h K = octroilaw18_DualAnswers_r20 env h K := rfl

def octroilaw18_DualAnswers_L1 : Den := (sq (sq (rg octroilaw18_DualAnswers_r15) (cnd (Go.Operand.tmp 70) (ex .normal) (ex (.exit 2)))) (sq (blk 3 (sq (rg octroilaw18_DualAnswers_r16) (cnd (Go.Operand.tmp 78) (sq (rg octroilaw18_DualAnswers_r17) (sq (rg octroilaw18_DualAnswers_r18) (cnd (Go.Operand.tmp 109) (sq (rg octroilaw18_DualAnswers_r19) (ex .ret)) (ex .normal)))) (ex .normal)))) (rg octroilaw18_DualAnswers_r20)))

/-- law.go:151 -/
def octroilaw18_DualAnswers_r21 (env : Env) (h : Hp) (K : Env → Hp → Prop) : Prop :=
  rd Try.prog (bop Go.BinOp.eql 3 (Go.Operand.tmp 110) (Go.Operand.const (Go.Value.int Go.IntKind.i64 1)) (env 16) (Go.Value.int Go.IntKind.i64 1)) noHp fun v111_1 =>
  K (((env.set 110 (env 16)).set 111 v111_1).set 10 v111_1) h
@[congr] theorem octroilaw18_DualAnswers_r21_congr {env : Env} {h : Hp} {K : Env → Hp → Prop} : octroilaw18_DualAnswers_r21 env h K = octroilaw18_DualAnswers_r21 env h K := rfl

def octroilaw18_DualAnswers_D : Den := (sq (rg octroilaw18_DualAnswers_r0) (sq (rg octroilaw18_DualAnswers_r1) (sq (rg octroilaw18_DualAnswers_r2) (sq (sq (rg octroilaw18_DualAnswers_r3) (cnd (Go.Operand.tmp 32) (sq (rg octroilaw18_DualAnswers_r4) (ex .ret)) (ex .normal))) (sq (sq (rg octroilaw18_DualAnswers_r5) (blk 0 (lp octroilaw18_DualAnswers_L0))) (sq (rg octroilaw18_DualAnswers_r9) (sq (rg octroilaw18_DualAnswers_r10) (sq (sq (rg octroilaw18_DualAnswers_r11) (cnd (Go.Operand.tmp 63) (sq (rg octroilaw18_DualAnswers_r12) (ex .ret)) (ex .normal))) (sq (rg octroilaw18_DualAnswers_r13) (sq (sq (rg octroilaw18_DualAnswers_r14) (blk 2 (lp octroilaw18_DualAnswers_L1))) (sq (rg octroilaw18_DualAnswers_r21) (ex .ret))))))))))))

theorem octroilaw18_DualAnswers_eq : (den Try.prog 112 octroilaw18_DualAnswers_code).1 = octroilaw18_DualAnswers_D := by kernel_rfl

theorem octroilaw18_DualAnswers_ok {args : Array Value} {h : Hp} {Q : Value → Hp → Prop} (hn : args.size ≤ 112) (D : octroilaw18_DualAnswers_D (fin Try.prog [(Go.ResultVar.tmp 10)] Q) (env0 args) h) : Ok Try.prog 5 args h Q :=
  ok_of_den progIsOk Try.func5 (c := octroilaw18_DualAnswers_code) (by kernel_rfl) hn (by show (den Try.prog 112 octroilaw18_DualAnswers_code).1 _ _ _; rw [octroilaw18_DualAnswers_eq]; exact D)

/-! ### octroi/octroilaw18.DualNumbers: function 6 -/
noncomputable def octroilaw18_DualNumbers_code : Code := match Try.f6.body with | some c => c | none => .skip

/-- law.go:155 -/
def octroilaw18_DualNumbers_r0 (env : Env) (h : Hp) (K : Env → Hp → Prop) : Prop :=
  K (env.set 4 (Go.Value.bool false)) h
@[congr] theorem octroilaw18_DualNumbers_r0_congr {env : Env} {h : Hp} {K : Env → Hp → Prop} : octroilaw18_DualNumbers_r0 env h K = octroilaw18_DualNumbers_r0 env h K := rfl

/-- law.go:156 -/
def octroilaw18_DualNumbers_r1 (env : Env) (h : Hp) (K : Env → Hp → Prop) : Prop :=
  Ok Try.prog 9 #[] h fun v15_0 h1 =>
  K ((env.set 15 v15_0).set 5 v15_0) h1
@[congr] theorem octroilaw18_DualNumbers_r1_congr {env : Env} {h : Hp} {K : Env → Hp → Prop} : octroilaw18_DualNumbers_r1 env h K = octroilaw18_DualNumbers_r1 env h K := rfl

/-- law.go:157 -/
def octroilaw18_DualNumbers_r2 (env : Env) (h : Hp) (K : Env → Hp → Prop) : Prop :=
  Ok Try.prog 10 #[(env 0), (Go.Value.int Go.IntKind.i64 64)] h fun v17_1 h1 =>
  K (((env.set 16 (env 0)).set 17 v17_1).set 6 v17_1) h1
@[congr] theorem octroilaw18_DualNumbers_r2_congr {env : Env} {h : Hp} {K : Env → Hp → Prop} : octroilaw18_DualNumbers_r2 env h K = octroilaw18_DualNumbers_r2 env h K := rfl

/-- law.go:158 -/
def octroilaw18_DualNumbers_r3 (env : Env) (h : Hp) (K : Env → Hp → Prop) : Prop :=
  rd Try.prog (Op.unary Go.UnOp.not (env 5)) noHp fun v19_1 =>
  gd (yb v19_1 == some false) (fun h k => k (env 6) h) h fun v21_3 h1 =>
  gd (yb v19_1 == some false) (fun h k => rd Try.prog (bop Go.BinOp.eql 25 (Go.Operand.tmp 21) (Go.Operand.const (Go.Value.pointer none)) v21_3 (Go.Value.pointer none)) noHp fun v => k v h) h1 fun v22_4 h2 =>
  rd Try.prog (pck v19_1 (Go.Value.bool true) v22_4) noHp fun v23_5 =>
  gd (yb v23_5 == some false) (fun h k => k (env 1) h) h2 fun v25_7 h3 =>
  gd (yb v23_5 == some false) (fun h k => rd Try.prog (Builtin.len_ #[52] 3 #[v25_7]) h fun v => k v h) h3 fun v26_8 h4 =>
  gd (yb v23_5 == some false) (fun h k => rd Try.prog (bop Go.BinOp.gtr 3 (Go.Operand.tmp 26) (Go.Operand.const (Go.Value.int Go.IntKind.i64 120)) v26_8 (Go.Value.int Go.IntKind.i64 120)) noHp fun v => k v h) h4 fun v27_9 h5 =>
  rd Try.prog (pck v23_5 (Go.Value.bool true) v27_9) noHp fun v28_10 =>
  K (((((((((((env.set 18 (env 5)).set 19 v19_1).set 20 v19_1).set 21 v21_3).set 22 v22_4).set 23 v23_5).set 24 v23_5).set 25 v25_7).set 26 v26_8).set 27 v27_9).set 28 v28_10) h5
@[congr] theorem octroilaw18_DualNumbers_r3_congr {env : Env} {h : Hp} {K : Env → Hp → Prop} : octroilaw18_DualNumbers_r3 env h K = octroilaw18_DualNumbers_r3 env h K := rfl

/-- law.go:159 -/
def octroilaw18_DualNumbers_r4 (env : Env) (h : Hp) (K : Env → Hp → Prop) : Prop :=
  gd (yb (env 5) == some true) (fun h k => k (env 6) h) h fun v31_2 h1 =>
  gd (yb (env 5) == some true) (fun h k => rd Try.prog (bop Go.BinOp.neq 25 (Go.Operand.tmp 31) (Go.Operand.const (Go.Value.pointer none)) v31_2 (Go.Value.pointer none)) noHp fun v => k v h) h1 fun v32_3 h2 =>
  rd Try.prog (pck (env 5) v32_3 (Go.Value.bool false)) noHp fun v33_4 =>
  K ((((((env.set 29 (env 5)).set 30 (env 5)).set 31 v31_2).set 32 v32_3).set 33 v33_4).set 4 v33_4) h2
@[congr] theorem octroilaw18_DualNumbers_r4_congr {env : Env} {h : Hp} {K : Env → Hp → Prop} : octroilaw18_DualNumbers_r4 env h K = octroilaw18_DualNumbers_r4 env h K := rfl

/-- law.go:161 -/
def octroilaw18_DualNumbers_r5 (env : Env) (h : Hp) (K : Env → Hp → Prop) : Prop :=
  arun Try.prog (Instr.makeSlice 57 (Go.Value.int Go.IntKind.i64 33) (Go.Value.int Go.IntKind.i64 33)) h fun v34_0 h1 =>
  K ((env.set 34 v34_0).set 7 v34_0) h1
@[congr] theorem octroilaw18_DualNumbers_r5_congr {env : Env} {h : Hp} {K : Env → Hp → Prop} : octroilaw18_DualNumbers_r5 env h K = octroilaw18_DualNumbers_r5 env h K := rfl

/-- law.go:162 -/
def octroilaw18_DualNumbers_r6 (env : Env) (h : Hp) (K : Env → Hp → Prop) : Prop :=
  arun Try.prog (Instr.makeSlice 58 (Go.Value.int Go.IntKind.i64 33) (Go.Value.int Go.IntKind.i64 33)) h fun v35_0 h1 =>
  K ((env.set 35 v35_0).set 8 v35_0) h1
@[congr] theorem octroilaw18_DualNumbers_r6_congr {env : Env} {h : Hp} {K : Env → Hp → Prop} : octroilaw18_DualNumbers_r6 env h K = octroilaw18_DualNumbers_r6 env h K := rfl

/-- law.go:163 -/
def octroilaw18_DualNumbers_r7 (env : Env) (h : Hp) (K : Env → Hp → Prop) : Prop :=
  K (env.set 9 (Go.Value.int Go.IntKind.i64 0)) h
@[congr] theorem octroilaw18_DualNumbers_r7_congr {env : Env} {h : Hp} {K : Env → Hp → Prop} : octroilaw18_DualNumbers_r7 env h K = octroilaw18_DualNumbers_r7 env h K := rfl

/-- law.go:163 -/
def octroilaw18_DualNumbers_r8 (env : Env) (h : Hp) (K : Env → Hp → Prop) : Prop :=
  rd Try.prog (Builtin.len_ #[52] 3 #[(env 1)]) h fun v38_2 =>
  rd Try.prog (bop Go.BinOp.lss 3 (Go.Operand.tmp 36) (Go.Operand.tmp 38) (env 9) v38_2) noHp fun v39_3 =>
  K ((((env.set 36 (env 9)).set 37 (env 1)).set 38 v38_2).set 39 v39_3) h
@[congr] theorem octroilaw18_DualNumbers_r8_congr {env : Env} {h : Hp} {K : Env → Hp → Prop} : octroilaw18_DualNumbers_r8 env h K = octroilaw18_DualNumbers_r8 env h K := rfl

/-- law.go:164 -/
def octroilaw18_DualNumbers_r9 (env : Env) (h : Hp) (K : Env → Hp → Prop) : Prop :=
  rd Try.prog (Instr.indexAt 52 (env 1) (env 9)) noHp fun v46_3 =>
  rd Try.prog (Instr.loadAt 55 v46_3) h fun v47_4 =>
  Ok Try.prog 21 #[(env 6), v47_4] h fun v48_5 h1 =>
  rd Try.prog (Instr.extract v48_5 0) noHp fun v49_7 =>
  rd Try.prog (Instr.extract v48_5 1) noHp fun v50_8 =>
  K (((((((((((env.set 43 (env 6)).set 44 (env 1)).set 45 (env 9)).set 46 v46_3).set 47 v47_4).set 48 v48_5).set 42 v48_5).set 49 v49_7).set 50 v50_8).set 10 v49_7).set 11 v50_8) h1
@[congr] theorem octroilaw18_DualNumbers_r9_congr {env : Env} {h : Hp} {K : Env → Hp → Prop} : octroilaw18_DualNumbers_r9 env h K = octroilaw18_DualNumbers_r9 env h K := rfl

/-- law.go:165 -/
def octroilaw18_DualNumbers_r10 (env : Env) (h : Hp) (K : Env → Hp → Prop) : Prop :=
  rd Try.prog (Instr.indexAt 52 (env 1) (env 9)) noHp fun v53_2 =>
  rd Try.prog (Instr.fieldAt 55 v53_2 1) noHp fun v54_3 =>
  rd Try.prog (Instr.loadAt 3 v54_3) h fun v55_4 =>
  K ((((((env.set 51 (env 1)).set 52 (env 9)).set 53 v53_2).set 54 v54_3).set 55 v55_4).set 12 v55_4) h
@[congr] theorem octroilaw18_DualNumbers_r10_congr {env : Env} {h : Hp} {K : Env → Hp → Prop} : octroilaw18_DualNumbers_r10 env h K = octroilaw18_DualNumbers_r10 env h K := rfl

/-- law.go:166 -/
def octroilaw18_DualNumbers_r11 (env : Env) (h : Hp) (K : Env → Hp → Prop) : Prop :=
  rd Try.prog (Instr.indexAt 52 (env 1) (env 9)) noHp fun v58_2 =>
  rd Try.prog (Instr.fieldAt 55 v58_2 0) noHp fun v59_3 =>
  rd Try.prog (Instr.loadAt 3 v59_3) h fun v60_4 =>
  rd Try.prog (bop Go.BinOp.eql 3 (Go.Operand.tmp 60) (Go.Operand.const (Go.Value.int Go.IntKind.i64 0)) v60_4 (Go.Value.int Go.IntKind.i64 0)) noHp fun v61_5 =>
  gd (yb v61_5 == some true) (fun h k => k (env 11) h) h fun v63_7 h1 =>
  gd (yb v61_5 == some true) (fun h k => rd Try.prog (bop Go.BinOp.eql 29 (Go.Operand.tmp 63) (Go.Operand.const (Go.Value.int Go.IntKind.i64 0)) v63_7 (Go.Value.int Go.IntKind.i64 0)) noHp fun v => k v h) h1 fun v64_8 h2 =>
  rd Try.prog (pck v61_5 v64_8 (Go.Value.bool false)) noHp fun v65_9 =>
  K ((((((((((env.set 56 (env 1)).set 57 (env 9)).set 58 v58_2).set 59 v59_3).set 60 v60_4).set 61 v61_5).set 62 v61_5).set 63 v63_7).set 64 v64_8).set 65 v65_9) h2
@[congr] theorem octroilaw18_DualNumbers_r11_congr {env : Env} {h : Hp} {K : Env → Hp → Prop} : octroilaw18_DualNumbers_r11 env h K = octroilaw18_DualNumbers_r11 env h K := rfl

/-- law.go:167 -/
def octroilaw18_DualNumbers_r12 (env : Env) (h : Hp) (K : Env → Hp → Prop) : Prop :=
  rd Try.prog (Instr.indexAt 57 (env 7) (env 12)) noHp fun v68_2 =>
  arun Try.prog (Instr.storeAt 4 v68_2 (Go.Value.bool true)) h fun _ h1 =>
  K (((env.set 66 (env 7)).set 67 (env 12)).set 68 v68_2) h1
@[congr] theorem octroilaw18_DualNumbers_r12_congr {env : Env} {h : Hp} {K : Env → Hp → Prop} : octroilaw18_DualNumbers_r12 env h K = octroilaw18_DualNumbers_r12 env h K := rfl

/-- law.go:168 -/
def octroilaw18_DualNumbers_r13 (env : Env) (h : Hp) (K : Env → Hp → Prop) : Prop :=
  rd Try.prog (Instr.indexAt 58 (env 8) (env 12)) noHp fun v71_2 =>
  arun Try.prog (Instr.storeAt 33 v71_2 (Go.Value.int Go.IntKind.u32 0)) h fun _ h1 =>
  K (((env.set 69 (env 8)).set 70 (env 12)).set 71 v71_2) h1
@[congr] theorem octroilaw18_DualNumbers_r13_congr {env : Env} {h : Hp} {K : Env → Hp → Prop} : octroilaw18_DualNumbers_r13 env h K = octroilaw18_DualNumbers_r13 env h K := rfl

/-- law.go:170 -/
def octroilaw18_DualNumbers_r14 (env : Env) (h : Hp) (K : Env → Hp → Prop) : Prop :=
  rd Try.prog (Instr.indexAt 52 (env 1) (env 9)) noHp fun v74_2 =>
  rd Try.prog (Instr.fieldAt 55 v74_2 0) noHp fun v75_3 =>
  rd Try.prog (Instr.loadAt 3 v75_3) h fun v76_4 =>
  rd Try.prog (bop Go.BinOp.eql 3 (Go.Operand.tmp 76) (Go.Operand.const (Go.Value.int Go.IntKind.i64 1)) v76_4 (Go.Value.int Go.IntKind.i64 1)) noHp fun v77_5 =>
  gd (yb v77_5 == some true) (fun h k => k (env 12) h) h fun v79_7 h1 =>
  gd (yb v77_5 == some true) (fun h k => rd Try.prog (bop Go.BinOp.geq 3 (Go.Operand.tmp 79) (Go.Operand.const (Go.Value.int Go.IntKind.i64 1)) v79_7 (Go.Value.int Go.IntKind.i64 1)) noHp fun v => k v h) h1 fun v80_8 h2 =>
  rd Try.prog (pck v77_5 v80_8 (Go.Value.bool false)) noHp fun v81_9 =>
  gd (yb v81_9 == some true) (fun h k => k (env 12) h) h2 fun v83_11 h3 =>
  gd (yb v81_9 == some true) (fun h k => rd Try.prog (bop Go.BinOp.leq 3 (Go.Operand.tmp 83) (Go.Operand.const (Go.Value.int Go.IntKind.i64 32)) v83_11 (Go.Value.int Go.IntKind.i64 32)) noHp fun v => k v h) h3 fun v84_12 h4 =>
  rd Try.prog (pck v81_9 v84_12 (Go.Value.bool false)) noHp fun v85_13 =>
  K ((((((((((((((env.set 72 (env 1)).set 73 (env 9)).set 74 v74_2).set 75 v75_3).set 76 v76_4).set 77 v77_5).set 78 v77_5).set 79 v79_7).set 80 v80_8).set 81 v81_9).set 82 v81_9).set 83 v83_11).set 84 v84_12).set 85 v85_13) h4
@[congr] theorem octroilaw18_DualNumbers_r14_congr {env : Env} {h : Hp} {K : Env → Hp → Prop} : octroilaw18_DualNumbers_r14 env h K = octroilaw18_DualNumbers_r14 env h K := rfl

/-- law.go:171 -/
def octroilaw18_DualNumbers_r15 (env : Env) (h : Hp) (K : Env → Hp → Prop) : Prop :=
  rd Try.prog (Instr.indexAt 57 (env 7) (env 12)) noHp fun v88_2 =>
  arun Try.prog (Instr.storeAt 4 v88_2 (Go.Value.bool false)) h fun _ h1 =>
  K (((env.set 86 (env 7)).set 87 (env 12)).set 88 v88_2) h1
@[congr] theorem octroilaw18_DualNumbers_r15_congr {env : Env} {h : Hp} {K : Env → Hp → Prop} : octroilaw18_DualNumbers_r15 env h K = octroilaw18_DualNumbers_r15 env h K := rfl

/-- law.go:173 -/
def octroilaw18_DualNumbers_r16 (env : Env) (h : Hp) (K : Env → Hp → Prop) : Prop :=
  K (env.set 13 (Go.Value.int Go.IntKind.i64 0)) h
@[congr] theorem octroilaw18_DualNumbers_r16_congr {env : Env} {h : Hp} {K : Env → Hp → Prop} : octroilaw18_DualNumbers_r16 env h K = octroilaw18_DualNumbers_r16 env h K := rfl

/-- law.go:173 -/
def octroilaw18_DualNumbers_r17 (env : Env) (h : Hp) (K : Env → Hp → Prop) : Prop :=
  rd Try.prog (Builtin.len_ #[28] 3 #[(env 10)]) h fun v91_2 =>
  rd Try.prog (bop Go.BinOp.lss 3 (Go.Operand.tmp 89) (Go.Operand.tmp 91) (env 13) v91_2) noHp fun v92_3 =>
  K ((((env.set 89 (env 13)).set 90 (env 10)).set 91 v91_2).set 92 v92_3) h
@[congr] theorem octroilaw18_DualNumbers_r17_congr {env : Env} {h : Hp} {K : Env → Hp → Prop} : octroilaw18_DualNumbers_r17 env h K = octroilaw18_DualNumbers_r17 env h K := rfl

/-- law.go:174 -/
def octroilaw18_DualNumbers_r18 (env : Env) (h : Hp) (K : Env → Hp → Prop) : Prop :=
  rd Try.prog (Instr.indexAt 28 (env 10) (env 13)) noHp fun v97_2 =>
  rd Try.prog (Instr.fieldAt 40 v97_2 0) noHp fun v98_3 =>
  rd Try.prog (Instr.loadAt 3 v98_3) h fun v99_4 =>
  K ((((((env.set 95 (env 10)).set 96 (env 13)).set 97 v97_2).set 98 v98_3).set 99 v99_4).set 14 v99_4) h
@[congr] theorem octroilaw18_DualNumbers_r18_congr {env : Env} {h : Hp} {K : Env → Hp → Prop} : octroilaw18_DualNumbers_r18 env h K = octroilaw18_DualNumbers_r18 env h K := rfl

/-- law.go:175 (in any order) -/
def octroilaw18_DualNumbers_r19 (env : Env) (h : Hp) (K : Env → Hp → Prop) : Prop :=
  rd Try.prog (bop Go.BinOp.lss 3 (Go.Operand.tmp 100) (Go.Operand.const (Go.Value.int Go.IntKind.i64 1)) (env 14) (Go.Value.int Go.IntKind.i64 1)) noHp fun v101_1 =>
  gd (yb v101_1 == some false) (fun h k => k (env 14) h) h fun v103_3 h1 =>
  gd (yb v101_1 == some false) (fun h k => rd Try.prog (bop Go.BinOp.gtr 3 (Go.Operand.tmp 103) (Go.Operand.const (Go.Value.int Go.IntKind.i64 32)) v103_3 (Go.Value.int Go.IntKind.i64 32)) noHp fun v => k v h) h1 fun v104_4 h2 =>
  rd Try.prog (pck v101_1 (Go.Value.bool true) v104_4) noHp fun v105_5 =>
  gd (yb v105_5 == some false) (fun h k => k (env 7) h) h2 fun v107_7 h3 =>
  gd (yb v105_5 == some false) (fun h k => k (env 14) h) h3 fun v108_8 h4 =>
  gd (yb v105_5 == some false) (fun h k => rd Try.prog (Instr.indexAt 57 v107_7 v108_8) noHp fun v => k v h) h4 fun v109_9 h5 =>
  gd (yb v105_5 == some false) (fun h k => rd Try.prog (Instr.loadAt 4 v109_9) h fun v => k v h) h5 fun v110_10 h6 =>
  gd (yb v105_5 == some false) (fun h k => rd Try.prog (Op.unary Go.UnOp.not v110_10) noHp fun v => k v h) h6 fun v111_11 h7 =>
  rd Try.prog (pck v105_5 (Go.Value.bool true) v111_11) noHp fun v112_12 =>
  gd (yb v112_12 == some false) (fun h k => k (env 10) h) h7 fun v114_14 h8 =>
  gd (yb v112_12 == some false) (fun h k => k (env 13) h) h8 fun v115_15 h9 =>
  gd (yb v112_12 == some false) (fun h k => rd Try.prog (Instr.indexAt 28 v114_14 v115_15) noHp fun v => k v h) h9 fun v116_16 h10 =>
  gd (yb v112_12 == some false) (fun h k => rd Try.prog (Instr.fieldAt 40 v116_16 2) noHp fun v => k v h) h10 fun v117_17 h11 =>
  gd (yb v112_12 == some false) (fun h k => rd Try.prog (Instr.loadAt 33 v117_17) h fun v => k v h) h11 fun v118_18 h12 =>
  gd (yb v112_12 == some false) (fun h k => k (env 8) h) h12 fun v119_19 h13 =>
  gd (yb v112_12 == some false) (fun h k => k (env 14) h) h13 fun v120_20 h14 =>
  gd (yb v112_12 == some false) (fun h k => rd Try.prog (Instr.indexAt 58 v119_19 v120_20) noHp fun v => k v h) h14 fun v121_21 h15 =>
  gd (yb v112_12 == some false) (fun h k => rd Try.prog (Instr.loadAt 33 v121_21) h fun v => k v h) h15 fun v122_22 h16 =>
  gd (yb v112_12 == some false) (fun h k => rd Try.prog (bop Go.BinOp.add 33 (Go.Operand.tmp 122) (Go.Operand.const (Go.Value.int Go.IntKind.u32 1)) v122_22 (Go.Value.int Go.IntKind.u32 1)) noHp fun v => k v h) h16 fun v123_23 h17 =>
  gd (yb v112_12 == some false) (fun h k => rd Try.prog (bop Go.BinOp.neq 33 (Go.Operand.tmp 118) (Go.Operand.tmp 123) v118_18 v123_23) noHp fun v => k v h) h17 fun v124_24 h18 =>
  rd Try.prog (pck v112_12 (Go.Value.bool true) v124_24) noHp fun v125_25 =>
  K ((((((((((((((((((((((((((env.set 100 (env 14)).set 101 v101_1).set 102 v101_1).set 103 v103_3).set 104 v104_4).set 105 v105_5).set 106 v105_5).set 107 v107_7).set 108 v108_8).set 109 v109_9).set 110 v110_10).set 111 v111_11).set 112 v112_12).set 113 v112_12).set 114 v114_14).set 115 v115_15).set 116 v116_16).set 117 v117_17).set 118 v118_18).set 119 v119_19).set 120 v120_20).set 121 v121_21).set 122 v122_22).set 123 v123_23).set 124 v124_24).set 125 v125_25) h18
@[congr] theorem octroilaw18_DualNumbers_r19_congr {env : Env} {h : Hp} {K : Env → Hp → Prop} : octroilaw18_DualNumbers_r19 env h K = octroilaw18_DualNumbers_r19 env h K := rfl

/-- law.go:176 -/
def octroilaw18_DualNumbers_r20 (env : Env) (h : Hp) (K : Env → Hp → Prop) : Prop :=
  K (env.set 4 (Go.Value.bool false)) h
@[congr] theorem octroilaw18_DualNumbers_r20_congr {env : Env} {h : Hp} {K : Env → Hp → Prop} : octroilaw18_DualNumbers_r20 env h K = octroilaw18_DualNumbers_r20 env h K := rfl

/-- law.go:178 -/
def octroilaw18_DualNumbers_r21 (env : Env) (h : Hp) (K : Env → Hp → Prop) : Prop :=
  rd Try.prog (Instr.indexAt 28 (env 10) (env 13)) noHp fun v130_4 =>
  rd Try.prog (Instr.fieldAt 40 v130_4 2) noHp fun v131_5 =>
  rd Try.prog (Instr.loadAt 33 v131_5) h fun v132_6 =>
  rd Try.prog (Instr.indexAt 58 (env 8) (env 14)) noHp fun v133_7 =>
  arun Try.prog (Instr.storeAt 33 v133_7 v132_6) h fun _ h1 =>
  K ((((((((env.set 126 (env 8)).set 127 (env 14)).set 128 (env 10)).set 129 (env 13)).set 130 v130_4).set 131 v131_5).set 132 v132_6).set 133 v133_7) h1
@[congr] theorem octroilaw18_DualNumbers_r21_congr {env : Env} {h : Hp} {K : Env → Hp → Prop} : octroilaw18_DualNumbers_r21 env h K = octroilaw18_DualNumbers_r21 env h K := rfl

/-- law.go:173 -/
def octroilaw18_DualNumbers_r22 (env : Env) (h : Hp) (K : Env → Hp → Prop) : Prop :=
  rd Try.prog (bop Go.BinOp.add 3 (Go.Operand.tmp 93) (Go.Operand.const (Go.Value.int Go.IntKind.i64 1)) (env 13) (Go.Value.int Go.IntKind.i64 1)) noHp fun v94_1 =>
  K (((env.set 93 (env 13)).set 94 v94_1).set 13 v94_1) h
@[congr] theorem octroilaw18_DualNumbers_r22_congr {env : Env} {h : Hp} {K : Env → Hp → Prop} : octroilaw18_DualNumbers_r22 env h K = octroilaw18_DualNumbers_r22 env h K := rfl

def octroilaw18_DualNumbers_L0 : Den := (sq (sq (rg octroilaw18_DualNumbers_r17) (cnd (Go.Operand.tmp 92) (ex .normal) (ex (.exit 2)))) (sq (blk 3 (sq (rg octroilaw18_DualNumbers_r18) (sq (sq (rg octroilaw18_DualNumbers_r19) (cnd (Go.Operand.tmp 125) (sq (rg octroilaw18_DualNumbers_r20) (ex .ret)) (ex .normal))) (rg octroilaw18_DualNumbers_r21)))) (rg octroilaw18_DualNumbers_r22)))

/-- law.go:163 -/
def octroilaw18_DualNumbers_r23 (env : Env) (h : Hp) (K : Env → Hp → Prop) : Prop :=
  rd Try.prog (bop Go.BinOp.add 3 (Go.Operand.tmp 40) (Go.Operand.const (Go.Value.int Go.IntKind.i64 1)) (env 9) (Go.Value.int Go.IntKind.i64 1)) noHp fun v41_1 =>
  K (((env.set 40 (env 9)).set 41 v41_1).set 9 v41_1) h
@[congr] theorem octroilaw18_DualNumbers_r23_congr {env : Env} {h : Hp} {K : Env → Hp → Prop} : octroilaw18_DualNumbers_r23 env h K = octroilaw18_DualNumbers_r23 env h K := rfl

def octroilaw18_DualNumbers_L1 : Den := (sq (sq (rg octroilaw18_DualNumbers_r8) (cnd (Go.Operand.tmp 39) (ex .normal) (ex (.exit 0)))) (sq (blk 1 (sq (rg octroilaw18_DualNumbers_r9) (sq (rg octroilaw18_DualNumbers_r10) (sq (sq (rg octroilaw18_DualNumbers_r11) (cnd (Go.Operand.tmp 65) (sq (rg octroilaw18_DualNumbers_r12) (rg octroilaw18_DualNumbers_r13)) (ex .normal))) (sq (sq (rg octroilaw18_DualNumbers_r14) (cnd (Go.Operand.tmp 85) (rg octroilaw18_DualNumbers_r15) (ex .normal))) (sq (rg octroilaw18_DualNumbers_r16) (blk 2 (lp octroilaw18_DualNumbers_L0)))))))) (rg octroilaw18_DualNumbers_r23)))

/-- law.go:181 -/
def octroilaw18_DualNumbers_r24 (env : Env) (h : Hp) (K : Env → Hp → Prop) : Prop :=
  K (env.set 4 (Go.Value.bool true)) h
@[congr] theorem octroilaw18_DualNumbers_r24_congr {env : Env} {h : Hp} {K : Env → Hp → Prop} : octroilaw18_DualNumbers_r24 env h K = octroilaw18_DualNumbers_r24 env h K := rfl

def octroilaw18_DualNumbers_D : Den := (sq (rg octroilaw18_DualNumbers_r0) (sq (rg octroilaw18_DualNumbers_r1) (sq (rg octroilaw18_DualNumbers_r2) (sq (sq (rg octroilaw18_DualNumbers_r3) (cnd (Go.Operand.tmp 28) (sq (rg octroilaw18_DualNumbers_r4) (ex .ret)) (ex .normal))) (sq (rg octroilaw18_DualNumbers_r5) (sq (rg octroilaw18_DualNumbers_r6) (sq (sq (rg octroilaw18_DualNumbers_r7) (blk 0 (lp octroilaw18_DualNumbers_L1))) (sq (rg octroilaw18_DualNumbers_r24) (ex .ret)))))))))

theorem octroilaw18_DualNumbers_eq : (den Try.prog 134 octroilaw18_DualNumbers_code).1 = octroilaw18_DualNumbers_D := by kernel_rfl

theorem octroilaw18_DualNumbers_ok {args : Array Value} {h : Hp} {Q : Value → Hp → Prop} (hn : args.size ≤ 134) (D : octroilaw18_DualNumbers_D (fin Try.prog [(Go.ResultVar.tmp 4)] Q) (env0 args) h) : Ok Try.prog 6 args h Q :=
  ok_of_den progIsOk Try.func6 (c := octroilaw18_DualNumbers_code) (by kernel_rfl) hn (by show (den Try.prog 134 octroilaw18_DualNumbers_code).1 _ _ _; rw [octroilaw18_DualNumbers_eq]; exact D)

/-! ### octroi/octroilaw18.DualFeasible: function 7 -/
noncomputable def octroilaw18_DualFeasible_code : Code := match Try.f7.body with | some c => c | none => .skip

/-- law.go:100 -/
def octroilaw18_DualFeasible_r0 (env : Env) (h : Hp) (K : Env → Hp → Prop) : Prop :=
  K (env.set 4 (Go.Value.bool false)) h
@[congr] theorem octroilaw18_DualFeasible_r0_congr {env : Env} {h : Hp} {K : Env → Hp → Prop} : octroilaw18_DualFeasible_r0 env h K = octroilaw18_DualFeasible_r0 env h K := rfl

/-- law.go:101 -/
def octroilaw18_DualFeasible_r1 (env : Env) (h : Hp) (K : Env → Hp → Prop) : Prop :=
  Ok Try.prog 9 #[] h fun v15_0 h1 =>
  K ((env.set 15 v15_0).set 5 v15_0) h1
@[congr] theorem octroilaw18_DualFeasible_r1_congr {env : Env} {h : Hp} {K : Env → Hp → Prop} : octroilaw18_DualFeasible_r1 env h K = octroilaw18_DualFeasible_r1 env h K := rfl

/-- law.go:102 -/
def octroilaw18_DualFeasible_r2 (env : Env) (h : Hp) (K : Env → Hp → Prop) : Prop :=
  Ok Try.prog 10 #[(env 0), (Go.Value.int Go.IntKind.i64 64)] h fun v17_1 h1 =>
  K (((env.set 16 (env 0)).set 17 v17_1).set 6 v17_1) h1
@[congr] theorem octroilaw18_DualFeasible_r2_congr {env : Env} {h : Hp} {K : Env → Hp → Prop} : octroilaw18_DualFeasible_r2 env h K = octroilaw18_DualFeasible_r2 env h K := rfl

/-- law.go:103 -/
def octroilaw18_DualFeasible_r3 (env : Env) (h : Hp) (K : Env → Hp → Prop) : Prop :=
  rd Try.prog (Op.unary Go.UnOp.not (env 5)) noHp fun v19_1 =>
  gd (yb v19_1 == some false) (fun h k => k (env 6) h) h fun v21_3 h1 =>
  gd (yb v19_1 == some false) (fun h k => rd Try.prog (bop Go.BinOp.eql 25 (Go.Operand.tmp 21) (Go.Operand.const (Go.Value.pointer none)) v21_3 (Go.Value.pointer none)) noHp fun v => k v h) h1 fun v22_4 h2 =>
  rd Try.prog (pck v19_1 (Go.Value.bool true) v22_4) noHp fun v23_5 =>
  gd (yb v23_5 == some false) (fun h k => k (env 1) h) h2 fun v25_7 h3 =>
  gd (yb v23_5 == some false) (fun h k => rd Try.prog (Builtin.len_ #[52] 3 #[v25_7]) h fun v => k v h) h3 fun v26_8 h4 =>
  gd (yb v23_5 == some false) (fun h k => rd Try.prog (bop Go.BinOp.gtr 3 (Go.Operand.tmp 26) (Go.Operand.const (Go.Value.int Go.IntKind.i64 120)) v26_8 (Go.Value.int Go.IntKind.i64 120)) noHp fun v => k v h) h4 fun v27_9 h5 =>
  rd Try.prog (pck v23_5 (Go.Value.bool true) v27_9) noHp fun v28_10 =>
  K (((((((((((env.set 18 (env 5)).set 19 v19_1).set 20 v19_1).set 21 v21_3).set 22 v22_4).set 23 v23_5).set 24 v23_5).set 25 v25_7).set 26 v26_8).set 27 v27_9).set 28 v28_10) h5
@[congr] theorem octroilaw18_DualFeasible_r3_congr {env : Env} {h : Hp} {K : Env → Hp → Prop} : octroilaw18_DualFeasible_r3 env h K = octroilaw18_DualFeasible_r3 env h K := rfl

/-- law.go:104 -/
def octroilaw18_DualFeasible_r4 (env : Env) (h : Hp) (K : Env → Hp → Prop) : Prop :=
  gd (yb (env 5) == some true) (fun h k => k (env 6) h) h fun v31_2 h1 =>
  gd (yb (env 5) == some true) (fun h k => rd Try.prog (bop Go.BinOp.neq 25 (Go.Operand.tmp 31) (Go.Operand.const (Go.Value.pointer none)) v31_2 (Go.Value.pointer none)) noHp fun v => k v h) h1 fun v32_3 h2 =>
  rd Try.prog (pck (env 5) v32_3 (Go.Value.bool false)) noHp fun v33_4 =>
  K ((((((env.set 29 (env 5)).set 30 (env 5)).set 31 v31_2).set 32 v32_3).set 33 v33_4).set 4 v33_4) h2
@[congr] theorem octroilaw18_DualFeasible_r4_congr {env : Env} {h : Hp} {K : Env → Hp → Prop} : octroilaw18_DualFeasible_r4 env h K = octroilaw18_DualFeasible_r4 env h K := rfl

/-- law.go:106 -/
def octroilaw18_DualFeasible_r5 (env : Env) (h : Hp) (K : Env → Hp → Prop) : Prop :=
  K (env.set 7 (Go.Value.int Go.IntKind.i64 0)) h
@[congr] theorem octroilaw18_DualFeasible_r5_congr {env : Env} {h : Hp} {K : Env → Hp → Prop} : octroilaw18_DualFeasible_r5 env h K = octroilaw18_DualFeasible_r5 env h K := rfl

/-- law.go:106 -/
def octroilaw18_DualFeasible_r6 (env : Env) (h : Hp) (K : Env → Hp → Prop) : Prop :=
  rd Try.prog (Builtin.len_ #[52] 3 #[(env 1)]) h fun v36_2 =>
  rd Try.prog (bop Go.BinOp.lss 3 (Go.Operand.tmp 34) (Go.Operand.tmp 36) (env 7) v36_2) noHp fun v37_3 =>
  K ((((env.set 34 (env 7)).set 35 (env 1)).set 36 v36_2).set 37 v37_3) h
@[congr] theorem octroilaw18_DualFeasible_r6_congr {env : Env} {h : Hp} {K : Env → Hp → Prop} : octroilaw18_DualFeasible_r6 env h K = octroilaw18_DualFeasible_r6 env h K := rfl

/-- law.go:107 -/
def octroilaw18_DualFeasible_r7 (env : Env) (h : Hp) (K : Env → Hp → Prop) : Prop :=
  rd Try.prog (Instr.indexAt 52 (env 1) (env 7)) noHp fun v43_3 =>
  rd Try.prog (Instr.loadAt 55 v43_3) h fun v44_4 =>
  Ok Try.prog 21 #[(env 6), v44_4] h fun v45_5 h1 =>
  K ((((((env.set 40 (env 6)).set 41 (env 1)).set 42 (env 7)).set 43 v43_3).set 44 v44_4).set 45 v45_5) h1
@[congr] theorem octroilaw18_DualFeasible_r7_congr {env : Env} {h : Hp} {K : Env → Hp → Prop} : octroilaw18_DualFeasible_r7 env h K = octroilaw18_DualFeasible_r7 env h K := rfl

/-- law.go:108 -/
def octroilaw18_DualFeasible_r8 (env : Env) (h : Hp) (K : Env → Hp → Prop) : Prop :=
  Ok Try.prog 19 #[(env 6)] h fun v47_1 h1 =>
  K (((env.set 46 (env 6)).set 47 v47_1).set 8 v47_1) h1
@[congr] theorem octroilaw18_DualFeasible_r8_congr {env : Env} {h : Hp} {K : Env → Hp → Prop} : octroilaw18_DualFeasible_r8 env h K = octroilaw18_DualFeasible_r8 env h K := rfl

/-- law.go:109 -/
def octroilaw18_DualFeasible_r9 (env : Env) (h : Hp) (K : Env → Hp → Prop) : Prop :=
  K (env.set 9 (Go.Value.int Go.IntKind.i64 0)) h
@[congr] theorem octroilaw18_DualFeasible_r9_congr {env : Env} {h : Hp} {K : Env → Hp → Prop} : octroilaw18_DualFeasible_r9 env h K = octroilaw18_DualFeasible_r9 env h K := rfl

/-- law.go:109 -/
def octroilaw18_DualFeasible_r10 (env : Env) (h : Hp) (K : Env → Hp → Prop) : Prop :=
  rd Try.prog (Builtin.len_ #[45] 3 #[(env 8)]) h fun v50_2 =>
  rd Try.prog (bop Go.BinOp.lss 3 (Go.Operand.tmp 48) (Go.Operand.tmp 50) (env 9) v50_2) noHp fun v51_3 =>
  K ((((env.set 48 (env 9)).set 49 (env 8)).set 50 v50_2).set 51 v51_3) h
@[congr] theorem octroilaw18_DualFeasible_r10_congr {env : Env} {h : Hp} {K : Env → Hp → Prop} : octroilaw18_DualFeasible_r10 env h K = octroilaw18_DualFeasible_r10 env h K := rfl

/-- law.go:110 -/
def octroilaw18_DualFeasible_r11 (env : Env) (h : Hp) (K : Env → Hp → Prop) : Prop :=
  rd Try.prog (Instr.indexAt 45 (env 8) (env 9)) noHp fun v58_3 =>
  rd Try.prog (Instr.fieldAt 49 v58_3 0) noHp fun v59_4 =>
  rd Try.prog (Instr.loadAt 35 v59_4) h fun v60_5 =>
  Ok Try.prog 15 #[(env 6), v60_5] h fun v61_6 h1 =>
  rd Try.prog (Instr.extract v61_6 0) noHp fun v62_8 =>
  rd Try.prog (Instr.extract v61_6 1) noHp fun v63_9 =>
  K ((((((((((((env.set 55 (env 6)).set 56 (env 8)).set 57 (env 9)).set 58 v58_3).set 59 v59_4).set 60 v60_5).set 61 v61_6).set 54 v61_6).set 62 v62_8).set 63 v63_9).set 10 v62_8).set 11 v63_9) h1
@[congr] theorem octroilaw18_DualFeasible_r11_congr {env : Env} {h : Hp} {K : Env → Hp → Prop} : octroilaw18_DualFeasible_r11 env h K = octroilaw18_DualFeasible_r11 env h K := rfl

/-- law.go:111 -/
def octroilaw18_DualFeasible_r12 (env : Env) (h : Hp) (K : Env → Hp → Prop) : Prop :=
  rd Try.prog (Instr.indexAt 45 (env 8) (env 9)) noHp fun v66_2 =>
  rd Try.prog (Instr.fieldAt 49 v66_2 5) noHp fun v67_3 =>
  rd Try.prog (Instr.loadAt 36 v67_3) h fun v68_4 =>
  Ok Try.prog 22 #[v68_4, (env 0)] h fun v70_6 h1 =>
  gd (yb v70_6 == some false) (fun h k => k (env 8) h) h1 fun v72_8 h2 =>
  gd (yb v70_6 == some false) (fun h k => k (env 9) h) h2 fun v73_9 h3 =>
  gd (yb v70_6 == some false) (fun h k => rd Try.prog (Instr.indexAt 45 v72_8 v73_9) noHp fun v => k v h) h3 fun v74_10 h4 =>
  gd (yb v70_6 == some false) (fun h k => rd Try.prog (Instr.fieldAt 49 v74_10 3) noHp fun v => k v h) h4 fun v75_11 h5 =>
  gd (yb v70_6 == some false) (fun h k => rd Try.prog (Instr.loadAt 3 v75_11) h fun v => k v h) h5 fun v76_12 h6 =>
  gd (yb v70_6 == some false) (fun h k => rd Try.prog (bop Go.BinOp.geq 3 (Go.Operand.tmp 76) (Go.Operand.const (Go.Value.int Go.IntKind.i64 4294967295)) v76_12 (Go.Value.int Go.IntKind.i64 4294967295)) noHp fun v => k v h) h6 fun v77_13 h7 =>
  rd Try.prog (pck v70_6 (Go.Value.bool true) v77_13) noHp fun v78_14 =>
  K (((((((((((((((env.set 64 (env 8)).set 65 (env 9)).set 66 v66_2).set 67 v67_3).set 68 v68_4).set 69 (env 0)).set 70 v70_6).set 71 v70_6).set 72 v72_8).set 73 v73_9).set 74 v74_10).set 75 v75_11).set 76 v76_12).set 77 v77_13).set 78 v78_14) h7
@[congr] theorem octroilaw18_DualFeasible_r12_congr {env : Env} {h : Hp} {K : Env → Hp → Prop} : octroilaw18_DualFeasible_r12 env h K = octroilaw18_DualFeasible_r12 env h K := rfl

/-- law.go:112 -/
def octroilaw18_DualFeasible_r13 (env : Env) (h : Hp) (K : Env → Hp → Prop) : Prop :=
  K (env.set 4 (Go.Value.bool false)) h
@[congr] theorem octroilaw18_DualFeasible_r13_congr {env : Env} {h : Hp} {K : Env → Hp → Prop} : octroilaw18_DualFeasible_r13 env h K = octroilaw18_DualFeasible_r13 env h K := rfl

/-- law.go:114 -/
def octroilaw18_DualFeasible_r14 (env : Env) (h : Hp) (K : Env → Hp → Prop) : Prop :=
  rd Try.prog (Instr.indexAt 45 (env 8) (env 9)) noHp fun v81_2 =>
  rd Try.prog (Instr.fieldAt 49 v81_2 4) noHp fun v82_3 =>
  rd Try.prog (Instr.loadAt 3 v82_3) h fun v83_4 =>
  rd Try.prog (bop Go.BinOp.eql 3 (Go.Operand.tmp 83) (Go.Operand.const (Go.Value.int Go.IntKind.i64 0)) v83_4 (Go.Value.int Go.IntKind.i64 0)) noHp fun v84_5 =>
  K (((((((env.set 79 (env 8)).set 80 (env 9)).set 81 v81_2).set 82 v82_3).set 83 v83_4).set 84 v84_5).set 12 v84_5) h
@[congr] theorem octroilaw18_DualFeasible_r14_congr {env : Env} {h : Hp} {K : Env → Hp → Prop} : octroilaw18_DualFeasible_r14 env h K = octroilaw18_DualFeasible_r14 env h K := rfl

/-- law.go:115 -/
def octroilaw18_DualFeasible_r15 (env : Env) (h : Hp) (K : Env → Hp → Prop) : Prop :=
  K (env.set 13 (Go.Value.int Go.IntKind.i64 0)) h
@[congr] theorem octroilaw18_DualFeasible_r15_congr {env : Env} {h : Hp} {K : Env → Hp → Prop} : octroilaw18_DualFeasible_r15 env h K = octroilaw18_DualFeasible_r15 env h K := rfl

/-- law.go:115 -/
def octroilaw18_DualFeasible_r16 (env : Env) (h : Hp) (K : Env → Hp → Prop) : Prop :=
  rd Try.prog (bop Go.BinOp.leq 3 (Go.Operand.tmp 85) (Go.Operand.tmp 86) (env 13) (env 7)) noHp fun v87_2 =>
  gd (yb v87_2 == some true) (fun h k => k (env 12) h) h fun v89_4 h1 =>
  gd (yb v87_2 == some true) (fun h k => rd Try.prog (Op.unary Go.UnOp.not v89_4) noHp fun v => k v h) h1 fun v90_5 h2 =>
  rd Try.prog (pck v87_2 v90_5 (Go.Value.bool false)) noHp fun v91_6 =>
  K (((((((env.set 85 (env 13)).set 86 (env 7)).set 87 v87_2).set 88 v87_2).set 89 v89_4).set 90 v90_5).set 91 v91_6) h2
@[congr] theorem octroilaw18_DualFeasible_r16_congr {env : Env} {h : Hp} {K : Env → Hp → Prop} : octroilaw18_DualFeasible_r16 env h K = octroilaw18_DualFeasible_r16 env h K := rfl

/-- law.go:116 -/
def octroilaw18_DualFeasible_r17 (env : Env) (h : Hp) (K : Env → Hp → Prop) : Prop :=
  rd Try.prog (Instr.indexAt 52 (env 1) (env 13)) noHp fun v96_2 =>
  rd Try.prog (Instr.loadAt 55 v96_2) h fun v97_3 =>
  arun Try.prog (Instr.alloc 55 true (Go.Value.tuple #[])) h fun v14_4 h1 =>
  arun Try.prog (Instr.storeAt 55 v14_4 v97_3) h1 fun _ h2 =>
  K (((((env.set 94 (env 1)).set 95 (env 13)).set 96 v96_2).set 97 v97_3).set 14 v14_4) h2
@[congr] theorem octroilaw18_DualFeasible_r17_congr {env : Env} {h : Hp} {K : Env → Hp → Prop} : octroilaw18_DualFeasible_r17 env h K = octroilaw18_DualFeasible_r17 env h K := rfl

/-- law.go:117 (in any order) -/
def octroilaw18_DualFeasible_r18 (env : Env) (h : Hp) (K : Env → Hp → Prop) : Prop :=
  rd Try.prog (Instr.fieldAt 55 (env 14) 0) noHp fun v98_0 =>
  rd Try.prog (Instr.loadAt 3 v98_0) h fun v99_1 =>
  rd Try.prog (bop Go.BinOp.eql 3 (Go.Operand.tmp 99) (Go.Operand.const (Go.Value.int Go.IntKind.i64 4)) v99_1 (Go.Value.int Go.IntKind.i64 4)) noHp fun v100_2 =>
  gd (yb v100_2 == some true) (fun h k => rd Try.prog (Instr.fieldAt 55 (env 14) 1) noHp fun v => k v h) h fun v102_4 h1 =>
  gd (yb v100_2 == some true) (fun h k => rd Try.prog (Instr.loadAt 3 v102_4) h fun v => k v h) h1 fun v103_5 h2 =>
  gd (yb v100_2 == some true) (fun h k => k (env 8) h) h2 fun v104_6 h3 =>
  gd (yb v100_2 == some true) (fun h k => k (env 9) h) h3 fun v105_7 h4 =>
  gd (yb v100_2 == some true) (fun h k => rd Try.prog (Instr.indexAt 45 v104_6 v105_7) noHp fun v => k v h) h4 fun v106_8 h5 =>
  gd (yb v100_2 == some true) (fun h k => rd Try.prog (Instr.fieldAt 49 v106_8 4) noHp fun v => k v h) h5 fun v107_9 h6 =>
  gd (yb v100_2 == some true) (fun h k => rd Try.prog (Instr.loadAt 3 v107_9) h fun v => k v h) h6 fun v108_10 h7 =>
  gd (yb v100_2 == some true) (fun h k => rd Try.prog (bop Go.BinOp.eql 3 (Go.Operand.tmp 103) (Go.Operand.tmp 108) v103_5 v108_10) noHp fun v => k v h) h7 fun v109_11 h8 =>
  rd Try.prog (pck v100_2 v109_11 (Go.Value.bool false)) noHp fun v110_12 =>
  gd (yb v110_12 == some true) (fun h k => rd Try.prog (Instr.fieldAt 55 (env 14) 2) noHp fun v => k v h) h8 fun v112_14 h9 =>
  gd (yb v110_12 == some true) (fun h k => rd Try.prog (Instr.fieldAt 40 v112_14 4) noHp fun v => k v h) h9 fun v113_15 h10 =>
  gd (yb v110_12 == some true) (fun h k => rd Try.prog (Instr.fieldAt 38 v113_15 0) noHp fun v => k v h) h10 fun v114_16 h11 =>
  gd (yb v110_12 == some true) (fun h k => rd Try.prog (Instr.loadAt 35 v114_16) h fun v => k v h) h11 fun v115_17 h12 =>
  gd (yb v110_12 == some true) (fun h k => k (env 8) h) h12 fun v116_18 h13 =>
  gd (yb v110_12 == some true) (fun h k => k (env 9) h) h13 fun v117_19 h14 =>
  gd (yb v110_12 == some true) (fun h k => rd Try.prog (Instr.indexAt 45 v116_18 v117_19) noHp fun v => k v h) h14 fun v118_20 h15 =>
  gd (yb v110_12 == some true) (fun h k => rd Try.prog (Instr.fieldAt 49 v118_20 0) noHp fun v => k v h) h15 fun v119_21 h16 =>
  gd (yb v110_12 == some true) (fun h k => rd Try.prog (Instr.loadAt 35 v119_21) h fun v => k v h) h16 fun v120_22 h17 =>
  gd (yb v110_12 == some true) (fun h k => rd Try.prog (bop Go.BinOp.eql 35 (Go.Operand.tmp 115) (Go.Operand.tmp 120) v115_17 v120_22) noHp fun v => k v h) h17 fun v121_23 h18 =>
  rd Try.prog (pck v110_12 v121_23 (Go.Value.bool false)) noHp fun v122_24 =>
  gd (yb v122_24 == some true) (fun h k => rd Try.prog (Instr.fieldAt 55 (env 14) 2) noHp fun v => k v h) h18 fun v124_26 h19 =>
  gd (yb v122_24 == some true) (fun h k => rd Try.prog (Instr.fieldAt 40 v124_26 4) noHp fun v => k v h) h19 fun v125_27 h20 =>
  gd (yb v122_24 == some true) (fun h k => rd Try.prog (Instr.fieldAt 38 v125_27 1) noHp fun v => k v h) h20 fun v126_28 h21 =>
  gd (yb v122_24 == some true) (fun h k => rd Try.prog (Instr.loadAt 23 v126_28) h fun v => k v h) h21 fun v127_29 h22 =>
  gd (yb v122_24 == some true) (fun h k => k (env 10) h) h22 fun v129_30 h23 =>
  gd (yb v122_24 == some true) (fun h k => Ok Try.prog 18 #[v127_29] h k) h23 fun v128_31 h24 =>
  (True) ∧
  gd (yb v122_24 == some true) (fun h k => rd Try.prog (bop Go.BinOp.lss 3 (Go.Operand.tmp 128) (Go.Operand.tmp 129) v128_31 v129_30) noHp fun v => k v h) h24 fun v130_32 h25 =>
  rd Try.prog (pck v122_24 v130_32 (Go.Value.bool false)) noHp fun v131_33 =>
  gd (yb v131_33 == some true) (fun h k => rd Try.prog (Instr.fieldAt 55 (env 14) 2) noHp fun v => k v h) h25 fun v133_35 h26 =>
  gd (yb v131_33 == some true) (fun h k => rd Try.prog (Instr.fieldAt 40 v133_35 4) noHp fun v => k v h) h26 fun v134_36 h27 =>
  gd (yb v131_33 == some true) (fun h k => rd Try.prog (Instr.fieldAt 38 v134_36 2) noHp fun v => k v h) h27 fun v135_37 h28 =>
  gd (yb v131_33 == some true) (fun h k => rd Try.prog (Instr.loadAt 36 v135_37) h fun v => k v h) h28 fun v136_38 h29 =>
  gd (yb v131_33 == some true) (fun h k => k (env 8) h) h29 fun v137_39 h30 =>
  gd (yb v131_33 == some true) (fun h k => k (env 9) h) h30 fun v138_40 h31 =>
  gd (yb v131_33 == some true) (fun h k => rd Try.prog (Instr.indexAt 45 v137_39 v138_40) noHp fun v => k v h) h31 fun v139_41 h32 =>
  gd (yb v131_33 == some true) (fun h k => rd Try.prog (Instr.fieldAt 49 v139_41 5) noHp fun v => k v h) h32 fun v140_42 h33 =>
  gd (yb v131_33 == some true) (fun h k => rd Try.prog (Instr.loadAt 36 v140_42) h fun v => k v h) h33 fun v141_43 h34 =>
  gd (yb v131_33 == some true) (fun h k => rd Try.prog (bop Go.BinOp.eql 36 (Go.Operand.tmp 136) (Go.Operand.tmp 141) v136_38 v141_43) noHp fun v => k v h) h34 fun v142_44 h35 =>
  rd Try.prog (pck v131_33 v142_44 (Go.Value.bool false)) noHp fun v143_45 =>
  K (((((((((((((((((((((((((((((((((((((((((((((((env.set 98 v98_0).set 99 v99_1).set 100 v100_2).set 101 v100_2).set 102 v102_4).set 103 v103_5).set 104 v104_6).set 105 v105_7).set 106 v106_8).set 107 v107_9).set 108 v108_10).set 109 v109_11).set 110 v110_12).set 111 v110_12).set 112 v112_14).set 113 v113_15).set 114 v114_16).set 115 v115_17).set 116 v116_18).set 117 v117_19).set 118 v118_20).set 119 v119_21).set 120 v120_22).set 121 v121_23).set 122 v122_24).set 123 v122_24).set 124 v124_26).set 125 v125_27).set 126 v126_28).set 127 v127_29).set 129 v129_30).set 128 v128_31).set 130 v130_32).set 131 v131_33).set 132 v131_33).set 133 v133_35).set 134 v134_36).set 135 v135_37).set 136 v136_38).set 137 v137_39).set 138 v138_40).set 139 v139_41).set 140 v140_42).set 141 v141_43).set 142 v142_44).set 143 v143_45).set 12 v143_45) h35
@[congr] theorem octroilaw18_DualFeasible_r18_congr {env : Env} {h : Hp} {K : Env → Hp → Prop} : octroilaw18_DualFeasible_r18 env h K = octroilaw18_DualFeasible_r18 env h K := rfl

/-- law.go:115 -/
def octroilaw18_DualFeasible_r19 (env : Env) (h : Hp) (K : Env → Hp → Prop) : Prop :=
  rd Try.prog (bop Go.BinOp.add 3 (Go.Operand.tmp 92) (Go.Operand.const (Go.Value.int Go.IntKind.i64 1)) (env 13) (Go.Value.int Go.IntKind.i64 1)) noHp fun v93_1 =>
  K (((env.set 92 (env 13)).set 93 v93_1).set 13 v93_1) h
@[congr] theorem octroilaw18_DualFeasible_r19_congr {env : Env} {h : Hp} {K : Env → Hp → Prop} : octroilaw18_DualFeasible_r19 env h K = octroilaw18_DualFeasible_r19 env h K := rfl

def octroilaw18_DualFeasible_L0 : Den := (sq (sq (rg octroilaw18_DualFeasible_r16) (cnd (Go.Operand.tmp 91) (ex .normal) (ex (.exit 4)))) (sq (blk 5 (sq (rg octroilaw18_DualFeasible_r17) (rg octroilaw18_DualFeasible_r18))) (rg octroilaw18_DualFeasible_r19)))

/-- law.go:119 -/
def octroilaw18_DualFeasible_r20 (env : Env) (h : Hp) (K : Env → Hp → Prop) : Prop :=
  rd Try.prog (Op.unary Go.UnOp.not (env 12)) noHp fun v145_1 =>
  K ((env.set 144 (env 12)).set 145 v145_1) h
@[congr] theorem octroilaw18_DualFeasible_r20_congr {env : Env} {h : Hp} {K : Env → Hp → Prop} : octroilaw18_DualFeasible_r20 env h K = octroilaw18_DualFeasible_r20 env h K := rfl

/-- law.go:120 -/
def octroilaw18_DualFeasible_r21 (env : Env) (h : Hp) (K : Env → Hp → Prop) : Prop :=
  K (env.set 4 (Go.Value.bool false)) h
@[congr] theorem octroilaw18_DualFeasible_r21_congr {env : Env} {h : Hp} {K : Env → Hp → Prop} : octroilaw18_DualFeasible_r21 env h K = octroilaw18_DualFeasible_r21 env h K := rfl

/-- law.go:109 -/
def octroilaw18_DualFeasible_r22 (env : Env) (h : Hp) (K : Env → Hp → Prop) : Prop :=
  rd Try.prog (bop Go.BinOp.add 3 (Go.Operand.tmp 52) (Go.Operand.const (Go.Value.int Go.IntKind.i64 1)) (env 9) (Go.Value.int Go.IntKind.i64 1)) noHp fun v53_1 =>
  K (((env.set 52 (env 9)).set 53 v53_1).set 9 v53_1) h
@[congr] theorem octroilaw18_DualFeasible_r22_congr {env : Env} {h : Hp} {K : Env → Hp → Prop} : octroilaw18_DualFeasible_r22 env h K = octroilaw18_DualFeasible_r22 env h K := rfl

def octroilaw18_DualFeasible_L1 : Den := (sq (sq (rg octroilaw18_DualFeasible_r10) (cnd (Go.Operand.tmp 51) (ex .normal) (ex (.exit 2)))) (sq (blk 3 (sq (rg octroilaw18_DualFeasible_r11) (sq (sq (rg octroilaw18_DualFeasible_r12) (cnd (Go.Operand.tmp 78) (sq (rg octroilaw18_DualFeasible_r13) (ex .ret)) (ex .normal))) (sq (rg octroilaw18_DualFeasible_r14) (sq (sq (rg octroilaw18_DualFeasible_r15) (blk 4 (lp octroilaw18_DualFeasible_L0))) (sq (rg octroilaw18_DualFeasible_r20) (cnd (Go.Operand.tmp 145) (sq (rg octroilaw18_DualFeasible_r21) (ex .ret)) (ex .normal)))))))) (rg octroilaw18_DualFeasible_r22)))

/-- law.go:106 -/
def octroilaw18_DualFeasible_r23 (env : Env) (h : Hp) (K : Env → Hp → Prop) : Prop :=
  rd Try.prog (bop Go.BinOp.add 3 (Go.Operand.tmp 38) (Go.Operand.const (Go.Value.int Go.IntKind.i64 1)) (env 7) (Go.Value.int Go.IntKind.i64 1)) noHp fun v39_1 =>
  K (((env.set 38 (env 7)).set 39 v39_1).set 7 v39_1) h
@[congr] theorem octroilaw18_DualFeasible_r23_congr {env : Env} {h : Hp} {K : Env → Hp → Prop} : octroilaw18_DualFeasible_r23 env h K = octroilaw18_DualFeasible_r23 env h K := rfl

def octroilaw18_DualFeasible_L2 : Den := (sq (sq (rg octroilaw18_DualFeasible_r6) (cnd (Go.Operand.tmp 37) (ex .normal) (ex (.exit 0)))) (sq (blk 1 (sq (rg octroilaw18_DualFeasible_r7) (sq (rg octroilaw18_DualFeasible_r8) (sq (rg octroilaw18_DualFeasible_r9) (blk 2 (lp octroilaw18_DualFeasible_L1)))))) (rg octroilaw18_DualFeasible_r23)))

/-- law.go:124 -/
def octroilaw18_DualFeasible_r24 (env : Env) (h : Hp) (K : Env → Hp → Prop) : Prop :=
  K (env.set 4 (Go.Value.bool true)) h
@[congr] theorem octroilaw18_DualFeasible_r24_congr {env : Env} {h : Hp} {K : Env → Hp → Prop} : octroilaw18_DualFeasible_r24 env h K = octroilaw18_DualFeasible_r24 env h K := rfl

def octroilaw18_DualFeasible_D : Den := (sq (rg octroilaw18_DualFeasible_r0) (sq (rg octroilaw18_DualFeasible_r1) (sq (rg octroilaw18_DualFeasible_r2) (sq (sq (rg octroilaw18_DualFeasible_r3) (cnd (Go.Operand.tmp 28) (sq (rg octroilaw18_DualFeasible_r4) (ex .ret)) (ex .normal))) (sq (sq (rg octroilaw18_DualFeasible_r5) (blk 0 (lp octroilaw18_DualFeasible_L2))) (sq (rg octroilaw18_DualFeasible_r24) (ex .ret)))))))

theorem octroilaw18_DualFeasible_eq : (den Try.prog 146 octroilaw18_DualFeasible_code).1 = octroilaw18_DualFeasible_D := by kernel_rfl

theorem octroilaw18_DualFeasible_ok {args : Array Value} {h : Hp} {Q : Value → Hp → Prop} (hn : args.size ≤ 146) (D : octroilaw18_DualFeasible_D (fin Try.prog [(Go.ResultVar.tmp 4)] Q) (env0 args) h) : Ok Try.prog 7 args h Q :=
  ok_of_den progIsOk Try.func7 (c := octroilaw18_DualFeasible_code) (by kernel_rfl) hn (by show (den Try.prog 146 octroilaw18_DualFeasible_code).1 _ _ _; rw [octroilaw18_DualFeasible_eq]; exact D)

/-! ### octroi/octroilaw18.DualWaits: function 8 -/
noncomputable def octroilaw18_DualWaits_code : Code := match Try.f8.body with | some c => c | none => .skip

/-- law.go:185 -/
def octroilaw18_DualWaits_r0 (env : Env) (h : Hp) (K : Env → Hp → Prop) : Prop :=
  arun Try.prog (Instr.box 35 (env 2)) h fun v5_0 h1 =>
  K ((env.set 5 v5_0).set 6 (Go.Value.bool false)) h1
@[congr] theorem octroilaw18_DualWaits_r0_congr {env : Env} {h : Hp} {K : Env → Hp → Prop} : octroilaw18_DualWaits_r0 env h K = octroilaw18_DualWaits_r0 env h K := rfl

/-- law.go:186 -/
def octroilaw18_DualWaits_r1 (env : Env) (h : Hp) (K : Env → Hp → Prop) : Prop :=
  Ok Try.prog 9 #[] h fun v18_0 h1 =>
  K ((env.set 18 v18_0).set 7 v18_0) h1
@[congr] theorem octroilaw18_DualWaits_r1_congr {env : Env} {h : Hp} {K : Env → Hp → Prop} : octroilaw18_DualWaits_r1 env h K = octroilaw18_DualWaits_r1 env h K := rfl

/-- law.go:187 -/
def octroilaw18_DualWaits_r2 (env : Env) (h : Hp) (K : Env → Hp → Prop) : Prop :=
  Ok Try.prog 10 #[(env 0), (Go.Value.int Go.IntKind.i64 64)] h fun v20_1 h1 =>
  K (((env.set 19 (env 0)).set 20 v20_1).set 8 v20_1) h1
@[congr] theorem octroilaw18_DualWaits_r2_congr {env : Env} {h : Hp} {K : Env → Hp → Prop} : octroilaw18_DualWaits_r2 env h K = octroilaw18_DualWaits_r2 env h K := rfl

/-- law.go:188 -/
def octroilaw18_DualWaits_r3 (env : Env) (h : Hp) (K : Env → Hp → Prop) : Prop :=
  rd Try.prog (Op.unary Go.UnOp.not (env 7)) noHp fun v22_1 =>
  gd (yb v22_1 == some false) (fun h k => k (env 8) h) h fun v24_3 h1 =>
  gd (yb v22_1 == some false) (fun h k => rd Try.prog (bop Go.BinOp.eql 25 (Go.Operand.tmp 24) (Go.Operand.const (Go.Value.pointer none)) v24_3 (Go.Value.pointer none)) noHp fun v => k v h) h1 fun v25_4 h2 =>
  rd Try.prog (pck v22_1 (Go.Value.bool true) v25_4) noHp fun v26_5 =>
  gd (yb v26_5 == some false) (fun h k => k (env 1) h) h2 fun v28_7 h3 =>
  gd (yb v26_5 == some false) (fun h k => rd Try.prog (Builtin.len_ #[52] 3 #[v28_7]) h fun v => k v h) h3 fun v29_8 h4 =>
  gd (yb v26_5 == some false) (fun h k => rd Try.prog (bop Go.BinOp.gtr 3 (Go.Operand.tmp 29) (Go.Operand.const (Go.Value.int Go.IntKind.i64 120)) v29_8 (Go.Value.int Go.IntKind.i64 120)) noHp fun v => k v h) h4 fun v30_9 h5 =>
  rd Try.prog (pck v26_5 (Go.Value.bool true) v30_9) noHp fun v31_10 =>
  K (((((((((((env.set 21 (env 7)).set 22 v22_1).set 23 v22_1).set 24 v24_3).set 25 v25_4).set 26 v26_5).set 27 v26_5).set 28 v28_7).set 29 v29_8).set 30 v30_9).set 31 v31_10) h5
@[congr] theorem octroilaw18_DualWaits_r3_congr {env : Env} {h : Hp} {K : Env → Hp → Prop} : octroilaw18_DualWaits_r3 env h K = octroilaw18_DualWaits_r3 env h K := rfl

/-- law.go:189 -/
def octroilaw18_DualWaits_r4 (env : Env) (h : Hp) (K : Env → Hp → Prop) : Prop :=
  gd (yb (env 7) == some true) (fun h k => k (env 8) h) h fun v34_2 h1 =>
  gd (yb (env 7) == some true) (fun h k => rd Try.prog (bop Go.BinOp.neq 25 (Go.Operand.tmp 34) (Go.Operand.const (Go.Value.pointer none)) v34_2 (Go.Value.pointer none)) noHp fun v => k v h) h1 fun v35_3 h2 =>
  rd Try.prog (pck (env 7) v35_3 (Go.Value.bool false)) noHp fun v36_4 =>
  K ((((((env.set 32 (env 7)).set 33 (env 7)).set 34 v34_2).set 35 v35_3).set 36 v36_4).set 6 v36_4) h2
@[congr] theorem octroilaw18_DualWaits_r4_congr {env : Env} {h : Hp} {K : Env → Hp → Prop} : octroilaw18_DualWaits_r4 env h K = octroilaw18_DualWaits_r4 env h K := rfl

/-- law.go:191 -/
def octroilaw18_DualWaits_r5 (env : Env) (h : Hp) (K : Env → Hp → Prop) : Prop :=
  K (env.set 9 (Go.Value.int Go.IntKind.i64 0)) h
@[congr] theorem octroilaw18_DualWaits_r5_congr {env : Env} {h : Hp} {K : Env → Hp → Prop} : octroilaw18_DualWaits_r5 env h K = octroilaw18_DualWaits_r5 env h K := rfl

/-- law.go:191 -/
def octroilaw18_DualWaits_r6 (env : Env) (h : Hp) (K : Env → Hp → Prop) : Prop :=
  rd Try.prog (Builtin.len_ #[52] 3 #[(env 1)]) h fun v39_2 =>
  rd Try.prog (bop Go.BinOp.lss 3 (Go.Operand.tmp 37) (Go.Operand.tmp 39) (env 9) v39_2) noHp fun v40_3 =>
  K ((((env.set 37 (env 9)).set 38 (env 1)).set 39 v39_2).set 40 v40_3) h
@[congr] theorem octroilaw18_DualWaits_r6_congr {env : Env} {h : Hp} {K : Env → Hp → Prop} : octroilaw18_DualWaits_r6 env h K = octroilaw18_DualWaits_r6 env h K := rfl

/-- law.go:192 -/
def octroilaw18_DualWaits_r7 (env : Env) (h : Hp) (K : Env → Hp → Prop) : Prop :=
  rd Try.prog (Instr.loadAt 35 (env 5)) h fun v45_1 =>
  Ok Try.prog 15 #[(env 8), v45_1] h fun v46_2 h1 =>
  rd Try.prog (Instr.extract v46_2 0) noHp fun v47_4 =>
  rd Try.prog (Instr.extract v46_2 1) noHp fun v48_5 =>
  K ((((((((env.set 44 (env 8)).set 45 v45_1).set 46 v46_2).set 43 v46_2).set 47 v47_4).set 48 v48_5).set 10 v47_4).set 11 v48_5) h1
@[congr] theorem octroilaw18_DualWaits_r7_congr {env : Env} {h : Hp} {K : Env → Hp → Prop} : octroilaw18_DualWaits_r7 env h K = octroilaw18_DualWaits_r7 env h K := rfl

/-- law.go:193 -/
def octroilaw18_DualWaits_r8 (env : Env) (h : Hp) (K : Env → Hp → Prop) : Prop :=
  rd Try.prog (Instr.indexAt 52 (env 1) (env 9)) noHp fun v53_3 =>
  rd Try.prog (Instr.loadAt 55 v53_3) h fun v54_4 =>
  Ok Try.prog 21 #[(env 8), v54_4] h fun v55_5 h1 =>
  rd Try.prog (Instr.extract v55_5 0) noHp fun v56_7 =>
  rd Try.prog (Instr.extract v55_5 1) noHp fun v57_8 =>
  K (((((((((((env.set 50 (env 8)).set 51 (env 1)).set 52 (env 9)).set 53 v53_3).set 54 v54_4).set 55 v55_5).set 49 v55_5).set 56 v56_7).set 57 v57_8).set 12 v56_7).set 13 v57_8) h1
@[congr] theorem octroilaw18_DualWaits_r8_congr {env : Env} {h : Hp} {K : Env → Hp → Prop} : octroilaw18_DualWaits_r8 env h K = octroilaw18_DualWaits_r8 env h K := rfl

/-- law.go:194 -/
def octroilaw18_DualWaits_r9 (env : Env) (h : Hp) (K : Env → Hp → Prop) : Prop :=
  rd Try.prog (Instr.loadAt 35 (env 5)) h fun v60_1 =>
  Ok Try.prog 15 #[(env 8), v60_1] h fun v61_2 h1 =>
  rd Try.prog (Instr.extract v61_2 0) noHp fun v62_4 =>
  rd Try.prog (Instr.extract v61_2 1) noHp fun v63_5 =>
  K ((((((((env.set 59 (env 8)).set 60 v60_1).set 61 v61_2).set 58 v61_2).set 62 v62_4).set 63 v63_5).set 14 v62_4).set 15 v63_5) h1
@[congr] theorem octroilaw18_DualWaits_r9_congr {env : Env} {h : Hp} {K : Env → Hp → Prop} : octroilaw18_DualWaits_r9 env h K = octroilaw18_DualWaits_r9 env h K := rfl

/-- law.go:195 -/
def octroilaw18_DualWaits_r10 (env : Env) (h : Hp) (K : Env → Hp → Prop) : Prop :=
  rd Try.prog (Instr.indexAt 52 (env 1) (env 9)) noHp fun v66_2 =>
  rd Try.prog (Instr.fieldAt 55 v66_2 0) noHp fun v67_3 =>
  rd Try.prog (Instr.loadAt 3 v67_3) h fun v68_4 =>
  rd Try.prog (bop Go.BinOp.eql 3 (Go.Operand.tmp 68) (Go.Operand.const (Go.Value.int Go.IntKind.i64 2)) v68_4 (Go.Value.int Go.IntKind.i64 2)) noHp fun v69_5 =>
  gd (yb v69_5 == some false) (fun h k => k (env 1) h) h fun v71_7 h1 =>
  gd (yb v69_5 == some false) (fun h k => k (env 9) h) h1 fun v72_8 h2 =>
  gd (yb v69_5 == some false) (fun h k => rd Try.prog (Instr.indexAt 52 v71_7 v72_8) noHp fun v => k v h) h2 fun v73_9 h3 =>
  gd (yb v69_5 == some false) (fun h k => rd Try.prog (Instr.fieldAt 55 v73_9 0) noHp fun v => k v h) h3 fun v74_10 h4 =>
  gd (yb v69_5 == some false) (fun h k => rd Try.prog (Instr.loadAt 3 v74_10) h fun v => k v h) h4 fun v75_11 h5 =>
  gd (yb v69_5 == some false) (fun h k => rd Try.prog (bop Go.BinOp.eql 3 (Go.Operand.tmp 75) (Go.Operand.const (Go.Value.int Go.IntKind.i64 3)) v75_11 (Go.Value.int Go.IntKind.i64 3)) noHp fun v => k v h) h5 fun v76_12 h6 =>
  rd Try.prog (pck v69_5 (Go.Value.bool true) v76_12) noHp fun v77_13 =>
  gd (yb v77_13 == some false) (fun h k => k (env 1) h) h6 fun v79_15 h7 =>
  gd (yb v77_13 == some false) (fun h k => k (env 9) h) h7 fun v80_16 h8 =>
  gd (yb v77_13 == some false) (fun h k => rd Try.prog (Instr.indexAt 52 v79_15 v80_16) noHp fun v => k v h) h8 fun v81_17 h9 =>
  gd (yb v77_13 == some false) (fun h k => rd Try.prog (Instr.fieldAt 55 v81_17 0) noHp fun v => k v h) h9 fun v82_18 h10 =>
  gd (yb v77_13 == some false) (fun h k => rd Try.prog (Instr.loadAt 3 v82_18) h fun v => k v h) h10 fun v83_19 h11 =>
  gd (yb v77_13 == some false) (fun h k => rd Try.prog (bop Go.BinOp.eql 3 (Go.Operand.tmp 83) (Go.Operand.const (Go.Value.int Go.IntKind.i64 4)) v83_19 (Go.Value.int Go.IntKind.i64 4)) noHp fun v => k v h) h11 fun v84_20 h12 =>
  gd (yb v77_13 == some false) (fun h k => k v84_20 h) h12 fun v85_21 h13 =>
  gd (yb v85_21 == some true) (fun h k => k (env 1) h) h13 fun v86_22 h14 =>
  gd (yb v85_21 == some true) (fun h k => k (env 9) h) h14 fun v87_23 h15 =>
  gd (yb v85_21 == some true) (fun h k => rd Try.prog (Instr.indexAt 52 v86_22 v87_23) noHp fun v => k v h) h15 fun v88_24 h16 =>
  gd (yb v85_21 == some true) (fun h k => rd Try.prog (Instr.fieldAt 55 v88_24 2) noHp fun v => k v h) h16 fun v89_25 h17 =>
  gd (yb v85_21 == some true) (fun h k => rd Try.prog (Instr.fieldAt 40 v89_25 1) noHp fun v => k v h) h17 fun v90_26 h18 =>
  gd (yb v85_21 == some true) (fun h k => rd Try.prog (Instr.loadAt 3 v90_26) h fun v => k v h) h18 fun v91_27 h19 =>
  gd (yb v85_21 == some true) (fun h k => rd Try.prog (bop Go.BinOp.neq 3 (Go.Operand.tmp 91) (Go.Operand.const (Go.Value.int Go.IntKind.i64 3)) v91_27 (Go.Value.int Go.IntKind.i64 3)) noHp fun v => k v h) h19 fun v92_28 h20 =>
  gd (yb v77_13 == some false) (fun h k => rd Try.prog (pck v85_21 v92_28 (Go.Value.bool false)) noHp fun v => k v h) h20 fun v93_29 h21 =>
  rd Try.prog (pck v77_13 (Go.Value.bool true) v93_29) noHp fun v94_30 =>
  K ((((((((((((((((((((((((((((((((env.set 64 (env 1)).set 65 (env 9)).set 66 v66_2).set 67 v67_3).set 68 v68_4).set 69 v69_5).set 70 v69_5).set 71 v71_7).set 72 v72_8).set 73 v73_9).set 74 v74_10).set 75 v75_11).set 76 v76_12).set 77 v77_13).set 78 v77_13).set 79 v79_15).set 80 v80_16).set 81 v81_17).set 82 v82_18).set 83 v83_19).set 84 v84_20).set 85 v85_21).set 86 v86_22).set 87 v87_23).set 88 v88_24).set 89 v89_25).set 90 v90_26).set 91 v91_27).set 92 v92_28).set 93 v93_29).set 94 v94_30).set 16 v94_30) h21
@[congr] theorem octroilaw18_DualWaits_r10_congr {env : Env} {h : Hp} {K : Env → Hp → Prop} : octroilaw18_DualWaits_r10 env h K = octroilaw18_DualWaits_r10 env h K := rfl

/-- law.go:196 -/
def octroilaw18_DualWaits_r11 (env : Env) (h : Hp) (K : Env → Hp → Prop) : Prop :=
  gd (yb (env 11) == some false) (fun h k => k (env 16) h) h fun v97_2 h1 =>
  gd (yb (env 11) == some false) (fun h k => rd Try.prog (Op.unary Go.UnOp.not v97_2) noHp fun v => k v h) h1 fun v98_3 h2 =>
  rd Try.prog (pck (env 11) (Go.Value.bool true) v98_3) noHp fun v99_4 =>
  K (((((env.set 95 (env 11)).set 96 (env 11)).set 97 v97_2).set 98 v98_3).set 99 v99_4) h2
@[congr] theorem octroilaw18_DualWaits_r11_congr {env : Env} {h : Hp} {K : Env → Hp → Prop} : octroilaw18_DualWaits_r11 env h K = octroilaw18_DualWaits_r11 env h K := rfl

/-- law.go:199 -/
def octroilaw18_DualWaits_r12 (env : Env) (h : Hp) (K : Env → Hp → Prop) : Prop :=
  gd (yb (env 15) == some false) (fun h k => k (env 14) h) h fun v102_2 h1 =>
  gd (yb (env 15) == some false) (fun h k => k (env 10) h) h1 fun v103_3 h2 =>
  gd (yb (env 15) == some false) (fun h k => rd Try.prog (bop Go.BinOp.neq 3 (Go.Operand.tmp 102) (Go.Operand.tmp 103) v102_2 v103_3) noHp fun v => k v h) h2 fun v104_4 h3 =>
  rd Try.prog (pck (env 15) (Go.Value.bool true) v104_4) noHp fun v105_5 =>
  K ((((((env.set 100 (env 15)).set 101 (env 15)).set 102 v102_2).set 103 v103_3).set 104 v104_4).set 105 v105_5) h3
@[congr] theorem octroilaw18_DualWaits_r12_congr {env : Env} {h : Hp} {K : Env → Hp → Prop} : octroilaw18_DualWaits_r12 env h K = octroilaw18_DualWaits_r12 env h K := rfl

/-- law.go:200 -/
def octroilaw18_DualWaits_r13 (env : Env) (h : Hp) (K : Env → Hp → Prop) : Prop :=
  K (env.set 6 (Go.Value.bool false)) h
@[congr] theorem octroilaw18_DualWaits_r13_congr {env : Env} {h : Hp} {K : Env → Hp → Prop} : octroilaw18_DualWaits_r13 env h K = octroilaw18_DualWaits_r13 env h K := rfl

/-- law.go:202 -/
def octroilaw18_DualWaits_r14 (env : Env) (h : Hp) (K : Env → Hp → Prop) : Prop :=
  K (env.set 17 (Go.Value.int Go.IntKind.i64 0)) h
@[congr] theorem octroilaw18_DualWaits_r14_congr {env : Env} {h : Hp} {K : Env → Hp → Prop} : octroilaw18_DualWaits_r14 env h K = octroilaw18_DualWaits_r14 env h K := rfl

/-- law.go:202 -/
def octroilaw18_DualWaits_r15 (env : Env) (h : Hp) (K : Env → Hp → Prop) : Prop :=
  rd Try.prog (Builtin.len_ #[28] 3 #[(env 12)]) h fun v108_2 =>
  rd Try.prog (bop Go.BinOp.lss 3 (Go.Operand.tmp 106) (Go.Operand.tmp 108) (env 17) v108_2) noHp fun v109_3 =>
  K ((((env.set 106 (env 17)).set 107 (env 12)).set 108 v108_2).set 109 v109_3) h
@[congr] theorem octroilaw18_DualWaits_r15_congr {env : Env} {h : Hp} {K : Env → Hp → Prop} : octroilaw18_DualWaits_r15 env h K = octroilaw18_DualWaits_r15 env h K := rfl

/-- law.go:203 (in any order) -/
def octroilaw18_DualWaits_r16 (env : Env) (h : Hp) (K : Env → Hp → Prop) : Prop :=
  rd Try.prog (Instr.indexAt 28 (env 12) (env 17)) noHp fun v114_2 =>
  rd Try.prog (Instr.fieldAt 40 v114_2 4) noHp fun v115_3 =>
  rd Try.prog (Instr.fieldAt 38 v115_3 0) noHp fun v116_4 =>
  rd Try.prog (Instr.loadAt 35 v116_4) h fun v117_5 =>
  rd Try.prog (Instr.loadAt 35 (env 5)) h fun v118_6 =>
  rd Try.prog (bop Go.BinOp.eql 35 (Go.Operand.tmp 117) (Go.Operand.tmp 118) v117_5 v118_6) noHp fun v119_7 =>
  gd (yb v119_7 == some true) (fun h k => k (env 12) h) h fun v121_9 h1 =>
  gd (yb v119_7 == some true) (fun h k => k (env 17) h) h1 fun v122_10 h2 =>
  gd (yb v119_7 == some true) (fun h k => rd Try.prog (Instr.indexAt 28 v121_9 v122_10) noHp fun v => k v h) h2 fun v123_11 h3 =>
  gd (yb v119_7 == some true) (fun h k => rd Try.prog (Instr.fieldAt 40 v123_11 1) noHp fun v => k v h) h3 fun v124_12 h4 =>
  gd (yb v119_7 == some true) (fun h k => rd Try.prog (Instr.loadAt 3 v124_12) h fun v => k v h) h4 fun v125_13 h5 =>
  gd (yb v119_7 == some true) (fun h k => rd Try.prog (bop Go.BinOp.neq 3 (Go.Operand.tmp 125) (Go.Operand.const (Go.Value.int Go.IntKind.i64 3)) v125_13 (Go.Value.int Go.IntKind.i64 3)) noHp fun v => k v h) h5 fun v126_14 h6 =>
  rd Try.prog (pck v119_7 v126_14 (Go.Value.bool false)) noHp fun v127_15 =>
  K ((((((((((((((((env.set 112 (env 12)).set 113 (env 17)).set 114 v114_2).set 115 v115_3).set 116 v116_4).set 117 v117_5).set 118 v118_6).set 119 v119_7).set 120 v119_7).set 121 v121_9).set 122 v122_10).set 123 v123_11).set 124 v124_12).set 125 v125_13).set 126 v126_14).set 127 v127_15) h6
@[congr] theorem octroilaw18_DualWaits_r16_congr {env : Env} {h : Hp} {K : Env → Hp → Prop} : octroilaw18_DualWaits_r16 env h K = octroilaw18_DualWaits_r16 env h K := rfl

/-- law.go:204 -/
def octroilaw18_DualWaits_r17 (env : Env) (h : Hp) (K : Env → Hp → Prop) : Prop :=
  K (env.set 6 (Go.Value.bool false)) h
@[congr] theorem octroilaw18_DualWaits_r17_congr {env : Env} {h : Hp} {K : Env → Hp → Prop} : octroilaw18_DualWaits_r17 env h K = octroilaw18_DualWaits_r17 env h K := rfl

/-- law.go:202 -/
def octroilaw18_DualWaits_r18 (env : Env) (h : Hp) (K : Env → Hp → Prop) : Prop :=
  rd Try.prog (bop Go.BinOp.add 3 (Go.Operand.tmp 110) (Go.Operand.const (Go.Value.int Go.IntKind.i64 1)) (env 17) (Go.Value.int Go.IntKind.i64 1)) noHp fun v111_1 =>
  K (((env.set 110 (env 17)).set 111 v111_1).set 17 v111_1) h
@[congr] theorem octroilaw18_DualWaits_r18_congr {env : Env} {h : Hp} {K : Env → Hp → Prop} : octroilaw18_DualWaits_r18 env h K = octroilaw18_DualWaits_r18 env h K := rfl

def octroilaw18_DualWaits_L0 : Den := (sq (sq (rg octroilaw18_DualWaits_r15) (cnd (Go.Operand.tmp 109) (ex .normal) (ex (.exit 2)))) (sq (blk 3 (sq (rg octroilaw18_DualWaits_r16) (cnd (Go.Operand.tmp 127) (sq (rg octroilaw18_DualWaits_r17) (ex .ret)) (ex .normal)))) (rg octroilaw18_DualWaits_r18)))

/-- law.go:191 -/
def octroilaw18_DualWaits_r19 (env : Env) (h : Hp) (K : Env → Hp → Prop) : Prop :=
  rd Try.prog (bop Go.BinOp.add 3 (Go.Operand.tmp 41) (Go.Operand.const (Go.Value.int Go.IntKind.i64 1)) (env 9) (Go.Value.int Go.IntKind.i64 1)) noHp fun v42_1 =>
  K (((env.set 41 (env 9)).set 42 v42_1).set 9 v42_1) h
@[congr] theorem octroilaw18_DualWaits_r19_congr {env : Env} {h : Hp} {K : Env → Hp → Prop} : octroilaw18_DualWaits_r19 env h K = octroilaw18_DualWaits_r19 env h K := rfl

def octroilaw18_DualWaits_L1 : Den := (sq (sq (rg octroilaw18_DualWaits_r6) (cnd (Go.Operand.tmp 40) (ex .normal) (ex (.exit 0)))) (sq (blk 1 (sq (rg octroilaw18_DualWaits_r7) (sq (rg octroilaw18_DualWaits_r8) (sq (rg octroilaw18_DualWaits_r9) (sq (rg octroilaw18_DualWaits_r10) (sq (sq (rg octroilaw18_DualWaits_r11) (cnd (Go.Operand.tmp 99) (ex (.exit 1)) (ex .normal))) (sq (sq (rg octroilaw18_DualWaits_r12) (cnd (Go.Operand.tmp 105) (sq (rg octroilaw18_DualWaits_r13) (ex .ret)) (ex .normal))) (sq (rg octroilaw18_DualWaits_r14) (blk 2 (lp octroilaw18_DualWaits_L0)))))))))) (rg octroilaw18_DualWaits_r19)))

/-- law.go:208 -/
def octroilaw18_DualWaits_r20 (env : Env) (h : Hp) (K : Env → Hp → Prop) : Prop :=
  K (env.set 6 (Go.Value.bool true)) h
@[congr] theorem octroilaw18_DualWaits_r20_congr {env : Env} {h : Hp} {K : Env → Hp → Prop} : octroilaw18_DualWaits_r20 env h K = octroilaw18_DualWaits_r20 env h K := rfl

def octroilaw18_DualWaits_D : Den := (sq (rg octroilaw18_DualWaits_r0) (sq (rg octroilaw18_DualWaits_r1) (sq (rg octroilaw18_DualWaits_r2) (sq (sq (rg octroilaw18_DualWaits_r3) (cnd (Go.Operand.tmp 31) (sq (rg octroilaw18_DualWaits_r4) (ex .ret)) (ex .normal))) (sq (sq (rg octroilaw18_DualWaits_r5) (blk 0 (lp octroilaw18_DualWaits_L1))) (sq (rg octroilaw18_DualWaits_r20) (ex .ret)))))))

theorem octroilaw18_DualWaits_eq : (den Try.prog 128 octroilaw18_DualWaits_code).1 = octroilaw18_DualWaits_D := by kernel_rfl

theorem octroilaw18_DualWaits_ok {args : Array Value} {h : Hp} {Q : Value → Hp → Prop} (hn : args.size ≤ 128) (D : octroilaw18_DualWaits_D (fin Try.prog [(Go.ResultVar.tmp 6)] Q) (env0 args) h) : Ok Try.prog 8 args h Q :=
  ok_of_den progIsOk Try.func8 (c := octroilaw18_DualWaits_code) (by kernel_rfl) hn (by show (den Try.prog 128 octroilaw18_DualWaits_code).1 _ _ _; rw [octroilaw18_DualWaits_eq]; exact D)

/-! ### octroi/octroilaw18.awake: function 9 -/
noncomputable def octroilaw18_awake_code : Code := match Try.f9.body with | some c => c | none => .skip

/-- law.go:20 -/
def octroilaw18_awake_r0 (env : Env) (h : Hp) (K : Env → Hp → Prop) : Prop :=
  K (env.set 0 (Go.Value.bool false)) h
@[congr] theorem octroilaw18_awake_r0_congr {env : Env} {h : Hp} {K : Env → Hp → Prop} : octroilaw18_awake_r0 env h K = octroilaw18_awake_r0 env h K := rfl

/-- law.go:21 -/
def octroilaw18_awake_r1 (env : Env) (h : Hp) (K : Env → Hp → Prop) : Prop :=
  Ok Try.prog 10 #[(Go.Value.int Go.IntKind.i64 0), (Go.Value.int Go.IntKind.i64 10)] h fun v7_0 h1 =>
  K ((env.set 7 v7_0).set 1 v7_0) h1
@[congr] theorem octroilaw18_awake_r1_congr {env : Env} {h : Hp} {K : Env → Hp → Prop} : octroilaw18_awake_r1 env h K = octroilaw18_awake_r1 env h K := rfl

/-- law.go:22 -/
def octroilaw18_awake_r2 (env : Env) (h : Hp) (K : Env → Hp → Prop) : Prop :=
  rd Try.prog (bop Go.BinOp.eql 25 (Go.Operand.tmp 8) (Go.Operand.const (Go.Value.pointer none)) (env 1) (Go.Value.pointer none)) noHp fun v9_1 =>
  K ((env.set 8 (env 1)).set 9 v9_1) h
@[congr] theorem octroilaw18_awake_r2_congr {env : Env} {h : Hp} {K : Env → Hp → Prop} : octroilaw18_awake_r2 env h K = octroilaw18_awake_r2 env h K := rfl

/-- law.go:23 -/
def octroilaw18_awake_r3 (env : Env) (h : Hp) (K : Env → Hp → Prop) : Prop :=
  K (env.set 0 (Go.Value.bool false)) h
@[congr] theorem octroilaw18_awake_r3_congr {env : Env} {h : Hp} {K : Env → Hp → Prop} : octroilaw18_awake_r3 env h K = octroilaw18_awake_r3 env h K := rfl

/-- law.go:25 -/
def octroilaw18_awake_r4 (env : Env) (h : Hp) (K : Env → Hp → Prop) : Prop :=
  rd Try.prog (Instr.build 23 #[(0, (Go.Value.int Go.IntKind.i64 100)), (1, (Go.Value.int Go.IntKind.i64 20)), (2, (Go.Value.int Go.IntKind.i64 1))]) noHp fun v12_1 =>
  Ok Try.prog 12 #[(env 1), (Go.Value.int Go.IntKind.i64 2), v12_1] h fun v13_2 h1 =>
  rd Try.prog (Instr.extract v13_2 0) noHp fun v14_4 =>
  rd Try.prog (Instr.extract v13_2 1) noHp fun v15_5 =>
  K ((((((((env.set 11 (env 1)).set 12 v12_1).set 13 v13_2).set 10 v13_2).set 14 v14_4).set 15 v15_5).set 2 v14_4).set 3 v15_5) h1
@[congr] theorem octroilaw18_awake_r4_congr {env : Env} {h : Hp} {K : Env → Hp → Prop} : octroilaw18_awake_r4 env h K = octroilaw18_awake_r4 env h K := rfl

/-- law.go:26 -/
def octroilaw18_awake_r5 (env : Env) (h : Hp) (K : Env → Hp → Prop) : Prop :=
  rd Try.prog (Instr.build 23 #[(0, (Go.Value.int Go.IntKind.i64 1000)), (1, (Go.Value.int Go.IntKind.i64 10)), (2, (Go.Value.int Go.IntKind.i64 1))]) noHp fun v18_1 =>
  rd Try.prog (Instr.build 38 #[(1, v18_1)]) noHp fun v19_2 =>
  rd Try.prog (Instr.build 40 #[(1, (Go.Value.int Go.IntKind.i64 1)), (2, (Go.Value.int Go.IntKind.u32 1)), (4, v19_2)]) noHp fun v20_3 =>
  Ok Try.prog 14 #[(env 1), (Go.Value.int Go.IntKind.i64 2), v20_3] h fun v21_4 h1 =>
  rd Try.prog (Instr.extract v21_4 0) noHp fun v22_6 =>
  rd Try.prog (Instr.extract v21_4 1) noHp fun v23_7 =>
  K ((((((((((env.set 17 (env 1)).set 18 v18_1).set 19 v19_2).set 20 v20_3).set 21 v21_4).set 16 v21_4).set 22 v22_6).set 23 v23_7).set 4 v22_6).set 5 v23_7) h1
@[congr] theorem octroilaw18_awake_r5_congr {env : Env} {h : Hp} {K : Env → Hp → Prop} : octroilaw18_awake_r5 env h K = octroilaw18_awake_r5 env h K := rfl

/-- law.go:27 -/
def octroilaw18_awake_r6 (env : Env) (h : Hp) (K : Env → Hp → Prop) : Prop :=
  Ok Try.prog 19 #[(env 1)] h fun v25_1 h1 =>
  K (((env.set 24 (env 1)).set 25 v25_1).set 6 v25_1) h1
@[congr] theorem octroilaw18_awake_r6_congr {env : Env} {h : Hp} {K : Env → Hp → Prop} : octroilaw18_awake_r6 env h K = octroilaw18_awake_r6 env h K := rfl

/-- law.go:28 -/
def octroilaw18_awake_r7 (env : Env) (h : Hp) (K : Env → Hp → Prop) : Prop :=
  rd Try.prog (bop Go.BinOp.eql 29 (Go.Operand.tmp 26) (Go.Operand.const (Go.Value.int Go.IntKind.i64 0)) (env 3) (Go.Value.int Go.IntKind.i64 0)) noHp fun v27_1 =>
  gd (yb v27_1 == some true) (fun h k => k (env 5) h) h fun v29_3 h1 =>
  gd (yb v27_1 == some true) (fun h k => rd Try.prog (bop Go.BinOp.eql 29 (Go.Operand.tmp 29) (Go.Operand.const (Go.Value.int Go.IntKind.i64 0)) v29_3 (Go.Value.int Go.IntKind.i64 0)) noHp fun v => k v h) h1 fun v30_4 h2 =>
  rd Try.prog (pck v27_1 v30_4 (Go.Value.bool false)) noHp fun v31_5 =>
  gd (yb v31_5 == some true) (fun h k => k (env 2) h) h2 fun v33_7 h3 =>
  gd (yb v31_5 == some true) (fun h k => rd Try.prog (Builtin.len_ #[28] 3 #[v33_7]) h fun v => k v h) h3 fun v34_8 h4 =>
  gd (yb v31_5 == some true) (fun h k => rd Try.prog (bop Go.BinOp.eql 3 (Go.Operand.tmp 34) (Go.Operand.const (Go.Value.int Go.IntKind.i64 0)) v34_8 (Go.Value.int Go.IntKind.i64 0)) noHp fun v => k v h) h4 fun v35_9 h5 =>
  rd Try.prog (pck v31_5 v35_9 (Go.Value.bool false)) noHp fun v36_10 =>
  gd (yb v36_10 == some true) (fun h k => k (env 4) h) h5 fun v38_12 h6 =>
  gd (yb v36_10 == some true) (fun h k => rd Try.prog (Builtin.len_ #[28] 3 #[v38_12]) h fun v => k v h) h6 fun v39_13 h7 =>
  gd (yb v36_10 == some true) (fun h k => rd Try.prog (bop Go.BinOp.eql 3 (Go.Operand.tmp 39) (Go.Operand.const (Go.Value.int Go.IntKind.i64 1)) v39_13 (Go.Value.int Go.IntKind.i64 1)) noHp fun v => k v h) h7 fun v40_14 h8 =>
  rd Try.prog (pck v36_10 v40_14 (Go.Value.bool false)) noHp fun v41_15 =>
  gd (yb v41_15 == some true) (fun h k => k (env 4) h) h8 fun v43_17 h9 =>
  gd (yb v41_15 == some true) (fun h k => rd Try.prog (Instr.indexAt 28 v43_17 (Go.Value.int Go.IntKind.i64 0)) noHp fun v => k v h) h9 fun v44_18 h10 =>
  gd (yb v41_15 == some true) (fun h k => rd Try.prog (Instr.fieldAt 40 v44_18 4) noHp fun v => k v h) h10 fun v45_19 h11 =>
  gd (yb v41_15 == some true) (fun h k => rd Try.prog (Instr.fieldAt 38 v45_19 1) noHp fun v => k v h) h11 fun v46_20 h12 =>
  gd (yb v41_15 == some true) (fun h k => rd Try.prog (Instr.loadAt 23 v46_20) h fun v => k v h) h12 fun v47_21 h13 =>
  gd (yb v41_15 == some true) (fun h k => rd Try.prog (Instr.build 23 #[(0, (Go.Value.int Go.IntKind.i64 100)), (1, (Go.Value.int Go.IntKind.i64 30)), (2, (Go.Value.int Go.IntKind.i64 2))]) noHp fun v => k v h) h13 fun v48_22 h14 =>
  gd (yb v41_15 == some true) (fun h k => rd Try.prog (bop Go.BinOp.eql 23 (Go.Operand.tmp 47) (Go.Operand.tmp 48) v47_21 v48_22) noHp fun v => k v h) h14 fun v49_23 h15 =>
  rd Try.prog (pck v41_15 v49_23 (Go.Value.bool false)) noHp fun v50_24 =>
  gd (yb v50_24 == some true) (fun h k => k (env 6) h) h15 fun v52_26 h16 =>
  gd (yb v50_24 == some true) (fun h k => rd Try.prog (Builtin.len_ #[45] 3 #[v52_26]) h fun v => k v h) h16 fun v53_27 h17 =>
  gd (yb v50_24 == some true) (fun h k => rd Try.prog (bop Go.BinOp.eql 3 (Go.Operand.tmp 53) (Go.Operand.const (Go.Value.int Go.IntKind.i64 1)) v53_27 (Go.Value.int Go.IntKind.i64 1)) noHp fun v => k v h) h17 fun v54_28 h18 =>
  rd Try.prog (pck v50_24 v54_28 (Go.Value.bool false)) noHp fun v55_29 =>
  gd (yb v55_29 == some true) (fun h k => k (env 6) h) h18 fun v57_31 h19 =>
  gd (yb v55_29 == some true) (fun h k => rd Try.prog (Instr.indexAt 45 v57_31 (Go.Value.int Go.IntKind.i64 0)) noHp fun v => k v h) h19 fun v58_32 h20 =>
  gd (yb v55_29 == some true) (fun h k => rd Try.prog (Instr.fieldAt 49 v58_32 4) noHp fun v => k v h) h20 fun v59_33 h21 =>
  gd (yb v55_29 == some true) (fun h k => rd Try.prog (Instr.loadAt 3 v59_33) h fun v => k v h) h21 fun v60_34 h22 =>
  gd (yb v55_29 == some true) (fun h k => rd Try.prog (bop Go.BinOp.eql 3 (Go.Operand.tmp 60) (Go.Operand.const (Go.Value.int Go.IntKind.i64 2)) v60_34 (Go.Value.int Go.IntKind.i64 2)) noHp fun v => k v h) h22 fun v61_35 h23 =>
  rd Try.prog (pck v55_29 v61_35 (Go.Value.bool false)) noHp fun v62_36 =>
  K ((((((((((((((((((((((((((((((((((((((env.set 26 (env 3)).set 27 v27_1).set 28 v27_1).set 29 v29_3).set 30 v30_4).set 31 v31_5).set 32 v31_5).set 33 v33_7).set 34 v34_8).set 35 v35_9).set 36 v36_10).set 37 v36_10).set 38 v38_12).set 39 v39_13).set 40 v40_14).set 41 v41_15).set 42 v41_15).set 43 v43_17).set 44 v44_18).set 45 v45_19).set 46 v46_20).set 47 v47_21).set 48 v48_22).set 49 v49_23).set 50 v50_24).set 51 v50_24).set 52 v52_26).set 53 v53_27).set 54 v54_28).set 55 v55_29).set 56 v55_29).set 57 v57_31).set 58 v58_32).set 59 v59_33).set 60 v60_34).set 61 v61_35).set 62 v62_36).set 0 v62_36) h23
@[congr] theorem octroilaw18_awake_r7_congr {env : Env} {h : Hp} {K : Env → Hp → Prop} : octroilaw18_awake_r7 env h K = octroilaw18_awake_r7 env h K := rfl

def octroilaw18_awake_D : Den := (sq (rg octroilaw18_awake_r0) (sq (rg octroilaw18_awake_r1) (sq (sq (rg octroilaw18_awake_r2) (cnd (Go.Operand.tmp 9) (sq (rg octroilaw18_awake_r3) (ex .ret)) (ex .normal))) (sq (rg octroilaw18_awake_r4) (sq (rg octroilaw18_awake_r5) (sq (rg octroilaw18_awake_r6) (sq (rg octroilaw18_awake_r7) (ex .ret))))))))

theorem octroilaw18_awake_eq : (den Try.prog 63 octroilaw18_awake_code).1 = octroilaw18_awake_D := by kernel_rfl

theorem octroilaw18_awake_ok {args : Array Value} {h : Hp} {Q : Value → Hp → Prop} (hn : args.size ≤ 63) (D : octroilaw18_awake_D (fin Try.prog [(Go.ResultVar.tmp 0)] Q) (env0 args) h) : Ok Try.prog 9 args h Q :=
  ok_of_den progIsOk Try.func9 (c := octroilaw18_awake_code) (by kernel_rfl) hn (by show (den Try.prog 63 octroilaw18_awake_code).1 _ _ _; rw [octroilaw18_awake_eq]; exact D)

/-! ### octroi/dual.New: function 10 -/
noncomputable def dual_New_code : Code := match Try.f10.body with | some c => c | none => .skip

/-- dual.go:57 -/
def dual_New_r0 (env : Env) (h : Hp) (K : Env → Hp → Prop) : Prop :=
  K (env.set 4 (Go.Value.pointer none)) h
@[congr] theorem dual_New_r0_congr {env : Env} {h : Hp} {K : Env → Hp → Prop} : dual_New_r0 env h K = dual_New_r0 env h K := rfl

/-- dual.go:58 -/
def dual_New_r1 (env : Env) (h : Hp) (K : Env → Hp → Prop) : Prop :=
  rd Try.prog (Builtin.min_ #[3, 3] 3 #[(env 1), (Go.Value.int Go.IntKind.i64 64)]) h fun v7_2 =>
  arun Try.prog (Instr.makeMap 62 none) h fun v8_3 h1 =>
  arun Try.prog (Instr.makeMap 63 none) h1 fun v9_4 h2 =>
  rd Try.prog (Instr.build 65 #[(0, (env 0)), (1, v7_2), (2, v8_3), (3, v9_4)]) noHp fun v10_5 =>
  arun Try.prog (Instr.box 65 v10_5) h2 fun v11_6 h3 =>
  K ((((((((env.set 5 (env 0)).set 6 (env 1)).set 7 v7_2).set 8 v8_3).set 9 v9_4).set 10 v10_5).set 11 v11_6).set 4 v11_6) h3
@[congr] theorem dual_New_r1_congr {env : Env} {h : Hp} {K : Env → Hp → Prop} : dual_New_r1 env h K = dual_New_r1 env h K := rfl

def dual_New_D : Den := (sq (rg dual_New_r0) (sq (rg dual_New_r1) (ex .ret)))

theorem dual_New_eq : (den Try.prog 12 dual_New_code).1 = dual_New_D := by kernel_rfl

theorem dual_New_ok {args : Array Value} {h : Hp} {Q : Value → Hp → Prop} (hn : args.size ≤ 12) (D : dual_New_D (fin Try.prog [(Go.ResultVar.tmp 4)] Q) (env0 args) h) : Ok Try.prog 10 args h Q :=
  ok_of_den progIsOk Try.func10 (c := dual_New_code) (by kernel_rfl) hn (by show (den Try.prog 12 dual_New_code).1 _ _ _; rw [dual_New_eq]; exact D)

/-! ### octroi/octroiref04.Reached: function 11 -/
noncomputable def octroiref04_Reached_code : Code := match Try.f11.body with | some c => c | none => .skip

/-- ref.go:15 -/
def octroiref04_Reached_r0 (env : Env) (h : Hp) (K : Env → Hp → Prop) : Prop :=
  arun Try.prog (Instr.box 23 (env 0)) h fun v1_0 h1 =>
  K ((env.set 1 v1_0).set 2 (Go.Value.bool false)) h1
@[congr] theorem octroiref04_Reached_r0_congr {env : Env} {h : Hp} {K : Env → Hp → Prop} : octroiref04_Reached_r0 env h K = octroiref04_Reached_r0 env h K := rfl

/-- ref.go:16 -/
def octroiref04_Reached_r1 (env : Env) (h : Hp) (K : Env → Hp → Prop) : Prop :=
  rd Try.prog (Instr.loadAt 23 (env 1)) h fun v4_0 =>
  Ok Try.prog 23 #[v4_0] h fun v5_1 h1 =>
  K (((env.set 4 v4_0).set 5 v5_1).set 3 v5_1) h1
@[congr] theorem octroiref04_Reached_r1_congr {env : Env} {h : Hp} {K : Env → Hp → Prop} : octroiref04_Reached_r1 env h K = octroiref04_Reached_r1 env h K := rfl

/-- ref.go:17 -/
def octroiref04_Reached_r2 (env : Env) (h : Hp) (K : Env → Hp → Prop) : Prop :=
  gd (yb (env 3) == some true) (fun h k => rd Try.prog (Instr.fieldAt 23 (env 1) 1) noHp fun v => k v h) h fun v8_2 h1 =>
  gd (yb (env 3) == some true) (fun h k => rd Try.prog (Instr.loadAt 3 v8_2) h fun v => k v h) h1 fun v9_3 h2 =>
  gd (yb (env 3) == some true) (fun h k => rd Try.prog (bop Go.BinOp.lss 3 (Go.Operand.tmp 9) (Go.Operand.const (Go.Value.int Go.IntKind.i64 16777216)) v9_3 (Go.Value.int Go.IntKind.i64 16777216)) noHp fun v => k v h) h2 fun v10_4 h3 =>
  rd Try.prog (pck (env 3) v10_4 (Go.Value.bool false)) noHp fun v11_5 =>
  gd (yb v11_5 == some true) (fun h k => rd Try.prog (Instr.fieldAt 23 (env 1) 2) noHp fun v => k v h) h3 fun v13_7 h4 =>
  gd (yb v11_5 == some true) (fun h k => rd Try.prog (Instr.loadAt 3 v13_7) h fun v => k v h) h4 fun v14_8 h5 =>
  gd (yb v11_5 == some true) (fun h k => rd Try.prog (bop Go.BinOp.lss 3 (Go.Operand.tmp 14) (Go.Operand.const (Go.Value.int Go.IntKind.i64 100)) v14_8 (Go.Value.int Go.IntKind.i64 100)) noHp fun v => k v h) h5 fun v15_9 h6 =>
  rd Try.prog (pck v11_5 v15_9 (Go.Value.bool false)) noHp fun v16_10 =>
  K ((((((((((((env.set 6 (env 3)).set 7 (env 3)).set 8 v8_2).set 9 v9_3).set 10 v10_4).set 11 v11_5).set 12 v11_5).set 13 v13_7).set 14 v14_8).set 15 v15_9).set 16 v16_10).set 2 v16_10) h6
@[congr] theorem octroiref04_Reached_r2_congr {env : Env} {h : Hp} {K : Env → Hp → Prop} : octroiref04_Reached_r2 env h K = octroiref04_Reached_r2 env h K := rfl

def octroiref04_Reached_D : Den := (sq (rg octroiref04_Reached_r0) (sq (rg octroiref04_Reached_r1) (sq (rg octroiref04_Reached_r2) (ex .ret))))

theorem octroiref04_Reached_eq : (den Try.prog 17 octroiref04_Reached_code).1 = octroiref04_Reached_D := by kernel_rfl

theorem octroiref04_Reached_ok {args : Array Value} {h : Hp} {Q : Value → Hp → Prop} (hn : args.size ≤ 17) (D : octroiref04_Reached_D (fin Try.prog [(Go.ResultVar.tmp 2)] Q) (env0 args) h) : Ok Try.prog 11 args h Q :=
  ok_of_den progIsOk Try.func11 (c := octroiref04_Reached_code) (by kernel_rfl) hn (by show (den Try.prog 17 octroiref04_Reached_code).1 _ _ _; rw [octroiref04_Reached_eq]; exact D)

end Go.Proofs.Ytpeoholnlokdcaa
