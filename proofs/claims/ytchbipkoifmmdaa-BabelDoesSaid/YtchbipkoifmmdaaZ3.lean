/- Printed by wip/kit/gen.py out of the translation: formulas of Go functions, and that they are these functions'. -/
import Derived.Test.YtchbipkoifmmdaaChecked
import Derived.Test.YtchbipkoifmmdaaZ2

set_option linter.unusedSimpArgs false
set_option linter.unusedVariables false

namespace Go.Proofs.Ytchbipkoifmmdaa
open Go

set_option maxRecDepth 100000
set_option linter.unusedVariables false

theorem progIsOk : progOk Try.prog = true := by kernel_rfl

/-! ### octroi/octroilaw17.BabelBest: function 3 -/
noncomputable def octroilaw17_BabelBest_code : Code := match Try.f3.body with | some c => c | none => .skip

/-- more.go:9 -/
def octroilaw17_BabelBest_r0 (env : Env) (h : Hp) (K : Env → Hp → Prop) : Prop :=
  arun Try.prog (Instr.box 24 (env 0)) h fun v5_0 h1 =>
  K ((env.set 5 v5_0).set 10 (Go.Value.bool false)) h1
@[congr] theorem octroilaw17_BabelBest_r0_congr {env : Env} {h : Hp} {K : Env → Hp → Prop} : octroilaw17_BabelBest_r0 env h K = octroilaw17_BabelBest_r0 env h K := rfl

/-- more.go:10 -/
def octroilaw17_BabelBest_r1 (env : Env) (h : Hp) (K : Env → Hp → Prop) : Prop :=
  Ok Try.prog 10 #[] h fun v19_0 h1 =>
  K ((env.set 19 v19_0).set 11 v19_0) h1
@[congr] theorem octroilaw17_BabelBest_r1_congr {env : Env} {h : Hp} {K : Env → Hp → Prop} : octroilaw17_BabelBest_r1 env h K = octroilaw17_BabelBest_r1 env h K := rfl

/-- more.go:11 -/
def octroilaw17_BabelBest_r2 (env : Env) (h : Hp) (K : Env → Hp → Prop) : Prop :=
  Ok Try.prog 11 #[(Go.Value.int Go.IntKind.u64 1), (Go.Value.int Go.IntKind.i64 0), (Go.Value.int Go.IntKind.i64 10)] h fun v20_0 h1 =>
  K ((env.set 20 v20_0).set 12 v20_0) h1
@[congr] theorem octroilaw17_BabelBest_r2_congr {env : Env} {h : Hp} {K : Env → Hp → Prop} : octroilaw17_BabelBest_r2 env h K = octroilaw17_BabelBest_r2 env h K := rfl

/-- more.go:12 -/
def octroilaw17_BabelBest_r3 (env : Env) (h : Hp) (K : Env → Hp → Prop) : Prop :=
  rd Try.prog (Op.unary Go.UnOp.not (env 11)) noHp fun v22_1 =>
  gd (yb v22_1 == some false) (fun h k => k (env 12) h) h fun v24_3 h1 =>
  gd (yb v22_1 == some false) (fun h k => rd Try.prog (bop Go.BinOp.eql 26 (Go.Operand.tmp 24) (Go.Operand.const (Go.Value.pointer none)) v24_3 (Go.Value.pointer none)) noHp fun v => k v h) h1 fun v25_4 h2 =>
  rd Try.prog (pck v22_1 (Go.Value.bool true) v25_4) noHp fun v26_5 =>
  gd (yb v26_5 == some false) (fun h k => k (env 1) h) h2 fun v28_7 h3 =>
  gd (yb v26_5 == some false) (fun h k => rd Try.prog (bop Go.BinOp.lss 3 (Go.Operand.tmp 28) (Go.Operand.const (Go.Value.int Go.IntKind.i64 0)) v28_7 (Go.Value.int Go.IntKind.i64 0)) noHp fun v => k v h) h3 fun v29_8 h4 =>
  rd Try.prog (pck v26_5 (Go.Value.bool true) v29_8) noHp fun v30_9 =>
  gd (yb v30_9 == some false) (fun h k => k (env 2) h) h4 fun v32_11 h5 =>
  gd (yb v30_9 == some false) (fun h k => rd Try.prog (bop Go.BinOp.lss 3 (Go.Operand.tmp 32) (Go.Operand.const (Go.Value.int Go.IntKind.i64 0)) v32_11 (Go.Value.int Go.IntKind.i64 0)) noHp fun v => k v h) h5 fun v33_12 h6 =>
  rd Try.prog (pck v30_9 (Go.Value.bool true) v33_12) noHp fun v34_13 =>
  gd (yb v34_13 == some false) (fun h k => k (env 3) h) h6 fun v36_15 h7 =>
  gd (yb v34_13 == some false) (fun h k => rd Try.prog (bop Go.BinOp.lss 3 (Go.Operand.tmp 36) (Go.Operand.const (Go.Value.int Go.IntKind.i64 1)) v36_15 (Go.Value.int Go.IntKind.i64 1)) noHp fun v => k v h) h7 fun v37_16 h8 =>
  rd Try.prog (pck v34_13 (Go.Value.bool true) v37_16) noHp fun v38_17 =>
  gd (yb v38_17 == some false) (fun h k => k (env 4) h) h8 fun v40_19 h9 =>
  gd (yb v38_17 == some false) (fun h k => rd Try.prog (bop Go.BinOp.lss 3 (Go.Operand.tmp 40) (Go.Operand.const (Go.Value.int Go.IntKind.i64 1)) v40_19 (Go.Value.int Go.IntKind.i64 1)) noHp fun v => k v h) h9 fun v41_20 h10 =>
  rd Try.prog (pck v38_17 (Go.Value.bool true) v41_20) noHp fun v42_21 =>
  gd (yb v42_21 == some false) (fun h k => k (env 1) h) h10 fun v44_23 h11 =>
  gd (yb v42_21 == some false) (fun h k => rd Try.prog (bop Go.BinOp.gtr 3 (Go.Operand.tmp 44) (Go.Operand.const (Go.Value.int Go.IntKind.i64 30000)) v44_23 (Go.Value.int Go.IntKind.i64 30000)) noHp fun v => k v h) h11 fun v45_24 h12 =>
  rd Try.prog (pck v42_21 (Go.Value.bool true) v45_24) noHp fun v46_25 =>
  gd (yb v46_25 == some false) (fun h k => k (env 2) h) h12 fun v48_27 h13 =>
  gd (yb v46_25 == some false) (fun h k => rd Try.prog (bop Go.BinOp.gtr 3 (Go.Operand.tmp 48) (Go.Operand.const (Go.Value.int Go.IntKind.i64 30000)) v48_27 (Go.Value.int Go.IntKind.i64 30000)) noHp fun v => k v h) h13 fun v49_28 h14 =>
  rd Try.prog (pck v46_25 (Go.Value.bool true) v49_28) noHp fun v50_29 =>
  gd (yb v50_29 == some false) (fun h k => k (env 3) h) h14 fun v52_31 h15 =>
  gd (yb v50_29 == some false) (fun h k => rd Try.prog (bop Go.BinOp.gtr 3 (Go.Operand.tmp 52) (Go.Operand.const (Go.Value.int Go.IntKind.i64 30000)) v52_31 (Go.Value.int Go.IntKind.i64 30000)) noHp fun v => k v h) h15 fun v53_32 h16 =>
  rd Try.prog (pck v50_29 (Go.Value.bool true) v53_32) noHp fun v54_33 =>
  gd (yb v54_33 == some false) (fun h k => k (env 4) h) h16 fun v56_35 h17 =>
  gd (yb v54_33 == some false) (fun h k => rd Try.prog (bop Go.BinOp.gtr 3 (Go.Operand.tmp 56) (Go.Operand.const (Go.Value.int Go.IntKind.i64 30000)) v56_35 (Go.Value.int Go.IntKind.i64 30000)) noHp fun v => k v h) h17 fun v57_36 h18 =>
  rd Try.prog (pck v54_33 (Go.Value.bool true) v57_36) noHp fun v58_37 =>
  K ((((((((((((((((((((((((((((((((((((((env.set 21 (env 11)).set 22 v22_1).set 23 v22_1).set 24 v24_3).set 25 v25_4).set 26 v26_5).set 27 v26_5).set 28 v28_7).set 29 v29_8).set 30 v30_9).set 31 v30_9).set 32 v32_11).set 33 v33_12).set 34 v34_13).set 35 v34_13).set 36 v36_15).set 37 v37_16).set 38 v38_17).set 39 v38_17).set 40 v40_19).set 41 v41_20).set 42 v42_21).set 43 v42_21).set 44 v44_23).set 45 v45_24).set 46 v46_25).set 47 v46_25).set 48 v48_27).set 49 v49_28).set 50 v50_29).set 51 v50_29).set 52 v52_31).set 53 v53_32).set 54 v54_33).set 55 v54_33).set 56 v56_35).set 57 v57_36).set 58 v58_37) h18
@[congr] theorem octroilaw17_BabelBest_r3_congr {env : Env} {h : Hp} {K : Env → Hp → Prop} : octroilaw17_BabelBest_r3 env h K = octroilaw17_BabelBest_r3 env h K := rfl

/-- more.go:13 -/
def octroilaw17_BabelBest_r4 (env : Env) (h : Hp) (K : Env → Hp → Prop) : Prop :=
  gd (yb (env 11) == some true) (fun h k => k (env 12) h) h fun v61_2 h1 =>
  gd (yb (env 11) == some true) (fun h k => rd Try.prog (bop Go.BinOp.neq 26 (Go.Operand.tmp 61) (Go.Operand.const (Go.Value.pointer none)) v61_2 (Go.Value.pointer none)) noHp fun v => k v h) h1 fun v62_3 h2 =>
  rd Try.prog (pck (env 11) v62_3 (Go.Value.bool false)) noHp fun v63_4 =>
  K ((((((env.set 59 (env 11)).set 60 (env 11)).set 61 v61_2).set 62 v62_3).set 63 v63_4).set 10 v63_4) h2
@[congr] theorem octroilaw17_BabelBest_r4_congr {env : Env} {h : Hp} {K : Env → Hp → Prop} : octroilaw17_BabelBest_r4 env h K = octroilaw17_BabelBest_r4 env h K := rfl

/-- more.go:15 -/
def octroilaw17_BabelBest_r5 (env : Env) (h : Hp) (K : Env → Hp → Prop) : Prop :=
  rd Try.prog (Instr.loadAt 24 (env 5)) h fun v64_0 =>
  rd Try.prog (Instr.build 31 #[(0, (Go.Value.int Go.IntKind.i64 2)), (4, v64_0), (5, (Go.Value.int Go.IntKind.u64 7)), (3, (env 1))]) noHp fun v66_2 =>
  arun Try.prog (Instr.alloc 31 true (Go.Value.tuple #[])) h fun v13_3 h1 =>
  arun Try.prog (Instr.storeAt 31 v13_3 v66_2) h1 fun _ h2 =>
  K ((((env.set 64 v64_0).set 65 (env 1)).set 66 v66_2).set 13 v13_3) h2
@[congr] theorem octroilaw17_BabelBest_r5_congr {env : Env} {h : Hp} {K : Env → Hp → Prop} : octroilaw17_BabelBest_r5 env h K = octroilaw17_BabelBest_r5 env h K := rfl

/-- more.go:16 -/
def octroilaw17_BabelBest_r6 (env : Env) (h : Hp) (K : Env → Hp → Prop) : Prop :=
  rd Try.prog (Instr.loadAt 31 (env 13)) h fun v70_2 =>
  Ok Try.prog 12 #[(env 12), (Go.Value.int Go.IntKind.i64 3), (env 3), v70_2] h fun v71_3 h1 =>
  rd Try.prog (Instr.extract v71_3 0) noHp fun v72_5 =>
  rd Try.prog (Instr.extract v71_3 1) noHp fun v73_6 =>
  K (((((((((env.set 68 (env 12)).set 69 (env 3)).set 70 v70_2).set 71 v71_3).set 67 v71_3).set 72 v72_5).set 73 v73_6).set 14 v72_5).set 15 v73_6) h1
@[congr] theorem octroilaw17_BabelBest_r6_congr {env : Env} {h : Hp} {K : Env → Hp → Prop} : octroilaw17_BabelBest_r6 env h K = octroilaw17_BabelBest_r6 env h K := rfl

/-- more.go:17 -/
def octroilaw17_BabelBest_r7 (env : Env) (h : Hp) (K : Env → Hp → Prop) : Prop :=
  rd Try.prog (Instr.fieldAt 31 (env 13) 3) noHp fun v75_1 =>
  arun Try.prog (Instr.storeAt 3 v75_1 (env 2)) h fun _ h1 =>
  K ((env.set 74 (env 2)).set 75 v75_1) h1
@[congr] theorem octroilaw17_BabelBest_r7_congr {env : Env} {h : Hp} {K : Env → Hp → Prop} : octroilaw17_BabelBest_r7 env h K = octroilaw17_BabelBest_r7 env h K := rfl

/-- more.go:18 -/
def octroilaw17_BabelBest_r8 (env : Env) (h : Hp) (K : Env → Hp → Prop) : Prop :=
  rd Try.prog (Instr.loadAt 31 (env 13)) h fun v79_2 =>
  Ok Try.prog 12 #[(env 12), (Go.Value.int Go.IntKind.i64 2), (env 4), v79_2] h fun v80_3 h1 =>
  rd Try.prog (Instr.extract v80_3 0) noHp fun v81_5 =>
  rd Try.prog (Instr.extract v80_3 1) noHp fun v82_6 =>
  K (((((((((env.set 77 (env 12)).set 78 (env 4)).set 79 v79_2).set 80 v80_3).set 76 v80_3).set 81 v81_5).set 82 v82_6).set 16 v81_5).set 17 v82_6) h1
@[congr] theorem octroilaw17_BabelBest_r8_congr {env : Env} {h : Hp} {K : Env → Hp → Prop} : octroilaw17_BabelBest_r8 env h K = octroilaw17_BabelBest_r8 env h K := rfl

/-- more.go:19 -/
def octroilaw17_BabelBest_r9 (env : Env) (h : Hp) (K : Env → Hp → Prop) : Prop :=
  Ok Try.prog 13 #[(env 12)] h fun v84_1 h1 =>
  K (((env.set 83 (env 12)).set 84 v84_1).set 18 v84_1) h1
@[congr] theorem octroilaw17_BabelBest_r9_congr {env : Env} {h : Hp} {K : Env → Hp → Prop} : octroilaw17_BabelBest_r9 env h K = octroilaw17_BabelBest_r9 env h K := rfl

/-- more.go:20 -/
def octroilaw17_BabelBest_r10 (env : Env) (h : Hp) (K : Env → Hp → Prop) : Prop :=
  rd Try.prog (bop Go.BinOp.neq 32 (Go.Operand.tmp 85) (Go.Operand.const (Go.Value.int Go.IntKind.i64 0)) (env 15) (Go.Value.int Go.IntKind.i64 0)) noHp fun v86_1 =>
  gd (yb v86_1 == some false) (fun h k => k (env 17) h) h fun v88_3 h1 =>
  gd (yb v86_1 == some false) (fun h k => rd Try.prog (bop Go.BinOp.neq 32 (Go.Operand.tmp 88) (Go.Operand.const (Go.Value.int Go.IntKind.i64 0)) v88_3 (Go.Value.int Go.IntKind.i64 0)) noHp fun v => k v h) h1 fun v89_4 h2 =>
  rd Try.prog (pck v86_1 (Go.Value.bool true) v89_4) noHp fun v90_5 =>
  K ((((((env.set 85 (env 15)).set 86 v86_1).set 87 v86_1).set 88 v88_3).set 89 v89_4).set 90 v90_5) h2
@[congr] theorem octroilaw17_BabelBest_r10_congr {env : Env} {h : Hp} {K : Env → Hp → Prop} : octroilaw17_BabelBest_r10 env h K = octroilaw17_BabelBest_r10 env h K := rfl

/-- more.go:21 -/
def octroilaw17_BabelBest_r11 (env : Env) (h : Hp) (K : Env → Hp → Prop) : Prop :=
  rd Try.prog (bop Go.BinOp.eql 32 (Go.Operand.tmp 91) (Go.Operand.const (Go.Value.int Go.IntKind.i64 1)) (env 15) (Go.Value.int Go.IntKind.i64 1)) noHp fun v92_1 =>
  gd (yb v92_1 == some true) (fun h k => k (env 17) h) h fun v94_3 h1 =>
  gd (yb v92_1 == some true) (fun h k => rd Try.prog (bop Go.BinOp.eql 32 (Go.Operand.tmp 94) (Go.Operand.const (Go.Value.int Go.IntKind.i64 1)) v94_3 (Go.Value.int Go.IntKind.i64 1)) noHp fun v => k v h) h1 fun v95_4 h2 =>
  rd Try.prog (pck v92_1 v95_4 (Go.Value.bool false)) noHp fun v96_5 =>
  gd (yb v96_5 == some true) (fun h k => k (env 18) h) h2 fun v98_7 h3 =>
  gd (yb v96_5 == some true) (fun h k => rd Try.prog (Builtin.len_ #[35] 3 #[v98_7]) h fun v => k v h) h3 fun v99_8 h4 =>
  gd (yb v96_5 == some true) (fun h k => rd Try.prog (bop Go.BinOp.eql 3 (Go.Operand.tmp 99) (Go.Operand.const (Go.Value.int Go.IntKind.i64 0)) v99_8 (Go.Value.int Go.IntKind.i64 0)) noHp fun v => k v h) h4 fun v100_9 h5 =>
  rd Try.prog (pck v96_5 v100_9 (Go.Value.bool false)) noHp fun v101_10 =>
  K ((((((((((((env.set 91 (env 15)).set 92 v92_1).set 93 v92_1).set 94 v94_3).set 95 v95_4).set 96 v96_5).set 97 v96_5).set 98 v98_7).set 99 v99_8).set 100 v100_9).set 101 v101_10).set 10 v101_10) h5
@[congr] theorem octroilaw17_BabelBest_r11_congr {env : Env} {h : Hp} {K : Env → Hp → Prop} : octroilaw17_BabelBest_r11 env h K = octroilaw17_BabelBest_r11 env h K := rfl

/-- more.go:23 -/
def octroilaw17_BabelBest_r12 (env : Env) (h : Hp) (K : Env → Hp → Prop) : Prop :=
  rd Try.prog (Builtin.len_ #[35] 3 #[(env 18)]) h fun v103_1 =>
  rd Try.prog (bop Go.BinOp.neq 3 (Go.Operand.tmp 103) (Go.Operand.const (Go.Value.int Go.IntKind.i64 1)) v103_1 (Go.Value.int Go.IntKind.i64 1)) noHp fun v104_2 =>
  K (((env.set 102 (env 18)).set 103 v103_1).set 104 v104_2) h
@[congr] theorem octroilaw17_BabelBest_r12_congr {env : Env} {h : Hp} {K : Env → Hp → Prop} : octroilaw17_BabelBest_r12 env h K = octroilaw17_BabelBest_r12 env h K := rfl

/-- more.go:24 -/
def octroilaw17_BabelBest_r13 (env : Env) (h : Hp) (K : Env → Hp → Prop) : Prop :=
  K (env.set 10 (Go.Value.bool false)) h
@[congr] theorem octroilaw17_BabelBest_r13_congr {env : Env} {h : Hp} {K : Env → Hp → Prop} : octroilaw17_BabelBest_r13 env h K = octroilaw17_BabelBest_r13 env h K := rfl

/-- more.go:26 -/
def octroilaw17_BabelBest_r14 (env : Env) (h : Hp) (K : Env → Hp → Prop) : Prop :=
  rd Try.prog (bop Go.BinOp.add 3 (Go.Operand.tmp 105) (Go.Operand.tmp 106) (env 1) (env 3)) noHp fun v107_2 =>
  rd Try.prog (bop Go.BinOp.add 3 (Go.Operand.tmp 108) (Go.Operand.tmp 109) (env 2) (env 4)) noHp fun v110_5 =>
  rd Try.prog (bop Go.BinOp.lss 3 (Go.Operand.tmp 107) (Go.Operand.tmp 110) v107_2 v110_5) noHp fun v111_6 =>
  K (((((((env.set 105 (env 1)).set 106 (env 3)).set 107 v107_2).set 108 (env 2)).set 109 (env 4)).set 110 v110_5).set 111 v111_6) h
@[congr] theorem octroilaw17_BabelBest_r14_congr {env : Env} {h : Hp} {K : Env → Hp → Prop} : octroilaw17_BabelBest_r14 env h K = octroilaw17_BabelBest_r14 env h K := rfl

/-- more.go:27 -/
def octroilaw17_BabelBest_r15 (env : Env) (h : Hp) (K : Env → Hp → Prop) : Prop :=
  rd Try.prog (Instr.indexAt 35 (env 18) (Go.Value.int Go.IntKind.i64 0)) noHp fun v113_1 =>
  rd Try.prog (Instr.fieldAt 38 v113_1 4) noHp fun v114_2 =>
  rd Try.prog (Instr.loadAt 3 v114_2) h fun v115_3 =>
  rd Try.prog (bop Go.BinOp.eql 3 (Go.Operand.tmp 115) (Go.Operand.const (Go.Value.int Go.IntKind.i64 3)) v115_3 (Go.Value.int Go.IntKind.i64 3)) noHp fun v116_4 =>
  gd (yb v116_4 == some true) (fun h k => k (env 18) h) h fun v118_6 h1 =>
  gd (yb v116_4 == some true) (fun h k => rd Try.prog (Instr.indexAt 35 v118_6 (Go.Value.int Go.IntKind.i64 0)) noHp fun v => k v h) h1 fun v119_7 h2 =>
  gd (yb v116_4 == some true) (fun h k => rd Try.prog (Instr.fieldAt 38 v119_7 3) noHp fun v => k v h) h2 fun v120_8 h3 =>
  gd (yb v116_4 == some true) (fun h k => rd Try.prog (Instr.loadAt 3 v120_8) h fun v => k v h) h3 fun v121_9 h4 =>
  gd (yb v116_4 == some true) (fun h k => k (env 1) h) h4 fun v122_10 h5 =>
  gd (yb v116_4 == some true) (fun h k => k (env 3) h) h5 fun v123_11 h6 =>
  gd (yb v116_4 == some true) (fun h k => rd Try.prog (bop Go.BinOp.add 3 (Go.Operand.tmp 122) (Go.Operand.tmp 123) v122_10 v123_11) noHp fun v => k v h) h6 fun v124_12 h7 =>
  gd (yb v116_4 == some true) (fun h k => rd Try.prog (bop Go.BinOp.eql 3 (Go.Operand.tmp 121) (Go.Operand.tmp 124) v121_9 v124_12) noHp fun v => k v h) h7 fun v125_13 h8 =>
  rd Try.prog (pck v116_4 v125_13 (Go.Value.bool false)) noHp fun v126_14 =>
  K ((((((((((((((((env.set 112 (env 18)).set 113 v113_1).set 114 v114_2).set 115 v115_3).set 116 v116_4).set 117 v116_4).set 118 v118_6).set 119 v119_7).set 120 v120_8).set 121 v121_9).set 122 v122_10).set 123 v123_11).set 124 v124_12).set 125 v125_13).set 126 v126_14).set 10 v126_14) h8
@[congr] theorem octroilaw17_BabelBest_r15_congr {env : Env} {h : Hp} {K : Env → Hp → Prop} : octroilaw17_BabelBest_r15 env h K = octroilaw17_BabelBest_r15 env h K := rfl

/-- more.go:29 -/
def octroilaw17_BabelBest_r16 (env : Env) (h : Hp) (K : Env → Hp → Prop) : Prop :=
  rd Try.prog (Instr.indexAt 35 (env 18) (Go.Value.int Go.IntKind.i64 0)) noHp fun v128_1 =>
  rd Try.prog (Instr.fieldAt 38 v128_1 4) noHp fun v129_2 =>
  rd Try.prog (Instr.loadAt 3 v129_2) h fun v130_3 =>
  rd Try.prog (bop Go.BinOp.eql 3 (Go.Operand.tmp 130) (Go.Operand.const (Go.Value.int Go.IntKind.i64 2)) v130_3 (Go.Value.int Go.IntKind.i64 2)) noHp fun v131_4 =>
  gd (yb v131_4 == some true) (fun h k => k (env 18) h) h fun v133_6 h1 =>
  gd (yb v131_4 == some true) (fun h k => rd Try.prog (Instr.indexAt 35 v133_6 (Go.Value.int Go.IntKind.i64 0)) noHp fun v => k v h) h1 fun v134_7 h2 =>
  gd (yb v131_4 == some true) (fun h k => rd Try.prog (Instr.fieldAt 38 v134_7 3) noHp fun v => k v h) h2 fun v135_8 h3 =>
  gd (yb v131_4 == some true) (fun h k => rd Try.prog (Instr.loadAt 3 v135_8) h fun v => k v h) h3 fun v136_9 h4 =>
  gd (yb v131_4 == some true) (fun h k => k (env 2) h) h4 fun v137_10 h5 =>
  gd (yb v131_4 == some true) (fun h k => k (env 4) h) h5 fun v138_11 h6 =>
  gd (yb v131_4 == some true) (fun h k => rd Try.prog (bop Go.BinOp.add 3 (Go.Operand.tmp 137) (Go.Operand.tmp 138) v137_10 v138_11) noHp fun v => k v h) h6 fun v139_12 h7 =>
  gd (yb v131_4 == some true) (fun h k => rd Try.prog (bop Go.BinOp.eql 3 (Go.Operand.tmp 136) (Go.Operand.tmp 139) v136_9 v139_12) noHp fun v => k v h) h7 fun v140_13 h8 =>
  rd Try.prog (pck v131_4 v140_13 (Go.Value.bool false)) noHp fun v141_14 =>
  K ((((((((((((((((env.set 127 (env 18)).set 128 v128_1).set 129 v129_2).set 130 v130_3).set 131 v131_4).set 132 v131_4).set 133 v133_6).set 134 v134_7).set 135 v135_8).set 136 v136_9).set 137 v137_10).set 138 v138_11).set 139 v139_12).set 140 v140_13).set 141 v141_14).set 10 v141_14) h8
@[congr] theorem octroilaw17_BabelBest_r16_congr {env : Env} {h : Hp} {K : Env → Hp → Prop} : octroilaw17_BabelBest_r16 env h K = octroilaw17_BabelBest_r16 env h K := rfl

def octroilaw17_BabelBest_D : Den := (sq (rg octroilaw17_BabelBest_r0) (sq (rg octroilaw17_BabelBest_r1) (sq (rg octroilaw17_BabelBest_r2) (sq (sq (rg octroilaw17_BabelBest_r3) (cnd (Go.Operand.tmp 58) (sq (rg octroilaw17_BabelBest_r4) (ex .ret)) (ex .normal))) (sq (rg octroilaw17_BabelBest_r5) (sq (rg octroilaw17_BabelBest_r6) (sq (rg octroilaw17_BabelBest_r7) (sq (rg octroilaw17_BabelBest_r8) (sq (rg octroilaw17_BabelBest_r9) (sq (sq (rg octroilaw17_BabelBest_r10) (cnd (Go.Operand.tmp 90) (sq (rg octroilaw17_BabelBest_r11) (ex .ret)) (ex .normal))) (sq (sq (rg octroilaw17_BabelBest_r12) (cnd (Go.Operand.tmp 104) (sq (rg octroilaw17_BabelBest_r13) (ex .ret)) (ex .normal))) (sq (sq (rg octroilaw17_BabelBest_r14) (cnd (Go.Operand.tmp 111) (sq (rg octroilaw17_BabelBest_r15) (ex .ret)) (ex .normal))) (sq (rg octroilaw17_BabelBest_r16) (ex .ret))))))))))))))

theorem octroilaw17_BabelBest_eq : (den Try.prog 142 octroilaw17_BabelBest_code).1 = octroilaw17_BabelBest_D := by kernel_rfl

theorem octroilaw17_BabelBest_ok {args : Array Value} {h : Hp} {Q : Value → Hp → Prop} (hn : args.size ≤ 142) (D : octroilaw17_BabelBest_D (fin Try.prog [(Go.ResultVar.tmp 10)] Q) (env0 args) h) : Ok Try.prog 3 args h Q :=
  ok_of_den progIsOk Try.func3 (c := octroilaw17_BabelBest_code) (by kernel_rfl) hn (by show (den Try.prog 142 octroilaw17_BabelBest_code).1 _ _ _; rw [octroilaw17_BabelBest_eq]; exact D)

/-! ### octroi/octroilaw17.BabelRaises: function 4 -/
noncomputable def octroilaw17_BabelRaises_code : Code := match Try.f4.body with | some c => c | none => .skip

/-- more.go:33 -/
def octroilaw17_BabelRaises_r0 (env : Env) (h : Hp) (K : Env → Hp → Prop) : Prop :=
  arun Try.prog (Instr.box 24 (env 0)) h fun v4_0 h1 =>
  K ((env.set 4 v4_0).set 8 (Go.Value.bool false)) h1
@[congr] theorem octroilaw17_BabelRaises_r0_congr {env : Env} {h : Hp} {K : Env → Hp → Prop} : octroilaw17_BabelRaises_r0 env h K = octroilaw17_BabelRaises_r0 env h K := rfl

/-- more.go:34 -/
def octroilaw17_BabelRaises_r1 (env : Env) (h : Hp) (K : Env → Hp → Prop) : Prop :=
  Ok Try.prog 10 #[] h fun v19_0 h1 =>
  K ((env.set 19 v19_0).set 9 v19_0) h1
@[congr] theorem octroilaw17_BabelRaises_r1_congr {env : Env} {h : Hp} {K : Env → Hp → Prop} : octroilaw17_BabelRaises_r1 env h K = octroilaw17_BabelRaises_r1 env h K := rfl

/-- more.go:35 -/
def octroilaw17_BabelRaises_r2 (env : Env) (h : Hp) (K : Env → Hp → Prop) : Prop :=
  Ok Try.prog 11 #[(Go.Value.int Go.IntKind.u64 1), (Go.Value.int Go.IntKind.i64 0), (Go.Value.int Go.IntKind.i64 10)] h fun v20_0 h1 =>
  K ((env.set 20 v20_0).set 10 v20_0) h1
@[congr] theorem octroilaw17_BabelRaises_r2_congr {env : Env} {h : Hp} {K : Env → Hp → Prop} : octroilaw17_BabelRaises_r2 env h K = octroilaw17_BabelRaises_r2 env h K := rfl

/-- more.go:36 -/
def octroilaw17_BabelRaises_r3 (env : Env) (h : Hp) (K : Env → Hp → Prop) : Prop :=
  rd Try.prog (Op.unary Go.UnOp.not (env 9)) noHp fun v22_1 =>
  gd (yb v22_1 == some false) (fun h k => k (env 10) h) h fun v24_3 h1 =>
  gd (yb v22_1 == some false) (fun h k => rd Try.prog (bop Go.BinOp.eql 26 (Go.Operand.tmp 24) (Go.Operand.const (Go.Value.pointer none)) v24_3 (Go.Value.pointer none)) noHp fun v => k v h) h1 fun v25_4 h2 =>
  rd Try.prog (pck v22_1 (Go.Value.bool true) v25_4) noHp fun v26_5 =>
  gd (yb v26_5 == some false) (fun h k => k (env 2) h) h2 fun v28_7 h3 =>
  gd (yb v26_5 == some false) (fun h k => rd Try.prog (bop Go.BinOp.lss 3 (Go.Operand.tmp 28) (Go.Operand.const (Go.Value.int Go.IntKind.i64 0)) v28_7 (Go.Value.int Go.IntKind.i64 0)) noHp fun v => k v h) h3 fun v29_8 h4 =>
  rd Try.prog (pck v26_5 (Go.Value.bool true) v29_8) noHp fun v30_9 =>
  gd (yb v30_9 == some false) (fun h k => k (env 2) h) h4 fun v32_11 h5 =>
  gd (yb v30_9 == some false) (fun h k => rd Try.prog (bop Go.BinOp.gtr 3 (Go.Operand.tmp 32) (Go.Operand.const (Go.Value.int Go.IntKind.i64 30000)) v32_11 (Go.Value.int Go.IntKind.i64 30000)) noHp fun v => k v h) h5 fun v33_12 h6 =>
  rd Try.prog (pck v30_9 (Go.Value.bool true) v33_12) noHp fun v34_13 =>
  gd (yb v34_13 == some false) (fun h k => k (env 3) h) h6 fun v36_15 h7 =>
  gd (yb v34_13 == some false) (fun h k => rd Try.prog (bop Go.BinOp.lss 3 (Go.Operand.tmp 36) (Go.Operand.const (Go.Value.int Go.IntKind.i64 0)) v36_15 (Go.Value.int Go.IntKind.i64 0)) noHp fun v => k v h) h7 fun v37_16 h8 =>
  rd Try.prog (pck v34_13 (Go.Value.bool true) v37_16) noHp fun v38_17 =>
  gd (yb v38_17 == some false) (fun h k => k (env 3) h) h8 fun v40_19 h9 =>
  gd (yb v38_17 == some false) (fun h k => rd Try.prog (bop Go.BinOp.gtr 3 (Go.Operand.tmp 40) (Go.Operand.const (Go.Value.int Go.IntKind.i64 30000)) v40_19 (Go.Value.int Go.IntKind.i64 30000)) noHp fun v => k v h) h9 fun v41_20 h10 =>
  rd Try.prog (pck v38_17 (Go.Value.bool true) v41_20) noHp fun v42_21 =>
  K ((((((((((((((((((((((env.set 21 (env 9)).set 22 v22_1).set 23 v22_1).set 24 v24_3).set 25 v25_4).set 26 v26_5).set 27 v26_5).set 28 v28_7).set 29 v29_8).set 30 v30_9).set 31 v30_9).set 32 v32_11).set 33 v33_12).set 34 v34_13).set 35 v34_13).set 36 v36_15).set 37 v37_16).set 38 v38_17).set 39 v38_17).set 40 v40_19).set 41 v41_20).set 42 v42_21) h10
@[congr] theorem octroilaw17_BabelRaises_r3_congr {env : Env} {h : Hp} {K : Env → Hp → Prop} : octroilaw17_BabelRaises_r3 env h K = octroilaw17_BabelRaises_r3 env h K := rfl

/-- more.go:37 -/
def octroilaw17_BabelRaises_r4 (env : Env) (h : Hp) (K : Env → Hp → Prop) : Prop :=
  gd (yb (env 9) == some true) (fun h k => k (env 10) h) h fun v45_2 h1 =>
  gd (yb (env 9) == some true) (fun h k => rd Try.prog (bop Go.BinOp.neq 26 (Go.Operand.tmp 45) (Go.Operand.const (Go.Value.pointer none)) v45_2 (Go.Value.pointer none)) noHp fun v => k v h) h1 fun v46_3 h2 =>
  rd Try.prog (pck (env 9) v46_3 (Go.Value.bool false)) noHp fun v47_4 =>
  K ((((((env.set 43 (env 9)).set 44 (env 9)).set 45 v45_2).set 46 v46_3).set 47 v47_4).set 8 v47_4) h2
@[congr] theorem octroilaw17_BabelRaises_r4_congr {env : Env} {h : Hp} {K : Env → Hp → Prop} : octroilaw17_BabelRaises_r4 env h K = octroilaw17_BabelRaises_r4 env h K := rfl

/-- more.go:39 -/
def octroilaw17_BabelRaises_r5 (env : Env) (h : Hp) (K : Env → Hp → Prop) : Prop :=
  rd Try.prog (Instr.loadAt 24 (env 4)) h fun v48_0 =>
  rd Try.prog (Instr.build 31 #[(0, (Go.Value.int Go.IntKind.i64 2)), (4, v48_0), (5, (Go.Value.int Go.IntKind.u64 7)), (3, (env 2)), (1, (env 1))]) noHp fun v51_3 =>
  arun Try.prog (Instr.alloc 31 true (Go.Value.tuple #[])) h fun v11_4 h1 =>
  arun Try.prog (Instr.storeAt 31 v11_4 v51_3) h1 fun _ h2 =>
  K (((((env.set 48 v48_0).set 49 (env 2)).set 50 (env 1)).set 51 v51_3).set 11 v11_4) h2
@[congr] theorem octroilaw17_BabelRaises_r5_congr {env : Env} {h : Hp} {K : Env → Hp → Prop} : octroilaw17_BabelRaises_r5 env h K = octroilaw17_BabelRaises_r5 env h K := rfl

/-- more.go:40 -/
def octroilaw17_BabelRaises_r6 (env : Env) (h : Hp) (K : Env → Hp → Prop) : Prop :=
  rd Try.prog (Instr.loadAt 31 (env 11)) h fun v54_1 =>
  Ok Try.prog 12 #[(env 10), (Go.Value.int Go.IntKind.i64 2), (Go.Value.int Go.IntKind.i64 10), v54_1] h fun v55_2 h1 =>
  rd Try.prog (Instr.extract v55_2 0) noHp fun v56_4 =>
  rd Try.prog (Instr.extract v55_2 1) noHp fun v57_5 =>
  K ((((((((env.set 53 (env 10)).set 54 v54_1).set 55 v55_2).set 52 v55_2).set 56 v56_4).set 57 v57_5).set 12 v56_4).set 13 v57_5) h1
@[congr] theorem octroilaw17_BabelRaises_r6_congr {env : Env} {h : Hp} {K : Env → Hp → Prop} : octroilaw17_BabelRaises_r6 env h K = octroilaw17_BabelRaises_r6 env h K := rfl

/-- more.go:41 -/
def octroilaw17_BabelRaises_r7 (env : Env) (h : Hp) (K : Env → Hp → Prop) : Prop :=
  rd Try.prog (bop Go.BinOp.neq 32 (Go.Operand.tmp 58) (Go.Operand.const (Go.Value.int Go.IntKind.i64 0)) (env 13) (Go.Value.int Go.IntKind.i64 0)) noHp fun v59_1 =>
  K ((env.set 58 (env 13)).set 59 v59_1) h
@[congr] theorem octroilaw17_BabelRaises_r7_congr {env : Env} {h : Hp} {K : Env → Hp → Prop} : octroilaw17_BabelRaises_r7 env h K = octroilaw17_BabelRaises_r7 env h K := rfl

/-- more.go:42 -/
def octroilaw17_BabelRaises_r8 (env : Env) (h : Hp) (K : Env → Hp → Prop) : Prop :=
  rd Try.prog (bop Go.BinOp.eql 32 (Go.Operand.tmp 60) (Go.Operand.const (Go.Value.int Go.IntKind.i64 1)) (env 13) (Go.Value.int Go.IntKind.i64 1)) noHp fun v61_1 =>
  K (((env.set 60 (env 13)).set 61 v61_1).set 8 v61_1) h
@[congr] theorem octroilaw17_BabelRaises_r8_congr {env : Env} {h : Hp} {K : Env → Hp → Prop} : octroilaw17_BabelRaises_r8 env h K = octroilaw17_BabelRaises_r8 env h K := rfl

/-- more.go:44 -/
def octroilaw17_BabelRaises_r9 (env : Env) (h : Hp) (K : Env → Hp → Prop) : Prop :=
  Ok Try.prog 14 #[(env 10)] h fun v63_1 h1 =>
  K ((env.set 62 (env 10)).set 63 v63_1) h1
@[congr] theorem octroilaw17_BabelRaises_r9_congr {env : Env} {h : Hp} {K : Env → Hp → Prop} : octroilaw17_BabelRaises_r9 env h K = octroilaw17_BabelRaises_r9 env h K := rfl

/-- more.go:45 -/
def octroilaw17_BabelRaises_r10 (env : Env) (h : Hp) (K : Env → Hp → Prop) : Prop :=
  Ok Try.prog 15 #[(env 10), (Go.Value.int Go.IntKind.i64 2)] h fun v65_1 h1 =>
  K ((env.set 64 (env 10)).set 65 v65_1) h1
@[congr] theorem octroilaw17_BabelRaises_r10_congr {env : Env} {h : Hp} {K : Env → Hp → Prop} : octroilaw17_BabelRaises_r10 env h K = octroilaw17_BabelRaises_r10 env h K := rfl

/-- more.go:46 -/
def octroilaw17_BabelRaises_r11 (env : Env) (h : Hp) (K : Env → Hp → Prop) : Prop :=
  rd Try.prog (bop Go.BinOp.add 3 (Go.Operand.tmp 66) (Go.Operand.const (Go.Value.int Go.IntKind.i64 10)) (env 2) (Go.Value.int Go.IntKind.i64 10)) noHp fun v67_1 =>
  rd Try.prog (bop Go.BinOp.add 3 (Go.Operand.tmp 67) (Go.Operand.tmp 68) v67_1 (env 3)) noHp fun v69_3 =>
  rd Try.prog (Instr.fieldAt 31 (env 11) 3) noHp fun v70_4 =>
  arun Try.prog (Instr.storeAt 3 v70_4 v69_3) h fun _ h1 =>
  K (((((env.set 66 (env 2)).set 67 v67_1).set 68 (env 3)).set 69 v69_3).set 70 v70_4) h1
@[congr] theorem octroilaw17_BabelRaises_r11_congr {env : Env} {h : Hp} {K : Env → Hp → Prop} : octroilaw17_BabelRaises_r11 env h K = octroilaw17_BabelRaises_r11 env h K := rfl

/-- more.go:47 -/
def octroilaw17_BabelRaises_r12 (env : Env) (h : Hp) (K : Env → Hp → Prop) : Prop :=
  rd Try.prog (Instr.loadAt 31 (env 11)) h fun v73_1 =>
  Ok Try.prog 12 #[(env 10), (Go.Value.int Go.IntKind.i64 3), (Go.Value.int Go.IntKind.i64 1), v73_1] h fun v74_2 h1 =>
  rd Try.prog (Instr.extract v74_2 0) noHp fun v75_4 =>
  rd Try.prog (Instr.extract v74_2 1) noHp fun v76_5 =>
  K ((((((((env.set 72 (env 10)).set 73 v73_1).set 74 v74_2).set 71 v74_2).set 75 v75_4).set 76 v76_5).set 14 v75_4).set 15 v76_5) h1
@[congr] theorem octroilaw17_BabelRaises_r12_congr {env : Env} {h : Hp} {K : Env → Hp → Prop} : octroilaw17_BabelRaises_r12 env h K = octroilaw17_BabelRaises_r12 env h K := rfl

/-- more.go:48 -/
def octroilaw17_BabelRaises_r13 (env : Env) (h : Hp) (K : Env → Hp → Prop) : Prop :=
  Ok Try.prog 13 #[(env 10)] h fun v78_1 h1 =>
  rd Try.prog (Builtin.len_ #[35] 3 #[v78_1]) h1 fun v79_2 =>
  K ((((env.set 77 (env 10)).set 78 v78_1).set 79 v79_2).set 16 v79_2) h1
@[congr] theorem octroilaw17_BabelRaises_r13_congr {env : Env} {h : Hp} {K : Env → Hp → Prop} : octroilaw17_BabelRaises_r13 env h K = octroilaw17_BabelRaises_r13 env h K := rfl

/-- more.go:49 -/
def octroilaw17_BabelRaises_r14 (env : Env) (h : Hp) (K : Env → Hp → Prop) : Prop :=
  rd Try.prog (bop Go.BinOp.add 29 (Go.Operand.tmp 80) (Go.Operand.const (Go.Value.int Go.IntKind.u16 1)) (env 1) (Go.Value.int Go.IntKind.u16 1)) noHp fun v81_1 =>
  rd Try.prog (Instr.fieldAt 31 (env 11) 1) noHp fun v82_2 =>
  arun Try.prog (Instr.storeAt 29 v82_2 v81_1) h fun _ h1 =>
  K (((env.set 80 (env 1)).set 81 v81_1).set 82 v82_2) h1
@[congr] theorem octroilaw17_BabelRaises_r14_congr {env : Env} {h : Hp} {K : Env → Hp → Prop} : octroilaw17_BabelRaises_r14 env h K = octroilaw17_BabelRaises_r14 env h K := rfl

/-- more.go:50 -/
def octroilaw17_BabelRaises_r15 (env : Env) (h : Hp) (K : Env → Hp → Prop) : Prop :=
  rd Try.prog (Instr.loadAt 31 (env 11)) h fun v85_1 =>
  Ok Try.prog 12 #[(env 10), (Go.Value.int Go.IntKind.i64 3), (Go.Value.int Go.IntKind.i64 1), v85_1] h fun v86_2 h1 =>
  rd Try.prog (Instr.extract v86_2 0) noHp fun v87_4 =>
  rd Try.prog (Instr.extract v86_2 1) noHp fun v88_5 =>
  K ((((((((env.set 84 (env 10)).set 85 v85_1).set 86 v86_2).set 83 v86_2).set 87 v87_4).set 88 v88_5).set 17 v87_4).set 18 v88_5) h1
@[congr] theorem octroilaw17_BabelRaises_r15_congr {env : Env} {h : Hp} {K : Env → Hp → Prop} : octroilaw17_BabelRaises_r15 env h K = octroilaw17_BabelRaises_r15 env h K := rfl

/-- more.go:51 -/
def octroilaw17_BabelRaises_r16 (env : Env) (h : Hp) (K : Env → Hp → Prop) : Prop :=
  rd Try.prog (Op.unary Go.UnOp.not (env 14)) noHp fun v90_1 =>
  gd (yb v90_1 == some true) (fun h k => k (env 15) h) h fun v92_3 h1 =>
  gd (yb v90_1 == some true) (fun h k => rd Try.prog (bop Go.BinOp.eql 32 (Go.Operand.tmp 92) (Go.Operand.const (Go.Value.int Go.IntKind.i64 0)) v92_3 (Go.Value.int Go.IntKind.i64 0)) noHp fun v => k v h) h1 fun v93_4 h2 =>
  rd Try.prog (pck v90_1 v93_4 (Go.Value.bool false)) noHp fun v94_5 =>
  gd (yb v94_5 == some true) (fun h k => k (env 16) h) h2 fun v96_7 h3 =>
  gd (yb v94_5 == some true) (fun h k => rd Try.prog (bop Go.BinOp.eql 3 (Go.Operand.tmp 96) (Go.Operand.const (Go.Value.int Go.IntKind.i64 0)) v96_7 (Go.Value.int Go.IntKind.i64 0)) noHp fun v => k v h) h3 fun v97_8 h4 =>
  rd Try.prog (pck v94_5 v97_8 (Go.Value.bool false)) noHp fun v98_9 =>
  gd (yb v98_9 == some true) (fun h k => k (env 17) h) h4 fun v100_11 h5 =>
  rd Try.prog (pck v98_9 v100_11 (Go.Value.bool false)) noHp fun v101_12 =>
  gd (yb v101_12 == some true) (fun h k => k (env 18) h) h5 fun v103_14 h6 =>
  gd (yb v101_12 == some true) (fun h k => rd Try.prog (bop Go.BinOp.eql 32 (Go.Operand.tmp 103) (Go.Operand.const (Go.Value.int Go.IntKind.i64 0)) v103_14 (Go.Value.int Go.IntKind.i64 0)) noHp fun v => k v h) h6 fun v104_15 h7 =>
  rd Try.prog (pck v101_12 v104_15 (Go.Value.bool false)) noHp fun v105_16 =>
  gd (yb v105_16 == some true) (fun h k => k (env 10) h) h7 fun v107_18 h8 =>
  gd (yb v105_16 == some true) (fun h k => Ok Try.prog 13 #[v107_18] h k) h8 fun v108_19 h9 =>
  gd (yb v105_16 == some true) (fun h k => rd Try.prog (Builtin.len_ #[35] 3 #[v108_19]) h fun v => k v h) h9 fun v109_20 h10 =>
  gd (yb v105_16 == some true) (fun h k => rd Try.prog (bop Go.BinOp.eql 3 (Go.Operand.tmp 109) (Go.Operand.const (Go.Value.int Go.IntKind.i64 1)) v109_20 (Go.Value.int Go.IntKind.i64 1)) noHp fun v => k v h) h10 fun v110_21 h11 =>
  rd Try.prog (pck v105_16 v110_21 (Go.Value.bool false)) noHp fun v111_22 =>
  K ((((((((((((((((((((((((env.set 89 (env 14)).set 90 v90_1).set 91 v90_1).set 92 v92_3).set 93 v93_4).set 94 v94_5).set 95 v94_5).set 96 v96_7).set 97 v97_8).set 98 v98_9).set 99 v98_9).set 100 v100_11).set 101 v101_12).set 102 v101_12).set 103 v103_14).set 104 v104_15).set 105 v105_16).set 106 v105_16).set 107 v107_18).set 108 v108_19).set 109 v109_20).set 110 v110_21).set 111 v111_22).set 8 v111_22) h11
@[congr] theorem octroilaw17_BabelRaises_r16_congr {env : Env} {h : Hp} {K : Env → Hp → Prop} : octroilaw17_BabelRaises_r16 env h K = octroilaw17_BabelRaises_r16 env h K := rfl

def octroilaw17_BabelRaises_D : Den := (sq (rg octroilaw17_BabelRaises_r0) (sq (rg octroilaw17_BabelRaises_r1) (sq (rg octroilaw17_BabelRaises_r2) (sq (sq (rg octroilaw17_BabelRaises_r3) (cnd (Go.Operand.tmp 42) (sq (rg octroilaw17_BabelRaises_r4) (ex .ret)) (ex .normal))) (sq (rg octroilaw17_BabelRaises_r5) (sq (rg octroilaw17_BabelRaises_r6) (sq (sq (rg octroilaw17_BabelRaises_r7) (cnd (Go.Operand.tmp 59) (sq (rg octroilaw17_BabelRaises_r8) (ex .ret)) (ex .normal))) (sq (rg octroilaw17_BabelRaises_r9) (sq (rg octroilaw17_BabelRaises_r10) (sq (rg octroilaw17_BabelRaises_r11) (sq (rg octroilaw17_BabelRaises_r12) (sq (rg octroilaw17_BabelRaises_r13) (sq (rg octroilaw17_BabelRaises_r14) (sq (rg octroilaw17_BabelRaises_r15) (sq (rg octroilaw17_BabelRaises_r16) (ex .ret))))))))))))))))

theorem octroilaw17_BabelRaises_eq : (den Try.prog 112 octroilaw17_BabelRaises_code).1 = octroilaw17_BabelRaises_D := by kernel_rfl

theorem octroilaw17_BabelRaises_ok {args : Array Value} {h : Hp} {Q : Value → Hp → Prop} (hn : args.size ≤ 112) (D : octroilaw17_BabelRaises_D (fin Try.prog [(Go.ResultVar.tmp 8)] Q) (env0 args) h) : Ok Try.prog 4 args h Q :=
  ok_of_den progIsOk Try.func4 (c := octroilaw17_BabelRaises_code) (by kernel_rfl) hn (by show (den Try.prog 112 octroilaw17_BabelRaises_code).1 _ _ _; rw [octroilaw17_BabelRaises_eq]; exact D)

/-! ### octroi/octroilaw17.BabelTags: function 5 -/
noncomputable def octroilaw17_BabelTags_code : Code := match Try.f5.body with | some c => c | none => .skip

/-- law.go:161 -/
def octroilaw17_BabelTags_r0 (env : Env) (h : Hp) (K : Env → Hp → Prop) : Prop :=
  K (env.set 6 (Go.Value.bool false)) h
@[congr] theorem octroilaw17_BabelTags_r0_congr {env : Env} {h : Hp} {K : Env → Hp → Prop} : octroilaw17_BabelTags_r0 env h K = octroilaw17_BabelTags_r0 env h K := rfl

/-- law.go:162 -/
def octroilaw17_BabelTags_r1 (env : Env) (h : Hp) (K : Env → Hp → Prop) : Prop :=
  Ok Try.prog 10 #[] h fun v14_0 h1 =>
  K ((env.set 14 v14_0).set 7 v14_0) h1
@[congr] theorem octroilaw17_BabelTags_r1_congr {env : Env} {h : Hp} {K : Env → Hp → Prop} : octroilaw17_BabelTags_r1 env h K = octroilaw17_BabelTags_r1 env h K := rfl

/-- law.go:163 -/
def octroilaw17_BabelTags_r2 (env : Env) (h : Hp) (K : Env → Hp → Prop) : Prop :=
  Ok Try.prog 11 #[(env 0), (env 1), (Go.Value.int Go.IntKind.i64 64)] h fun v17_2 h1 =>
  K ((((env.set 15 (env 0)).set 16 (env 1)).set 17 v17_2).set 8 v17_2) h1
@[congr] theorem octroilaw17_BabelTags_r2_congr {env : Env} {h : Hp} {K : Env → Hp → Prop} : octroilaw17_BabelTags_r2 env h K = octroilaw17_BabelTags_r2 env h K := rfl

/-- law.go:164 -/
def octroilaw17_BabelTags_r3 (env : Env) (h : Hp) (K : Env → Hp → Prop) : Prop :=
  rd Try.prog (Op.unary Go.UnOp.not (env 7)) noHp fun v19_1 =>
  gd (yb v19_1 == some false) (fun h k => k (env 8) h) h fun v21_3 h1 =>
  gd (yb v19_1 == some false) (fun h k => rd Try.prog (bop Go.BinOp.eql 26 (Go.Operand.tmp 21) (Go.Operand.const (Go.Value.pointer none)) v21_3 (Go.Value.pointer none)) noHp fun v => k v h) h1 fun v22_4 h2 =>
  rd Try.prog (pck v19_1 (Go.Value.bool true) v22_4) noHp fun v23_5 =>
  gd (yb v23_5 == some false) (fun h k => k (env 2) h) h2 fun v25_7 h3 =>
  gd (yb v23_5 == some false) (fun h k => rd Try.prog (Builtin.len_ #[44] 3 #[v25_7]) h fun v => k v h) h3 fun v26_8 h4 =>
  gd (yb v23_5 == some false) (fun h k => rd Try.prog (bop Go.BinOp.gtr 3 (Go.Operand.tmp 26) (Go.Operand.const (Go.Value.int Go.IntKind.i64 150)) v26_8 (Go.Value.int Go.IntKind.i64 150)) noHp fun v => k v h) h4 fun v27_9 h5 =>
  rd Try.prog (pck v23_5 (Go.Value.bool true) v27_9) noHp fun v28_10 =>
  K (((((((((((env.set 18 (env 7)).set 19 v19_1).set 20 v19_1).set 21 v21_3).set 22 v22_4).set 23 v23_5).set 24 v23_5).set 25 v25_7).set 26 v26_8).set 27 v27_9).set 28 v28_10) h5
@[congr] theorem octroilaw17_BabelTags_r3_congr {env : Env} {h : Hp} {K : Env → Hp → Prop} : octroilaw17_BabelTags_r3 env h K = octroilaw17_BabelTags_r3 env h K := rfl

/-- law.go:165 -/
def octroilaw17_BabelTags_r4 (env : Env) (h : Hp) (K : Env → Hp → Prop) : Prop :=
  gd (yb (env 7) == some true) (fun h k => k (env 8) h) h fun v31_2 h1 =>
  gd (yb (env 7) == some true) (fun h k => rd Try.prog (bop Go.BinOp.neq 26 (Go.Operand.tmp 31) (Go.Operand.const (Go.Value.pointer none)) v31_2 (Go.Value.pointer none)) noHp fun v => k v h) h1 fun v32_3 h2 =>
  rd Try.prog (pck (env 7) v32_3 (Go.Value.bool false)) noHp fun v33_4 =>
  K ((((((env.set 29 (env 7)).set 30 (env 7)).set 31 v31_2).set 32 v32_3).set 33 v33_4).set 6 v33_4) h2
@[congr] theorem octroilaw17_BabelTags_r4_congr {env : Env} {h : Hp} {K : Env → Hp → Prop} : octroilaw17_BabelTags_r4 env h K = octroilaw17_BabelTags_r4 env h K := rfl

/-- law.go:167 -/
def octroilaw17_BabelTags_r5 (env : Env) (h : Hp) (K : Env → Hp → Prop) : Prop :=
  K (env.set 9 (Go.Value.int Go.IntKind.i64 0)) h
@[congr] theorem octroilaw17_BabelTags_r5_congr {env : Env} {h : Hp} {K : Env → Hp → Prop} : octroilaw17_BabelTags_r5 env h K = octroilaw17_BabelTags_r5 env h K := rfl

/-- law.go:167 -/
def octroilaw17_BabelTags_r6 (env : Env) (h : Hp) (K : Env → Hp → Prop) : Prop :=
  rd Try.prog (Builtin.len_ #[44] 3 #[(env 2)]) h fun v36_2 =>
  rd Try.prog (bop Go.BinOp.lss 3 (Go.Operand.tmp 34) (Go.Operand.tmp 36) (env 9) v36_2) noHp fun v37_3 =>
  K ((((env.set 34 (env 9)).set 35 (env 2)).set 36 v36_2).set 37 v37_3) h
@[congr] theorem octroilaw17_BabelTags_r6_congr {env : Env} {h : Hp} {K : Env → Hp → Prop} : octroilaw17_BabelTags_r6 env h K = octroilaw17_BabelTags_r6 env h K := rfl

/-- law.go:168 -/
def octroilaw17_BabelTags_r7 (env : Env) (h : Hp) (K : Env → Hp → Prop) : Prop :=
  rd Try.prog (Instr.indexAt 44 (env 2) (env 9)) noHp fun v43_3 =>
  rd Try.prog (Instr.loadAt 47 v43_3) h fun v44_4 =>
  Ok Try.prog 16 #[(env 8), v44_4] h fun v45_5 h1 =>
  K (((((((env.set 40 (env 8)).set 41 (env 2)).set 42 (env 9)).set 43 v43_3).set 44 v44_4).set 45 v45_5).set 10 v45_5) h1
@[congr] theorem octroilaw17_BabelTags_r7_congr {env : Env} {h : Hp} {K : Env → Hp → Prop} : octroilaw17_BabelTags_r7 env h K = octroilaw17_BabelTags_r7 env h K := rfl

/-- law.go:169 -/
def octroilaw17_BabelTags_r8 (env : Env) (h : Hp) (K : Env → Hp → Prop) : Prop :=
  K (env.set 11 (Go.Value.int Go.IntKind.i64 0)) h
@[congr] theorem octroilaw17_BabelTags_r8_congr {env : Env} {h : Hp} {K : Env → Hp → Prop} : octroilaw17_BabelTags_r8 env h K = octroilaw17_BabelTags_r8 env h K := rfl

/-- law.go:169 -/
def octroilaw17_BabelTags_r9 (env : Env) (h : Hp) (K : Env → Hp → Prop) : Prop :=
  rd Try.prog (Builtin.len_ #[40] 3 #[(env 10)]) h fun v48_2 =>
  rd Try.prog (bop Go.BinOp.lss 3 (Go.Operand.tmp 46) (Go.Operand.tmp 48) (env 11) v48_2) noHp fun v49_3 =>
  K ((((env.set 46 (env 11)).set 47 (env 10)).set 48 v48_2).set 49 v49_3) h
@[congr] theorem octroilaw17_BabelTags_r9_congr {env : Env} {h : Hp} {K : Env → Hp → Prop} : octroilaw17_BabelTags_r9 env h K = octroilaw17_BabelTags_r9 env h K := rfl

/-- law.go:170 -/
def octroilaw17_BabelTags_r10 (env : Env) (h : Hp) (K : Env → Hp → Prop) : Prop :=
  rd Try.prog (Instr.indexAt 40 (env 10) (env 11)) noHp fun v54_2 =>
  rd Try.prog (Instr.fieldAt 31 v54_2 6) noHp fun v55_3 =>
  rd Try.prog (Instr.loadAt 29 v55_3) h fun v56_4 =>
  Ok Try.prog 17 #[v56_4, (env 1)] h fun v58_6 h1 =>
  K (((((((env.set 52 (env 10)).set 53 (env 11)).set 54 v54_2).set 55 v55_3).set 56 v56_4).set 57 (env 1)).set 58 v58_6) h1
@[congr] theorem octroilaw17_BabelTags_r10_congr {env : Env} {h : Hp} {K : Env → Hp → Prop} : octroilaw17_BabelTags_r10 env h K = octroilaw17_BabelTags_r10 env h K := rfl

/-- law.go:171 -/
def octroilaw17_BabelTags_r11 (env : Env) (h : Hp) (K : Env → Hp → Prop) : Prop :=
  K (env.set 6 (Go.Value.bool false)) h
@[congr] theorem octroilaw17_BabelTags_r11_congr {env : Env} {h : Hp} {K : Env → Hp → Prop} : octroilaw17_BabelTags_r11 env h K = octroilaw17_BabelTags_r11 env h K := rfl

/-- law.go:169 -/
def octroilaw17_BabelTags_r12 (env : Env) (h : Hp) (K : Env → Hp → Prop) : Prop :=
  rd Try.prog (bop Go.BinOp.add 3 (Go.Operand.tmp 50) (Go.Operand.const (Go.Value.int Go.IntKind.i64 1)) (env 11) (Go.Value.int Go.IntKind.i64 1)) noHp fun v51_1 =>
  K (((env.set 50 (env 11)).set 51 v51_1).set 11 v51_1) h
@[congr] theorem octroilaw17_BabelTags_r12_congr {env : Env} {h : Hp} {K : Env → Hp → Prop} : octroilaw17_BabelTags_r12 env h K = octroilaw17_BabelTags_r12 env h K := rfl

def octroilaw17_BabelTags_L0 : Den := (sq (sq (rg octroilaw17_BabelTags_r9) (cnd (Go.Operand.tmp 49) (ex .normal) (ex (.exit 2)))) (sq (blk 3 (sq (rg octroilaw17_BabelTags_r10) (cnd (Go.Operand.tmp 58) (sq (rg octroilaw17_BabelTags_r11) (ex .ret)) (ex .normal)))) (rg octroilaw17_BabelTags_r12)))

/-- law.go:167 -/
def octroilaw17_BabelTags_r13 (env : Env) (h : Hp) (K : Env → Hp → Prop) : Prop :=
  rd Try.prog (bop Go.BinOp.add 3 (Go.Operand.tmp 38) (Go.Operand.const (Go.Value.int Go.IntKind.i64 1)) (env 9) (Go.Value.int Go.IntKind.i64 1)) noHp fun v39_1 =>
  K (((env.set 38 (env 9)).set 39 v39_1).set 9 v39_1) h
@[congr] theorem octroilaw17_BabelTags_r13_congr {env : Env} {h : Hp} {K : Env → Hp → Prop} : octroilaw17_BabelTags_r13 env h K = octroilaw17_BabelTags_r13 env h K := rfl

def octroilaw17_BabelTags_L1 : Den := (sq (sq (rg octroilaw17_BabelTags_r6) (cnd (Go.Operand.tmp 37) (ex .normal) (ex (.exit 0)))) (sq (blk 1 (sq (rg octroilaw17_BabelTags_r7) (sq (rg octroilaw17_BabelTags_r8) (blk 2 (lp octroilaw17_BabelTags_L0))))) (rg octroilaw17_BabelTags_r13)))

/-- law.go:175 -/
def octroilaw17_BabelTags_r14 (env : Env) (h : Hp) (K : Env → Hp → Prop) : Prop :=
  Ok Try.prog 13 #[(env 8)] h fun v60_1 h1 =>
  K (((env.set 59 (env 8)).set 60 v60_1).set 12 v60_1) h1
@[congr] theorem octroilaw17_BabelTags_r14_congr {env : Env} {h : Hp} {K : Env → Hp → Prop} : octroilaw17_BabelTags_r14 env h K = octroilaw17_BabelTags_r14 env h K := rfl

/-- law.go:176 -/
def octroilaw17_BabelTags_r15 (env : Env) (h : Hp) (K : Env → Hp → Prop) : Prop :=
  K (env.set 13 (Go.Value.int Go.IntKind.i64 0)) h
@[congr] theorem octroilaw17_BabelTags_r15_congr {env : Env} {h : Hp} {K : Env → Hp → Prop} : octroilaw17_BabelTags_r15 env h K = octroilaw17_BabelTags_r15 env h K := rfl

/-- law.go:176 -/
def octroilaw17_BabelTags_r16 (env : Env) (h : Hp) (K : Env → Hp → Prop) : Prop :=
  rd Try.prog (Builtin.len_ #[35] 3 #[(env 12)]) h fun v63_2 =>
  rd Try.prog (bop Go.BinOp.lss 3 (Go.Operand.tmp 61) (Go.Operand.tmp 63) (env 13) v63_2) noHp fun v64_3 =>
  K ((((env.set 61 (env 13)).set 62 (env 12)).set 63 v63_2).set 64 v64_3) h
@[congr] theorem octroilaw17_BabelTags_r16_congr {env : Env} {h : Hp} {K : Env → Hp → Prop} : octroilaw17_BabelTags_r16 env h K = octroilaw17_BabelTags_r16 env h K := rfl

/-- law.go:177 -/
def octroilaw17_BabelTags_r17 (env : Env) (h : Hp) (K : Env → Hp → Prop) : Prop :=
  rd Try.prog (Instr.indexAt 35 (env 12) (env 13)) noHp fun v69_2 =>
  rd Try.prog (Instr.fieldAt 38 v69_2 5) noHp fun v70_3 =>
  rd Try.prog (Instr.loadAt 29 v70_3) h fun v71_4 =>
  Ok Try.prog 17 #[v71_4, (env 1)] h fun v73_6 h1 =>
  gd (yb v73_6 == some false) (fun h k => k (env 12) h) h1 fun v75_8 h2 =>
  gd (yb v73_6 == some false) (fun h k => k (env 13) h) h2 fun v76_9 h3 =>
  gd (yb v73_6 == some false) (fun h k => rd Try.prog (Instr.indexAt 35 v75_8 v76_9) noHp fun v => k v h) h3 fun v77_10 h4 =>
  gd (yb v73_6 == some false) (fun h k => rd Try.prog (Instr.fieldAt 38 v77_10 3) noHp fun v => k v h) h4 fun v78_11 h5 =>
  gd (yb v73_6 == some false) (fun h k => rd Try.prog (Instr.loadAt 3 v78_11) h fun v => k v h) h5 fun v79_12 h6 =>
  gd (yb v73_6 == some false) (fun h k => rd Try.prog (bop Go.BinOp.lss 3 (Go.Operand.tmp 79) (Go.Operand.const (Go.Value.int Go.IntKind.i64 0)) v79_12 (Go.Value.int Go.IntKind.i64 0)) noHp fun v => k v h) h6 fun v80_13 h7 =>
  rd Try.prog (pck v73_6 (Go.Value.bool true) v80_13) noHp fun v81_14 =>
  gd (yb v81_14 == some false) (fun h k => k (env 12) h) h7 fun v83_16 h8 =>
  gd (yb v81_14 == some false) (fun h k => k (env 13) h) h8 fun v84_17 h9 =>
  gd (yb v81_14 == some false) (fun h k => rd Try.prog (Instr.indexAt 35 v83_16 v84_17) noHp fun v => k v h) h9 fun v85_18 h10 =>
  gd (yb v81_14 == some false) (fun h k => rd Try.prog (Instr.fieldAt 38 v85_18 3) noHp fun v => k v h) h10 fun v86_19 h11 =>
  gd (yb v81_14 == some false) (fun h k => rd Try.prog (Instr.loadAt 3 v86_19) h fun v => k v h) h11 fun v87_20 h12 =>
  gd (yb v81_14 == some false) (fun h k => rd Try.prog (bop Go.BinOp.geq 3 (Go.Operand.tmp 87) (Go.Operand.const (Go.Value.int Go.IntKind.i64 65535)) v87_20 (Go.Value.int Go.IntKind.i64 65535)) noHp fun v => k v h) h12 fun v88_21 h13 =>
  rd Try.prog (pck v81_14 (Go.Value.bool true) v88_21) noHp fun v89_22 =>
  K (((((((((((((((((((((((env.set 67 (env 12)).set 68 (env 13)).set 69 v69_2).set 70 v70_3).set 71 v71_4).set 72 (env 1)).set 73 v73_6).set 74 v73_6).set 75 v75_8).set 76 v76_9).set 77 v77_10).set 78 v78_11).set 79 v79_12).set 80 v80_13).set 81 v81_14).set 82 v81_14).set 83 v83_16).set 84 v84_17).set 85 v85_18).set 86 v86_19).set 87 v87_20).set 88 v88_21).set 89 v89_22) h13
@[congr] theorem octroilaw17_BabelTags_r17_congr {env : Env} {h : Hp} {K : Env → Hp → Prop} : octroilaw17_BabelTags_r17 env h K = octroilaw17_BabelTags_r17 env h K := rfl

/-- law.go:178 -/
def octroilaw17_BabelTags_r18 (env : Env) (h : Hp) (K : Env → Hp → Prop) : Prop :=
  K (env.set 6 (Go.Value.bool false)) h
@[congr] theorem octroilaw17_BabelTags_r18_congr {env : Env} {h : Hp} {K : Env → Hp → Prop} : octroilaw17_BabelTags_r18 env h K = octroilaw17_BabelTags_r18 env h K := rfl

/-- law.go:176 -/
def octroilaw17_BabelTags_r19 (env : Env) (h : Hp) (K : Env → Hp → Prop) : Prop :=
  rd Try.prog (bop Go.BinOp.add 3 (Go.Operand.tmp 65) (Go.Operand.const (Go.Value.int Go.IntKind.i64 1)) (env 13) (Go.Value.int Go.IntKind.i64 1)) noHp fun v66_1 =>
  K (((env.set 65 (env 13)).set 66 v66_1).set 13 v66_1) h
@[congr] theorem octroilaw17_BabelTags_r19_congr {env : Env} {h : Hp} {K : Env → Hp → Prop} : octroilaw17_BabelTags_r19 env h K = octroilaw17_BabelTags_r19 env h K := rfl

def octroilaw17_BabelTags_L2 : Den := (sq (sq (rg octroilaw17_BabelTags_r16) (cnd (Go.Operand.tmp 64) (ex .normal) (ex (.exit 4)))) (sq (blk 5 (sq (rg octroilaw17_BabelTags_r17) (cnd (Go.Operand.tmp 89) (sq (rg octroilaw17_BabelTags_r18) (ex .ret)) (ex .normal)))) (rg octroilaw17_BabelTags_r19)))

/-- law.go:181 -/
def octroilaw17_BabelTags_r20 (env : Env) (h : Hp) (K : Env → Hp → Prop) : Prop :=
  Ok Try.prog 18 #[(env 8)] h fun v91_1 h1 =>
  rd Try.prog (bop Go.BinOp.leq 3 (Go.Operand.tmp 91) (Go.Operand.const (Go.Value.int Go.IntKind.i64 64)) v91_1 (Go.Value.int Go.IntKind.i64 64)) noHp fun v92_2 =>
  K ((((env.set 90 (env 8)).set 91 v91_1).set 92 v92_2).set 6 v92_2) h1
@[congr] theorem octroilaw17_BabelTags_r20_congr {env : Env} {h : Hp} {K : Env → Hp → Prop} : octroilaw17_BabelTags_r20 env h K = octroilaw17_BabelTags_r20 env h K := rfl

def octroilaw17_BabelTags_D : Den := (sq (rg octroilaw17_BabelTags_r0) (sq (rg octroilaw17_BabelTags_r1) (sq (rg octroilaw17_BabelTags_r2) (sq (sq (rg octroilaw17_BabelTags_r3) (cnd (Go.Operand.tmp 28) (sq (rg octroilaw17_BabelTags_r4) (ex .ret)) (ex .normal))) (sq (sq (rg octroilaw17_BabelTags_r5) (blk 0 (lp octroilaw17_BabelTags_L1))) (sq (rg octroilaw17_BabelTags_r14) (sq (sq (rg octroilaw17_BabelTags_r15) (blk 4 (lp octroilaw17_BabelTags_L2))) (sq (rg octroilaw17_BabelTags_r20) (ex .ret)))))))))

theorem octroilaw17_BabelTags_eq : (den Try.prog 93 octroilaw17_BabelTags_code).1 = octroilaw17_BabelTags_D := by kernel_rfl

theorem octroilaw17_BabelTags_ok {args : Array Value} {h : Hp} {Q : Value → Hp → Prop} (hn : args.size ≤ 93) (D : octroilaw17_BabelTags_D (fin Try.prog [(Go.ResultVar.tmp 6)] Q) (env0 args) h) : Ok Try.prog 5 args h Q :=
  ok_of_den progIsOk Try.func5 (c := octroilaw17_BabelTags_code) (by kernel_rfl) hn (by show (den Try.prog 93 octroilaw17_BabelTags_code).1 _ _ _; rw [octroilaw17_BabelTags_eq]; exact D)

/-! ### octroi/octroilaw17.BabelGone: function 6 -/
noncomputable def octroilaw17_BabelGone_code : Code := match Try.f6.body with | some c => c | none => .skip

/-- law.go:185 -/
def octroilaw17_BabelGone_r0 (env : Env) (h : Hp) (K : Env → Hp → Prop) : Prop :=
  K (env.set 4 (Go.Value.bool false)) h
@[congr] theorem octroilaw17_BabelGone_r0_congr {env : Env} {h : Hp} {K : Env → Hp → Prop} : octroilaw17_BabelGone_r0 env h K = octroilaw17_BabelGone_r0 env h K := rfl

/-- law.go:186 -/
def octroilaw17_BabelGone_r1 (env : Env) (h : Hp) (K : Env → Hp → Prop) : Prop :=
  Ok Try.prog 10 #[] h fun v13_0 h1 =>
  K ((env.set 13 v13_0).set 5 v13_0) h1
@[congr] theorem octroilaw17_BabelGone_r1_congr {env : Env} {h : Hp} {K : Env → Hp → Prop} : octroilaw17_BabelGone_r1 env h K = octroilaw17_BabelGone_r1 env h K := rfl

/-- law.go:187 -/
def octroilaw17_BabelGone_r2 (env : Env) (h : Hp) (K : Env → Hp → Prop) : Prop :=
  Ok Try.prog 11 #[(env 0), (Go.Value.int Go.IntKind.i64 0), (Go.Value.int Go.IntKind.i64 64)] h fun v15_1 h1 =>
  K (((env.set 14 (env 0)).set 15 v15_1).set 6 v15_1) h1
@[congr] theorem octroilaw17_BabelGone_r2_congr {env : Env} {h : Hp} {K : Env → Hp → Prop} : octroilaw17_BabelGone_r2 env h K = octroilaw17_BabelGone_r2 env h K := rfl

/-- law.go:188 -/
def octroilaw17_BabelGone_r3 (env : Env) (h : Hp) (K : Env → Hp → Prop) : Prop :=
  rd Try.prog (Op.unary Go.UnOp.not (env 5)) noHp fun v17_1 =>
  gd (yb v17_1 == some false) (fun h k => k (env 6) h) h fun v19_3 h1 =>
  gd (yb v17_1 == some false) (fun h k => rd Try.prog (bop Go.BinOp.eql 26 (Go.Operand.tmp 19) (Go.Operand.const (Go.Value.pointer none)) v19_3 (Go.Value.pointer none)) noHp fun v => k v h) h1 fun v20_4 h2 =>
  rd Try.prog (pck v17_1 (Go.Value.bool true) v20_4) noHp fun v21_5 =>
  gd (yb v21_5 == some false) (fun h k => k (env 1) h) h2 fun v23_7 h3 =>
  gd (yb v21_5 == some false) (fun h k => rd Try.prog (Builtin.len_ #[44] 3 #[v23_7]) h fun v => k v h) h3 fun v24_8 h4 =>
  gd (yb v21_5 == some false) (fun h k => rd Try.prog (bop Go.BinOp.gtr 3 (Go.Operand.tmp 24) (Go.Operand.const (Go.Value.int Go.IntKind.i64 150)) v24_8 (Go.Value.int Go.IntKind.i64 150)) noHp fun v => k v h) h4 fun v25_9 h5 =>
  rd Try.prog (pck v21_5 (Go.Value.bool true) v25_9) noHp fun v26_10 =>
  K (((((((((((env.set 16 (env 5)).set 17 v17_1).set 18 v17_1).set 19 v19_3).set 20 v20_4).set 21 v21_5).set 22 v21_5).set 23 v23_7).set 24 v24_8).set 25 v25_9).set 26 v26_10) h5
@[congr] theorem octroilaw17_BabelGone_r3_congr {env : Env} {h : Hp} {K : Env → Hp → Prop} : octroilaw17_BabelGone_r3 env h K = octroilaw17_BabelGone_r3 env h K := rfl

/-- law.go:189 -/
def octroilaw17_BabelGone_r4 (env : Env) (h : Hp) (K : Env → Hp → Prop) : Prop :=
  gd (yb (env 5) == some true) (fun h k => k (env 6) h) h fun v29_2 h1 =>
  gd (yb (env 5) == some true) (fun h k => rd Try.prog (bop Go.BinOp.neq 26 (Go.Operand.tmp 29) (Go.Operand.const (Go.Value.pointer none)) v29_2 (Go.Value.pointer none)) noHp fun v => k v h) h1 fun v30_3 h2 =>
  rd Try.prog (pck (env 5) v30_3 (Go.Value.bool false)) noHp fun v31_4 =>
  K ((((((env.set 27 (env 5)).set 28 (env 5)).set 29 v29_2).set 30 v30_3).set 31 v31_4).set 4 v31_4) h2
@[congr] theorem octroilaw17_BabelGone_r4_congr {env : Env} {h : Hp} {K : Env → Hp → Prop} : octroilaw17_BabelGone_r4 env h K = octroilaw17_BabelGone_r4 env h K := rfl

/-- law.go:191 -/
def octroilaw17_BabelGone_r5 (env : Env) (h : Hp) (K : Env → Hp → Prop) : Prop :=
  K (env.set 7 (Go.Value.int Go.IntKind.i64 0)) h
@[congr] theorem octroilaw17_BabelGone_r5_congr {env : Env} {h : Hp} {K : Env → Hp → Prop} : octroilaw17_BabelGone_r5 env h K = octroilaw17_BabelGone_r5 env h K := rfl

/-- law.go:191 -/
def octroilaw17_BabelGone_r6 (env : Env) (h : Hp) (K : Env → Hp → Prop) : Prop :=
  rd Try.prog (Builtin.len_ #[44] 3 #[(env 1)]) h fun v34_2 =>
  rd Try.prog (bop Go.BinOp.lss 3 (Go.Operand.tmp 32) (Go.Operand.tmp 34) (env 7) v34_2) noHp fun v35_3 =>
  K ((((env.set 32 (env 7)).set 33 (env 1)).set 34 v34_2).set 35 v35_3) h
@[congr] theorem octroilaw17_BabelGone_r6_congr {env : Env} {h : Hp} {K : Env → Hp → Prop} : octroilaw17_BabelGone_r6 env h K = octroilaw17_BabelGone_r6 env h K := rfl

/-- law.go:192 -/
def octroilaw17_BabelGone_r7 (env : Env) (h : Hp) (K : Env → Hp → Prop) : Prop :=
  rd Try.prog (Instr.indexAt 44 (env 1) (env 7)) noHp fun v41_3 =>
  rd Try.prog (Instr.loadAt 47 v41_3) h fun v42_4 =>
  Ok Try.prog 16 #[(env 6), v42_4] h fun v43_5 h1 =>
  K ((((((env.set 38 (env 6)).set 39 (env 1)).set 40 (env 7)).set 41 v41_3).set 42 v42_4).set 43 v43_5) h1
@[congr] theorem octroilaw17_BabelGone_r7_congr {env : Env} {h : Hp} {K : Env → Hp → Prop} : octroilaw17_BabelGone_r7 env h K = octroilaw17_BabelGone_r7 env h K := rfl

/-- law.go:191 -/
def octroilaw17_BabelGone_r8 (env : Env) (h : Hp) (K : Env → Hp → Prop) : Prop :=
  rd Try.prog (bop Go.BinOp.add 3 (Go.Operand.tmp 36) (Go.Operand.const (Go.Value.int Go.IntKind.i64 1)) (env 7) (Go.Value.int Go.IntKind.i64 1)) noHp fun v37_1 =>
  K (((env.set 36 (env 7)).set 37 v37_1).set 7 v37_1) h
@[congr] theorem octroilaw17_BabelGone_r8_congr {env : Env} {h : Hp} {K : Env → Hp → Prop} : octroilaw17_BabelGone_r8 env h K = octroilaw17_BabelGone_r8 env h K := rfl

def octroilaw17_BabelGone_L0 : Den := (sq (sq (rg octroilaw17_BabelGone_r6) (cnd (Go.Operand.tmp 35) (ex .normal) (ex (.exit 0)))) (sq (blk 1 (rg octroilaw17_BabelGone_r7)) (rg octroilaw17_BabelGone_r8)))

/-- law.go:194 -/
def octroilaw17_BabelGone_r9 (env : Env) (h : Hp) (K : Env → Hp → Prop) : Prop :=
  Ok Try.prog 13 #[(env 6)] h fun v45_1 h1 =>
  K (((env.set 44 (env 6)).set 45 v45_1).set 8 v45_1) h1
@[congr] theorem octroilaw17_BabelGone_r9_congr {env : Env} {h : Hp} {K : Env → Hp → Prop} : octroilaw17_BabelGone_r9 env h K = octroilaw17_BabelGone_r9 env h K := rfl

/-- law.go:195 -/
def octroilaw17_BabelGone_r10 (env : Env) (h : Hp) (K : Env → Hp → Prop) : Prop :=
  Ok Try.prog 14 #[(env 6)] h fun v47_1 h1 =>
  K ((env.set 46 (env 6)).set 47 v47_1) h1
@[congr] theorem octroilaw17_BabelGone_r10_congr {env : Env} {h : Hp} {K : Env → Hp → Prop} : octroilaw17_BabelGone_r10 env h K = octroilaw17_BabelGone_r10 env h K := rfl

/-- law.go:196 -/
def octroilaw17_BabelGone_r11 (env : Env) (h : Hp) (K : Env → Hp → Prop) : Prop :=
  K (env.set 9 (Go.Value.int Go.IntKind.i64 0)) h
@[congr] theorem octroilaw17_BabelGone_r11_congr {env : Env} {h : Hp} {K : Env → Hp → Prop} : octroilaw17_BabelGone_r11 env h K = octroilaw17_BabelGone_r11 env h K := rfl

/-- law.go:196 -/
def octroilaw17_BabelGone_r12 (env : Env) (h : Hp) (K : Env → Hp → Prop) : Prop :=
  rd Try.prog (Builtin.len_ #[35] 3 #[(env 8)]) h fun v50_2 =>
  rd Try.prog (bop Go.BinOp.lss 3 (Go.Operand.tmp 48) (Go.Operand.tmp 50) (env 9) v50_2) noHp fun v51_3 =>
  K ((((env.set 48 (env 9)).set 49 (env 8)).set 50 v50_2).set 51 v51_3) h
@[congr] theorem octroilaw17_BabelGone_r12_congr {env : Env} {h : Hp} {K : Env → Hp → Prop} : octroilaw17_BabelGone_r12 env h K = octroilaw17_BabelGone_r12 env h K := rfl

/-- law.go:197 -/
def octroilaw17_BabelGone_r13 (env : Env) (h : Hp) (K : Env → Hp → Prop) : Prop :=
  rd Try.prog (Instr.indexAt 35 (env 8) (env 9)) noHp fun v57_3 =>
  rd Try.prog (Instr.fieldAt 38 v57_3 0) noHp fun v58_4 =>
  rd Try.prog (Instr.loadAt 24 v58_4) h fun v59_5 =>
  Ok Try.prog 19 #[(env 6), v59_5] h fun v60_6 h1 =>
  K (((((((env.set 54 (env 6)).set 55 (env 8)).set 56 (env 9)).set 57 v57_3).set 58 v58_4).set 59 v59_5).set 60 v60_6) h1
@[congr] theorem octroilaw17_BabelGone_r13_congr {env : Env} {h : Hp} {K : Env → Hp → Prop} : octroilaw17_BabelGone_r13 env h K = octroilaw17_BabelGone_r13 env h K := rfl

/-- law.go:196 -/
def octroilaw17_BabelGone_r14 (env : Env) (h : Hp) (K : Env → Hp → Prop) : Prop :=
  rd Try.prog (bop Go.BinOp.add 3 (Go.Operand.tmp 52) (Go.Operand.const (Go.Value.int Go.IntKind.i64 1)) (env 9) (Go.Value.int Go.IntKind.i64 1)) noHp fun v53_1 =>
  K (((env.set 52 (env 9)).set 53 v53_1).set 9 v53_1) h
@[congr] theorem octroilaw17_BabelGone_r14_congr {env : Env} {h : Hp} {K : Env → Hp → Prop} : octroilaw17_BabelGone_r14 env h K = octroilaw17_BabelGone_r14 env h K := rfl

def octroilaw17_BabelGone_L1 : Den := (sq (sq (rg octroilaw17_BabelGone_r12) (cnd (Go.Operand.tmp 51) (ex .normal) (ex (.exit 2)))) (sq (blk 3 (rg octroilaw17_BabelGone_r13)) (rg octroilaw17_BabelGone_r14)))

/-- law.go:199 -/
def octroilaw17_BabelGone_r15 (env : Env) (h : Hp) (K : Env → Hp → Prop) : Prop :=
  K (env.set 10 (Go.Value.int Go.IntKind.i64 1)) h
@[congr] theorem octroilaw17_BabelGone_r15_congr {env : Env} {h : Hp} {K : Env → Hp → Prop} : octroilaw17_BabelGone_r15 env h K = octroilaw17_BabelGone_r15 env h K := rfl

/-- law.go:199 -/
def octroilaw17_BabelGone_r16 (env : Env) (h : Hp) (K : Env → Hp → Prop) : Prop :=
  rd Try.prog (bop Go.BinOp.leq 3 (Go.Operand.tmp 61) (Go.Operand.const (Go.Value.int Go.IntKind.i64 32)) (env 10) (Go.Value.int Go.IntKind.i64 32)) noHp fun v62_1 =>
  K ((env.set 61 (env 10)).set 62 v62_1) h
@[congr] theorem octroilaw17_BabelGone_r16_congr {env : Env} {h : Hp} {K : Env → Hp → Prop} : octroilaw17_BabelGone_r16 env h K = octroilaw17_BabelGone_r16 env h K := rfl

/-- law.go:200 -/
def octroilaw17_BabelGone_r17 (env : Env) (h : Hp) (K : Env → Hp → Prop) : Prop :=
  Ok Try.prog 15 #[(env 6), (env 10)] h fun v67_2 h1 =>
  K (((env.set 65 (env 6)).set 66 (env 10)).set 67 v67_2) h1
@[congr] theorem octroilaw17_BabelGone_r17_congr {env : Env} {h : Hp} {K : Env → Hp → Prop} : octroilaw17_BabelGone_r17 env h K = octroilaw17_BabelGone_r17 env h K := rfl

/-- law.go:199 -/
def octroilaw17_BabelGone_r18 (env : Env) (h : Hp) (K : Env → Hp → Prop) : Prop :=
  rd Try.prog (bop Go.BinOp.add 3 (Go.Operand.tmp 63) (Go.Operand.const (Go.Value.int Go.IntKind.i64 1)) (env 10) (Go.Value.int Go.IntKind.i64 1)) noHp fun v64_1 =>
  K (((env.set 63 (env 10)).set 64 v64_1).set 10 v64_1) h
@[congr] theorem octroilaw17_BabelGone_r18_congr {env : Env} {h : Hp} {K : Env → Hp → Prop} : octroilaw17_BabelGone_r18 env h K = octroilaw17_BabelGone_r18 env h K := rfl

def octroilaw17_BabelGone_L2 : Den := (sq (sq (rg octroilaw17_BabelGone_r16) (cnd (Go.Operand.tmp 62) (ex .normal) (ex (.exit 4)))) (sq (blk 5 (rg octroilaw17_BabelGone_r17)) (rg octroilaw17_BabelGone_r18)))

/-- law.go:202 -/
def octroilaw17_BabelGone_r19 (env : Env) (h : Hp) (K : Env → Hp → Prop) : Prop :=
  Ok Try.prog 14 #[(env 6)] h fun v69_1 h1 =>
  K (((env.set 68 (env 6)).set 69 v69_1).set 11 v69_1) h1
@[congr] theorem octroilaw17_BabelGone_r19_congr {env : Env} {h : Hp} {K : Env → Hp → Prop} : octroilaw17_BabelGone_r19 env h K = octroilaw17_BabelGone_r19 env h K := rfl

/-- law.go:203 -/
def octroilaw17_BabelGone_r20 (env : Env) (h : Hp) (K : Env → Hp → Prop) : Prop :=
  Ok Try.prog 13 #[(env 6)] h fun v71_1 h1 =>
  rd Try.prog (Builtin.len_ #[35] 3 #[v71_1]) h1 fun v72_2 =>
  rd Try.prog (bop Go.BinOp.neq 3 (Go.Operand.tmp 72) (Go.Operand.const (Go.Value.int Go.IntKind.i64 0)) v72_2 (Go.Value.int Go.IntKind.i64 0)) noHp fun v73_3 =>
  gd (yb v73_3 == some false) (fun h k => k (env 6) h) h1 fun v75_5 h2 =>
  gd (yb v73_3 == some false) (fun h k => Ok Try.prog 18 #[v75_5] h k) h2 fun v76_6 h3 =>
  gd (yb v73_3 == some false) (fun h k => rd Try.prog (bop Go.BinOp.neq 3 (Go.Operand.tmp 76) (Go.Operand.const (Go.Value.int Go.IntKind.i64 0)) v76_6 (Go.Value.int Go.IntKind.i64 0)) noHp fun v => k v h) h3 fun v77_7 h4 =>
  rd Try.prog (pck v73_3 (Go.Value.bool true) v77_7) noHp fun v78_8 =>
  gd (yb v78_8 == some false) (fun h k => k (env 11) h) h4 fun v80_10 h5 =>
  gd (yb v78_8 == some false) (fun h k => rd Try.prog (Builtin.len_ #[40] 3 #[v80_10]) h fun v => k v h) h5 fun v81_11 h6 =>
  gd (yb v78_8 == some false) (fun h k => k (env 8) h) h6 fun v82_12 h7 =>
  gd (yb v78_8 == some false) (fun h k => rd Try.prog (Builtin.len_ #[35] 3 #[v82_12]) h fun v => k v h) h7 fun v83_13 h8 =>
  gd (yb v78_8 == some false) (fun h k => rd Try.prog (bop Go.BinOp.neq 3 (Go.Operand.tmp 81) (Go.Operand.tmp 83) v81_11 v83_13) noHp fun v => k v h) h8 fun v84_14 h9 =>
  rd Try.prog (pck v78_8 (Go.Value.bool true) v84_14) noHp fun v85_15 =>
  K ((((((((((((((((env.set 70 (env 6)).set 71 v71_1).set 72 v72_2).set 73 v73_3).set 74 v73_3).set 75 v75_5).set 76 v76_6).set 77 v77_7).set 78 v78_8).set 79 v78_8).set 80 v80_10).set 81 v81_11).set 82 v82_12).set 83 v83_13).set 84 v84_14).set 85 v85_15) h9
@[congr] theorem octroilaw17_BabelGone_r20_congr {env : Env} {h : Hp} {K : Env → Hp → Prop} : octroilaw17_BabelGone_r20 env h K = octroilaw17_BabelGone_r20 env h K := rfl

/-- law.go:204 -/
def octroilaw17_BabelGone_r21 (env : Env) (h : Hp) (K : Env → Hp → Prop) : Prop :=
  K (env.set 4 (Go.Value.bool false)) h
@[congr] theorem octroilaw17_BabelGone_r21_congr {env : Env} {h : Hp} {K : Env → Hp → Prop} : octroilaw17_BabelGone_r21 env h K = octroilaw17_BabelGone_r21 env h K := rfl

/-- law.go:206 -/
def octroilaw17_BabelGone_r22 (env : Env) (h : Hp) (K : Env → Hp → Prop) : Prop :=
  K (env.set 12 (Go.Value.int Go.IntKind.i64 0)) h
@[congr] theorem octroilaw17_BabelGone_r22_congr {env : Env} {h : Hp} {K : Env → Hp → Prop} : octroilaw17_BabelGone_r22 env h K = octroilaw17_BabelGone_r22 env h K := rfl

/-- law.go:206 -/
def octroilaw17_BabelGone_r23 (env : Env) (h : Hp) (K : Env → Hp → Prop) : Prop :=
  rd Try.prog (Builtin.len_ #[40] 3 #[(env 11)]) h fun v88_2 =>
  rd Try.prog (bop Go.BinOp.lss 3 (Go.Operand.tmp 86) (Go.Operand.tmp 88) (env 12) v88_2) noHp fun v89_3 =>
  K ((((env.set 86 (env 12)).set 87 (env 11)).set 88 v88_2).set 89 v89_3) h
@[congr] theorem octroilaw17_BabelGone_r23_congr {env : Env} {h : Hp} {K : Env → Hp → Prop} : octroilaw17_BabelGone_r23 env h K = octroilaw17_BabelGone_r23 env h K := rfl

/-- law.go:207 (in any order) -/
def octroilaw17_BabelGone_r24 (env : Env) (h : Hp) (K : Env → Hp → Prop) : Prop :=
  rd Try.prog (Instr.indexAt 40 (env 11) (env 12)) noHp fun v94_2 =>
  rd Try.prog (Instr.fieldAt 31 v94_2 4) noHp fun v95_3 =>
  rd Try.prog (Instr.loadAt 24 v95_3) h fun v96_4 =>
  rd Try.prog (Instr.indexAt 35 (env 8) (env 12)) noHp fun v99_7 =>
  rd Try.prog (Instr.fieldAt 38 v99_7 0) noHp fun v100_8 =>
  rd Try.prog (Instr.loadAt 24 v100_8) h fun v101_9 =>
  rd Try.prog (bop Go.BinOp.neq 24 (Go.Operand.tmp 96) (Go.Operand.tmp 101) v96_4 v101_9) noHp fun v102_10 =>
  gd (yb v102_10 == some false) (fun h k => k (env 11) h) h fun v104_12 h1 =>
  gd (yb v102_10 == some false) (fun h k => k (env 12) h) h1 fun v105_13 h2 =>
  gd (yb v102_10 == some false) (fun h k => rd Try.prog (Instr.indexAt 40 v104_12 v105_13) noHp fun v => k v h) h2 fun v106_14 h3 =>
  gd (yb v102_10 == some false) (fun h k => rd Try.prog (Instr.fieldAt 31 v106_14 3) noHp fun v => k v h) h3 fun v107_15 h4 =>
  gd (yb v102_10 == some false) (fun h k => rd Try.prog (Instr.loadAt 3 v107_15) h fun v => k v h) h4 fun v108_16 h5 =>
  gd (yb v102_10 == some false) (fun h k => rd Try.prog (bop Go.BinOp.neq 3 (Go.Operand.tmp 108) (Go.Operand.const (Go.Value.int Go.IntKind.i64 65535)) v108_16 (Go.Value.int Go.IntKind.i64 65535)) noHp fun v => k v h) h5 fun v109_17 h6 =>
  rd Try.prog (pck v102_10 (Go.Value.bool true) v109_17) noHp fun v110_18 =>
  gd (yb v110_18 == some false) (fun h k => k (env 11) h) h6 fun v112_20 h7 =>
  gd (yb v110_18 == some false) (fun h k => k (env 12) h) h7 fun v113_21 h8 =>
  gd (yb v110_18 == some false) (fun h k => rd Try.prog (Instr.indexAt 40 v112_20 v113_21) noHp fun v => k v h) h8 fun v114_22 h9 =>
  gd (yb v110_18 == some false) (fun h k => rd Try.prog (Instr.fieldAt 31 v114_22 6) noHp fun v => k v h) h9 fun v115_23 h10 =>
  gd (yb v110_18 == some false) (fun h k => rd Try.prog (Instr.loadAt 29 v115_23) h fun v => k v h) h10 fun v116_24 h11 =>
  gd (yb v110_18 == some false) (fun h k => rd Try.prog (bop Go.BinOp.neq 29 (Go.Operand.tmp 116) (Go.Operand.const (Go.Value.int Go.IntKind.u16 0)) v116_24 (Go.Value.int Go.IntKind.u16 0)) noHp fun v => k v h) h11 fun v117_25 h12 =>
  rd Try.prog (pck v110_18 (Go.Value.bool true) v117_25) noHp fun v118_26 =>
  K (((((((((((((((((((((((((((env.set 92 (env 11)).set 93 (env 12)).set 94 v94_2).set 95 v95_3).set 96 v96_4).set 97 (env 8)).set 98 (env 12)).set 99 v99_7).set 100 v100_8).set 101 v101_9).set 102 v102_10).set 103 v102_10).set 104 v104_12).set 105 v105_13).set 106 v106_14).set 107 v107_15).set 108 v108_16).set 109 v109_17).set 110 v110_18).set 111 v110_18).set 112 v112_20).set 113 v113_21).set 114 v114_22).set 115 v115_23).set 116 v116_24).set 117 v117_25).set 118 v118_26) h12
@[congr] theorem octroilaw17_BabelGone_r24_congr {env : Env} {h : Hp} {K : Env → Hp → Prop} : octroilaw17_BabelGone_r24 env h K = octroilaw17_BabelGone_r24 env h K := rfl

/-- law.go:208 -/
def octroilaw17_BabelGone_r25 (env : Env) (h : Hp) (K : Env → Hp → Prop) : Prop :=
  K (env.set 4 (Go.Value.bool false)) h
@[congr] theorem octroilaw17_BabelGone_r25_congr {env : Env} {h : Hp} {K : Env → Hp → Prop} : octroilaw17_BabelGone_r25 env h K = octroilaw17_BabelGone_r25 env h K := rfl

/-- law.go:206 -/
def octroilaw17_BabelGone_r26 (env : Env) (h : Hp) (K : Env → Hp → Prop) : Prop :=
  rd Try.prog (bop Go.BinOp.add 3 (Go.Operand.tmp 90) (Go.Operand.const (Go.Value.int Go.IntKind.i64 1)) (env 12) (Go.Value.int Go.IntKind.i64 1)) noHp fun v91_1 =>
  K (((env.set 90 (env 12)).set 91 v91_1).set 12 v91_1) h
@[congr] theorem octroilaw17_BabelGone_r26_congr {env : Env} {h : Hp} {K : Env → Hp → Prop} : octroilaw17_BabelGone_r26 env h K = octroilaw17_BabelGone_r26 env h K := rfl

def octroilaw17_BabelGone_L3 : Den := (sq (sq (rg octroilaw17_BabelGone_r23) (cnd (Go.Operand.tmp 89) (ex .normal) (ex (.exit 6)))) (sq (blk 7 (sq (rg octroilaw17_BabelGone_r24) (cnd (Go.Operand.tmp 118) (sq (rg octroilaw17_BabelGone_r25) (ex .ret)) (ex .normal)))) (rg octroilaw17_BabelGone_r26)))

/-- law.go:211 -/
def octroilaw17_BabelGone_r27 (env : Env) (h : Hp) (K : Env → Hp → Prop) : Prop :=
  Ok Try.prog 14 #[(env 6)] h fun v120_1 h1 =>
  rd Try.prog (Builtin.len_ #[40] 3 #[v120_1]) h1 fun v121_2 =>
  rd Try.prog (bop Go.BinOp.eql 3 (Go.Operand.tmp 121) (Go.Operand.const (Go.Value.int Go.IntKind.i64 0)) v121_2 (Go.Value.int Go.IntKind.i64 0)) noHp fun v122_3 =>
  K (((((env.set 119 (env 6)).set 120 v120_1).set 121 v121_2).set 122 v122_3).set 4 v122_3) h1
@[congr] theorem octroilaw17_BabelGone_r27_congr {env : Env} {h : Hp} {K : Env → Hp → Prop} : octroilaw17_BabelGone_r27 env h K = octroilaw17_BabelGone_r27 env h K := rfl

def octroilaw17_BabelGone_D : Den := (sq (rg octroilaw17_BabelGone_r0) (sq (rg octroilaw17_BabelGone_r1) (sq (rg octroilaw17_BabelGone_r2) (sq (sq (rg octroilaw17_BabelGone_r3) (cnd (Go.Operand.tmp 26) (sq (rg octroilaw17_BabelGone_r4) (ex .ret)) (ex .normal))) (sq (sq (rg octroilaw17_BabelGone_r5) (blk 0 (lp octroilaw17_BabelGone_L0))) (sq (rg octroilaw17_BabelGone_r9) (sq (rg octroilaw17_BabelGone_r10) (sq (sq (rg octroilaw17_BabelGone_r11) (blk 2 (lp octroilaw17_BabelGone_L1))) (sq (sq (rg octroilaw17_BabelGone_r15) (blk 4 (lp octroilaw17_BabelGone_L2))) (sq (rg octroilaw17_BabelGone_r19) (sq (sq (rg octroilaw17_BabelGone_r20) (cnd (Go.Operand.tmp 85) (sq (rg octroilaw17_BabelGone_r21) (ex .ret)) (ex .normal))) (sq (sq (rg octroilaw17_BabelGone_r22) (blk 6 (lp octroilaw17_BabelGone_L3))) (sq (rg octroilaw17_BabelGone_r27) (ex .ret))))))))))))))

theorem octroilaw17_BabelGone_eq : (den Try.prog 123 octroilaw17_BabelGone_code).1 = octroilaw17_BabelGone_D := by kernel_rfl

theorem octroilaw17_BabelGone_ok {args : Array Value} {h : Hp} {Q : Value → Hp → Prop} (hn : args.size ≤ 123) (D : octroilaw17_BabelGone_D (fin Try.prog [(Go.ResultVar.tmp 4)] Q) (env0 args) h) : Ok Try.prog 6 args h Q :=
  ok_of_den progIsOk Try.func6 (c := octroilaw17_BabelGone_code) (by kernel_rfl) hn (by show (den Try.prog 123 octroilaw17_BabelGone_code).1 _ _ _; rw [octroilaw17_BabelGone_eq]; exact D)

/-! ### octroi/octroilaw17.BabelLeast: function 7 -/
noncomputable def octroilaw17_BabelLeast_code : Code := match Try.f7.body with | some c => c | none => .skip

/-- law.go:107 -/
def octroilaw17_BabelLeast_r0 (env : Env) (h : Hp) (K : Env → Hp → Prop) : Prop :=
  arun Try.prog (Instr.box 24 (env 2)) h fun v6_0 h1 =>
  K ((env.set 6 v6_0).set 8 (Go.Value.bool false)) h1
@[congr] theorem octroilaw17_BabelLeast_r0_congr {env : Env} {h : Hp} {K : Env → Hp → Prop} : octroilaw17_BabelLeast_r0 env h K = octroilaw17_BabelLeast_r0 env h K := rfl

/-- law.go:108 -/
def octroilaw17_BabelLeast_r1 (env : Env) (h : Hp) (K : Env → Hp → Prop) : Prop :=
  Ok Try.prog 10 #[] h fun v23_0 h1 =>
  K ((env.set 23 v23_0).set 9 v23_0) h1
@[congr] theorem octroilaw17_BabelLeast_r1_congr {env : Env} {h : Hp} {K : Env → Hp → Prop} : octroilaw17_BabelLeast_r1 env h K = octroilaw17_BabelLeast_r1 env h K := rfl

/-- law.go:109 -/
def octroilaw17_BabelLeast_r2 (env : Env) (h : Hp) (K : Env → Hp → Prop) : Prop :=
  Ok Try.prog 11 #[(env 0), (Go.Value.int Go.IntKind.i64 0), (Go.Value.int Go.IntKind.i64 64)] h fun v25_1 h1 =>
  K (((env.set 24 (env 0)).set 25 v25_1).set 10 v25_1) h1
@[congr] theorem octroilaw17_BabelLeast_r2_congr {env : Env} {h : Hp} {K : Env → Hp → Prop} : octroilaw17_BabelLeast_r2 env h K = octroilaw17_BabelLeast_r2 env h K := rfl

/-- law.go:110 -/
def octroilaw17_BabelLeast_r3 (env : Env) (h : Hp) (K : Env → Hp → Prop) : Prop :=
  rd Try.prog (Op.unary Go.UnOp.not (env 9)) noHp fun v27_1 =>
  gd (yb v27_1 == some false) (fun h k => k (env 10) h) h fun v29_3 h1 =>
  gd (yb v27_1 == some false) (fun h k => rd Try.prog (bop Go.BinOp.eql 26 (Go.Operand.tmp 29) (Go.Operand.const (Go.Value.pointer none)) v29_3 (Go.Value.pointer none)) noHp fun v => k v h) h1 fun v30_4 h2 =>
  rd Try.prog (pck v27_1 (Go.Value.bool true) v30_4) noHp fun v31_5 =>
  gd (yb v31_5 == some false) (fun h k => k (env 1) h) h2 fun v33_7 h3 =>
  gd (yb v31_5 == some false) (fun h k => rd Try.prog (Builtin.len_ #[44] 3 #[v33_7]) h fun v => k v h) h3 fun v34_8 h4 =>
  gd (yb v31_5 == some false) (fun h k => rd Try.prog (bop Go.BinOp.gtr 3 (Go.Operand.tmp 34) (Go.Operand.const (Go.Value.int Go.IntKind.i64 150)) v34_8 (Go.Value.int Go.IntKind.i64 150)) noHp fun v => k v h) h4 fun v35_9 h5 =>
  rd Try.prog (pck v31_5 (Go.Value.bool true) v35_9) noHp fun v36_10 =>
  K (((((((((((env.set 26 (env 9)).set 27 v27_1).set 28 v27_1).set 29 v29_3).set 30 v30_4).set 31 v31_5).set 32 v31_5).set 33 v33_7).set 34 v34_8).set 35 v35_9).set 36 v36_10) h5
@[congr] theorem octroilaw17_BabelLeast_r3_congr {env : Env} {h : Hp} {K : Env → Hp → Prop} : octroilaw17_BabelLeast_r3 env h K = octroilaw17_BabelLeast_r3 env h K := rfl

/-- law.go:111 -/
def octroilaw17_BabelLeast_r4 (env : Env) (h : Hp) (K : Env → Hp → Prop) : Prop :=
  gd (yb (env 9) == some true) (fun h k => k (env 10) h) h fun v39_2 h1 =>
  gd (yb (env 9) == some true) (fun h k => rd Try.prog (bop Go.BinOp.neq 26 (Go.Operand.tmp 39) (Go.Operand.const (Go.Value.pointer none)) v39_2 (Go.Value.pointer none)) noHp fun v => k v h) h1 fun v40_3 h2 =>
  rd Try.prog (pck (env 9) v40_3 (Go.Value.bool false)) noHp fun v41_4 =>
  K ((((((env.set 37 (env 9)).set 38 (env 9)).set 39 v39_2).set 40 v40_3).set 41 v41_4).set 8 v41_4) h2
@[congr] theorem octroilaw17_BabelLeast_r4_congr {env : Env} {h : Hp} {K : Env → Hp → Prop} : octroilaw17_BabelLeast_r4 env h K = octroilaw17_BabelLeast_r4 env h K := rfl

/-- law.go:113 -/
def octroilaw17_BabelLeast_r5 (env : Env) (h : Hp) (K : Env → Hp → Prop) : Prop :=
  K (env.set 11 (Go.Value.int Go.IntKind.i64 0)) h
@[congr] theorem octroilaw17_BabelLeast_r5_congr {env : Env} {h : Hp} {K : Env → Hp → Prop} : octroilaw17_BabelLeast_r5 env h K = octroilaw17_BabelLeast_r5 env h K := rfl

/-- law.go:113 -/
def octroilaw17_BabelLeast_r6 (env : Env) (h : Hp) (K : Env → Hp → Prop) : Prop :=
  rd Try.prog (Builtin.len_ #[44] 3 #[(env 1)]) h fun v44_2 =>
  rd Try.prog (bop Go.BinOp.lss 3 (Go.Operand.tmp 42) (Go.Operand.tmp 44) (env 11) v44_2) noHp fun v45_3 =>
  K ((((env.set 42 (env 11)).set 43 (env 1)).set 44 v44_2).set 45 v45_3) h
@[congr] theorem octroilaw17_BabelLeast_r6_congr {env : Env} {h : Hp} {K : Env → Hp → Prop} : octroilaw17_BabelLeast_r6 env h K = octroilaw17_BabelLeast_r6 env h K := rfl

/-- law.go:114 -/
def octroilaw17_BabelLeast_r7 (env : Env) (h : Hp) (K : Env → Hp → Prop) : Prop :=
  rd Try.prog (Instr.loadAt 24 (env 6)) h fun v50_1 =>
  Ok Try.prog 20 #[(env 10), v50_1, (env 3)] h fun v52_3 h1 =>
  rd Try.prog (Instr.extract v52_3 0) noHp fun v53_5 =>
  rd Try.prog (Instr.extract v52_3 1) noHp fun v54_6 =>
  rd Try.prog (Instr.extract v52_3 2) noHp fun v55_7 =>
  K (((((((((((env.set 49 (env 10)).set 50 v50_1).set 51 (env 3)).set 52 v52_3).set 48 v52_3).set 53 v53_5).set 54 v54_6).set 55 v55_7).set 12 v53_5).set 13 v54_6).set 14 v55_7) h1
@[congr] theorem octroilaw17_BabelLeast_r7_congr {env : Env} {h : Hp} {K : Env → Hp → Prop} : octroilaw17_BabelLeast_r7 env h K = octroilaw17_BabelLeast_r7 env h K := rfl

/-- law.go:115 -/
def octroilaw17_BabelLeast_r8 (env : Env) (h : Hp) (K : Env → Hp → Prop) : Prop :=
  rd Try.prog (Instr.indexAt 44 (env 1) (env 11)) noHp fun v59_3 =>
  rd Try.prog (Instr.loadAt 47 v59_3) h fun v60_4 =>
  Ok Try.prog 16 #[(env 10), v60_4] h fun v61_5 h1 =>
  K (((((((env.set 56 (env 10)).set 57 (env 1)).set 58 (env 11)).set 59 v59_3).set 60 v60_4).set 61 v61_5).set 15 v61_5) h1
@[congr] theorem octroilaw17_BabelLeast_r8_congr {env : Env} {h : Hp} {K : Env → Hp → Prop} : octroilaw17_BabelLeast_r8 env h K = octroilaw17_BabelLeast_r8 env h K := rfl

/-- law.go:116 -/
def octroilaw17_BabelLeast_r9 (env : Env) (h : Hp) (K : Env → Hp → Prop) : Prop :=
  rd Try.prog (Instr.loadAt 24 (env 6)) h fun v64_1 =>
  Ok Try.prog 20 #[(env 10), v64_1, (env 3)] h fun v66_3 h1 =>
  rd Try.prog (Instr.extract v66_3 0) noHp fun v67_5 =>
  rd Try.prog (Instr.extract v66_3 1) noHp fun v68_6 =>
  rd Try.prog (Instr.extract v66_3 2) noHp fun v69_7 =>
  K (((((((((((env.set 63 (env 10)).set 64 v64_1).set 65 (env 3)).set 66 v66_3).set 62 v66_3).set 67 v67_5).set 68 v68_6).set 69 v69_7).set 16 v67_5).set 17 v68_6).set 18 v69_7) h1
@[congr] theorem octroilaw17_BabelLeast_r9_congr {env : Env} {h : Hp} {K : Env → Hp → Prop} : octroilaw17_BabelLeast_r9 env h K = octroilaw17_BabelLeast_r9 env h K := rfl

/-- law.go:117 -/
def octroilaw17_BabelLeast_r10 (env : Env) (h : Hp) (K : Env → Hp → Prop) : Prop :=
  gd (yb (env 14) == some true) (fun h k => k (env 18) h) h fun v72_2 h1 =>
  gd (yb (env 14) == some true) (fun h k => rd Try.prog (Op.unary Go.UnOp.not v72_2) noHp fun v => k v h) h1 fun v73_3 h2 =>
  gd (yb (env 14) == some true) (fun h k => k v73_3 h) h2 fun v74_4 h3 =>
  gd (yb v74_4 == some false) (fun h k => k (env 16) h) h3 fun v75_5 h4 =>
  gd (yb v74_4 == some false) (fun h k => k (env 12) h) h4 fun v76_6 h5 =>
  gd (yb v74_4 == some false) (fun h k => rd Try.prog (bop Go.BinOp.neq 29 (Go.Operand.tmp 75) (Go.Operand.tmp 76) v75_5 v76_6) noHp fun v => k v h) h5 fun v77_7 h6 =>
  gd (yb v74_4 == some false) (fun h k => k v77_7 h) h6 fun v78_8 h7 =>
  gd (yb v78_8 == some true) (fun h k => k (env 16) h) h7 fun v79_9 h8 =>
  gd (yb v78_8 == some true) (fun h k => k (env 12) h) h8 fun v80_10 h9 =>
  gd (yb v78_8 == some true) (fun h k => Ok Try.prog 21 #[v79_9, v80_10] h k) h9 fun v81_11 h10 =>
  gd (yb v78_8 == some true) (fun h k => rd Try.prog (Op.unary Go.UnOp.not v81_11) noHp fun v => k v h) h10 fun v82_12 h11 =>
  gd (yb v74_4 == some false) (fun h k => rd Try.prog (pck v78_8 v82_12 (Go.Value.bool false)) noHp fun v => k v h) h11 fun v83_13 h12 =>
  gd (yb (env 14) == some true) (fun h k => rd Try.prog (pck v74_4 (Go.Value.bool true) v83_13) noHp fun v => k v h) h12 fun v84_14 h13 =>
  gd (yb (env 14) == some true) (fun h k => k v84_14 h) h13 fun v85_15 h14 =>
  gd (yb v85_15 == some false) (fun h k => k (env 16) h) h14 fun v86_16 h15 =>
  gd (yb v85_15 == some false) (fun h k => k (env 12) h) h15 fun v87_17 h16 =>
  gd (yb v85_15 == some false) (fun h k => rd Try.prog (bop Go.BinOp.eql 29 (Go.Operand.tmp 86) (Go.Operand.tmp 87) v86_16 v87_17) noHp fun v => k v h) h16 fun v88_18 h17 =>
  gd (yb v85_15 == some false) (fun h k => k v88_18 h) h17 fun v89_19 h18 =>
  gd (yb v89_19 == some true) (fun h k => k (env 17) h) h18 fun v90_20 h19 =>
  gd (yb v89_19 == some true) (fun h k => k (env 13) h) h19 fun v91_21 h20 =>
  gd (yb v89_19 == some true) (fun h k => rd Try.prog (bop Go.BinOp.gtr 3 (Go.Operand.tmp 90) (Go.Operand.tmp 91) v90_20 v91_21) noHp fun v => k v h) h20 fun v92_22 h21 =>
  gd (yb v85_15 == some false) (fun h k => rd Try.prog (pck v89_19 v92_22 (Go.Value.bool false)) noHp fun v => k v h) h21 fun v93_23 h22 =>
  gd (yb (env 14) == some true) (fun h k => rd Try.prog (pck v85_15 (Go.Value.bool true) v93_23) noHp fun v => k v h) h22 fun v94_24 h23 =>
  rd Try.prog (pck (env 14) v94_24 (Go.Value.bool false)) noHp fun v95_25 =>
  K ((((((((((((((((((((((((((env.set 70 (env 14)).set 71 (env 14)).set 72 v72_2).set 73 v73_3).set 74 v74_4).set 75 v75_5).set 76 v76_6).set 77 v77_7).set 78 v78_8).set 79 v79_9).set 80 v80_10).set 81 v81_11).set 82 v82_12).set 83 v83_13).set 84 v84_14).set 85 v85_15).set 86 v86_16).set 87 v87_17).set 88 v88_18).set 89 v89_19).set 90 v90_20).set 91 v91_21).set 92 v92_22).set 93 v93_23).set 94 v94_24).set 95 v95_25) h23
@[congr] theorem octroilaw17_BabelLeast_r10_congr {env : Env} {h : Hp} {K : Env → Hp → Prop} : octroilaw17_BabelLeast_r10 env h K = octroilaw17_BabelLeast_r10 env h K := rfl

/-- law.go:118 -/
def octroilaw17_BabelLeast_r11 (env : Env) (h : Hp) (K : Env → Hp → Prop) : Prop :=
  K (env.set 8 (Go.Value.bool false)) h
@[congr] theorem octroilaw17_BabelLeast_r11_congr {env : Env} {h : Hp} {K : Env → Hp → Prop} : octroilaw17_BabelLeast_r11 env h K = octroilaw17_BabelLeast_r11 env h K := rfl

/-- law.go:120 -/
def octroilaw17_BabelLeast_r12 (env : Env) (h : Hp) (K : Env → Hp → Prop) : Prop :=
  K (env.set 19 (Go.Value.int Go.IntKind.i64 0)) h
@[congr] theorem octroilaw17_BabelLeast_r12_congr {env : Env} {h : Hp} {K : Env → Hp → Prop} : octroilaw17_BabelLeast_r12 env h K = octroilaw17_BabelLeast_r12 env h K := rfl

/-- law.go:120 -/
def octroilaw17_BabelLeast_r13 (env : Env) (h : Hp) (K : Env → Hp → Prop) : Prop :=
  rd Try.prog (Builtin.len_ #[40] 3 #[(env 15)]) h fun v98_2 =>
  rd Try.prog (bop Go.BinOp.lss 3 (Go.Operand.tmp 96) (Go.Operand.tmp 98) (env 19) v98_2) noHp fun v99_3 =>
  K ((((env.set 96 (env 19)).set 97 (env 15)).set 98 v98_2).set 99 v99_3) h
@[congr] theorem octroilaw17_BabelLeast_r13_congr {env : Env} {h : Hp} {K : Env → Hp → Prop} : octroilaw17_BabelLeast_r13 env h K = octroilaw17_BabelLeast_r13 env h K := rfl

/-- law.go:121 (in any order) -/
def octroilaw17_BabelLeast_r14 (env : Env) (h : Hp) (K : Env → Hp → Prop) : Prop :=
  rd Try.prog (Instr.indexAt 40 (env 15) (env 19)) noHp fun v106_3 =>
  rd Try.prog (Instr.fieldAt 31 v106_3 4) noHp fun v107_4 =>
  rd Try.prog (Instr.loadAt 24 v107_4) h fun v108_5 =>
  rd Try.prog (Instr.indexAt 40 (env 15) (env 19)) noHp fun v111_8 =>
  rd Try.prog (Instr.fieldAt 31 v111_8 5) noHp fun v112_9 =>
  rd Try.prog (Instr.loadAt 28 v112_9) h fun v113_10 =>
  Ok Try.prog 20 #[(env 10), v108_5, v113_10] h fun v114_11 h1 =>
  (True) ∧
  rd Try.prog (Instr.extract v114_11 0) noHp fun v115_13 =>
  rd Try.prog (Instr.extract v114_11 1) noHp fun v116_14 =>
  rd Try.prog (Instr.extract v114_11 2) noHp fun v117_15 =>
  K (((((((((((((((((((env.set 103 (env 10)).set 104 (env 15)).set 105 (env 19)).set 106 v106_3).set 107 v107_4).set 108 v108_5).set 109 (env 15)).set 110 (env 19)).set 111 v111_8).set 112 v112_9).set 113 v113_10).set 114 v114_11).set 102 v114_11).set 115 v115_13).set 116 v116_14).set 117 v117_15).set 20 v115_13).set 21 v116_14).set 22 v117_15) h1
@[congr] theorem octroilaw17_BabelLeast_r14_congr {env : Env} {h : Hp} {K : Env → Hp → Prop} : octroilaw17_BabelLeast_r14 env h K = octroilaw17_BabelLeast_r14 env h K := rfl

/-- law.go:122 -/
def octroilaw17_BabelLeast_r15 (env : Env) (h : Hp) (K : Env → Hp → Prop) : Prop :=
  rd Try.prog (Instr.indexAt 40 (env 15) (env 19)) noHp fun v120_2 =>
  rd Try.prog (Instr.fieldAt 31 v120_2 3) noHp fun v121_3 =>
  rd Try.prog (Instr.loadAt 3 v121_3) h fun v122_4 =>
  rd Try.prog (bop Go.BinOp.lss 3 (Go.Operand.tmp 122) (Go.Operand.const (Go.Value.int Go.IntKind.i64 65535)) v122_4 (Go.Value.int Go.IntKind.i64 65535)) noHp fun v123_5 =>
  gd (yb v123_5 == some true) (fun h k => k (env 22) h) h fun v125_7 h1 =>
  gd (yb v123_5 == some true) (fun h k => rd Try.prog (Op.unary Go.UnOp.not v125_7) noHp fun v => k v h) h1 fun v126_8 h2 =>
  gd (yb v123_5 == some true) (fun h k => k v126_8 h) h2 fun v127_9 h3 =>
  gd (yb v127_9 == some false) (fun h k => k (env 15) h) h3 fun v128_10 h4 =>
  gd (yb v127_9 == some false) (fun h k => k (env 19) h) h4 fun v129_11 h5 =>
  gd (yb v127_9 == some false) (fun h k => rd Try.prog (Instr.indexAt 40 v128_10 v129_11) noHp fun v => k v h) h5 fun v130_12 h6 =>
  gd (yb v127_9 == some false) (fun h k => rd Try.prog (Instr.fieldAt 31 v130_12 1) noHp fun v => k v h) h6 fun v131_13 h7 =>
  gd (yb v127_9 == some false) (fun h k => rd Try.prog (Instr.loadAt 29 v131_13) h fun v => k v h) h7 fun v132_14 h8 =>
  gd (yb v127_9 == some false) (fun h k => k (env 20) h) h8 fun v133_15 h9 =>
  gd (yb v127_9 == some false) (fun h k => Ok Try.prog 21 #[v132_14, v133_15] h k) h9 fun v134_16 h10 =>
  gd (yb v123_5 == some true) (fun h k => rd Try.prog (pck v127_9 (Go.Value.bool true) v134_16) noHp fun v => k v h) h10 fun v135_17 h11 =>
  gd (yb v123_5 == some true) (fun h k => k v135_17 h) h11 fun v136_18 h12 =>
  gd (yb v136_18 == some false) (fun h k => k (env 15) h) h12 fun v137_19 h13 =>
  gd (yb v136_18 == some false) (fun h k => k (env 19) h) h13 fun v138_20 h14 =>
  gd (yb v136_18 == some false) (fun h k => rd Try.prog (Instr.indexAt 40 v137_19 v138_20) noHp fun v => k v h) h14 fun v139_21 h15 =>
  gd (yb v136_18 == some false) (fun h k => rd Try.prog (Instr.fieldAt 31 v139_21 1) noHp fun v => k v h) h15 fun v140_22 h16 =>
  gd (yb v136_18 == some false) (fun h k => rd Try.prog (Instr.loadAt 29 v140_22) h fun v => k v h) h16 fun v141_23 h17 =>
  gd (yb v136_18 == some false) (fun h k => k (env 20) h) h17 fun v142_24 h18 =>
  gd (yb v136_18 == some false) (fun h k => rd Try.prog (bop Go.BinOp.eql 29 (Go.Operand.tmp 141) (Go.Operand.tmp 142) v141_23 v142_24) noHp fun v => k v h) h18 fun v143_25 h19 =>
  gd (yb v136_18 == some false) (fun h k => k v143_25 h) h19 fun v144_26 h20 =>
  gd (yb v144_26 == some true) (fun h k => k (env 15) h) h20 fun v145_27 h21 =>
  gd (yb v144_26 == some true) (fun h k => k (env 19) h) h21 fun v146_28 h22 =>
  gd (yb v144_26 == some true) (fun h k => rd Try.prog (Instr.indexAt 40 v145_27 v146_28) noHp fun v => k v h) h22 fun v147_29 h23 =>
  gd (yb v144_26 == some true) (fun h k => rd Try.prog (Instr.fieldAt 31 v147_29 3) noHp fun v => k v h) h23 fun v148_30 h24 =>
  gd (yb v144_26 == some true) (fun h k => rd Try.prog (Instr.loadAt 3 v148_30) h fun v => k v h) h24 fun v149_31 h25 =>
  gd (yb v144_26 == some true) (fun h k => k (env 21) h) h25 fun v150_32 h26 =>
  gd (yb v144_26 == some true) (fun h k => rd Try.prog (bop Go.BinOp.lss 3 (Go.Operand.tmp 149) (Go.Operand.tmp 150) v149_31 v150_32) noHp fun v => k v h) h26 fun v151_33 h27 =>
  gd (yb v136_18 == some false) (fun h k => rd Try.prog (pck v144_26 v151_33 (Go.Value.bool false)) noHp fun v => k v h) h27 fun v152_34 h28 =>
  gd (yb v123_5 == some true) (fun h k => rd Try.prog (pck v136_18 (Go.Value.bool true) v152_34) noHp fun v => k v h) h28 fun v153_35 h29 =>
  rd Try.prog (pck v123_5 v153_35 (Go.Value.bool false)) noHp fun v154_36 =>
  K (((((((((((((((((((((((((((((((((((((env.set 118 (env 15)).set 119 (env 19)).set 120 v120_2).set 121 v121_3).set 122 v122_4).set 123 v123_5).set 124 v123_5).set 125 v125_7).set 126 v126_8).set 127 v127_9).set 128 v128_10).set 129 v129_11).set 130 v130_12).set 131 v131_13).set 132 v132_14).set 133 v133_15).set 134 v134_16).set 135 v135_17).set 136 v136_18).set 137 v137_19).set 138 v138_20).set 139 v139_21).set 140 v140_22).set 141 v141_23).set 142 v142_24).set 143 v143_25).set 144 v144_26).set 145 v145_27).set 146 v146_28).set 147 v147_29).set 148 v148_30).set 149 v149_31).set 150 v150_32).set 151 v151_33).set 152 v152_34).set 153 v153_35).set 154 v154_36) h29
@[congr] theorem octroilaw17_BabelLeast_r15_congr {env : Env} {h : Hp} {K : Env → Hp → Prop} : octroilaw17_BabelLeast_r15 env h K = octroilaw17_BabelLeast_r15 env h K := rfl

/-- law.go:123 -/
def octroilaw17_BabelLeast_r16 (env : Env) (h : Hp) (K : Env → Hp → Prop) : Prop :=
  K (env.set 8 (Go.Value.bool false)) h
@[congr] theorem octroilaw17_BabelLeast_r16_congr {env : Env} {h : Hp} {K : Env → Hp → Prop} : octroilaw17_BabelLeast_r16 env h K = octroilaw17_BabelLeast_r16 env h K := rfl

/-- law.go:120 -/
def octroilaw17_BabelLeast_r17 (env : Env) (h : Hp) (K : Env → Hp → Prop) : Prop :=
  rd Try.prog (bop Go.BinOp.add 3 (Go.Operand.tmp 100) (Go.Operand.const (Go.Value.int Go.IntKind.i64 1)) (env 19) (Go.Value.int Go.IntKind.i64 1)) noHp fun v101_1 =>
  K (((env.set 100 (env 19)).set 101 v101_1).set 19 v101_1) h
@[congr] theorem octroilaw17_BabelLeast_r17_congr {env : Env} {h : Hp} {K : Env → Hp → Prop} : octroilaw17_BabelLeast_r17 env h K = octroilaw17_BabelLeast_r17 env h K := rfl

def octroilaw17_BabelLeast_L0 : Den := (sq (sq (rg octroilaw17_BabelLeast_r13) (cnd (Go.Operand.tmp 99) (ex .normal) (ex (.exit 2)))) (sq (blk 3 (sq (rg octroilaw17_BabelLeast_r14) (sq (rg octroilaw17_BabelLeast_r15) (cnd (Go.Operand.tmp 154) (sq (rg octroilaw17_BabelLeast_r16) (ex .ret)) (ex .normal))))) (rg octroilaw17_BabelLeast_r17)))

/-- law.go:113 -/
def octroilaw17_BabelLeast_r18 (env : Env) (h : Hp) (K : Env → Hp → Prop) : Prop :=
  rd Try.prog (bop Go.BinOp.add 3 (Go.Operand.tmp 46) (Go.Operand.const (Go.Value.int Go.IntKind.i64 1)) (env 11) (Go.Value.int Go.IntKind.i64 1)) noHp fun v47_1 =>
  K (((env.set 46 (env 11)).set 47 v47_1).set 11 v47_1) h
@[congr] theorem octroilaw17_BabelLeast_r18_congr {env : Env} {h : Hp} {K : Env → Hp → Prop} : octroilaw17_BabelLeast_r18 env h K = octroilaw17_BabelLeast_r18 env h K := rfl

def octroilaw17_BabelLeast_L1 : Den := (sq (sq (rg octroilaw17_BabelLeast_r6) (cnd (Go.Operand.tmp 45) (ex .normal) (ex (.exit 0)))) (sq (blk 1 (sq (rg octroilaw17_BabelLeast_r7) (sq (rg octroilaw17_BabelLeast_r8) (sq (rg octroilaw17_BabelLeast_r9) (sq (sq (rg octroilaw17_BabelLeast_r10) (cnd (Go.Operand.tmp 95) (sq (rg octroilaw17_BabelLeast_r11) (ex .ret)) (ex .normal))) (sq (rg octroilaw17_BabelLeast_r12) (blk 2 (lp octroilaw17_BabelLeast_L0)))))))) (rg octroilaw17_BabelLeast_r18)))

/-- law.go:127 -/
def octroilaw17_BabelLeast_r19 (env : Env) (h : Hp) (K : Env → Hp → Prop) : Prop :=
  K (env.set 8 (Go.Value.bool true)) h
@[congr] theorem octroilaw17_BabelLeast_r19_congr {env : Env} {h : Hp} {K : Env → Hp → Prop} : octroilaw17_BabelLeast_r19 env h K = octroilaw17_BabelLeast_r19 env h K := rfl

def octroilaw17_BabelLeast_D : Den := (sq (rg octroilaw17_BabelLeast_r0) (sq (rg octroilaw17_BabelLeast_r1) (sq (rg octroilaw17_BabelLeast_r2) (sq (sq (rg octroilaw17_BabelLeast_r3) (cnd (Go.Operand.tmp 36) (sq (rg octroilaw17_BabelLeast_r4) (ex .ret)) (ex .normal))) (sq (sq (rg octroilaw17_BabelLeast_r5) (blk 0 (lp octroilaw17_BabelLeast_L1))) (sq (rg octroilaw17_BabelLeast_r19) (ex .ret)))))))

theorem octroilaw17_BabelLeast_eq : (den Try.prog 155 octroilaw17_BabelLeast_code).1 = octroilaw17_BabelLeast_D := by kernel_rfl

theorem octroilaw17_BabelLeast_ok {args : Array Value} {h : Hp} {Q : Value → Hp → Prop} (hn : args.size ≤ 155) (D : octroilaw17_BabelLeast_D (fin Try.prog [(Go.ResultVar.tmp 8)] Q) (env0 args) h) : Ok Try.prog 7 args h Q :=
  ok_of_den progIsOk Try.func7 (c := octroilaw17_BabelLeast_code) (by kernel_rfl) hn (by show (den Try.prog 155 octroilaw17_BabelLeast_code).1 _ _ _; rw [octroilaw17_BabelLeast_eq]; exact D)

/-! ### octroi/octroilaw17.BabelFeasible: function 8 -/
noncomputable def octroilaw17_BabelFeasible_code : Code := match Try.f8.body with | some c => c | none => .skip

/-- law.go:131 -/
def octroilaw17_BabelFeasible_r0 (env : Env) (h : Hp) (K : Env → Hp → Prop) : Prop :=
  K (env.set 4 (Go.Value.bool false)) h
@[congr] theorem octroilaw17_BabelFeasible_r0_congr {env : Env} {h : Hp} {K : Env → Hp → Prop} : octroilaw17_BabelFeasible_r0 env h K = octroilaw17_BabelFeasible_r0 env h K := rfl

/-- law.go:132 -/
def octroilaw17_BabelFeasible_r1 (env : Env) (h : Hp) (K : Env → Hp → Prop) : Prop :=
  Ok Try.prog 10 #[] h fun v19_0 h1 =>
  K ((env.set 19 v19_0).set 5 v19_0) h1
@[congr] theorem octroilaw17_BabelFeasible_r1_congr {env : Env} {h : Hp} {K : Env → Hp → Prop} : octroilaw17_BabelFeasible_r1 env h K = octroilaw17_BabelFeasible_r1 env h K := rfl

/-- law.go:133 -/
def octroilaw17_BabelFeasible_r2 (env : Env) (h : Hp) (K : Env → Hp → Prop) : Prop :=
  Ok Try.prog 11 #[(env 0), (Go.Value.int Go.IntKind.i64 0), (Go.Value.int Go.IntKind.i64 64)] h fun v21_1 h1 =>
  K (((env.set 20 (env 0)).set 21 v21_1).set 6 v21_1) h1
@[congr] theorem octroilaw17_BabelFeasible_r2_congr {env : Env} {h : Hp} {K : Env → Hp → Prop} : octroilaw17_BabelFeasible_r2 env h K = octroilaw17_BabelFeasible_r2 env h K := rfl

/-- law.go:134 -/
def octroilaw17_BabelFeasible_r3 (env : Env) (h : Hp) (K : Env → Hp → Prop) : Prop :=
  rd Try.prog (Op.unary Go.UnOp.not (env 5)) noHp fun v23_1 =>
  gd (yb v23_1 == some false) (fun h k => k (env 6) h) h fun v25_3 h1 =>
  gd (yb v23_1 == some false) (fun h k => rd Try.prog (bop Go.BinOp.eql 26 (Go.Operand.tmp 25) (Go.Operand.const (Go.Value.pointer none)) v25_3 (Go.Value.pointer none)) noHp fun v => k v h) h1 fun v26_4 h2 =>
  rd Try.prog (pck v23_1 (Go.Value.bool true) v26_4) noHp fun v27_5 =>
  gd (yb v27_5 == some false) (fun h k => k (env 1) h) h2 fun v29_7 h3 =>
  gd (yb v27_5 == some false) (fun h k => rd Try.prog (Builtin.len_ #[44] 3 #[v29_7]) h fun v => k v h) h3 fun v30_8 h4 =>
  gd (yb v27_5 == some false) (fun h k => rd Try.prog (bop Go.BinOp.gtr 3 (Go.Operand.tmp 30) (Go.Operand.const (Go.Value.int Go.IntKind.i64 150)) v30_8 (Go.Value.int Go.IntKind.i64 150)) noHp fun v => k v h) h4 fun v31_9 h5 =>
  rd Try.prog (pck v27_5 (Go.Value.bool true) v31_9) noHp fun v32_10 =>
  K (((((((((((env.set 22 (env 5)).set 23 v23_1).set 24 v23_1).set 25 v25_3).set 26 v26_4).set 27 v27_5).set 28 v27_5).set 29 v29_7).set 30 v30_8).set 31 v31_9).set 32 v32_10) h5
@[congr] theorem octroilaw17_BabelFeasible_r3_congr {env : Env} {h : Hp} {K : Env → Hp → Prop} : octroilaw17_BabelFeasible_r3 env h K = octroilaw17_BabelFeasible_r3 env h K := rfl

/-- law.go:135 -/
def octroilaw17_BabelFeasible_r4 (env : Env) (h : Hp) (K : Env → Hp → Prop) : Prop :=
  gd (yb (env 5) == some true) (fun h k => k (env 6) h) h fun v35_2 h1 =>
  gd (yb (env 5) == some true) (fun h k => rd Try.prog (bop Go.BinOp.neq 26 (Go.Operand.tmp 35) (Go.Operand.const (Go.Value.pointer none)) v35_2 (Go.Value.pointer none)) noHp fun v => k v h) h1 fun v36_3 h2 =>
  rd Try.prog (pck (env 5) v36_3 (Go.Value.bool false)) noHp fun v37_4 =>
  K ((((((env.set 33 (env 5)).set 34 (env 5)).set 35 v35_2).set 36 v36_3).set 37 v37_4).set 4 v37_4) h2
@[congr] theorem octroilaw17_BabelFeasible_r4_congr {env : Env} {h : Hp} {K : Env → Hp → Prop} : octroilaw17_BabelFeasible_r4 env h K = octroilaw17_BabelFeasible_r4 env h K := rfl

/-- law.go:137 -/
def octroilaw17_BabelFeasible_r5 (env : Env) (h : Hp) (K : Env → Hp → Prop) : Prop :=
  K (env.set 7 (Go.Value.int Go.IntKind.i64 0)) h
@[congr] theorem octroilaw17_BabelFeasible_r5_congr {env : Env} {h : Hp} {K : Env → Hp → Prop} : octroilaw17_BabelFeasible_r5 env h K = octroilaw17_BabelFeasible_r5 env h K := rfl

/-- law.go:137 -/
def octroilaw17_BabelFeasible_r6 (env : Env) (h : Hp) (K : Env → Hp → Prop) : Prop :=
  rd Try.prog (Builtin.len_ #[44] 3 #[(env 1)]) h fun v40_2 =>
  rd Try.prog (bop Go.BinOp.lss 3 (Go.Operand.tmp 38) (Go.Operand.tmp 40) (env 7) v40_2) noHp fun v41_3 =>
  K ((((env.set 38 (env 7)).set 39 (env 1)).set 40 v40_2).set 41 v41_3) h
@[congr] theorem octroilaw17_BabelFeasible_r6_congr {env : Env} {h : Hp} {K : Env → Hp → Prop} : octroilaw17_BabelFeasible_r6 env h K = octroilaw17_BabelFeasible_r6 env h K := rfl

/-- law.go:138 -/
def octroilaw17_BabelFeasible_r7 (env : Env) (h : Hp) (K : Env → Hp → Prop) : Prop :=
  rd Try.prog (Instr.indexAt 44 (env 1) (env 7)) noHp fun v47_3 =>
  rd Try.prog (Instr.loadAt 47 v47_3) h fun v48_4 =>
  Ok Try.prog 16 #[(env 6), v48_4] h fun v49_5 h1 =>
  K ((((((env.set 44 (env 6)).set 45 (env 1)).set 46 (env 7)).set 47 v47_3).set 48 v48_4).set 49 v49_5) h1
@[congr] theorem octroilaw17_BabelFeasible_r7_congr {env : Env} {h : Hp} {K : Env → Hp → Prop} : octroilaw17_BabelFeasible_r7 env h K = octroilaw17_BabelFeasible_r7 env h K := rfl

/-- law.go:139 -/
def octroilaw17_BabelFeasible_r8 (env : Env) (h : Hp) (K : Env → Hp → Prop) : Prop :=
  Ok Try.prog 13 #[(env 6)] h fun v51_1 h1 =>
  K (((env.set 50 (env 6)).set 51 v51_1).set 8 v51_1) h1
@[congr] theorem octroilaw17_BabelFeasible_r8_congr {env : Env} {h : Hp} {K : Env → Hp → Prop} : octroilaw17_BabelFeasible_r8 env h K = octroilaw17_BabelFeasible_r8 env h K := rfl

/-- law.go:140 -/
def octroilaw17_BabelFeasible_r9 (env : Env) (h : Hp) (K : Env → Hp → Prop) : Prop :=
  K (env.set 9 (Go.Value.int Go.IntKind.i64 0)) h
@[congr] theorem octroilaw17_BabelFeasible_r9_congr {env : Env} {h : Hp} {K : Env → Hp → Prop} : octroilaw17_BabelFeasible_r9 env h K = octroilaw17_BabelFeasible_r9 env h K := rfl

/-- law.go:140 -/
def octroilaw17_BabelFeasible_r10 (env : Env) (h : Hp) (K : Env → Hp → Prop) : Prop :=
  rd Try.prog (Builtin.len_ #[35] 3 #[(env 8)]) h fun v54_2 =>
  rd Try.prog (bop Go.BinOp.lss 3 (Go.Operand.tmp 52) (Go.Operand.tmp 54) (env 9) v54_2) noHp fun v55_3 =>
  K ((((env.set 52 (env 9)).set 53 (env 8)).set 54 v54_2).set 55 v55_3) h
@[congr] theorem octroilaw17_BabelFeasible_r10_congr {env : Env} {h : Hp} {K : Env → Hp → Prop} : octroilaw17_BabelFeasible_r10 env h K = octroilaw17_BabelFeasible_r10 env h K := rfl

/-- law.go:141 -/
def octroilaw17_BabelFeasible_r11 (env : Env) (h : Hp) (K : Env → Hp → Prop) : Prop :=
  rd Try.prog (Instr.indexAt 35 (env 8) (env 9)) noHp fun v60_2 =>
  rd Try.prog (Instr.fieldAt 38 v60_2 4) noHp fun v61_3 =>
  rd Try.prog (Instr.loadAt 3 v61_3) h fun v62_4 =>
  rd Try.prog (bop Go.BinOp.eql 3 (Go.Operand.tmp 62) (Go.Operand.const (Go.Value.int Go.IntKind.i64 0)) v62_4 (Go.Value.int Go.IntKind.i64 0)) noHp fun v63_5 =>
  K ((((((env.set 58 (env 8)).set 59 (env 9)).set 60 v60_2).set 61 v61_3).set 62 v62_4).set 63 v63_5) h
@[congr] theorem octroilaw17_BabelFeasible_r11_congr {env : Env} {h : Hp} {K : Env → Hp → Prop} : octroilaw17_BabelFeasible_r11 env h K = octroilaw17_BabelFeasible_r11 env h K := rfl

/-- law.go:144 -/
def octroilaw17_BabelFeasible_r12 (env : Env) (h : Hp) (K : Env → Hp → Prop) : Prop :=
  rd Try.prog (Instr.indexAt 35 (env 8) (env 9)) noHp fun v68_3 =>
  rd Try.prog (Instr.fieldAt 38 v68_3 0) noHp fun v69_4 =>
  rd Try.prog (Instr.loadAt 24 v69_4) h fun v70_5 =>
  Ok Try.prog 22 #[(env 6), v70_5] h fun v71_6 h1 =>
  rd Try.prog (Instr.extract v71_6 0) noHp fun v72_8 =>
  rd Try.prog (Instr.extract v71_6 1) noHp fun v73_9 =>
  K ((((((((((((env.set 65 (env 6)).set 66 (env 8)).set 67 (env 9)).set 68 v68_3).set 69 v69_4).set 70 v70_5).set 71 v71_6).set 64 v71_6).set 72 v72_8).set 73 v73_9).set 10 v72_8).set 11 v73_9) h1
@[congr] theorem octroilaw17_BabelFeasible_r12_congr {env : Env} {h : Hp} {K : Env → Hp → Prop} : octroilaw17_BabelFeasible_r12 env h K = octroilaw17_BabelFeasible_r12 env h K := rfl

/-- law.go:145 -/
def octroilaw17_BabelFeasible_r13 (env : Env) (h : Hp) (K : Env → Hp → Prop) : Prop :=
  K (env.set 12 (Go.Value.bool false)) h
@[congr] theorem octroilaw17_BabelFeasible_r13_congr {env : Env} {h : Hp} {K : Env → Hp → Prop} : octroilaw17_BabelFeasible_r13 env h K = octroilaw17_BabelFeasible_r13 env h K := rfl

/-- law.go:146 -/
def octroilaw17_BabelFeasible_r14 (env : Env) (h : Hp) (K : Env → Hp → Prop) : Prop :=
  K (env.set 13 (Go.Value.int Go.IntKind.i64 0)) h
@[congr] theorem octroilaw17_BabelFeasible_r14_congr {env : Env} {h : Hp} {K : Env → Hp → Prop} : octroilaw17_BabelFeasible_r14 env h K = octroilaw17_BabelFeasible_r14 env h K := rfl

/-- law.go:146 -/
def octroilaw17_BabelFeasible_r15 (env : Env) (h : Hp) (K : Env → Hp → Prop) : Prop :=
  rd Try.prog (bop Go.BinOp.leq 3 (Go.Operand.tmp 74) (Go.Operand.tmp 75) (env 13) (env 7)) noHp fun v76_2 =>
  gd (yb v76_2 == some true) (fun h k => k (env 12) h) h fun v78_4 h1 =>
  gd (yb v76_2 == some true) (fun h k => rd Try.prog (Op.unary Go.UnOp.not v78_4) noHp fun v => k v h) h1 fun v79_5 h2 =>
  rd Try.prog (pck v76_2 v79_5 (Go.Value.bool false)) noHp fun v80_6 =>
  K (((((((env.set 74 (env 13)).set 75 (env 7)).set 76 v76_2).set 77 v76_2).set 78 v78_4).set 79 v79_5).set 80 v80_6) h2
@[congr] theorem octroilaw17_BabelFeasible_r15_congr {env : Env} {h : Hp} {K : Env → Hp → Prop} : octroilaw17_BabelFeasible_r15 env h K = octroilaw17_BabelFeasible_r15 env h K := rfl

/-- law.go:147 -/
def octroilaw17_BabelFeasible_r16 (env : Env) (h : Hp) (K : Env → Hp → Prop) : Prop :=
  rd Try.prog (Instr.indexAt 44 (env 1) (env 13)) noHp fun v85_2 =>
  rd Try.prog (Instr.fieldAt 47 v85_2 3) noHp fun v86_3 =>
  rd Try.prog (Instr.loadAt 31 v86_3) h fun v87_4 =>
  arun Try.prog (Instr.alloc 31 true (Go.Value.tuple #[])) h fun v14_5 h1 =>
  arun Try.prog (Instr.storeAt 31 v14_5 v87_4) h1 fun _ h2 =>
  K ((((((env.set 83 (env 1)).set 84 (env 13)).set 85 v85_2).set 86 v86_3).set 87 v87_4).set 14 v14_5) h2
@[congr] theorem octroilaw17_BabelFeasible_r16_congr {env : Env} {h : Hp} {K : Env → Hp → Prop} : octroilaw17_BabelFeasible_r16 env h K = octroilaw17_BabelFeasible_r16 env h K := rfl

/-- law.go:148 -/
def octroilaw17_BabelFeasible_r17 (env : Env) (h : Hp) (K : Env → Hp → Prop) : Prop :=
  rd Try.prog (Instr.indexAt 35 (env 8) (env 9)) noHp fun v92_3 =>
  rd Try.prog (Instr.fieldAt 38 v92_3 0) noHp fun v93_4 =>
  rd Try.prog (Instr.loadAt 24 v93_4) h fun v94_5 =>
  Ok Try.prog 20 #[(env 6), v94_5, (env 10)] h fun v96_7 h1 =>
  rd Try.prog (Instr.extract v96_7 0) noHp fun v97_9 =>
  rd Try.prog (Instr.extract v96_7 1) noHp fun v98_10 =>
  rd Try.prog (Instr.extract v96_7 2) noHp fun v99_11 =>
  K (((((((((((((((env.set 89 (env 6)).set 90 (env 8)).set 91 (env 9)).set 92 v92_3).set 93 v93_4).set 94 v94_5).set 95 (env 10)).set 96 v96_7).set 88 v96_7).set 97 v97_9).set 98 v98_10).set 99 v99_11).set 15 v97_9).set 16 v98_10).set 17 v99_11) h1
@[congr] theorem octroilaw17_BabelFeasible_r17_congr {env : Env} {h : Hp} {K : Env → Hp → Prop} : octroilaw17_BabelFeasible_r17 env h K = octroilaw17_BabelFeasible_r17 env h K := rfl

/-- law.go:149 (in any order) -/
def octroilaw17_BabelFeasible_r18 (env : Env) (h : Hp) (K : Env → Hp → Prop) : Prop :=
  rd Try.prog (Instr.indexAt 44 (env 1) (env 13)) noHp fun v102_2 =>
  rd Try.prog (Instr.fieldAt 47 v102_2 0) noHp fun v103_3 =>
  rd Try.prog (Instr.loadAt 3 v103_3) h fun v104_4 =>
  rd Try.prog (bop Go.BinOp.eql 3 (Go.Operand.tmp 104) (Go.Operand.const (Go.Value.int Go.IntKind.i64 3)) v104_4 (Go.Value.int Go.IntKind.i64 3)) noHp fun v105_5 =>
  gd (yb v105_5 == some true) (fun h k => k (env 1) h) h fun v107_7 h1 =>
  gd (yb v105_5 == some true) (fun h k => k (env 13) h) h1 fun v108_8 h2 =>
  gd (yb v105_5 == some true) (fun h k => rd Try.prog (Instr.indexAt 44 v107_7 v108_8) noHp fun v => k v h) h2 fun v109_9 h3 =>
  gd (yb v105_5 == some true) (fun h k => rd Try.prog (Instr.fieldAt 47 v109_9 1) noHp fun v => k v h) h3 fun v110_10 h4 =>
  gd (yb v105_5 == some true) (fun h k => rd Try.prog (Instr.loadAt 3 v110_10) h fun v => k v h) h4 fun v111_11 h5 =>
  gd (yb v105_5 == some true) (fun h k => k (env 8) h) h5 fun v112_12 h6 =>
  gd (yb v105_5 == some true) (fun h k => k (env 9) h) h6 fun v113_13 h7 =>
  gd (yb v105_5 == some true) (fun h k => rd Try.prog (Instr.indexAt 35 v112_12 v113_13) noHp fun v => k v h) h7 fun v114_14 h8 =>
  gd (yb v105_5 == some true) (fun h k => rd Try.prog (Instr.fieldAt 38 v114_14 4) noHp fun v => k v h) h8 fun v115_15 h9 =>
  gd (yb v105_5 == some true) (fun h k => rd Try.prog (Instr.loadAt 3 v115_15) h fun v => k v h) h9 fun v116_16 h10 =>
  gd (yb v105_5 == some true) (fun h k => rd Try.prog (bop Go.BinOp.eql 3 (Go.Operand.tmp 111) (Go.Operand.tmp 116) v111_11 v116_16) noHp fun v => k v h) h10 fun v117_17 h11 =>
  rd Try.prog (pck v105_5 v117_17 (Go.Value.bool false)) noHp fun v118_18 =>
  gd (yb v118_18 == some true) (fun h k => rd Try.prog (Instr.fieldAt 31 (env 14) 4) noHp fun v => k v h) h11 fun v120_20 h12 =>
  gd (yb v118_18 == some true) (fun h k => rd Try.prog (Instr.loadAt 24 v120_20) h fun v => k v h) h12 fun v121_21 h13 =>
  gd (yb v118_18 == some true) (fun h k => k (env 8) h) h13 fun v122_22 h14 =>
  gd (yb v118_18 == some true) (fun h k => k (env 9) h) h14 fun v123_23 h15 =>
  gd (yb v118_18 == some true) (fun h k => rd Try.prog (Instr.indexAt 35 v122_22 v123_23) noHp fun v => k v h) h15 fun v124_24 h16 =>
  gd (yb v118_18 == some true) (fun h k => rd Try.prog (Instr.fieldAt 38 v124_24 0) noHp fun v => k v h) h16 fun v125_25 h17 =>
  gd (yb v118_18 == some true) (fun h k => rd Try.prog (Instr.loadAt 24 v125_25) h fun v => k v h) h17 fun v126_26 h18 =>
  gd (yb v118_18 == some true) (fun h k => rd Try.prog (bop Go.BinOp.eql 24 (Go.Operand.tmp 121) (Go.Operand.tmp 126) v121_21 v126_26) noHp fun v => k v h) h18 fun v127_27 h19 =>
  rd Try.prog (pck v118_18 v127_27 (Go.Value.bool false)) noHp fun v128_28 =>
  gd (yb v128_28 == some true) (fun h k => rd Try.prog (Instr.fieldAt 31 (env 14) 5) noHp fun v => k v h) h19 fun v130_30 h20 =>
  gd (yb v128_28 == some true) (fun h k => rd Try.prog (Instr.loadAt 28 v130_30) h fun v => k v h) h20 fun v131_31 h21 =>
  gd (yb v128_28 == some true) (fun h k => k (env 10) h) h21 fun v132_32 h22 =>
  gd (yb v128_28 == some true) (fun h k => rd Try.prog (bop Go.BinOp.eql 28 (Go.Operand.tmp 131) (Go.Operand.tmp 132) v131_31 v132_32) noHp fun v => k v h) h22 fun v133_33 h23 =>
  rd Try.prog (pck v128_28 v133_33 (Go.Value.bool false)) noHp fun v134_34 =>
  K ((((((((((((((((((((((((((((((((((((env.set 100 (env 1)).set 101 (env 13)).set 102 v102_2).set 103 v103_3).set 104 v104_4).set 105 v105_5).set 106 v105_5).set 107 v107_7).set 108 v108_8).set 109 v109_9).set 110 v110_10).set 111 v111_11).set 112 v112_12).set 113 v113_13).set 114 v114_14).set 115 v115_15).set 116 v116_16).set 117 v117_17).set 118 v118_18).set 119 v118_18).set 120 v120_20).set 121 v121_21).set 122 v122_22).set 123 v123_23).set 124 v124_24).set 125 v125_25).set 126 v126_26).set 127 v127_27).set 128 v128_28).set 129 v128_28).set 130 v130_30).set 131 v131_31).set 132 v132_32).set 133 v133_33).set 134 v134_34).set 18 v134_34) h23
@[congr] theorem octroilaw17_BabelFeasible_r18_congr {env : Env} {h : Hp} {K : Env → Hp → Prop} : octroilaw17_BabelFeasible_r18 env h K = octroilaw17_BabelFeasible_r18 env h K := rfl

/-- law.go:150 -/
def octroilaw17_BabelFeasible_r19 (env : Env) (h : Hp) (K : Env → Hp → Prop) : Prop :=
  gd (yb (env 18) == some true) (fun h k => k (env 17) h) h fun v137_2 h1 =>
  gd (yb (env 18) == some true) (fun h k => rd Try.prog (Op.unary Go.UnOp.not v137_2) noHp fun v => k v h) h1 fun v138_3 h2 =>
  gd (yb (env 18) == some true) (fun h k => k v138_3 h) h2 fun v139_4 h3 =>
  gd (yb v139_4 == some false) (fun h k => rd Try.prog (Instr.fieldAt 31 (env 14) 1) noHp fun v => k v h) h3 fun v140_5 h4 =>
  gd (yb v139_4 == some false) (fun h k => rd Try.prog (Instr.loadAt 29 v140_5) h fun v => k v h) h4 fun v141_6 h5 =>
  gd (yb v139_4 == some false) (fun h k => k (env 15) h) h5 fun v142_7 h6 =>
  gd (yb v139_4 == some false) (fun h k => Ok Try.prog 21 #[v141_6, v142_7] h k) h6 fun v143_8 h7 =>
  gd (yb (env 18) == some true) (fun h k => rd Try.prog (pck v139_4 (Go.Value.bool true) v143_8) noHp fun v => k v h) h7 fun v144_9 h8 =>
  gd (yb (env 18) == some true) (fun h k => k v144_9 h) h8 fun v145_10 h9 =>
  gd (yb v145_10 == some false) (fun h k => rd Try.prog (Instr.fieldAt 31 (env 14) 1) noHp fun v => k v h) h9 fun v146_11 h10 =>
  gd (yb v145_10 == some false) (fun h k => rd Try.prog (Instr.loadAt 29 v146_11) h fun v => k v h) h10 fun v147_12 h11 =>
  gd (yb v145_10 == some false) (fun h k => k (env 15) h) h11 fun v148_13 h12 =>
  gd (yb v145_10 == some false) (fun h k => rd Try.prog (bop Go.BinOp.eql 29 (Go.Operand.tmp 147) (Go.Operand.tmp 148) v147_12 v148_13) noHp fun v => k v h) h12 fun v149_14 h13 =>
  gd (yb v145_10 == some false) (fun h k => k v149_14 h) h13 fun v150_15 h14 =>
  gd (yb v150_15 == some true) (fun h k => rd Try.prog (Instr.fieldAt 31 (env 14) 3) noHp fun v => k v h) h14 fun v151_16 h15 =>
  gd (yb v150_15 == some true) (fun h k => rd Try.prog (Instr.loadAt 3 v151_16) h fun v => k v h) h15 fun v152_17 h16 =>
  gd (yb v150_15 == some true) (fun h k => k (env 16) h) h16 fun v153_18 h17 =>
  gd (yb v150_15 == some true) (fun h k => rd Try.prog (bop Go.BinOp.lss 3 (Go.Operand.tmp 152) (Go.Operand.tmp 153) v152_17 v153_18) noHp fun v => k v h) h17 fun v154_19 h18 =>
  gd (yb v145_10 == some false) (fun h k => rd Try.prog (pck v150_15 v154_19 (Go.Value.bool false)) noHp fun v => k v h) h18 fun v155_20 h19 =>
  gd (yb (env 18) == some true) (fun h k => rd Try.prog (pck v145_10 (Go.Value.bool true) v155_20) noHp fun v => k v h) h19 fun v156_21 h20 =>
  rd Try.prog (pck (env 18) v156_21 (Go.Value.bool false)) noHp fun v157_22 =>
  K ((((((((((((((((((((((((env.set 135 (env 18)).set 136 (env 18)).set 137 v137_2).set 138 v138_3).set 139 v139_4).set 140 v140_5).set 141 v141_6).set 142 v142_7).set 143 v143_8).set 144 v144_9).set 145 v145_10).set 146 v146_11).set 147 v147_12).set 148 v148_13).set 149 v149_14).set 150 v150_15).set 151 v151_16).set 152 v152_17).set 153 v153_18).set 154 v154_19).set 155 v155_20).set 156 v156_21).set 157 v157_22).set 12 v157_22) h20
@[congr] theorem octroilaw17_BabelFeasible_r19_congr {env : Env} {h : Hp} {K : Env → Hp → Prop} : octroilaw17_BabelFeasible_r19 env h K = octroilaw17_BabelFeasible_r19 env h K := rfl

/-- law.go:146 -/
def octroilaw17_BabelFeasible_r20 (env : Env) (h : Hp) (K : Env → Hp → Prop) : Prop :=
  rd Try.prog (bop Go.BinOp.add 3 (Go.Operand.tmp 81) (Go.Operand.const (Go.Value.int Go.IntKind.i64 1)) (env 13) (Go.Value.int Go.IntKind.i64 1)) noHp fun v82_1 =>
  K (((env.set 81 (env 13)).set 82 v82_1).set 13 v82_1) h
@[congr] theorem octroilaw17_BabelFeasible_r20_congr {env : Env} {h : Hp} {K : Env → Hp → Prop} : octroilaw17_BabelFeasible_r20 env h K = octroilaw17_BabelFeasible_r20 env h K := rfl

def octroilaw17_BabelFeasible_L0 : Den := (sq (sq (rg octroilaw17_BabelFeasible_r15) (cnd (Go.Operand.tmp 80) (ex .normal) (ex (.exit 4)))) (sq (blk 5 (sq (rg octroilaw17_BabelFeasible_r16) (sq (rg octroilaw17_BabelFeasible_r17) (sq (rg octroilaw17_BabelFeasible_r18) (rg octroilaw17_BabelFeasible_r19))))) (rg octroilaw17_BabelFeasible_r20)))

/-- law.go:152 -/
def octroilaw17_BabelFeasible_r21 (env : Env) (h : Hp) (K : Env → Hp → Prop) : Prop :=
  rd Try.prog (Op.unary Go.UnOp.not (env 11)) noHp fun v159_1 =>
  gd (yb v159_1 == some false) (fun h k => k (env 12) h) h fun v161_3 h1 =>
  gd (yb v159_1 == some false) (fun h k => rd Try.prog (Op.unary Go.UnOp.not v161_3) noHp fun v => k v h) h1 fun v162_4 h2 =>
  rd Try.prog (pck v159_1 (Go.Value.bool true) v162_4) noHp fun v163_5 =>
  gd (yb v163_5 == some false) (fun h k => k (env 10) h) h2 fun v165_7 h3 =>
  gd (yb v163_5 == some false) (fun h k => k (env 0) h) h3 fun v166_8 h4 =>
  gd (yb v163_5 == some false) (fun h k => rd Try.prog (bop Go.BinOp.eql 28 (Go.Operand.tmp 165) (Go.Operand.tmp 166) v165_7 v166_8) noHp fun v => k v h) h4 fun v167_9 h5 =>
  rd Try.prog (pck v163_5 (Go.Value.bool true) v167_9) noHp fun v168_10 =>
  K (((((((((((env.set 158 (env 11)).set 159 v159_1).set 160 v159_1).set 161 v161_3).set 162 v162_4).set 163 v163_5).set 164 v163_5).set 165 v165_7).set 166 v166_8).set 167 v167_9).set 168 v168_10) h5
@[congr] theorem octroilaw17_BabelFeasible_r21_congr {env : Env} {h : Hp} {K : Env → Hp → Prop} : octroilaw17_BabelFeasible_r21 env h K = octroilaw17_BabelFeasible_r21 env h K := rfl

/-- law.go:153 -/
def octroilaw17_BabelFeasible_r22 (env : Env) (h : Hp) (K : Env → Hp → Prop) : Prop :=
  K (env.set 4 (Go.Value.bool false)) h
@[congr] theorem octroilaw17_BabelFeasible_r22_congr {env : Env} {h : Hp} {K : Env → Hp → Prop} : octroilaw17_BabelFeasible_r22 env h K = octroilaw17_BabelFeasible_r22 env h K := rfl

/-- law.go:140 -/
def octroilaw17_BabelFeasible_r23 (env : Env) (h : Hp) (K : Env → Hp → Prop) : Prop :=
  rd Try.prog (bop Go.BinOp.add 3 (Go.Operand.tmp 56) (Go.Operand.const (Go.Value.int Go.IntKind.i64 1)) (env 9) (Go.Value.int Go.IntKind.i64 1)) noHp fun v57_1 =>
  K (((env.set 56 (env 9)).set 57 v57_1).set 9 v57_1) h
@[congr] theorem octroilaw17_BabelFeasible_r23_congr {env : Env} {h : Hp} {K : Env → Hp → Prop} : octroilaw17_BabelFeasible_r23 env h K = octroilaw17_BabelFeasible_r23 env h K := rfl

def octroilaw17_BabelFeasible_L1 : Den := (sq (sq (rg octroilaw17_BabelFeasible_r10) (cnd (Go.Operand.tmp 55) (ex .normal) (ex (.exit 2)))) (sq (blk 3 (sq (sq (rg octroilaw17_BabelFeasible_r11) (cnd (Go.Operand.tmp 63) (ex (.exit 3)) (ex .normal))) (sq (rg octroilaw17_BabelFeasible_r12) (sq (rg octroilaw17_BabelFeasible_r13) (sq (sq (rg octroilaw17_BabelFeasible_r14) (blk 4 (lp octroilaw17_BabelFeasible_L0))) (sq (rg octroilaw17_BabelFeasible_r21) (cnd (Go.Operand.tmp 168) (sq (rg octroilaw17_BabelFeasible_r22) (ex .ret)) (ex .normal)))))))) (rg octroilaw17_BabelFeasible_r23)))

/-- law.go:137 -/
def octroilaw17_BabelFeasible_r24 (env : Env) (h : Hp) (K : Env → Hp → Prop) : Prop :=
  rd Try.prog (bop Go.BinOp.add 3 (Go.Operand.tmp 42) (Go.Operand.const (Go.Value.int Go.IntKind.i64 1)) (env 7) (Go.Value.int Go.IntKind.i64 1)) noHp fun v43_1 =>
  K (((env.set 42 (env 7)).set 43 v43_1).set 7 v43_1) h
@[congr] theorem octroilaw17_BabelFeasible_r24_congr {env : Env} {h : Hp} {K : Env → Hp → Prop} : octroilaw17_BabelFeasible_r24 env h K = octroilaw17_BabelFeasible_r24 env h K := rfl

def octroilaw17_BabelFeasible_L2 : Den := (sq (sq (rg octroilaw17_BabelFeasible_r6) (cnd (Go.Operand.tmp 41) (ex .normal) (ex (.exit 0)))) (sq (blk 1 (sq (rg octroilaw17_BabelFeasible_r7) (sq (rg octroilaw17_BabelFeasible_r8) (sq (rg octroilaw17_BabelFeasible_r9) (blk 2 (lp octroilaw17_BabelFeasible_L1)))))) (rg octroilaw17_BabelFeasible_r24)))

/-- law.go:157 -/
def octroilaw17_BabelFeasible_r25 (env : Env) (h : Hp) (K : Env → Hp → Prop) : Prop :=
  K (env.set 4 (Go.Value.bool true)) h
@[congr] theorem octroilaw17_BabelFeasible_r25_congr {env : Env} {h : Hp} {K : Env → Hp → Prop} : octroilaw17_BabelFeasible_r25 env h K = octroilaw17_BabelFeasible_r25 env h K := rfl

def octroilaw17_BabelFeasible_D : Den := (sq (rg octroilaw17_BabelFeasible_r0) (sq (rg octroilaw17_BabelFeasible_r1) (sq (rg octroilaw17_BabelFeasible_r2) (sq (sq (rg octroilaw17_BabelFeasible_r3) (cnd (Go.Operand.tmp 32) (sq (rg octroilaw17_BabelFeasible_r4) (ex .ret)) (ex .normal))) (sq (sq (rg octroilaw17_BabelFeasible_r5) (blk 0 (lp octroilaw17_BabelFeasible_L2))) (sq (rg octroilaw17_BabelFeasible_r25) (ex .ret)))))))

theorem octroilaw17_BabelFeasible_eq : (den Try.prog 169 octroilaw17_BabelFeasible_code).1 = octroilaw17_BabelFeasible_D := by kernel_rfl

theorem octroilaw17_BabelFeasible_ok {args : Array Value} {h : Hp} {Q : Value → Hp → Prop} (hn : args.size ≤ 169) (D : octroilaw17_BabelFeasible_D (fin Try.prog [(Go.ResultVar.tmp 4)] Q) (env0 args) h) : Ok Try.prog 8 args h Q :=
  ok_of_den progIsOk Try.func8 (c := octroilaw17_BabelFeasible_code) (by kernel_rfl) hn (by show (den Try.prog 169 octroilaw17_BabelFeasible_code).1 _ _ _; rw [octroilaw17_BabelFeasible_eq]; exact D)

/-! ### octroi/octroilaw17.BabelDoes: function 9 -/
noncomputable def octroilaw17_BabelDoes_code : Code := match Try.f9.body with | some c => c | none => .skip

/-- law.go:63 -/
def octroilaw17_BabelDoes_r0 (env : Env) (h : Hp) (K : Env → Hp → Prop) : Prop :=
  K (env.set 8 (Go.Value.bool false)) h
@[congr] theorem octroilaw17_BabelDoes_r0_congr {env : Env} {h : Hp} {K : Env → Hp → Prop} : octroilaw17_BabelDoes_r0 env h K = octroilaw17_BabelDoes_r0 env h K := rfl

/-- law.go:64 -/
def octroilaw17_BabelDoes_r1 (env : Env) (h : Hp) (K : Env → Hp → Prop) : Prop :=
  Ok Try.prog 10 #[] h fun v26_0 h1 =>
  K ((env.set 26 v26_0).set 9 v26_0) h1
@[congr] theorem octroilaw17_BabelDoes_r1_congr {env : Env} {h : Hp} {K : Env → Hp → Prop} : octroilaw17_BabelDoes_r1 env h K = octroilaw17_BabelDoes_r1 env h K := rfl

/-- law.go:65 -/
def octroilaw17_BabelDoes_r2 (env : Env) (h : Hp) (K : Env → Hp → Prop) : Prop :=
  Ok Try.prog 11 #[(env 0), (env 1), (env 2)] h fun v30_3 h1 =>
  K (((((env.set 27 (env 0)).set 28 (env 1)).set 29 (env 2)).set 30 v30_3).set 10 v30_3) h1
@[congr] theorem octroilaw17_BabelDoes_r2_congr {env : Env} {h : Hp} {K : Env → Hp → Prop} : octroilaw17_BabelDoes_r2 env h K = octroilaw17_BabelDoes_r2 env h K := rfl

/-- law.go:66 -/
def octroilaw17_BabelDoes_r3 (env : Env) (h : Hp) (K : Env → Hp → Prop) : Prop :=
  rd Try.prog (Op.unary Go.UnOp.not (env 9)) noHp fun v32_1 =>
  gd (yb v32_1 == some false) (fun h k => k (env 10) h) h fun v34_3 h1 =>
  gd (yb v32_1 == some false) (fun h k => rd Try.prog (bop Go.BinOp.eql 26 (Go.Operand.tmp 34) (Go.Operand.const (Go.Value.pointer none)) v34_3 (Go.Value.pointer none)) noHp fun v => k v h) h1 fun v35_4 h2 =>
  rd Try.prog (pck v32_1 (Go.Value.bool true) v35_4) noHp fun v36_5 =>
  gd (yb v36_5 == some false) (fun h k => k (env 3) h) h2 fun v38_7 h3 =>
  gd (yb v36_5 == some false) (fun h k => rd Try.prog (Builtin.len_ #[44] 3 #[v38_7]) h fun v => k v h) h3 fun v39_8 h4 =>
  gd (yb v36_5 == some false) (fun h k => rd Try.prog (bop Go.BinOp.gtr 3 (Go.Operand.tmp 39) (Go.Operand.const (Go.Value.int Go.IntKind.i64 150)) v39_8 (Go.Value.int Go.IntKind.i64 150)) noHp fun v => k v h) h4 fun v40_9 h5 =>
  rd Try.prog (pck v36_5 (Go.Value.bool true) v40_9) noHp fun v41_10 =>
  K (((((((((((env.set 31 (env 9)).set 32 v32_1).set 33 v32_1).set 34 v34_3).set 35 v35_4).set 36 v36_5).set 37 v36_5).set 38 v38_7).set 39 v39_8).set 40 v40_9).set 41 v41_10) h5
@[congr] theorem octroilaw17_BabelDoes_r3_congr {env : Env} {h : Hp} {K : Env → Hp → Prop} : octroilaw17_BabelDoes_r3 env h K = octroilaw17_BabelDoes_r3 env h K := rfl

/-- law.go:67 -/
def octroilaw17_BabelDoes_r4 (env : Env) (h : Hp) (K : Env → Hp → Prop) : Prop :=
  gd (yb (env 9) == some true) (fun h k => k (env 10) h) h fun v44_2 h1 =>
  gd (yb (env 9) == some true) (fun h k => rd Try.prog (bop Go.BinOp.neq 26 (Go.Operand.tmp 44) (Go.Operand.const (Go.Value.pointer none)) v44_2 (Go.Value.pointer none)) noHp fun v => k v h) h1 fun v45_3 h2 =>
  rd Try.prog (pck (env 9) v45_3 (Go.Value.bool false)) noHp fun v46_4 =>
  K ((((((env.set 42 (env 9)).set 43 (env 9)).set 44 v44_2).set 45 v45_3).set 46 v46_4).set 8 v46_4) h2
@[congr] theorem octroilaw17_BabelDoes_r4_congr {env : Env} {h : Hp} {K : Env → Hp → Prop} : octroilaw17_BabelDoes_r4 env h K = octroilaw17_BabelDoes_r4 env h K := rfl

/-- law.go:69 -/
def octroilaw17_BabelDoes_r5 (env : Env) (h : Hp) (K : Env → Hp → Prop) : Prop :=
  Ok Try.prog 23 #[(env 0), (env 1), (env 2)] h fun v50_3 h1 =>
  K (((((env.set 47 (env 0)).set 48 (env 1)).set 49 (env 2)).set 50 v50_3).set 11 v50_3) h1
@[congr] theorem octroilaw17_BabelDoes_r5_congr {env : Env} {h : Hp} {K : Env → Hp → Prop} : octroilaw17_BabelDoes_r5 env h K = octroilaw17_BabelDoes_r5 env h K := rfl

/-- law.go:70 -/
def octroilaw17_BabelDoes_r6 (env : Env) (h : Hp) (K : Env → Hp → Prop) : Prop :=
  K (env.set 12 (Go.Value.int Go.IntKind.i64 0)) h
@[congr] theorem octroilaw17_BabelDoes_r6_congr {env : Env} {h : Hp} {K : Env → Hp → Prop} : octroilaw17_BabelDoes_r6 env h K = octroilaw17_BabelDoes_r6 env h K := rfl

/-- law.go:70 -/
def octroilaw17_BabelDoes_r7 (env : Env) (h : Hp) (K : Env → Hp → Prop) : Prop :=
  rd Try.prog (Builtin.len_ #[44] 3 #[(env 3)]) h fun v53_2 =>
  rd Try.prog (bop Go.BinOp.lss 3 (Go.Operand.tmp 51) (Go.Operand.tmp 53) (env 12) v53_2) noHp fun v54_3 =>
  K ((((env.set 51 (env 12)).set 52 (env 3)).set 53 v53_2).set 54 v54_3) h
@[congr] theorem octroilaw17_BabelDoes_r7_congr {env : Env} {h : Hp} {K : Env → Hp → Prop} : octroilaw17_BabelDoes_r7 env h K = octroilaw17_BabelDoes_r7 env h K := rfl

/-- law.go:71 -/
def octroilaw17_BabelDoes_r8 (env : Env) (h : Hp) (K : Env → Hp → Prop) : Prop :=
  rd Try.prog (Instr.indexAt 44 (env 3) (env 12)) noHp fun v61_4 =>
  rd Try.prog (Instr.loadAt 47 v61_4) h fun v62_5 =>
  Ok Try.prog 24 #[(env 10), (env 11), v62_5] h fun v63_6 h1 =>
  K ((((((((env.set 57 (env 10)).set 58 (env 11)).set 59 (env 3)).set 60 (env 12)).set 61 v61_4).set 62 v62_5).set 63 v63_6).set 13 v63_6) h1
@[congr] theorem octroilaw17_BabelDoes_r8_congr {env : Env} {h : Hp} {K : Env → Hp → Prop} : octroilaw17_BabelDoes_r8 env h K = octroilaw17_BabelDoes_r8 env h K := rfl

/-- law.go:72 -/
def octroilaw17_BabelDoes_r9 (env : Env) (h : Hp) (K : Env → Hp → Prop) : Prop :=
  Ok Try.prog 13 #[(env 10)] h fun v65_1 h1 =>
  Ok Try.prog 26 #[(env 11)] h1 fun v67_3 h2 =>
  Ok Try.prog 25 #[v65_1, v67_3] h2 fun v68_4 h3 =>
  K ((((((env.set 64 (env 10)).set 65 v65_1).set 66 (env 11)).set 67 v67_3).set 68 v68_4).set 14 v68_4) h3
@[congr] theorem octroilaw17_BabelDoes_r9_congr {env : Env} {h : Hp} {K : Env → Hp → Prop} : octroilaw17_BabelDoes_r9 env h K = octroilaw17_BabelDoes_r9 env h K := rfl

/-- law.go:73 -/
def octroilaw17_BabelDoes_r10 (env : Env) (h : Hp) (K : Env → Hp → Prop) : Prop :=
  rd Try.prog (Instr.indexAt 44 (env 3) (env 12)) noHp fun v71_2 =>
  rd Try.prog (Instr.fieldAt 47 v71_2 3) noHp fun v72_3 =>
  rd Try.prog (Instr.fieldAt 31 v72_3 4) noHp fun v73_4 =>
  rd Try.prog (Instr.loadAt 24 v73_4) h fun v74_5 =>
  arun Try.prog (Instr.alloc 24 true (Go.Value.tuple #[])) h fun v15_6 h1 =>
  arun Try.prog (Instr.storeAt 24 v15_6 v74_5) h1 fun _ h2 =>
  K (((((((env.set 69 (env 3)).set 70 (env 12)).set 71 v71_2).set 72 v72_3).set 73 v73_4).set 74 v74_5).set 15 v15_6) h2
@[congr] theorem octroilaw17_BabelDoes_r10_congr {env : Env} {h : Hp} {K : Env → Hp → Prop} : octroilaw17_BabelDoes_r10 env h K = octroilaw17_BabelDoes_r10 env h K := rfl

/-- law.go:74 -/
def octroilaw17_BabelDoes_r11 (env : Env) (h : Hp) (K : Env → Hp → Prop) : Prop :=
  rd Try.prog (Instr.loadAt 24 (env 15)) h fun v77_1 =>
  Ok Try.prog 22 #[(env 10), v77_1] h fun v78_2 h1 =>
  rd Try.prog (Instr.extract v78_2 0) noHp fun v79_4 =>
  rd Try.prog (Instr.extract v78_2 1) noHp fun v80_5 =>
  K ((((((((env.set 76 (env 10)).set 77 v77_1).set 78 v78_2).set 75 v78_2).set 79 v79_4).set 80 v80_5).set 16 v79_4).set 17 v80_5) h1
@[congr] theorem octroilaw17_BabelDoes_r11_congr {env : Env} {h : Hp} {K : Env → Hp → Prop} : octroilaw17_BabelDoes_r11 env h K = octroilaw17_BabelDoes_r11 env h K := rfl

/-- law.go:75 -/
def octroilaw17_BabelDoes_r12 (env : Env) (h : Hp) (K : Env → Hp → Prop) : Prop :=
  rd Try.prog (Instr.loadAt 24 (env 15)) h fun v83_1 =>
  Ok Try.prog 27 #[(env 11), v83_1] h fun v84_2 h1 =>
  rd Try.prog (Instr.extract v84_2 0) noHp fun v85_4 =>
  rd Try.prog (Instr.extract v84_2 1) noHp fun v86_5 =>
  K ((((((((env.set 82 (env 11)).set 83 v83_1).set 84 v84_2).set 81 v84_2).set 85 v85_4).set 86 v86_5).set 18 v85_4).set 19 v86_5) h1
@[congr] theorem octroilaw17_BabelDoes_r12_congr {env : Env} {h : Hp} {K : Env → Hp → Prop} : octroilaw17_BabelDoes_r12 env h K = octroilaw17_BabelDoes_r12 env h K := rfl

/-- law.go:76 (in any order) -/
def octroilaw17_BabelDoes_r13 (env : Env) (h : Hp) (K : Env → Hp → Prop) : Prop :=
  rd Try.prog (Instr.loadAt 24 (env 15)) h fun v89_1 =>
  rd Try.prog (Instr.indexAt 44 (env 3) (env 12)) noHp fun v92_4 =>
  rd Try.prog (Instr.fieldAt 47 v92_4 3) noHp fun v93_5 =>
  rd Try.prog (Instr.fieldAt 31 v93_5 5) noHp fun v94_6 =>
  rd Try.prog (Instr.loadAt 28 v94_6) h fun v95_7 =>
  Ok Try.prog 20 #[(env 10), v89_1, v95_7] h fun v96_8 h1 =>
  (True) ∧
  rd Try.prog (Instr.extract v96_8 0) noHp fun v97_10 =>
  rd Try.prog (Instr.extract v96_8 1) noHp fun v98_11 =>
  rd Try.prog (Instr.extract v96_8 2) noHp fun v99_12 =>
  K ((((((((((((((((env.set 88 (env 10)).set 89 v89_1).set 90 (env 3)).set 91 (env 12)).set 92 v92_4).set 93 v93_5).set 94 v94_6).set 95 v95_7).set 96 v96_8).set 87 v96_8).set 97 v97_10).set 98 v98_11).set 99 v99_12).set 20 v97_10).set 21 v98_11).set 22 v99_12) h1
@[congr] theorem octroilaw17_BabelDoes_r13_congr {env : Env} {h : Hp} {K : Env → Hp → Prop} : octroilaw17_BabelDoes_r13 env h K = octroilaw17_BabelDoes_r13 env h K := rfl

/-- law.go:77 (in any order) -/
def octroilaw17_BabelDoes_r14 (env : Env) (h : Hp) (K : Env → Hp → Prop) : Prop :=
  rd Try.prog (Instr.loadAt 24 (env 15)) h fun v102_1 =>
  rd Try.prog (Instr.indexAt 44 (env 3) (env 12)) noHp fun v105_4 =>
  rd Try.prog (Instr.fieldAt 47 v105_4 3) noHp fun v106_5 =>
  rd Try.prog (Instr.fieldAt 31 v106_5 5) noHp fun v107_6 =>
  rd Try.prog (Instr.loadAt 28 v107_6) h fun v108_7 =>
  Ok Try.prog 28 #[(env 11), v102_1, v108_7] h fun v109_8 h1 =>
  (True) ∧
  rd Try.prog (Instr.extract v109_8 0) noHp fun v110_10 =>
  rd Try.prog (Instr.extract v109_8 1) noHp fun v111_11 =>
  rd Try.prog (Instr.extract v109_8 2) noHp fun v112_12 =>
  K ((((((((((((((((env.set 101 (env 11)).set 102 v102_1).set 103 (env 3)).set 104 (env 12)).set 105 v105_4).set 106 v106_5).set 107 v107_6).set 108 v108_7).set 109 v109_8).set 100 v109_8).set 110 v110_10).set 111 v111_11).set 112 v112_12).set 23 v110_10).set 24 v111_11).set 25 v112_12) h1
@[congr] theorem octroilaw17_BabelDoes_r14_congr {env : Env} {h : Hp} {K : Env → Hp → Prop} : octroilaw17_BabelDoes_r14 env h K = octroilaw17_BabelDoes_r14 env h K := rfl

/-- law.go:78 (in any order) -/
def octroilaw17_BabelDoes_r15 (env : Env) (h : Hp) (K : Env → Hp → Prop) : Prop :=
  rd Try.prog (Op.unary Go.UnOp.not (env 13)) noHp fun v114_1 =>
  gd (yb v114_1 == some false) (fun h k => k (env 14) h) h fun v116_3 h1 =>
  gd (yb v114_1 == some false) (fun h k => rd Try.prog (Op.unary Go.UnOp.not v116_3) noHp fun v => k v h) h1 fun v117_4 h2 =>
  rd Try.prog (pck v114_1 (Go.Value.bool true) v117_4) noHp fun v118_5 =>
  gd (yb v118_5 == some false) (fun h k => k (env 16) h) h2 fun v120_7 h3 =>
  gd (yb v118_5 == some false) (fun h k => k (env 18) h) h3 fun v121_8 h4 =>
  gd (yb v118_5 == some false) (fun h k => rd Try.prog (bop Go.BinOp.neq 28 (Go.Operand.tmp 120) (Go.Operand.tmp 121) v120_7 v121_8) noHp fun v => k v h) h4 fun v122_9 h5 =>
  rd Try.prog (pck v118_5 (Go.Value.bool true) v122_9) noHp fun v123_10 =>
  gd (yb v123_10 == some false) (fun h k => k (env 17) h) h5 fun v125_12 h6 =>
  gd (yb v123_10 == some false) (fun h k => k (env 19) h) h6 fun v126_13 h7 =>
  gd (yb v123_10 == some false) (fun h k => rd Try.prog (bop Go.BinOp.neq 4 (Go.Operand.tmp 125) (Go.Operand.tmp 126) v125_12 v126_13) noHp fun v => k v h) h7 fun v127_14 h8 =>
  rd Try.prog (pck v123_10 (Go.Value.bool true) v127_14) noHp fun v128_15 =>
  gd (yb v128_15 == some false) (fun h k => k (env 20) h) h8 fun v130_17 h9 =>
  gd (yb v128_15 == some false) (fun h k => k (env 23) h) h9 fun v131_18 h10 =>
  gd (yb v128_15 == some false) (fun h k => rd Try.prog (bop Go.BinOp.neq 29 (Go.Operand.tmp 130) (Go.Operand.tmp 131) v130_17 v131_18) noHp fun v => k v h) h10 fun v132_19 h11 =>
  rd Try.prog (pck v128_15 (Go.Value.bool true) v132_19) noHp fun v133_20 =>
  gd (yb v133_20 == some false) (fun h k => k (env 21) h) h11 fun v135_22 h12 =>
  gd (yb v133_20 == some false) (fun h k => k (env 24) h) h12 fun v136_23 h13 =>
  gd (yb v133_20 == some false) (fun h k => rd Try.prog (bop Go.BinOp.neq 3 (Go.Operand.tmp 135) (Go.Operand.tmp 136) v135_22 v136_23) noHp fun v => k v h) h13 fun v137_24 h14 =>
  rd Try.prog (pck v133_20 (Go.Value.bool true) v137_24) noHp fun v138_25 =>
  gd (yb v138_25 == some false) (fun h k => k (env 22) h) h14 fun v140_27 h15 =>
  gd (yb v138_25 == some false) (fun h k => k (env 25) h) h15 fun v141_28 h16 =>
  gd (yb v138_25 == some false) (fun h k => rd Try.prog (bop Go.BinOp.neq 4 (Go.Operand.tmp 140) (Go.Operand.tmp 141) v140_27 v141_28) noHp fun v => k v h) h16 fun v142_29 h17 =>
  rd Try.prog (pck v138_25 (Go.Value.bool true) v142_29) noHp fun v143_30 =>
  gd (yb v143_30 == some false) (fun h k => k (env 10) h) h17 fun v145_32 h18 =>
  gd (yb v143_30 == some false) (fun h k => k (env 11) h) h18 fun v147_33 h19 =>
  gd (yb v143_30 == some false) (fun h k => nck v147_33 (k v147_33 h)) h19 fun v148_34 h20 =>
  gd (yb v143_30 == some false) (fun h k => rd Try.prog (Instr.fieldAt 67 v148_34 5) noHp fun v => k v h) h20 fun v149_35 h21 =>
  gd (yb v143_30 == some false) (fun h k => rd Try.prog (Instr.loadAt 64 v149_35) h fun v => k v h) h21 fun v150_36 h22 =>
  gd (yb v143_30 == some false) (fun h k => rd Try.prog (Builtin.len_ #[64] 3 #[v150_36]) h fun v => k v h) h22 fun v151_37 h23 =>
  gd (yb v143_30 == some false) (fun h k => Ok Try.prog 18 #[v145_32] h k) h23 fun v146_38 h24 =>
  (((yb v143_30 == some false) = true → rrun Try.prog (Builtin.len_ #[64] 3 #[v150_36]) h24 = some v151_37) ∧ ((yb v143_30 == some false) = true → rrun Try.prog (Instr.loadAt 64 v149_35) h24 = some v150_36) ∧ True) ∧
  gd (yb v143_30 == some false) (fun h k => rd Try.prog (bop Go.BinOp.neq 3 (Go.Operand.tmp 146) (Go.Operand.tmp 151) v146_38 v151_37) noHp fun v => k v h) h24 fun v152_39 h25 =>
  rd Try.prog (pck v143_30 (Go.Value.bool true) v152_39) noHp fun v153_40 =>
  K (((((((((((((((((((((((((((((((((((((((((env.set 113 (env 13)).set 114 v114_1).set 115 v114_1).set 116 v116_3).set 117 v117_4).set 118 v118_5).set 119 v118_5).set 120 v120_7).set 121 v121_8).set 122 v122_9).set 123 v123_10).set 124 v123_10).set 125 v125_12).set 126 v126_13).set 127 v127_14).set 128 v128_15).set 129 v128_15).set 130 v130_17).set 131 v131_18).set 132 v132_19).set 133 v133_20).set 134 v133_20).set 135 v135_22).set 136 v136_23).set 137 v137_24).set 138 v138_25).set 139 v138_25).set 140 v140_27).set 141 v141_28).set 142 v142_29).set 143 v143_30).set 144 v143_30).set 145 v145_32).set 147 v147_33).set 148 v148_34).set 149 v149_35).set 150 v150_36).set 151 v151_37).set 146 v146_38).set 152 v152_39).set 153 v153_40) h25
@[congr] theorem octroilaw17_BabelDoes_r15_congr {env : Env} {h : Hp} {K : Env → Hp → Prop} : octroilaw17_BabelDoes_r15 env h K = octroilaw17_BabelDoes_r15 env h K := rfl

/-- law.go:79 -/
def octroilaw17_BabelDoes_r16 (env : Env) (h : Hp) (K : Env → Hp → Prop) : Prop :=
  K (env.set 8 (Go.Value.bool false)) h
@[congr] theorem octroilaw17_BabelDoes_r16_congr {env : Env} {h : Hp} {K : Env → Hp → Prop} : octroilaw17_BabelDoes_r16 env h K = octroilaw17_BabelDoes_r16 env h K := rfl

/-- law.go:70 -/
def octroilaw17_BabelDoes_r17 (env : Env) (h : Hp) (K : Env → Hp → Prop) : Prop :=
  rd Try.prog (bop Go.BinOp.add 3 (Go.Operand.tmp 55) (Go.Operand.const (Go.Value.int Go.IntKind.i64 1)) (env 12) (Go.Value.int Go.IntKind.i64 1)) noHp fun v56_1 =>
  K (((env.set 55 (env 12)).set 56 v56_1).set 12 v56_1) h
@[congr] theorem octroilaw17_BabelDoes_r17_congr {env : Env} {h : Hp} {K : Env → Hp → Prop} : octroilaw17_BabelDoes_r17 env h K = octroilaw17_BabelDoes_r17 env h K := rfl

def octroilaw17_BabelDoes_L0 : Den := (sq (sq (rg octroilaw17_BabelDoes_r7) (cnd (Go.Operand.tmp 54) (ex .normal) (ex (.exit 0)))) (sq (blk 1 (sq (rg octroilaw17_BabelDoes_r8) (sq (rg octroilaw17_BabelDoes_r9) (sq (rg octroilaw17_BabelDoes_r10) (sq (rg octroilaw17_BabelDoes_r11) (sq (rg octroilaw17_BabelDoes_r12) (sq (rg octroilaw17_BabelDoes_r13) (sq (rg octroilaw17_BabelDoes_r14) (sq (rg octroilaw17_BabelDoes_r15) (cnd (Go.Operand.tmp 153) (sq (rg octroilaw17_BabelDoes_r16) (ex .ret)) (ex .normal))))))))))) (rg octroilaw17_BabelDoes_r17)))

/-- law.go:82 -/
def octroilaw17_BabelDoes_r18 (env : Env) (h : Hp) (K : Env → Hp → Prop) : Prop :=
  Ok Try.prog 14 #[(env 10)] h fun v155_1 h1 =>
  Ok Try.prog 30 #[(env 11)] h1 fun v157_3 h2 =>
  Ok Try.prog 29 #[v155_1, v157_3] h2 fun v158_4 h3 =>
  K ((((((env.set 154 (env 10)).set 155 v155_1).set 156 (env 11)).set 157 v157_3).set 158 v158_4).set 8 v158_4) h3
@[congr] theorem octroilaw17_BabelDoes_r18_congr {env : Env} {h : Hp} {K : Env → Hp → Prop} : octroilaw17_BabelDoes_r18 env h K = octroilaw17_BabelDoes_r18 env h K := rfl

def octroilaw17_BabelDoes_D : Den := (sq (rg octroilaw17_BabelDoes_r0) (sq (rg octroilaw17_BabelDoes_r1) (sq (rg octroilaw17_BabelDoes_r2) (sq (sq (rg octroilaw17_BabelDoes_r3) (cnd (Go.Operand.tmp 41) (sq (rg octroilaw17_BabelDoes_r4) (ex .ret)) (ex .normal))) (sq (rg octroilaw17_BabelDoes_r5) (sq (sq (rg octroilaw17_BabelDoes_r6) (blk 0 (lp octroilaw17_BabelDoes_L0))) (sq (rg octroilaw17_BabelDoes_r18) (ex .ret))))))))

theorem octroilaw17_BabelDoes_eq : (den Try.prog 159 octroilaw17_BabelDoes_code).1 = octroilaw17_BabelDoes_D := by kernel_rfl

theorem octroilaw17_BabelDoes_ok {args : Array Value} {h : Hp} {Q : Value → Hp → Prop} (hn : args.size ≤ 159) (D : octroilaw17_BabelDoes_D (fin Try.prog [(Go.ResultVar.tmp 8)] Q) (env0 args) h) : Ok Try.prog 9 args h Q :=
  ok_of_den progIsOk Try.func9 (c := octroilaw17_BabelDoes_code) (by kernel_rfl) hn (by show (den Try.prog 159 octroilaw17_BabelDoes_code).1 _ _ _; rw [octroilaw17_BabelDoes_eq]; exact D)

end Go.Proofs.Ytchbipkoifmmdaa
