/- Printed by wip/kit/gen.py out of the translation: formulas of Go functions, and that they are these functions'. -/
import Derived.Test.YtchbipkoifmmdaaZ5

set_option linter.unusedSimpArgs false
set_option linter.unusedVariables false

namespace Go.Proofs.Ytchbipkoifmmdaa
open Go

set_option maxRecDepth 100000
set_option linter.unusedVariables false

/-! ### (*octroi/octroiref17.Babel).Way: function 47 -/
noncomputable def octroiref17_Babel_Way_code : Code := match Try.f47.body with | some c => c | none => .skip

/-- ref.go:188 -/
def octroiref17_Babel_Way_r0 (env : Env) (h : Hp) (K : Env → Hp → Prop) : Prop :=
  arun Try.prog (Instr.box 24 (env 1)) h fun v3_0 h1 =>
  arun Try.prog (Instr.alloc 31 true (Go.Value.tuple #[])) h1 fun v4_1 h2 =>
  K ((((env.set 3 v3_0).set 4 v4_1).set 5 (Go.Value.int Go.IntKind.i64 0)).set 6 (Go.Value.bool false)) h2
@[congr] theorem octroiref17_Babel_Way_r0_congr {env : Env} {h : Hp} {K : Env → Hp → Prop} : octroiref17_Babel_Way_r0 env h K = octroiref17_Babel_Way_r0 env h K := rfl

/-- ref.go:189 -/
def octroiref17_Babel_Way_r1 (env : Env) (h : Hp) (K : Env → Hp → Prop) : Prop :=
  rd Try.prog (Instr.loadAt 24 (env 3)) h fun v15_1 =>
  Ok Try.prog 60 #[(env 0), v15_1] h fun v16_2 h1 =>
  K ((((env.set 14 (env 0)).set 15 v15_1).set 16 v16_2).set 7 v16_2) h1
@[congr] theorem octroiref17_Babel_Way_r1_congr {env : Env} {h : Hp} {K : Env → Hp → Prop} : octroiref17_Babel_Way_r1 env h K = octroiref17_Babel_Way_r1 env h K := rfl

/-- ref.go:190 -/
def octroiref17_Babel_Way_r2 (env : Env) (h : Hp) (K : Env → Hp → Prop) : Prop :=
  rd Try.prog (Instr.loadAt 24 (env 3)) h fun v17_0 =>
  rd Try.prog (Instr.build 31 #[(0, (Go.Value.int Go.IntKind.i64 2)), (2, (Go.Value.int Go.IntKind.i64 400)), (4, v17_0)]) noHp fun v18_1 =>
  arun Try.prog (Instr.alloc 31 true (Go.Value.tuple #[])) h fun v8_2 h1 =>
  arun Try.prog (Instr.storeAt 31 v8_2 v18_1) h1 fun _ h2 =>
  K (((env.set 17 v17_0).set 18 v18_1).set 8 v8_2) h2
@[congr] theorem octroiref17_Babel_Way_r2_congr {env : Env} {h : Hp} {K : Env → Hp → Prop} : octroiref17_Babel_Way_r2 env h K = octroiref17_Babel_Way_r2 env h K := rfl

/-- ref.go:191 -/
def octroiref17_Babel_Way_r3 (env : Env) (h : Hp) (K : Env → Hp → Prop) : Prop :=
  rd Try.prog (bop Go.BinOp.geq 3 (Go.Operand.tmp 19) (Go.Operand.const (Go.Value.int Go.IntKind.i64 0)) (env 7) (Go.Value.int Go.IntKind.i64 0)) noHp fun v20_1 =>
  K ((env.set 19 (env 7)).set 20 v20_1) h
@[congr] theorem octroiref17_Babel_Way_r3_congr {env : Env} {h : Hp} {K : Env → Hp → Prop} : octroiref17_Babel_Way_r3 env h K = octroiref17_Babel_Way_r3 env h K := rfl

/-- ref.go:192 -/
def octroiref17_Babel_Way_r4 (env : Env) (h : Hp) (K : Env → Hp → Prop) : Prop :=
  nck (env 0) (
  rd Try.prog (Instr.fieldAt 67 (env 0) 0) noHp fun v23_2 =>
  rd Try.prog (Instr.loadAt 28 v23_2) h fun v24_3 =>
  rd Try.prog (Instr.fieldAt 31 (env 8) 5) noHp fun v25_4 =>
  arun Try.prog (Instr.storeAt 28 v25_4 v24_3) h fun _ h1 =>
  K (((((env.set 21 (env 0)).set 22 (env 0)).set 23 v23_2).set 24 v24_3).set 25 v25_4) h1)
@[congr] theorem octroiref17_Babel_Way_r4_congr {env : Env} {h : Hp} {K : Env → Hp → Prop} : octroiref17_Babel_Way_r4 env h K = octroiref17_Babel_Way_r4 env h K := rfl

/-- ref.go:193 -/
def octroiref17_Babel_Way_r5 (env : Env) (h : Hp) (K : Env → Hp → Prop) : Prop :=
  nck (env 0) (
  rd Try.prog (Instr.fieldAt 67 (env 0) 3) noHp fun v28_2 =>
  rd Try.prog (Instr.loadAt 29 v28_2) h fun v29_3 =>
  rd Try.prog (Instr.fieldAt 31 (env 8) 1) noHp fun v30_4 =>
  arun Try.prog (Instr.storeAt 29 v30_4 v29_3) h fun _ h1 =>
  K (((((env.set 26 (env 0)).set 27 (env 0)).set 28 v28_2).set 29 v29_3).set 30 v30_4) h1)
@[congr] theorem octroiref17_Babel_Way_r5_congr {env : Env} {h : Hp} {K : Env → Hp → Prop} : octroiref17_Babel_Way_r5 env h K = octroiref17_Babel_Way_r5 env h K := rfl

/-- ref.go:194 -/
def octroiref17_Babel_Way_r6 (env : Env) (h : Hp) (K : Env → Hp → Prop) : Prop :=
  nck (env 0) (
  rd Try.prog (Instr.fieldAt 67 (env 0) 4) noHp fun v33_2 =>
  rd Try.prog (Instr.loadAt 63 v33_2) h fun v34_3 =>
  rd Try.prog (Instr.indexAt 63 v34_3 (env 7)) noHp fun v36_5 =>
  rd Try.prog (Instr.fieldAt 112 v36_5 1) noHp fun v37_6 =>
  rd Try.prog (Instr.loadAt 3 v37_6) h fun v38_7 =>
  rd Try.prog (Instr.fieldAt 31 (env 8) 3) noHp fun v39_8 =>
  arun Try.prog (Instr.storeAt 3 v39_8 v38_7) h fun _ h1 =>
  K (((((((((env.set 31 (env 0)).set 32 (env 0)).set 33 v33_2).set 34 v34_3).set 35 (env 7)).set 36 v36_5).set 37 v37_6).set 38 v38_7).set 39 v39_8) h1)
@[congr] theorem octroiref17_Babel_Way_r6_congr {env : Env} {h : Hp} {K : Env → Hp → Prop} : octroiref17_Babel_Way_r6 env h K = octroiref17_Babel_Way_r6 env h K := rfl

/-- ref.go:195 -/
def octroiref17_Babel_Way_r7 (env : Env) (h : Hp) (K : Env → Hp → Prop) : Prop :=
  nck (env 0) (
  rd Try.prog (Instr.fieldAt 67 (env 0) 4) noHp fun v42_2 =>
  rd Try.prog (Instr.loadAt 63 v42_2) h fun v43_3 =>
  rd Try.prog (Instr.indexAt 63 v43_3 (env 7)) noHp fun v45_5 =>
  rd Try.prog (Instr.fieldAt 112 v45_5 2) noHp fun v46_6 =>
  rd Try.prog (Instr.loadAt 29 v46_6) h fun v47_7 =>
  rd Try.prog (Instr.fieldAt 31 (env 8) 6) noHp fun v48_8 =>
  arun Try.prog (Instr.storeAt 29 v48_8 v47_7) h fun _ h1 =>
  K (((((((((env.set 40 (env 0)).set 41 (env 0)).set 42 v42_2).set 43 v43_3).set 44 (env 7)).set 45 v45_5).set 46 v46_6).set 47 v47_7).set 48 v48_8) h1)
@[congr] theorem octroiref17_Babel_Way_r7_congr {env : Env} {h : Hp} {K : Env → Hp → Prop} : octroiref17_Babel_Way_r7 env h K = octroiref17_Babel_Way_r7 env h K := rfl

/-- ref.go:196 -/
def octroiref17_Babel_Way_r8 (env : Env) (h : Hp) (K : Env → Hp → Prop) : Prop :=
  rd Try.prog (Instr.loadAt 31 (env 8)) h fun v49_0 =>
  arun Try.prog (Instr.storeAt 31 (env 4) v49_0) h fun _ h1 =>
  K (((env.set 49 v49_0).set 5 (Go.Value.int Go.IntKind.i64 0)).set 6 (Go.Value.bool true)) h1
@[congr] theorem octroiref17_Babel_Way_r8_congr {env : Env} {h : Hp} {K : Env → Hp → Prop} : octroiref17_Babel_Way_r8 env h K = octroiref17_Babel_Way_r8 env h K := rfl

/-- ref.go:198 -/
def octroiref17_Babel_Way_r9 (env : Env) (h : Hp) (K : Env → Hp → Prop) : Prop :=
  K (env.set 9 (Go.Value.int Go.IntKind.i64 0)) h
@[congr] theorem octroiref17_Babel_Way_r9_congr {env : Env} {h : Hp} {K : Env → Hp → Prop} : octroiref17_Babel_Way_r9 env h K = octroiref17_Babel_Way_r9 env h K := rfl

/-- ref.go:199 -/
def octroiref17_Babel_Way_r10 (env : Env) (h : Hp) (K : Env → Hp → Prop) : Prop :=
  K (env.set 10 (Go.Value.int Go.IntKind.i64 0)) h
@[congr] theorem octroiref17_Babel_Way_r10_congr {env : Env} {h : Hp} {K : Env → Hp → Prop} : octroiref17_Babel_Way_r10 env h K = octroiref17_Babel_Way_r10 env h K := rfl

/-- ref.go:199 -/
def octroiref17_Babel_Way_r11 (env : Env) (h : Hp) (K : Env → Hp → Prop) : Prop :=
  nck (env 0) (
  rd Try.prog (Instr.fieldAt 67 (env 0) 5) noHp fun v53_3 =>
  rd Try.prog (Instr.loadAt 64 v53_3) h fun v54_4 =>
  rd Try.prog (Builtin.len_ #[64] 3 #[v54_4]) h fun v55_5 =>
  rd Try.prog (bop Go.BinOp.lss 3 (Go.Operand.tmp 50) (Go.Operand.tmp 55) (env 10) v55_5) noHp fun v56_6 =>
  K (((((((env.set 50 (env 10)).set 51 (env 0)).set 52 (env 0)).set 53 v53_3).set 54 v54_4).set 55 v55_5).set 56 v56_6) h)
@[congr] theorem octroiref17_Babel_Way_r11_congr {env : Env} {h : Hp} {K : Env → Hp → Prop} : octroiref17_Babel_Way_r11 env h K = octroiref17_Babel_Way_r11 env h K := rfl

/-- ref.go:200 -/
def octroiref17_Babel_Way_r12 (env : Env) (h : Hp) (K : Env → Hp → Prop) : Prop :=
  nck (env 0) (
  rd Try.prog (Instr.fieldAt 67 (env 0) 5) noHp fun v61_2 =>
  rd Try.prog (Instr.loadAt 64 v61_2) h fun v62_3 =>
  rd Try.prog (Instr.indexAt 64 v62_3 (env 10)) noHp fun v64_5 =>
  rd Try.prog (Instr.loadAt 116 v64_5) h fun v65_6 =>
  arun Try.prog (Instr.alloc 116 true (Go.Value.tuple #[])) h fun v11_7 h1 =>
  arun Try.prog (Instr.storeAt 116 v11_7 v65_6) h1 fun _ h2 =>
  K ((((((((env.set 59 (env 0)).set 60 (env 0)).set 61 v61_2).set 62 v62_3).set 63 (env 10)).set 64 v64_5).set 65 v65_6).set 11 v11_7) h2)
@[congr] theorem octroiref17_Babel_Way_r12_congr {env : Env} {h : Hp} {K : Env → Hp → Prop} : octroiref17_Babel_Way_r12 env h K = octroiref17_Babel_Way_r12 env h K := rfl

/-- ref.go:201 -/
def octroiref17_Babel_Way_r13 (env : Env) (h : Hp) (K : Env → Hp → Prop) : Prop :=
  rd Try.prog (Instr.fieldAt 116 (env 11) 0) noHp fun v66_0 =>
  rd Try.prog (Instr.loadAt 24 v66_0) h fun v67_1 =>
  rd Try.prog (Instr.loadAt 24 (env 3)) h fun v68_2 =>
  rd Try.prog (bop Go.BinOp.neq 24 (Go.Operand.tmp 67) (Go.Operand.tmp 68) v67_1 v68_2) noHp fun v69_3 =>
  K ((((env.set 66 v66_0).set 67 v67_1).set 68 v68_2).set 69 v69_3) h
@[congr] theorem octroiref17_Babel_Way_r13_congr {env : Env} {h : Hp} {K : Env → Hp → Prop} : octroiref17_Babel_Way_r13 env h K = octroiref17_Babel_Way_r13 env h K := rfl

/-- ref.go:204 -/
def octroiref17_Babel_Way_r14 (env : Env) (h : Hp) (K : Env → Hp → Prop) : Prop :=
  rd Try.prog (Instr.fieldAt 116 (env 11) 3) noHp fun v70_0 =>
  rd Try.prog (Instr.fieldAt 31 v70_0 3) noHp fun v71_1 =>
  rd Try.prog (Instr.loadAt 3 v71_1) h fun v72_2 =>
  rd Try.prog (Instr.fieldAt 116 (env 11) 2) noHp fun v73_3 =>
  rd Try.prog (Instr.loadAt 3 v73_3) h fun v74_4 =>
  Ok Try.prog 64 #[v72_2, v74_4, (Go.Value.int Go.IntKind.i64 65535)] h fun v75_5 h1 =>
  K (((((((env.set 70 v70_0).set 71 v71_1).set 72 v72_2).set 73 v73_3).set 74 v74_4).set 75 v75_5).set 12 v75_5) h1
@[congr] theorem octroiref17_Babel_Way_r14_congr {env : Env} {h : Hp} {K : Env → Hp → Prop} : octroiref17_Babel_Way_r14 env h K = octroiref17_Babel_Way_r14 env h K := rfl

/-- ref.go:205 -/
def octroiref17_Babel_Way_r15 (env : Env) (h : Hp) (K : Env → Hp → Prop) : Prop :=
  rd Try.prog (Instr.loadAt 24 (env 3)) h fun v77_1 =>
  rd Try.prog (Instr.fieldAt 116 (env 11) 3) noHp fun v78_2 =>
  rd Try.prog (Instr.fieldAt 31 v78_2 5) noHp fun v79_3 =>
  rd Try.prog (Instr.loadAt 28 v79_3) h fun v80_4 =>
  rd Try.prog (Instr.fieldAt 116 (env 11) 3) noHp fun v81_5 =>
  rd Try.prog (Instr.fieldAt 31 v81_5 1) noHp fun v82_6 =>
  rd Try.prog (Instr.loadAt 29 v82_6) h fun v83_7 =>
  rd Try.prog (Instr.fieldAt 116 (env 11) 3) noHp fun v84_8 =>
  rd Try.prog (Instr.fieldAt 31 v84_8 3) noHp fun v85_9 =>
  rd Try.prog (Instr.loadAt 3 v85_9) h fun v86_10 =>
  Ok Try.prog 61 #[(env 0), v77_1, v80_4, v83_7, v86_10] h fun v87_11 h1 =>
  K (((((((((((((env.set 76 (env 0)).set 77 v77_1).set 78 v78_2).set 79 v79_3).set 80 v80_4).set 81 v81_5).set 82 v82_6).set 83 v83_7).set 84 v84_8).set 85 v85_9).set 86 v86_10).set 87 v87_11).set 13 v87_11) h1
@[congr] theorem octroiref17_Babel_Way_r15_congr {env : Env} {h : Hp} {K : Env → Hp → Prop} : octroiref17_Babel_Way_r15 env h K = octroiref17_Babel_Way_r15 env h K := rfl

/-- ref.go:206 -/
def octroiref17_Babel_Way_r16 (env : Env) (h : Hp) (K : Env → Hp → Prop) : Prop :=
  rd Try.prog (Op.unary Go.UnOp.not (env 13)) noHp fun v89_1 =>
  gd (yb v89_1 == some false) (fun h k => k (env 12) h) h fun v91_3 h1 =>
  gd (yb v89_1 == some false) (fun h k => rd Try.prog (bop Go.BinOp.eql 3 (Go.Operand.tmp 91) (Go.Operand.const (Go.Value.int Go.IntKind.i64 65535)) v91_3 (Go.Value.int Go.IntKind.i64 65535)) noHp fun v => k v h) h1 fun v92_4 h2 =>
  rd Try.prog (pck v89_1 (Go.Value.bool true) v92_4) noHp fun v93_5 =>
  K ((((((env.set 88 (env 13)).set 89 v89_1).set 90 v89_1).set 91 v91_3).set 92 v92_4).set 93 v93_5) h2
@[congr] theorem octroiref17_Babel_Way_r16_congr {env : Env} {h : Hp} {K : Env → Hp → Prop} : octroiref17_Babel_Way_r16 env h K = octroiref17_Babel_Way_r16 env h K := rfl

/-- ref.go:209 -/
def octroiref17_Babel_Way_r17 (env : Env) (h : Hp) (K : Env → Hp → Prop) : Prop :=
  rd Try.prog (bop Go.BinOp.eql 3 (Go.Operand.tmp 94) (Go.Operand.const (Go.Value.int Go.IntKind.i64 0)) (env 9) (Go.Value.int Go.IntKind.i64 0)) noHp fun v95_1 =>
  gd (yb v95_1 == some false) (fun h k => k (env 12) h) h fun v97_3 h1 =>
  gd (yb v95_1 == some false) (fun h k => rd Try.prog (Instr.fieldAt 31 (env 8) 3) noHp fun v => k v h) h1 fun v98_4 h2 =>
  gd (yb v95_1 == some false) (fun h k => rd Try.prog (Instr.loadAt 3 v98_4) h fun v => k v h) h2 fun v99_5 h3 =>
  gd (yb v95_1 == some false) (fun h k => rd Try.prog (bop Go.BinOp.lss 3 (Go.Operand.tmp 97) (Go.Operand.tmp 99) v97_3 v99_5) noHp fun v => k v h) h3 fun v100_6 h4 =>
  rd Try.prog (pck v95_1 (Go.Value.bool true) v100_6) noHp fun v101_7 =>
  gd (yb v101_7 == some false) (fun h k => k (env 12) h) h4 fun v103_9 h5 =>
  gd (yb v101_7 == some false) (fun h k => rd Try.prog (Instr.fieldAt 31 (env 8) 3) noHp fun v => k v h) h5 fun v104_10 h6 =>
  gd (yb v101_7 == some false) (fun h k => rd Try.prog (Instr.loadAt 3 v104_10) h fun v => k v h) h6 fun v105_11 h7 =>
  gd (yb v101_7 == some false) (fun h k => rd Try.prog (bop Go.BinOp.eql 3 (Go.Operand.tmp 103) (Go.Operand.tmp 105) v103_9 v105_11) noHp fun v => k v h) h7 fun v106_12 h8 =>
  gd (yb v101_7 == some false) (fun h k => k v106_12 h) h8 fun v107_13 h9 =>
  gd (yb v107_13 == some true) (fun h k => rd Try.prog (Instr.fieldAt 116 (env 11) 1) noHp fun v => k v h) h9 fun v108_14 h10 =>
  gd (yb v107_13 == some true) (fun h k => rd Try.prog (Instr.loadAt 3 v108_14) h fun v => k v h) h10 fun v109_15 h11 =>
  gd (yb v107_13 == some true) (fun h k => k (env 9) h) h11 fun v110_16 h12 =>
  gd (yb v107_13 == some true) (fun h k => rd Try.prog (bop Go.BinOp.lss 3 (Go.Operand.tmp 109) (Go.Operand.tmp 110) v109_15 v110_16) noHp fun v => k v h) h12 fun v111_17 h13 =>
  gd (yb v101_7 == some false) (fun h k => rd Try.prog (pck v107_13 v111_17 (Go.Value.bool false)) noHp fun v => k v h) h13 fun v112_18 h14 =>
  rd Try.prog (pck v101_7 (Go.Value.bool true) v112_18) noHp fun v113_19 =>
  K ((((((((((((((((((((env.set 94 (env 9)).set 95 v95_1).set 96 v95_1).set 97 v97_3).set 98 v98_4).set 99 v99_5).set 100 v100_6).set 101 v101_7).set 102 v101_7).set 103 v103_9).set 104 v104_10).set 105 v105_11).set 106 v106_12).set 107 v107_13).set 108 v108_14).set 109 v109_15).set 110 v110_16).set 111 v111_17).set 112 v112_18).set 113 v113_19) h14
@[congr] theorem octroiref17_Babel_Way_r17_congr {env : Env} {h : Hp} {K : Env → Hp → Prop} : octroiref17_Babel_Way_r17 env h K = octroiref17_Babel_Way_r17 env h K := rfl

/-- ref.go:210 -/
def octroiref17_Babel_Way_r18 (env : Env) (h : Hp) (K : Env → Hp → Prop) : Prop :=
  rd Try.prog (Instr.fieldAt 116 (env 11) 1) noHp fun v114_0 =>
  rd Try.prog (Instr.loadAt 3 v114_0) h fun v115_1 =>
  K (((env.set 114 v114_0).set 115 v115_1).set 9 v115_1) h
@[congr] theorem octroiref17_Babel_Way_r18_congr {env : Env} {h : Hp} {K : Env → Hp → Prop} : octroiref17_Babel_Way_r18 env h K = octroiref17_Babel_Way_r18 env h K := rfl

/-- ref.go:211 -/
def octroiref17_Babel_Way_r19 (env : Env) (h : Hp) (K : Env → Hp → Prop) : Prop :=
  rd Try.prog (Instr.fieldAt 116 (env 11) 3) noHp fun v116_0 =>
  rd Try.prog (Instr.fieldAt 31 v116_0 5) noHp fun v117_1 =>
  rd Try.prog (Instr.loadAt 28 v117_1) h fun v118_2 =>
  rd Try.prog (Instr.fieldAt 31 (env 8) 5) noHp fun v119_3 =>
  arun Try.prog (Instr.storeAt 28 v119_3 v118_2) h fun _ h1 =>
  K ((((env.set 116 v116_0).set 117 v117_1).set 118 v118_2).set 119 v119_3) h1
@[congr] theorem octroiref17_Babel_Way_r19_congr {env : Env} {h : Hp} {K : Env → Hp → Prop} : octroiref17_Babel_Way_r19 env h K = octroiref17_Babel_Way_r19 env h K := rfl

/-- ref.go:212 -/
def octroiref17_Babel_Way_r20 (env : Env) (h : Hp) (K : Env → Hp → Prop) : Prop :=
  rd Try.prog (Instr.fieldAt 116 (env 11) 3) noHp fun v120_0 =>
  rd Try.prog (Instr.fieldAt 31 v120_0 1) noHp fun v121_1 =>
  rd Try.prog (Instr.loadAt 29 v121_1) h fun v122_2 =>
  rd Try.prog (Instr.fieldAt 31 (env 8) 1) noHp fun v123_3 =>
  arun Try.prog (Instr.storeAt 29 v123_3 v122_2) h fun _ h1 =>
  K ((((env.set 120 v120_0).set 121 v121_1).set 122 v122_2).set 123 v123_3) h1
@[congr] theorem octroiref17_Babel_Way_r20_congr {env : Env} {h : Hp} {K : Env → Hp → Prop} : octroiref17_Babel_Way_r20 env h K = octroiref17_Babel_Way_r20 env h K := rfl

/-- ref.go:213 -/
def octroiref17_Babel_Way_r21 (env : Env) (h : Hp) (K : Env → Hp → Prop) : Prop :=
  rd Try.prog (Instr.fieldAt 31 (env 8) 3) noHp fun v125_1 =>
  arun Try.prog (Instr.storeAt 3 v125_1 (env 12)) h fun _ h1 =>
  K ((env.set 124 (env 12)).set 125 v125_1) h1
@[congr] theorem octroiref17_Babel_Way_r21_congr {env : Env} {h : Hp} {K : Env → Hp → Prop} : octroiref17_Babel_Way_r21 env h K = octroiref17_Babel_Way_r21 env h K := rfl

/-- ref.go:214 -/
def octroiref17_Babel_Way_r22 (env : Env) (h : Hp) (K : Env → Hp → Prop) : Prop :=
  rd Try.prog (Instr.fieldAt 116 (env 11) 3) noHp fun v126_0 =>
  rd Try.prog (Instr.fieldAt 31 v126_0 6) noHp fun v127_1 =>
  rd Try.prog (Instr.loadAt 29 v127_1) h fun v128_2 =>
  rd Try.prog (Instr.fieldAt 31 (env 8) 6) noHp fun v129_3 =>
  arun Try.prog (Instr.storeAt 29 v129_3 v128_2) h fun _ h1 =>
  K ((((env.set 126 v126_0).set 127 v127_1).set 128 v128_2).set 129 v129_3) h1
@[congr] theorem octroiref17_Babel_Way_r22_congr {env : Env} {h : Hp} {K : Env → Hp → Prop} : octroiref17_Babel_Way_r22 env h K = octroiref17_Babel_Way_r22 env h K := rfl

/-- ref.go:199 -/
def octroiref17_Babel_Way_r23 (env : Env) (h : Hp) (K : Env → Hp → Prop) : Prop :=
  rd Try.prog (bop Go.BinOp.add 3 (Go.Operand.tmp 57) (Go.Operand.const (Go.Value.int Go.IntKind.i64 1)) (env 10) (Go.Value.int Go.IntKind.i64 1)) noHp fun v58_1 =>
  K (((env.set 57 (env 10)).set 58 v58_1).set 10 v58_1) h
@[congr] theorem octroiref17_Babel_Way_r23_congr {env : Env} {h : Hp} {K : Env → Hp → Prop} : octroiref17_Babel_Way_r23 env h K = octroiref17_Babel_Way_r23 env h K := rfl

def octroiref17_Babel_Way_L0 : Den := (sq (sq (rg octroiref17_Babel_Way_r11) (cnd (Go.Operand.tmp 56) (ex .normal) (ex (.exit 0)))) (sq (blk 1 (sq (rg octroiref17_Babel_Way_r12) (sq (sq (rg octroiref17_Babel_Way_r13) (cnd (Go.Operand.tmp 69) (ex (.exit 1)) (ex .normal))) (sq (rg octroiref17_Babel_Way_r14) (sq (rg octroiref17_Babel_Way_r15) (sq (sq (rg octroiref17_Babel_Way_r16) (cnd (Go.Operand.tmp 93) (ex (.exit 1)) (ex .normal))) (sq (rg octroiref17_Babel_Way_r17) (cnd (Go.Operand.tmp 113) (sq (rg octroiref17_Babel_Way_r18) (sq (rg octroiref17_Babel_Way_r19) (sq (rg octroiref17_Babel_Way_r20) (sq (rg octroiref17_Babel_Way_r21) (rg octroiref17_Babel_Way_r22))))) (ex .normal))))))))) (rg octroiref17_Babel_Way_r23)))

/-- ref.go:217 -/
def octroiref17_Babel_Way_r24 (env : Env) (h : Hp) (K : Env → Hp → Prop) : Prop :=
  rd Try.prog (Instr.loadAt 31 (env 8)) h fun v130_0 =>
  rd Try.prog (bop Go.BinOp.gtr 3 (Go.Operand.tmp 132) (Go.Operand.const (Go.Value.int Go.IntKind.i64 0)) (env 9) (Go.Value.int Go.IntKind.i64 0)) noHp fun v133_3 =>
  arun Try.prog (Instr.storeAt 31 (env 4) v130_0) h fun _ h1 =>
  K ((((((env.set 130 v130_0).set 131 (env 9)).set 132 (env 9)).set 133 v133_3).set 5 (env 9)).set 6 v133_3) h1
@[congr] theorem octroiref17_Babel_Way_r24_congr {env : Env} {h : Hp} {K : Env → Hp → Prop} : octroiref17_Babel_Way_r24 env h K = octroiref17_Babel_Way_r24 env h K := rfl

def octroiref17_Babel_Way_D : Den := (sq (rg octroiref17_Babel_Way_r0) (sq (rg octroiref17_Babel_Way_r1) (sq (rg octroiref17_Babel_Way_r2) (sq (sq (rg octroiref17_Babel_Way_r3) (cnd (Go.Operand.tmp 20) (sq (rg octroiref17_Babel_Way_r4) (sq (rg octroiref17_Babel_Way_r5) (sq (rg octroiref17_Babel_Way_r6) (sq (rg octroiref17_Babel_Way_r7) (sq (rg octroiref17_Babel_Way_r8) (ex .ret)))))) (ex .normal))) (sq (rg octroiref17_Babel_Way_r9) (sq (sq (rg octroiref17_Babel_Way_r10) (blk 0 (lp octroiref17_Babel_Way_L0))) (sq (rg octroiref17_Babel_Way_r24) (ex .ret))))))))

theorem octroiref17_Babel_Way_eq : (den Try.prog 134 octroiref17_Babel_Way_code).1 = octroiref17_Babel_Way_D := by kernel_rfl

theorem octroiref17_Babel_Way_ok {args : Array Value} {h : Hp} {Q : Value → Hp → Prop} (hn : args.size ≤ 134) (D : octroiref17_Babel_Way_D (fin Try.prog [(Go.ResultVar.cell 4 31), (Go.ResultVar.tmp 5), (Go.ResultVar.tmp 6)] Q) (env0 args) h) : Ok Try.prog 47 args h Q :=
  ok_of_den progIsOk Try.func47 (c := octroiref17_Babel_Way_code) (by kernel_rfl) hn (by show (den Try.prog 134 octroiref17_Babel_Way_code).1 _ _ _; rw [octroiref17_Babel_Way_eq]; exact D)

/-! ### octroi/prefix.Mask: function 48 -/
noncomputable def prefix_Mask_code : Code := match Try.f48.body with | some c => c | none => .skip

/-- prefix.go:19 -/
def prefix_Mask_r0 (env : Env) (h : Hp) (K : Env → Hp → Prop) : Prop :=
  K (env.set 2 (Go.Value.int Go.IntKind.u32 0)) h
@[congr] theorem prefix_Mask_r0_congr {env : Env} {h : Hp} {K : Env → Hp → Prop} : prefix_Mask_r0 env h K = prefix_Mask_r0 env h K := rfl

/-- prefix.go:19 -/
def prefix_Mask_r1 (env : Env) (h : Hp) (K : Env → Hp → Prop) : Prop :=
  rd Try.prog (Builtin.min_ #[3, 3] 3 #[(env 0), (Go.Value.int Go.IntKind.i64 32)]) h fun v4_1 =>
  rd Try.prog (Builtin.max_ #[3, 3] 3 #[(Go.Value.int Go.IntKind.i64 0), v4_1]) h fun v5_2 =>
  rd Try.prog (bop Go.BinOp.sub 3 (Go.Operand.const (Go.Value.int Go.IntKind.i64 32)) (Go.Operand.tmp 5) (Go.Value.int Go.IntKind.i64 32) v5_2) noHp fun v6_3 =>
  rd Try.prog (bop Go.BinOp.shl 22 (Go.Operand.const (Go.Value.int Go.IntKind.u32 4294967295)) (Go.Operand.tmp 6) (Go.Value.int Go.IntKind.u32 4294967295) v6_3) noHp fun v7_4 =>
  K ((((((env.set 3 (env 0)).set 4 v4_1).set 5 v5_2).set 6 v6_3).set 7 v7_4).set 2 v7_4) h
@[congr] theorem prefix_Mask_r1_congr {env : Env} {h : Hp} {K : Env → Hp → Prop} : prefix_Mask_r1 env h K = prefix_Mask_r1 env h K := rfl

def prefix_Mask_D : Den := (sq (rg prefix_Mask_r0) (sq (rg prefix_Mask_r1) (ex .ret)))

theorem prefix_Mask_eq : (den Try.prog 8 prefix_Mask_code).1 = prefix_Mask_D := by kernel_rfl

theorem prefix_Mask_ok {args : Array Value} {h : Hp} {Q : Value → Hp → Prop} (hn : args.size ≤ 8) (D : prefix_Mask_D (fin Try.prog [(Go.ResultVar.tmp 2)] Q) (env0 args) h) : Ok Try.prog 48 args h Q :=
  ok_of_den progIsOk Try.func48 (c := prefix_Mask_code) (by kernel_rfl) hn (by show (den Try.prog 8 prefix_Mask_code).1 _ _ _; rw [prefix_Mask_eq]; exact D)

/-! ### (*octroi/babel.Babel).prefixes$1: function 49 -/
noncomputable def babel_Babel_prefixes_1_code : Code := match Try.f49.body with | some c => c | none => .skip

/-- babel.go:160 -/
def babel_Babel_prefixes_1_r0 (env : Env) (h : Hp) (K : Env → Hp → Prop) : Prop :=
  arun Try.prog (Instr.box 24 (env 0)) h fun v1_0 h1 =>
  arun Try.prog (Instr.alloc 24 true (Go.Value.tuple #[])) h1 fun v2_1 h2 =>
  K ((env.set 1 v1_0).set 2 v2_1) h2
@[congr] theorem babel_Babel_prefixes_1_r0_congr {env : Env} {h : Hp} {K : Env → Hp → Prop} : babel_Babel_prefixes_1_r0 env h K = babel_Babel_prefixes_1_r0 env h K := rfl

/-- babel.go:160 -/
def babel_Babel_prefixes_1_r1 (env : Env) (h : Hp) (K : Env → Hp → Prop) : Prop :=
  rd Try.prog (Instr.loadAt 24 (env 1)) h fun v3_0 =>
  arun Try.prog (Instr.storeAt 24 (env 2) v3_0) h fun _ h1 =>
  K (env.set 3 v3_0) h1
@[congr] theorem babel_Babel_prefixes_1_r1_congr {env : Env} {h : Hp} {K : Env → Hp → Prop} : babel_Babel_prefixes_1_r1 env h K = babel_Babel_prefixes_1_r1 env h K := rfl

def babel_Babel_prefixes_1_D : Den := (sq (rg babel_Babel_prefixes_1_r0) (sq (rg babel_Babel_prefixes_1_r1) (ex .ret)))

theorem babel_Babel_prefixes_1_eq : (den Try.prog 4 babel_Babel_prefixes_1_code).1 = babel_Babel_prefixes_1_D := by kernel_rfl

theorem babel_Babel_prefixes_1_ok {args : Array Value} {h : Hp} {Q : Value → Hp → Prop} (hn : args.size ≤ 4) (D : babel_Babel_prefixes_1_D (fin Try.prog [(Go.ResultVar.cell 2 24)] Q) (env0 args) h) : Ok Try.prog 49 args h Q :=
  ok_of_den progIsOk Try.func49 (c := babel_Babel_prefixes_1_code) (by kernel_rfl) hn (by show (den Try.prog 4 babel_Babel_prefixes_1_code).1 _ _ _; rw [babel_Babel_prefixes_1_eq]; exact D)

/-! ### octroi/babel.keys[octroi/api.Prefix,octroi/api.BabelTlv]: function 50 -/
noncomputable def babel_keys_api_Prefix_api_BabelTlv_code : Code := match Try.f50.body with | some c => c | none => .skip

/-- babel.go:151 -/
def babel_keys_api_Prefix_api_BabelTlv_r0 (env : Env) (h : Hp) (K : Env → Hp → Prop) : Prop :=
  K (env.set 6 (Go.Value.slice none 0 0)) h
@[congr] theorem babel_keys_api_Prefix_api_BabelTlv_r0_congr {env : Env} {h : Hp} {K : Env → Hp → Prop} : babel_keys_api_Prefix_api_BabelTlv_r0 env h K = babel_keys_api_Prefix_api_BabelTlv_r0 env h K := rfl

/-- babel.go:152 -/
def babel_keys_api_Prefix_api_BabelTlv_r1 (env : Env) (h : Hp) (K : Env → Hp → Prop) : Prop :=
  arun Try.prog (Instr.range 70 (env 1)) h fun v9_1 h1 =>
  K ((env.set 8 (env 1)).set 9 v9_1) h1
@[congr] theorem babel_keys_api_Prefix_api_BabelTlv_r1_congr {env : Env} {h : Hp} {K : Env → Hp → Prop} : babel_keys_api_Prefix_api_BabelTlv_r1 env h K = babel_keys_api_Prefix_api_BabelTlv_r1 env h K := rfl

/-- babel.go:152 -/
def babel_keys_api_Prefix_api_BabelTlv_r2 (env : Env) (h : Hp) (K : Env → Hp → Prop) : Prop :=
  arun Try.prog (Instr.next (env 9) false 0) h fun v10_0 h1 =>
  rd Try.prog (Instr.extract v10_0 0) noHp fun v11_1 =>
  K ((env.set 10 v10_0).set 11 v11_1) h1
@[congr] theorem babel_keys_api_Prefix_api_BabelTlv_r2_congr {env : Env} {h : Hp} {K : Env → Hp → Prop} : babel_keys_api_Prefix_api_BabelTlv_r2 env h K = babel_keys_api_Prefix_api_BabelTlv_r2 env h K := rfl

/-- babel.go:152 -/
def babel_keys_api_Prefix_api_BabelTlv_r3 (env : Env) (h : Hp) (K : Env → Hp → Prop) : Prop :=
  arun Try.prog (Instr.entry (env 9)) h fun v12_0 h1 =>
  rd Try.prog (Instr.extract v12_0 0) noHp fun v13_1 =>
  arun Try.prog (Instr.alloc 24 true (Go.Value.tuple #[])) h1 fun v7_2 h2 =>
  arun Try.prog (Instr.storeAt 24 v7_2 v13_1) h2 fun _ h3 =>
  K (((env.set 12 v12_0).set 13 v13_1).set 7 v7_2) h3
@[congr] theorem babel_keys_api_Prefix_api_BabelTlv_r3_congr {env : Env} {h : Hp} {K : Env → Hp → Prop} : babel_keys_api_Prefix_api_BabelTlv_r3 env h K = babel_keys_api_Prefix_api_BabelTlv_r3 env h K := rfl

/-- babel.go:153 -/
def babel_keys_api_Prefix_api_BabelTlv_r4 (env : Env) (h : Hp) (K : Env → Hp → Prop) : Prop :=
  rd Try.prog (Instr.loadAt 24 (env 7)) h fun v16_2 =>
  callV Try.prog (env 2) #[v16_2] h fun v17_3 h1 =>
  arun Try.prog (Instr.buildSlice 88 1 #[(0, v17_3)]) h1 fun v18_4 h2 =>
  arun Try.prog (Builtin.append_ #[88, 88] 88 #[(env 0), v18_4]) h2 fun v19_5 h3 =>
  K (((((((env.set 14 (env 0)).set 15 (env 2)).set 16 v16_2).set 17 v17_3).set 18 v18_4).set 19 v19_5).set 0 v19_5) h3
@[congr] theorem babel_keys_api_Prefix_api_BabelTlv_r4_congr {env : Env} {h : Hp} {K : Env → Hp → Prop} : babel_keys_api_Prefix_api_BabelTlv_r4 env h K = babel_keys_api_Prefix_api_BabelTlv_r4 env h K := rfl

def babel_keys_api_Prefix_api_BabelTlv_L0 : Den := (sq (rg babel_keys_api_Prefix_api_BabelTlv_r2) (sq (cnd (Go.Operand.tmp 11) (ex .normal) (ex (.exit 0))) (blk 1 (sq (rg babel_keys_api_Prefix_api_BabelTlv_r3) (rg babel_keys_api_Prefix_api_BabelTlv_r4)))))

/-- babel.go:155 -/
def babel_keys_api_Prefix_api_BabelTlv_r5 (env : Env) (h : Hp) (K : Env → Hp → Prop) : Prop :=
  K ((env.set 20 (env 0)).set 6 (env 0)) h
@[congr] theorem babel_keys_api_Prefix_api_BabelTlv_r5_congr {env : Env} {h : Hp} {K : Env → Hp → Prop} : babel_keys_api_Prefix_api_BabelTlv_r5 env h K = babel_keys_api_Prefix_api_BabelTlv_r5 env h K := rfl

def babel_keys_api_Prefix_api_BabelTlv_D : Den := (sq (rg babel_keys_api_Prefix_api_BabelTlv_r0) (sq (sq (rg babel_keys_api_Prefix_api_BabelTlv_r1) (blk 0 (lp babel_keys_api_Prefix_api_BabelTlv_L0))) (sq (rg babel_keys_api_Prefix_api_BabelTlv_r5) (ex .ret))))

theorem babel_keys_api_Prefix_api_BabelTlv_eq : (den Try.prog 21 babel_keys_api_Prefix_api_BabelTlv_code).1 = babel_keys_api_Prefix_api_BabelTlv_D := by kernel_rfl

theorem babel_keys_api_Prefix_api_BabelTlv_ok {args : Array Value} {h : Hp} {Q : Value → Hp → Prop} (hn : args.size ≤ 21) (D : babel_keys_api_Prefix_api_BabelTlv_D (fin Try.prog [(Go.ResultVar.tmp 6)] Q) (env0 args) h) : Ok Try.prog 50 args h Q :=
  ok_of_den progIsOk Try.func50 (c := babel_keys_api_Prefix_api_BabelTlv_code) (by kernel_rfl) hn (by show (den Try.prog 21 babel_keys_api_Prefix_api_BabelTlv_code).1 _ _ _; rw [babel_keys_api_Prefix_api_BabelTlv_eq]; exact D)

/-! ### octroi/babel.keys[octroi/babel.from,octroi/babel.told]: function 51 -/
noncomputable def babel_keys_babel_from_babel_told_code : Code := match Try.f51.body with | some c => c | none => .skip

/-- babel.go:151 -/
def babel_keys_babel_from_babel_told_r0 (env : Env) (h : Hp) (K : Env → Hp → Prop) : Prop :=
  K (env.set 6 (Go.Value.slice none 0 0)) h
@[congr] theorem babel_keys_babel_from_babel_told_r0_congr {env : Env} {h : Hp} {K : Env → Hp → Prop} : babel_keys_babel_from_babel_told_r0 env h K = babel_keys_babel_from_babel_told_r0 env h K := rfl

/-- babel.go:152 -/
def babel_keys_babel_from_babel_told_r1 (env : Env) (h : Hp) (K : Env → Hp → Prop) : Prop :=
  arun Try.prog (Instr.range 71 (env 1)) h fun v9_1 h1 =>
  K ((env.set 8 (env 1)).set 9 v9_1) h1
@[congr] theorem babel_keys_babel_from_babel_told_r1_congr {env : Env} {h : Hp} {K : Env → Hp → Prop} : babel_keys_babel_from_babel_told_r1 env h K = babel_keys_babel_from_babel_told_r1 env h K := rfl

/-- babel.go:152 -/
def babel_keys_babel_from_babel_told_r2 (env : Env) (h : Hp) (K : Env → Hp → Prop) : Prop :=
  arun Try.prog (Instr.next (env 9) false 0) h fun v10_0 h1 =>
  rd Try.prog (Instr.extract v10_0 0) noHp fun v11_1 =>
  K ((env.set 10 v10_0).set 11 v11_1) h1
@[congr] theorem babel_keys_babel_from_babel_told_r2_congr {env : Env} {h : Hp} {K : Env → Hp → Prop} : babel_keys_babel_from_babel_told_r2 env h K = babel_keys_babel_from_babel_told_r2 env h K := rfl

/-- babel.go:152 -/
def babel_keys_babel_from_babel_told_r3 (env : Env) (h : Hp) (K : Env → Hp → Prop) : Prop :=
  arun Try.prog (Instr.entry (env 9)) h fun v12_0 h1 =>
  rd Try.prog (Instr.extract v12_0 0) noHp fun v13_1 =>
  arun Try.prog (Instr.alloc 77 true (Go.Value.tuple #[])) h1 fun v7_2 h2 =>
  arun Try.prog (Instr.storeAt 77 v7_2 v13_1) h2 fun _ h3 =>
  K (((env.set 12 v12_0).set 13 v13_1).set 7 v7_2) h3
@[congr] theorem babel_keys_babel_from_babel_told_r3_congr {env : Env} {h : Hp} {K : Env → Hp → Prop} : babel_keys_babel_from_babel_told_r3 env h K = babel_keys_babel_from_babel_told_r3 env h K := rfl

/-- babel.go:153 -/
def babel_keys_babel_from_babel_told_r4 (env : Env) (h : Hp) (K : Env → Hp → Prop) : Prop :=
  rd Try.prog (Instr.loadAt 77 (env 7)) h fun v16_2 =>
  callV Try.prog (env 2) #[v16_2] h fun v17_3 h1 =>
  arun Try.prog (Instr.buildSlice 88 1 #[(0, v17_3)]) h1 fun v18_4 h2 =>
  arun Try.prog (Builtin.append_ #[88, 88] 88 #[(env 0), v18_4]) h2 fun v19_5 h3 =>
  K (((((((env.set 14 (env 0)).set 15 (env 2)).set 16 v16_2).set 17 v17_3).set 18 v18_4).set 19 v19_5).set 0 v19_5) h3
@[congr] theorem babel_keys_babel_from_babel_told_r4_congr {env : Env} {h : Hp} {K : Env → Hp → Prop} : babel_keys_babel_from_babel_told_r4 env h K = babel_keys_babel_from_babel_told_r4 env h K := rfl

def babel_keys_babel_from_babel_told_L0 : Den := (sq (rg babel_keys_babel_from_babel_told_r2) (sq (cnd (Go.Operand.tmp 11) (ex .normal) (ex (.exit 0))) (blk 1 (sq (rg babel_keys_babel_from_babel_told_r3) (rg babel_keys_babel_from_babel_told_r4)))))

/-- babel.go:155 -/
def babel_keys_babel_from_babel_told_r5 (env : Env) (h : Hp) (K : Env → Hp → Prop) : Prop :=
  K ((env.set 20 (env 0)).set 6 (env 0)) h
@[congr] theorem babel_keys_babel_from_babel_told_r5_congr {env : Env} {h : Hp} {K : Env → Hp → Prop} : babel_keys_babel_from_babel_told_r5 env h K = babel_keys_babel_from_babel_told_r5 env h K := rfl

def babel_keys_babel_from_babel_told_D : Den := (sq (rg babel_keys_babel_from_babel_told_r0) (sq (sq (rg babel_keys_babel_from_babel_told_r1) (blk 0 (lp babel_keys_babel_from_babel_told_L0))) (sq (rg babel_keys_babel_from_babel_told_r5) (ex .ret))))

theorem babel_keys_babel_from_babel_told_eq : (den Try.prog 21 babel_keys_babel_from_babel_told_code).1 = babel_keys_babel_from_babel_told_D := by kernel_rfl

theorem babel_keys_babel_from_babel_told_ok {args : Array Value} {h : Hp} {Q : Value → Hp → Prop} (hn : args.size ≤ 21) (D : babel_keys_babel_from_babel_told_D (fin Try.prog [(Go.ResultVar.tmp 6)] Q) (env0 args) h) : Ok Try.prog 51 args h Q :=
  ok_of_den progIsOk Try.func51 (c := babel_keys_babel_from_babel_told_code) (by kernel_rfl) hn (by show (den Try.prog 21 babel_keys_babel_from_babel_told_code).1 _ _ _; rw [babel_keys_babel_from_babel_told_eq]; exact D)

/-! ### (*octroi/babel.Babel).prefixes$2: function 52 -/
noncomputable def babel_Babel_prefixes_2_code : Code := match Try.f52.body with | some c => c | none => .skip

/-- babel.go:163 -/
def babel_Babel_prefixes_2_r0 (env : Env) (h : Hp) (K : Env → Hp → Prop) : Prop :=
  arun Try.prog (Instr.box 77 (env 0)) h fun v1_0 h1 =>
  arun Try.prog (Instr.alloc 24 true (Go.Value.tuple #[])) h1 fun v2_1 h2 =>
  K ((env.set 1 v1_0).set 2 v2_1) h2
@[congr] theorem babel_Babel_prefixes_2_r0_congr {env : Env} {h : Hp} {K : Env → Hp → Prop} : babel_Babel_prefixes_2_r0 env h K = babel_Babel_prefixes_2_r0 env h K := rfl

/-- babel.go:163 -/
def babel_Babel_prefixes_2_r1 (env : Env) (h : Hp) (K : Env → Hp → Prop) : Prop :=
  rd Try.prog (Instr.fieldAt 77 (env 1) 0) noHp fun v3_0 =>
  rd Try.prog (Instr.loadAt 24 v3_0) h fun v4_1 =>
  arun Try.prog (Instr.storeAt 24 (env 2) v4_1) h fun _ h1 =>
  K ((env.set 3 v3_0).set 4 v4_1) h1
@[congr] theorem babel_Babel_prefixes_2_r1_congr {env : Env} {h : Hp} {K : Env → Hp → Prop} : babel_Babel_prefixes_2_r1 env h K = babel_Babel_prefixes_2_r1 env h K := rfl

def babel_Babel_prefixes_2_D : Den := (sq (rg babel_Babel_prefixes_2_r0) (sq (rg babel_Babel_prefixes_2_r1) (ex .ret)))

theorem babel_Babel_prefixes_2_eq : (den Try.prog 5 babel_Babel_prefixes_2_code).1 = babel_Babel_prefixes_2_D := by kernel_rfl

theorem babel_Babel_prefixes_2_ok {args : Array Value} {h : Hp} {Q : Value → Hp → Prop} (hn : args.size ≤ 5) (D : babel_Babel_prefixes_2_D (fin Try.prog [(Go.ResultVar.cell 2 24)] Q) (env0 args) h) : Ok Try.prog 52 args h Q :=
  ok_of_den progIsOk Try.func52 (c := babel_Babel_prefixes_2_code) (by kernel_rfl) hn (by show (den Try.prog 5 babel_Babel_prefixes_2_code).1 _ _ _; rw [babel_Babel_prefixes_2_eq]; exact D)

/-! ### slices.SortFunc[[]octroi/api.Prefix,octroi/api.Prefix]: function 53 -/
noncomputable def slices_SortFunc_api_Prefix_api_Prefix_code : Code := match Try.f53.body with | some c => c | none => .skip

/-- sort.go:31 -/
def slices_SortFunc_api_Prefix_api_Prefix_r0 (env : Env) (h : Hp) (K : Env → Hp → Prop) : Prop :=
  rd Try.prog (Builtin.len_ #[88] 3 #[(env 0)]) h fun v6_1 =>
  K (((env.set 5 (env 0)).set 6 v6_1).set 4 v6_1) h
@[congr] theorem slices_SortFunc_api_Prefix_api_Prefix_r0_congr {env : Env} {h : Hp} {K : Env → Hp → Prop} : slices_SortFunc_api_Prefix_api_Prefix_r0 env h K = slices_SortFunc_api_Prefix_api_Prefix_r0 env h K := rfl

/-- sort.go:32 -/
def slices_SortFunc_api_Prefix_api_Prefix_r1 (env : Env) (h : Hp) (K : Env → Hp → Prop) : Prop :=
  rd Try.prog (convert 3 120 (env 4)) noHp fun v10_3 =>
  Ok Try.prog 66 #[v10_3] h fun v11_4 h1 =>
  Ok Try.prog 65 #[(env 0), (Go.Value.int Go.IntKind.i64 0), (env 4), v11_4, (env 1)] h1 fun v13_6 h2 =>
  K (((((((env.set 7 (env 0)).set 8 (env 4)).set 9 (env 4)).set 10 v10_3).set 11 v11_4).set 12 (env 1)).set 13 v13_6) h2
@[congr] theorem slices_SortFunc_api_Prefix_api_Prefix_r1_congr {env : Env} {h : Hp} {K : Env → Hp → Prop} : slices_SortFunc_api_Prefix_api_Prefix_r1 env h K = slices_SortFunc_api_Prefix_api_Prefix_r1 env h K := rfl

def slices_SortFunc_api_Prefix_api_Prefix_D : Den := (sq (rg slices_SortFunc_api_Prefix_api_Prefix_r0) (rg slices_SortFunc_api_Prefix_api_Prefix_r1))

theorem slices_SortFunc_api_Prefix_api_Prefix_eq : (den Try.prog 14 slices_SortFunc_api_Prefix_api_Prefix_code).1 = slices_SortFunc_api_Prefix_api_Prefix_D := by kernel_rfl

theorem slices_SortFunc_api_Prefix_api_Prefix_ok {args : Array Value} {h : Hp} {Q : Value → Hp → Prop} (hn : args.size ≤ 14) (D : slices_SortFunc_api_Prefix_api_Prefix_D (fin Try.prog [] Q) (env0 args) h) : Ok Try.prog 53 args h Q :=
  ok_of_den progIsOk Try.func53 (c := slices_SortFunc_api_Prefix_api_Prefix_code) (by kernel_rfl) hn (by show (den Try.prog 14 slices_SortFunc_api_Prefix_api_Prefix_code).1 _ _ _; rw [slices_SortFunc_api_Prefix_api_Prefix_eq]; exact D)

/-! ### (*octroi/babel.Babel).prefixes$3: function 54 -/
noncomputable def babel_Babel_prefixes_3_code : Code := match Try.f54.body with | some c => c | none => .skip

/-- babel.go:164 -/
def babel_Babel_prefixes_3_r0 (env : Env) (h : Hp) (K : Env → Hp → Prop) : Prop :=
  arun Try.prog (Instr.box 24 (env 0)) h fun v2_0 h1 =>
  arun Try.prog (Instr.box 24 (env 1)) h1 fun v3_1 h2 =>
  K (((env.set 2 v2_0).set 3 v3_1).set 4 (Go.Value.int Go.IntKind.i64 0)) h2
@[congr] theorem babel_Babel_prefixes_3_r0_congr {env : Env} {h : Hp} {K : Env → Hp → Prop} : babel_Babel_prefixes_3_r0 env h K = babel_Babel_prefixes_3_r0 env h K := rfl

/-- babel.go:166 -/
def babel_Babel_prefixes_3_r1 (env : Env) (h : Hp) (K : Env → Hp → Prop) : Prop :=
  rd Try.prog (Instr.loadAt 24 (env 2)) h fun v6_0 =>
  rd Try.prog (Instr.loadAt 24 (env 3)) h fun v7_1 =>
  Ok Try.prog 55 #[v6_0, v7_1] h fun v8_2 h1 =>
  K ((((env.set 6 v6_0).set 7 v7_1).set 8 v8_2).set 5 v8_2) h1
@[congr] theorem babel_Babel_prefixes_3_r1_congr {env : Env} {h : Hp} {K : Env → Hp → Prop} : babel_Babel_prefixes_3_r1 env h K = babel_Babel_prefixes_3_r1 env h K := rfl

/-- babel.go:167 -/
def babel_Babel_prefixes_3_r2 (env : Env) (h : Hp) (K : Env → Hp → Prop) : Prop :=
  K (env.set 4 (Go.Value.int Go.IntKind.i64 (-1))) h
@[congr] theorem babel_Babel_prefixes_3_r2_congr {env : Env} {h : Hp} {K : Env → Hp → Prop} : babel_Babel_prefixes_3_r2 env h K = babel_Babel_prefixes_3_r2 env h K := rfl

/-- babel.go:168 -/
def babel_Babel_prefixes_3_r3 (env : Env) (h : Hp) (K : Env → Hp → Prop) : Prop :=
  rd Try.prog (Instr.loadAt 24 (env 2)) h fun v10_0 =>
  rd Try.prog (Instr.loadAt 24 (env 3)) h fun v11_1 =>
  rd Try.prog (bop Go.BinOp.eql 24 (Go.Operand.tmp 10) (Go.Operand.tmp 11) v10_0 v11_1) noHp fun v12_2 =>
  K ((((env.set 10 v10_0).set 11 v11_1).set 12 v12_2).set 9 v12_2) h
@[congr] theorem babel_Babel_prefixes_3_r3_congr {env : Env} {h : Hp} {K : Env → Hp → Prop} : babel_Babel_prefixes_3_r3 env h K = babel_Babel_prefixes_3_r3 env h K := rfl

/-- babel.go:169 -/
def babel_Babel_prefixes_3_r4 (env : Env) (h : Hp) (K : Env → Hp → Prop) : Prop :=
  K (env.set 4 (Go.Value.int Go.IntKind.i64 0)) h
@[congr] theorem babel_Babel_prefixes_3_r4_congr {env : Env} {h : Hp} {K : Env → Hp → Prop} : babel_Babel_prefixes_3_r4 env h K = babel_Babel_prefixes_3_r4 env h K := rfl

/-- babel.go:171 -/
def babel_Babel_prefixes_3_r5 (env : Env) (h : Hp) (K : Env → Hp → Prop) : Prop :=
  K (env.set 4 (Go.Value.int Go.IntKind.i64 1)) h
@[congr] theorem babel_Babel_prefixes_3_r5_congr {env : Env} {h : Hp} {K : Env → Hp → Prop} : babel_Babel_prefixes_3_r5 env h K = babel_Babel_prefixes_3_r5 env h K := rfl

def babel_Babel_prefixes_3_D : Den := (sq (rg babel_Babel_prefixes_3_r0) (sq (blk 0 (sq (rg babel_Babel_prefixes_3_r1) (cnd (Go.Operand.tmp 5) (sq (rg babel_Babel_prefixes_3_r2) (ex .ret)) (sq (rg babel_Babel_prefixes_3_r3) (cnd (Go.Operand.tmp 9) (sq (rg babel_Babel_prefixes_3_r4) (ex .ret)) (ex .normal)))))) (sq (rg babel_Babel_prefixes_3_r5) (ex .ret))))

theorem babel_Babel_prefixes_3_eq : (den Try.prog 13 babel_Babel_prefixes_3_code).1 = babel_Babel_prefixes_3_D := by kernel_rfl

theorem babel_Babel_prefixes_3_ok {args : Array Value} {h : Hp} {Q : Value → Hp → Prop} (hn : args.size ≤ 13) (D : babel_Babel_prefixes_3_D (fin Try.prog [(Go.ResultVar.tmp 4)] Q) (env0 args) h) : Ok Try.prog 54 args h Q :=
  ok_of_den progIsOk Try.func54 (c := babel_Babel_prefixes_3_code) (by kernel_rfl) hn (by show (den Try.prog 13 babel_Babel_prefixes_3_code).1 _ _ _; rw [babel_Babel_prefixes_3_eq]; exact D)

/-! ### octroi/prefix.Less: function 55 -/
noncomputable def prefix_Less_code : Code := match Try.f55.body with | some c => c | none => .skip

/-- prefix.go:48 -/
def prefix_Less_r0 (env : Env) (h : Hp) (K : Env → Hp → Prop) : Prop :=
  arun Try.prog (Instr.box 24 (env 0)) h fun v2_0 h1 =>
  arun Try.prog (Instr.box 24 (env 1)) h1 fun v3_1 h2 =>
  K (((env.set 2 v2_0).set 3 v3_1).set 4 (Go.Value.bool false)) h2
@[congr] theorem prefix_Less_r0_congr {env : Env} {h : Hp} {K : Env → Hp → Prop} : prefix_Less_r0 env h K = prefix_Less_r0 env h K := rfl

/-- prefix.go:49 -/
def prefix_Less_r1 (env : Env) (h : Hp) (K : Env → Hp → Prop) : Prop :=
  rd Try.prog (Instr.fieldAt 24 (env 2) 0) noHp fun v5_0 =>
  rd Try.prog (Instr.loadAt 22 v5_0) h fun v6_1 =>
  rd Try.prog (Instr.fieldAt 24 (env 3) 0) noHp fun v7_2 =>
  rd Try.prog (Instr.loadAt 22 v7_2) h fun v8_3 =>
  rd Try.prog (bop Go.BinOp.neq 22 (Go.Operand.tmp 6) (Go.Operand.tmp 8) v6_1 v8_3) noHp fun v9_4 =>
  K (((((env.set 5 v5_0).set 6 v6_1).set 7 v7_2).set 8 v8_3).set 9 v9_4) h
@[congr] theorem prefix_Less_r1_congr {env : Env} {h : Hp} {K : Env → Hp → Prop} : prefix_Less_r1 env h K = prefix_Less_r1 env h K := rfl

/-- prefix.go:50 -/
def prefix_Less_r2 (env : Env) (h : Hp) (K : Env → Hp → Prop) : Prop :=
  rd Try.prog (Instr.fieldAt 24 (env 2) 0) noHp fun v10_0 =>
  rd Try.prog (Instr.loadAt 22 v10_0) h fun v11_1 =>
  rd Try.prog (Instr.fieldAt 24 (env 3) 0) noHp fun v12_2 =>
  rd Try.prog (Instr.loadAt 22 v12_2) h fun v13_3 =>
  rd Try.prog (bop Go.BinOp.lss 22 (Go.Operand.tmp 11) (Go.Operand.tmp 13) v11_1 v13_3) noHp fun v14_4 =>
  K ((((((env.set 10 v10_0).set 11 v11_1).set 12 v12_2).set 13 v13_3).set 14 v14_4).set 4 v14_4) h
@[congr] theorem prefix_Less_r2_congr {env : Env} {h : Hp} {K : Env → Hp → Prop} : prefix_Less_r2 env h K = prefix_Less_r2 env h K := rfl

/-- prefix.go:52 -/
def prefix_Less_r3 (env : Env) (h : Hp) (K : Env → Hp → Prop) : Prop :=
  rd Try.prog (Instr.fieldAt 24 (env 2) 1) noHp fun v15_0 =>
  rd Try.prog (Instr.loadAt 3 v15_0) h fun v16_1 =>
  rd Try.prog (Instr.fieldAt 24 (env 3) 1) noHp fun v17_2 =>
  rd Try.prog (Instr.loadAt 3 v17_2) h fun v18_3 =>
  rd Try.prog (bop Go.BinOp.lss 3 (Go.Operand.tmp 16) (Go.Operand.tmp 18) v16_1 v18_3) noHp fun v19_4 =>
  K ((((((env.set 15 v15_0).set 16 v16_1).set 17 v17_2).set 18 v18_3).set 19 v19_4).set 4 v19_4) h
@[congr] theorem prefix_Less_r3_congr {env : Env} {h : Hp} {K : Env → Hp → Prop} : prefix_Less_r3 env h K = prefix_Less_r3 env h K := rfl

def prefix_Less_D : Den := (sq (rg prefix_Less_r0) (sq (sq (rg prefix_Less_r1) (cnd (Go.Operand.tmp 9) (sq (rg prefix_Less_r2) (ex .ret)) (ex .normal))) (sq (rg prefix_Less_r3) (ex .ret))))

theorem prefix_Less_eq : (den Try.prog 20 prefix_Less_code).1 = prefix_Less_D := by kernel_rfl

theorem prefix_Less_ok {args : Array Value} {h : Hp} {Q : Value → Hp → Prop} (hn : args.size ≤ 20) (D : prefix_Less_D (fin Try.prog [(Go.ResultVar.tmp 4)] Q) (env0 args) h) : Ok Try.prog 55 args h Q :=
  ok_of_den progIsOk Try.func55 (c := prefix_Less_code) (by kernel_rfl) hn (by show (den Try.prog 20 prefix_Less_code).1 _ _ _; rw [prefix_Less_eq]; exact D)

/-! ### slices.Compact[[]octroi/api.Prefix,octroi/api.Prefix]: function 56 -/
noncomputable def slices_Compact_api_Prefix_api_Prefix_code : Code := match Try.f56.body with | some c => c | none => .skip

/-- slices.go:371 -/
def slices_Compact_api_Prefix_api_Prefix_r0 (env : Env) (h : Hp) (K : Env → Hp → Prop) : Prop :=
  K (env.set 2 (Go.Value.slice none 0 0)) h
@[congr] theorem slices_Compact_api_Prefix_api_Prefix_r0_congr {env : Env} {h : Hp} {K : Env → Hp → Prop} : slices_Compact_api_Prefix_api_Prefix_r0 env h K = slices_Compact_api_Prefix_api_Prefix_r0 env h K := rfl

/-- slices.go:372 -/
def slices_Compact_api_Prefix_api_Prefix_r1 (env : Env) (h : Hp) (K : Env → Hp → Prop) : Prop :=
  rd Try.prog (Builtin.len_ #[88] 3 #[(env 0)]) h fun v7_1 =>
  rd Try.prog (bop Go.BinOp.lss 3 (Go.Operand.tmp 7) (Go.Operand.const (Go.Value.int Go.IntKind.i64 2)) v7_1 (Go.Value.int Go.IntKind.i64 2)) noHp fun v8_2 =>
  K (((env.set 6 (env 0)).set 7 v7_1).set 8 v8_2) h
@[congr] theorem slices_Compact_api_Prefix_api_Prefix_r1_congr {env : Env} {h : Hp} {K : Env → Hp → Prop} : slices_Compact_api_Prefix_api_Prefix_r1 env h K = slices_Compact_api_Prefix_api_Prefix_r1 env h K := rfl

/-- slices.go:373 -/
def slices_Compact_api_Prefix_api_Prefix_r2 (env : Env) (h : Hp) (K : Env → Hp → Prop) : Prop :=
  K ((env.set 9 (env 0)).set 2 (env 0)) h
@[congr] theorem slices_Compact_api_Prefix_api_Prefix_r2_congr {env : Env} {h : Hp} {K : Env → Hp → Prop} : slices_Compact_api_Prefix_api_Prefix_r2 env h K = slices_Compact_api_Prefix_api_Prefix_r2 env h K := rfl

/-- slices.go:375 -/
def slices_Compact_api_Prefix_api_Prefix_r3 (env : Env) (h : Hp) (K : Env → Hp → Prop) : Prop :=
  K (env.set 3 (Go.Value.int Go.IntKind.i64 1)) h
@[congr] theorem slices_Compact_api_Prefix_api_Prefix_r3_congr {env : Env} {h : Hp} {K : Env → Hp → Prop} : slices_Compact_api_Prefix_api_Prefix_r3 env h K = slices_Compact_api_Prefix_api_Prefix_r3 env h K := rfl

/-- slices.go:375 -/
def slices_Compact_api_Prefix_api_Prefix_r4 (env : Env) (h : Hp) (K : Env → Hp → Prop) : Prop :=
  rd Try.prog (Builtin.len_ #[88] 3 #[(env 0)]) h fun v12_2 =>
  rd Try.prog (bop Go.BinOp.lss 3 (Go.Operand.tmp 10) (Go.Operand.tmp 12) (env 3) v12_2) noHp fun v13_3 =>
  K ((((env.set 10 (env 3)).set 11 (env 0)).set 12 v12_2).set 13 v13_3) h
@[congr] theorem slices_Compact_api_Prefix_api_Prefix_r4_congr {env : Env} {h : Hp} {K : Env → Hp → Prop} : slices_Compact_api_Prefix_api_Prefix_r4 env h K = slices_Compact_api_Prefix_api_Prefix_r4 env h K := rfl

/-- slices.go:376 (in any order) -/
def slices_Compact_api_Prefix_api_Prefix_r5 (env : Env) (h : Hp) (K : Env → Hp → Prop) : Prop :=
  rd Try.prog (Instr.indexAt 88 (env 0) (env 3)) noHp fun v18_2 =>
  rd Try.prog (Instr.loadAt 24 v18_2) h fun v19_3 =>
  rd Try.prog (bop Go.BinOp.sub 3 (Go.Operand.tmp 21) (Go.Operand.const (Go.Value.int Go.IntKind.i64 1)) (env 3) (Go.Value.int Go.IntKind.i64 1)) noHp fun v22_6 =>
  rd Try.prog (Instr.indexAt 88 (env 0) v22_6) noHp fun v23_7 =>
  rd Try.prog (Instr.loadAt 24 v23_7) h fun v24_8 =>
  rd Try.prog (bop Go.BinOp.eql 24 (Go.Operand.tmp 19) (Go.Operand.tmp 24) v19_3 v24_8) noHp fun v25_9 =>
  K ((((((((((env.set 16 (env 0)).set 17 (env 3)).set 18 v18_2).set 19 v19_3).set 20 (env 0)).set 21 (env 3)).set 22 v22_6).set 23 v23_7).set 24 v24_8).set 25 v25_9) h
@[congr] theorem slices_Compact_api_Prefix_api_Prefix_r5_congr {env : Env} {h : Hp} {K : Env → Hp → Prop} : slices_Compact_api_Prefix_api_Prefix_r5 env h K = slices_Compact_api_Prefix_api_Prefix_r5 env h K := rfl

/-- slices.go:377 -/
def slices_Compact_api_Prefix_api_Prefix_r6 (env : Env) (h : Hp) (K : Env → Hp → Prop) : Prop :=
  rd Try.prog (Instr.sliceAt 88 (env 0) (some (env 3)) none none) noHp fun v28_2 =>
  K ((((env.set 26 (env 0)).set 27 (env 3)).set 28 v28_2).set 4 v28_2) h
@[congr] theorem slices_Compact_api_Prefix_api_Prefix_r6_congr {env : Env} {h : Hp} {K : Env → Hp → Prop} : slices_Compact_api_Prefix_api_Prefix_r6 env h K = slices_Compact_api_Prefix_api_Prefix_r6 env h K := rfl

/-- slices.go:378 -/
def slices_Compact_api_Prefix_api_Prefix_r7 (env : Env) (h : Hp) (K : Env → Hp → Prop) : Prop :=
  K (env.set 5 (Go.Value.int Go.IntKind.i64 1)) h
@[congr] theorem slices_Compact_api_Prefix_api_Prefix_r7_congr {env : Env} {h : Hp} {K : Env → Hp → Prop} : slices_Compact_api_Prefix_api_Prefix_r7 env h K = slices_Compact_api_Prefix_api_Prefix_r7 env h K := rfl

/-- slices.go:378 -/
def slices_Compact_api_Prefix_api_Prefix_r8 (env : Env) (h : Hp) (K : Env → Hp → Prop) : Prop :=
  rd Try.prog (Builtin.len_ #[88] 3 #[(env 4)]) h fun v31_2 =>
  rd Try.prog (bop Go.BinOp.lss 3 (Go.Operand.tmp 29) (Go.Operand.tmp 31) (env 5) v31_2) noHp fun v32_3 =>
  K ((((env.set 29 (env 5)).set 30 (env 4)).set 31 v31_2).set 32 v32_3) h
@[congr] theorem slices_Compact_api_Prefix_api_Prefix_r8_congr {env : Env} {h : Hp} {K : Env → Hp → Prop} : slices_Compact_api_Prefix_api_Prefix_r8 env h K = slices_Compact_api_Prefix_api_Prefix_r8 env h K := rfl

/-- slices.go:379 (in any order) -/
def slices_Compact_api_Prefix_api_Prefix_r9 (env : Env) (h : Hp) (K : Env → Hp → Prop) : Prop :=
  rd Try.prog (Instr.indexAt 88 (env 4) (env 5)) noHp fun v37_2 =>
  rd Try.prog (Instr.loadAt 24 v37_2) h fun v38_3 =>
  rd Try.prog (bop Go.BinOp.sub 3 (Go.Operand.tmp 40) (Go.Operand.const (Go.Value.int Go.IntKind.i64 1)) (env 5) (Go.Value.int Go.IntKind.i64 1)) noHp fun v41_6 =>
  rd Try.prog (Instr.indexAt 88 (env 4) v41_6) noHp fun v42_7 =>
  rd Try.prog (Instr.loadAt 24 v42_7) h fun v43_8 =>
  rd Try.prog (bop Go.BinOp.neq 24 (Go.Operand.tmp 38) (Go.Operand.tmp 43) v38_3 v43_8) noHp fun v44_9 =>
  K ((((((((((env.set 35 (env 4)).set 36 (env 5)).set 37 v37_2).set 38 v38_3).set 39 (env 4)).set 40 (env 5)).set 41 v41_6).set 42 v42_7).set 43 v43_8).set 44 v44_9) h
@[congr] theorem slices_Compact_api_Prefix_api_Prefix_r9_congr {env : Env} {h : Hp} {K : Env → Hp → Prop} : slices_Compact_api_Prefix_api_Prefix_r9 env h K = slices_Compact_api_Prefix_api_Prefix_r9 env h K := rfl

/-- slices.go:380 -/
def slices_Compact_api_Prefix_api_Prefix_r10 (env : Env) (h : Hp) (K : Env → Hp → Prop) : Prop :=
  rd Try.prog (Instr.indexAt 88 (env 4) (env 5)) noHp fun v49_4 =>
  rd Try.prog (Instr.loadAt 24 v49_4) h fun v50_5 =>
  rd Try.prog (Instr.indexAt 88 (env 0) (env 3)) noHp fun v51_6 =>
  arun Try.prog (Instr.storeAt 24 v51_6 v50_5) h fun _ h1 =>
  K (((((((env.set 45 (env 0)).set 46 (env 3)).set 47 (env 4)).set 48 (env 5)).set 49 v49_4).set 50 v50_5).set 51 v51_6) h1
@[congr] theorem slices_Compact_api_Prefix_api_Prefix_r10_congr {env : Env} {h : Hp} {K : Env → Hp → Prop} : slices_Compact_api_Prefix_api_Prefix_r10 env h K = slices_Compact_api_Prefix_api_Prefix_r10 env h K := rfl

/-- slices.go:381 -/
def slices_Compact_api_Prefix_api_Prefix_r11 (env : Env) (h : Hp) (K : Env → Hp → Prop) : Prop :=
  rd Try.prog (bop Go.BinOp.add 3 (Go.Operand.tmp 52) (Go.Operand.const (Go.Value.int Go.IntKind.i64 1)) (env 3) (Go.Value.int Go.IntKind.i64 1)) noHp fun v53_1 =>
  K (((env.set 52 (env 3)).set 53 v53_1).set 3 v53_1) h
@[congr] theorem slices_Compact_api_Prefix_api_Prefix_r11_congr {env : Env} {h : Hp} {K : Env → Hp → Prop} : slices_Compact_api_Prefix_api_Prefix_r11 env h K = slices_Compact_api_Prefix_api_Prefix_r11 env h K := rfl

/-- slices.go:378 -/
def slices_Compact_api_Prefix_api_Prefix_r12 (env : Env) (h : Hp) (K : Env → Hp → Prop) : Prop :=
  rd Try.prog (bop Go.BinOp.add 3 (Go.Operand.tmp 33) (Go.Operand.const (Go.Value.int Go.IntKind.i64 1)) (env 5) (Go.Value.int Go.IntKind.i64 1)) noHp fun v34_1 =>
  K (((env.set 33 (env 5)).set 34 v34_1).set 5 v34_1) h
@[congr] theorem slices_Compact_api_Prefix_api_Prefix_r12_congr {env : Env} {h : Hp} {K : Env → Hp → Prop} : slices_Compact_api_Prefix_api_Prefix_r12 env h K = slices_Compact_api_Prefix_api_Prefix_r12 env h K := rfl

def slices_Compact_api_Prefix_api_Prefix_L0 : Den := (sq (sq (rg slices_Compact_api_Prefix_api_Prefix_r8) (cnd (Go.Operand.tmp 32) (ex .normal) (ex (.exit 2)))) (sq (blk 3 (sq (rg slices_Compact_api_Prefix_api_Prefix_r9) (cnd (Go.Operand.tmp 44) (sq (rg slices_Compact_api_Prefix_api_Prefix_r10) (rg slices_Compact_api_Prefix_api_Prefix_r11)) (ex .normal)))) (rg slices_Compact_api_Prefix_api_Prefix_r12)))

/-- slices.go:385 -/
def slices_Compact_api_Prefix_api_Prefix_r13 (env : Env) (h : Hp) (K : Env → Hp → Prop) : Prop :=
  rd Try.prog (Instr.sliceAt 88 (env 0) (some (env 3)) none none) noHp fun v56_2 =>
  arun Try.prog (Builtin.clear_ #[88] 0 #[v56_2]) h fun _ h1 =>
  K (((env.set 54 (env 0)).set 55 (env 3)).set 56 v56_2) h1
@[congr] theorem slices_Compact_api_Prefix_api_Prefix_r13_congr {env : Env} {h : Hp} {K : Env → Hp → Prop} : slices_Compact_api_Prefix_api_Prefix_r13 env h K = slices_Compact_api_Prefix_api_Prefix_r13 env h K := rfl

/-- slices.go:386 -/
def slices_Compact_api_Prefix_api_Prefix_r14 (env : Env) (h : Hp) (K : Env → Hp → Prop) : Prop :=
  rd Try.prog (Instr.sliceAt 88 (env 0) none (some (env 3)) none) noHp fun v59_2 =>
  K ((((env.set 57 (env 0)).set 58 (env 3)).set 59 v59_2).set 2 v59_2) h
@[congr] theorem slices_Compact_api_Prefix_api_Prefix_r14_congr {env : Env} {h : Hp} {K : Env → Hp → Prop} : slices_Compact_api_Prefix_api_Prefix_r14 env h K = slices_Compact_api_Prefix_api_Prefix_r14 env h K := rfl

/-- slices.go:375 -/
def slices_Compact_api_Prefix_api_Prefix_r15 (env : Env) (h : Hp) (K : Env → Hp → Prop) : Prop :=
  rd Try.prog (bop Go.BinOp.add 3 (Go.Operand.tmp 14) (Go.Operand.const (Go.Value.int Go.IntKind.i64 1)) (env 3) (Go.Value.int Go.IntKind.i64 1)) noHp fun v15_1 =>
  K (((env.set 14 (env 3)).set 15 v15_1).set 3 v15_1) h
@[congr] theorem slices_Compact_api_Prefix_api_Prefix_r15_congr {env : Env} {h : Hp} {K : Env → Hp → Prop} : slices_Compact_api_Prefix_api_Prefix_r15 env h K = slices_Compact_api_Prefix_api_Prefix_r15 env h K := rfl

def slices_Compact_api_Prefix_api_Prefix_L1 : Den := (sq (sq (rg slices_Compact_api_Prefix_api_Prefix_r4) (cnd (Go.Operand.tmp 13) (ex .normal) (ex (.exit 0)))) (sq (blk 1 (sq (rg slices_Compact_api_Prefix_api_Prefix_r5) (cnd (Go.Operand.tmp 25) (sq (rg slices_Compact_api_Prefix_api_Prefix_r6) (sq (sq (rg slices_Compact_api_Prefix_api_Prefix_r7) (blk 2 (lp slices_Compact_api_Prefix_api_Prefix_L0))) (sq (rg slices_Compact_api_Prefix_api_Prefix_r13) (sq (rg slices_Compact_api_Prefix_api_Prefix_r14) (ex .ret))))) (ex .normal)))) (rg slices_Compact_api_Prefix_api_Prefix_r15)))

/-- slices.go:389 -/
def slices_Compact_api_Prefix_api_Prefix_r16 (env : Env) (h : Hp) (K : Env → Hp → Prop) : Prop :=
  K ((env.set 60 (env 0)).set 2 (env 0)) h
@[congr] theorem slices_Compact_api_Prefix_api_Prefix_r16_congr {env : Env} {h : Hp} {K : Env → Hp → Prop} : slices_Compact_api_Prefix_api_Prefix_r16 env h K = slices_Compact_api_Prefix_api_Prefix_r16 env h K := rfl

def slices_Compact_api_Prefix_api_Prefix_D : Den := (sq (rg slices_Compact_api_Prefix_api_Prefix_r0) (sq (sq (rg slices_Compact_api_Prefix_api_Prefix_r1) (cnd (Go.Operand.tmp 8) (sq (rg slices_Compact_api_Prefix_api_Prefix_r2) (ex .ret)) (ex .normal))) (sq (sq (rg slices_Compact_api_Prefix_api_Prefix_r3) (blk 0 (lp slices_Compact_api_Prefix_api_Prefix_L1))) (sq (rg slices_Compact_api_Prefix_api_Prefix_r16) (ex .ret)))))

theorem slices_Compact_api_Prefix_api_Prefix_eq : (den Try.prog 61 slices_Compact_api_Prefix_api_Prefix_code).1 = slices_Compact_api_Prefix_api_Prefix_D := by kernel_rfl

theorem slices_Compact_api_Prefix_api_Prefix_ok {args : Array Value} {h : Hp} {Q : Value → Hp → Prop} (hn : args.size ≤ 61) (D : slices_Compact_api_Prefix_api_Prefix_D (fin Try.prog [(Go.ResultVar.tmp 2)] Q) (env0 args) h) : Ok Try.prog 56 args h Q :=
  ok_of_den progIsOk Try.func56 (c := slices_Compact_api_Prefix_api_Prefix_code) (by kernel_rfl) hn (by show (den Try.prog 61 slices_Compact_api_Prefix_api_Prefix_code).1 _ _ _; rw [slices_Compact_api_Prefix_api_Prefix_eq]; exact D)

/-! ### octroi/metric.Cost: function 57 -/
noncomputable def metric_Cost_code : Code := match Try.f57.body with | some c => c | none => .skip

/-- metric.go:51 -/
def metric_Cost_r0 (env : Env) (h : Hp) (K : Env → Hp → Prop) : Prop :=
  K (env.set 4 (Go.Value.int Go.IntKind.i64 0)) h
@[congr] theorem metric_Cost_r0_congr {env : Env} {h : Hp} {K : Env → Hp → Prop} : metric_Cost_r0 env h K = metric_Cost_r0 env h K := rfl

/-- metric.go:51 -/
def metric_Cost_r1 (env : Env) (h : Hp) (K : Env → Hp → Prop) : Prop :=
  Ok Try.prog 67 #[(env 0), (env 1), (Go.Value.int Go.IntKind.i64 65535)] h fun v7_2 h1 =>
  K ((((env.set 5 (env 0)).set 6 (env 1)).set 7 v7_2).set 4 v7_2) h1
@[congr] theorem metric_Cost_r1_congr {env : Env} {h : Hp} {K : Env → Hp → Prop} : metric_Cost_r1 env h K = metric_Cost_r1 env h K := rfl

def metric_Cost_D : Den := (sq (rg metric_Cost_r0) (sq (rg metric_Cost_r1) (ex .ret)))

theorem metric_Cost_eq : (den Try.prog 8 metric_Cost_code).1 = metric_Cost_D := by kernel_rfl

theorem metric_Cost_ok {args : Array Value} {h : Hp} {Q : Value → Hp → Prop} (hn : args.size ≤ 8) (D : metric_Cost_D (fin Try.prog [(Go.ResultVar.tmp 4)] Q) (env0 args) h) : Ok Try.prog 57 args h Q :=
  ok_of_den progIsOk Try.func57 (c := metric_Cost_code) (by kernel_rfl) hn (by show (den Try.prog 8 metric_Cost_code).1 _ _ _; rw [metric_Cost_eq]; exact D)

/-! ### octroi/octroiref02.May: function 58 -/
noncomputable def octroiref02_May_code : Code := match Try.f58.body with | some c => c | none => .skip

/-- ref.go:36 -/
def octroiref02_May_r0 (env : Env) (h : Hp) (K : Env → Hp → Prop) : Prop :=
  arun Try.prog (Instr.box 24 (env 0)) h fun v1_0 h1 =>
  K ((env.set 1 v1_0).set 2 (Go.Value.bool false)) h1
@[congr] theorem octroiref02_May_r0_congr {env : Env} {h : Hp} {K : Env → Hp → Prop} : octroiref02_May_r0 env h K = octroiref02_May_r0 env h K := rfl

/-- ref.go:37 (in any order) -/
def octroiref02_May_r1 (env : Env) (h : Hp) (K : Env → Hp → Prop) : Prop :=
  rd Try.prog (Instr.fieldAt 24 (env 1) 1) noHp fun v3_0 =>
  rd Try.prog (Instr.loadAt 3 v3_0) h fun v4_1 =>
  rd Try.prog (bop Go.BinOp.geq 3 (Go.Operand.tmp 4) (Go.Operand.const (Go.Value.int Go.IntKind.i64 0)) v4_1 (Go.Value.int Go.IntKind.i64 0)) noHp fun v5_2 =>
  gd (yb v5_2 == some true) (fun h k => rd Try.prog (Instr.fieldAt 24 (env 1) 1) noHp fun v => k v h) h fun v7_4 h1 =>
  gd (yb v5_2 == some true) (fun h k => rd Try.prog (Instr.loadAt 3 v7_4) h fun v => k v h) h1 fun v8_5 h2 =>
  gd (yb v5_2 == some true) (fun h k => rd Try.prog (bop Go.BinOp.leq 3 (Go.Operand.tmp 8) (Go.Operand.const (Go.Value.int Go.IntKind.i64 32)) v8_5 (Go.Value.int Go.IntKind.i64 32)) noHp fun v => k v h) h2 fun v9_6 h3 =>
  rd Try.prog (pck v5_2 v9_6 (Go.Value.bool false)) noHp fun v10_7 =>
  gd (yb v10_7 == some true) (fun h k => rd Try.prog (Instr.fieldAt 24 (env 1) 0) noHp fun v => k v h) h3 fun v12_9 h4 =>
  gd (yb v10_7 == some true) (fun h k => rd Try.prog (Instr.loadAt 22 v12_9) h fun v => k v h) h4 fun v13_10 h5 =>
  gd (yb v10_7 == some true) (fun h k => rd Try.prog (Instr.fieldAt 24 (env 1) 1) noHp fun v => k v h) h5 fun v14_11 h6 =>
  gd (yb v10_7 == some true) (fun h k => rd Try.prog (Instr.loadAt 3 v14_11) h fun v => k v h) h6 fun v15_12 h7 =>
  gd (yb v10_7 == some true) (fun h k => rd Try.prog (Instr.fieldAt 24 (env 1) 0) noHp fun v => k v h) h7 fun v18_13 h8 =>
  gd (yb v10_7 == some true) (fun h k => rd Try.prog (Instr.loadAt 22 v18_13) h fun v => k v h) h8 fun v19_14 h9 =>
  gd (yb v10_7 == some true) (fun h k => Ok Try.prog 68 #[v15_12] h k) h9 fun v16_15 h10 =>
  (((yb v10_7 == some true) = true → rrun Try.prog (Instr.loadAt 22 v18_13) h10 = some v19_14) ∧ ((yb v10_7 == some true) = true → rrun Try.prog (Instr.loadAt 22 v12_9) h10 = some v13_10) ∧ True) ∧
  gd (yb v10_7 == some true) (fun h k => rd Try.prog (bop Go.BinOp.and 22 (Go.Operand.tmp 13) (Go.Operand.tmp 16) v13_10 v16_15) noHp fun v => k v h) h10 fun v17_16 h11 =>
  gd (yb v10_7 == some true) (fun h k => rd Try.prog (bop Go.BinOp.eql 22 (Go.Operand.tmp 17) (Go.Operand.tmp 19) v17_16 v19_14) noHp fun v => k v h) h11 fun v20_17 h12 =>
  rd Try.prog (pck v10_7 v20_17 (Go.Value.bool false)) noHp fun v21_18 =>
  K ((((((((((((((((((((env.set 3 v3_0).set 4 v4_1).set 5 v5_2).set 6 v5_2).set 7 v7_4).set 8 v8_5).set 9 v9_6).set 10 v10_7).set 11 v10_7).set 12 v12_9).set 13 v13_10).set 14 v14_11).set 15 v15_12).set 18 v18_13).set 19 v19_14).set 16 v16_15).set 17 v17_16).set 20 v20_17).set 21 v21_18).set 2 v21_18) h12
@[congr] theorem octroiref02_May_r1_congr {env : Env} {h : Hp} {K : Env → Hp → Prop} : octroiref02_May_r1 env h K = octroiref02_May_r1 env h K := rfl

def octroiref02_May_D : Den := (sq (rg octroiref02_May_r0) (sq (rg octroiref02_May_r1) (ex .ret)))

theorem octroiref02_May_eq : (den Try.prog 22 octroiref02_May_code).1 = octroiref02_May_D := by kernel_rfl

theorem octroiref02_May_ok {args : Array Value} {h : Hp} {Q : Value → Hp → Prop} (hn : args.size ≤ 22) (D : octroiref02_May_D (fin Try.prog [(Go.ResultVar.tmp 2)] Q) (env0 args) h) : Ok Try.prog 58 args h Q :=
  ok_of_den progIsOk Try.func58 (c := octroiref02_May_code) (by kernel_rfl) hn (by show (den Try.prog 22 octroiref02_May_code).1 _ _ _; rw [octroiref02_May_eq]; exact D)

/-! ### octroi/octroiref03.Has: function 59 -/
noncomputable def octroiref03_Has_code : Code := match Try.f59.body with | some c => c | none => .skip

/-- ref.go:19 -/
def octroiref03_Has_r0 (env : Env) (h : Hp) (K : Env → Hp → Prop) : Prop :=
  K (env.set 4 (Go.Value.bool false)) h
@[congr] theorem octroiref03_Has_r0_congr {env : Env} {h : Hp} {K : Env → Hp → Prop} : octroiref03_Has_r0 env h K = octroiref03_Has_r0 env h K := rfl

/-- ref.go:20 -/
def octroiref03_Has_r1 (env : Env) (h : Hp) (K : Env → Hp → Prop) : Prop :=
  Ok Try.prog 69 #[(env 1)] h fun v7_1 h1 =>
  K (((env.set 6 (env 1)).set 7 v7_1).set 5 v7_1) h1
@[congr] theorem octroiref03_Has_r1_congr {env : Env} {h : Hp} {K : Env → Hp → Prop} : octroiref03_Has_r1 env h K = octroiref03_Has_r1 env h K := rfl

/-- ref.go:21 -/
def octroiref03_Has_r2 (env : Env) (h : Hp) (K : Env → Hp → Prop) : Prop :=
  gd (yb (env 5) == some true) (fun h k => k (env 0) h) h fun v10_2 h1 =>
  gd (yb (env 5) == some true) (fun h k => rd Try.prog (convert 29 3 v10_2) noHp fun v => k v h) h1 fun v11_3 h2 =>
  gd (yb (env 5) == some true) (fun h k => k (env 1) h) h2 fun v12_4 h3 =>
  gd (yb (env 5) == some true) (fun h k => Ok Try.prog 70 #[v12_4] h k) h3 fun v13_5 h4 =>
  gd (yb (env 5) == some true) (fun h k => rd Try.prog (bop Go.BinOp.quo 3 (Go.Operand.tmp 11) (Go.Operand.tmp 13) v11_3 v13_5) noHp fun v => k v h) h4 fun v14_6 h5 =>
  gd (yb (env 5) == some true) (fun h k => rd Try.prog (bop Go.BinOp.rem 3 (Go.Operand.tmp 14) (Go.Operand.const (Go.Value.int Go.IntKind.i64 2)) v14_6 (Go.Value.int Go.IntKind.i64 2)) noHp fun v => k v h) h5 fun v15_7 h6 =>
  gd (yb (env 5) == some true) (fun h k => rd Try.prog (bop Go.BinOp.eql 3 (Go.Operand.tmp 15) (Go.Operand.const (Go.Value.int Go.IntKind.i64 1)) v15_7 (Go.Value.int Go.IntKind.i64 1)) noHp fun v => k v h) h6 fun v16_8 h7 =>
  rd Try.prog (pck (env 5) v16_8 (Go.Value.bool false)) noHp fun v17_9 =>
  K (((((((((((env.set 8 (env 5)).set 9 (env 5)).set 10 v10_2).set 11 v11_3).set 12 v12_4).set 13 v13_5).set 14 v14_6).set 15 v15_7).set 16 v16_8).set 17 v17_9).set 4 v17_9) h7
@[congr] theorem octroiref03_Has_r2_congr {env : Env} {h : Hp} {K : Env → Hp → Prop} : octroiref03_Has_r2 env h K = octroiref03_Has_r2 env h K := rfl

def octroiref03_Has_D : Den := (sq (rg octroiref03_Has_r0) (sq (rg octroiref03_Has_r1) (sq (rg octroiref03_Has_r2) (ex .ret))))

theorem octroiref03_Has_eq : (den Try.prog 18 octroiref03_Has_code).1 = octroiref03_Has_D := by kernel_rfl

theorem octroiref03_Has_ok {args : Array Value} {h : Hp} {Q : Value → Hp → Prop} (hn : args.size ≤ 18) (D : octroiref03_Has_D (fin Try.prog [(Go.ResultVar.tmp 4)] Q) (env0 args) h) : Ok Try.prog 59 args h Q :=
  ok_of_den progIsOk Try.func59 (c := octroiref03_Has_code) (by kernel_rfl) hn (by show (den Try.prog 18 octroiref03_Has_code).1 _ _ _; rw [octroiref03_Has_eq]; exact D)

/-! ### (*octroi/octroiref17.Babel).own: function 60 -/
noncomputable def octroiref17_Babel_own_code : Code := match Try.f60.body with | some c => c | none => .skip

/-- ref.go:55 -/
def octroiref17_Babel_own_r0 (env : Env) (h : Hp) (K : Env → Hp → Prop) : Prop :=
  arun Try.prog (Instr.box 24 (env 1)) h fun v3_0 h1 =>
  K ((env.set 3 v3_0).set 4 (Go.Value.int Go.IntKind.i64 0)) h1
@[congr] theorem octroiref17_Babel_own_r0_congr {env : Env} {h : Hp} {K : Env → Hp → Prop} : octroiref17_Babel_own_r0 env h K = octroiref17_Babel_own_r0 env h K := rfl

/-- ref.go:56 -/
def octroiref17_Babel_own_r1 (env : Env) (h : Hp) (K : Env → Hp → Prop) : Prop :=
  K (env.set 5 (Go.Value.int Go.IntKind.i64 0)) h
@[congr] theorem octroiref17_Babel_own_r1_congr {env : Env} {h : Hp} {K : Env → Hp → Prop} : octroiref17_Babel_own_r1 env h K = octroiref17_Babel_own_r1 env h K := rfl

/-- ref.go:56 -/
def octroiref17_Babel_own_r2 (env : Env) (h : Hp) (K : Env → Hp → Prop) : Prop :=
  nck (env 0) (
  rd Try.prog (Instr.fieldAt 67 (env 0) 4) noHp fun v9_3 =>
  rd Try.prog (Instr.loadAt 63 v9_3) h fun v10_4 =>
  rd Try.prog (Builtin.len_ #[63] 3 #[v10_4]) h fun v11_5 =>
  rd Try.prog (bop Go.BinOp.lss 3 (Go.Operand.tmp 6) (Go.Operand.tmp 11) (env 5) v11_5) noHp fun v12_6 =>
  K (((((((env.set 6 (env 5)).set 7 (env 0)).set 8 (env 0)).set 9 v9_3).set 10 v10_4).set 11 v11_5).set 12 v12_6) h)
@[congr] theorem octroiref17_Babel_own_r2_congr {env : Env} {h : Hp} {K : Env → Hp → Prop} : octroiref17_Babel_own_r2 env h K = octroiref17_Babel_own_r2 env h K := rfl

/-- ref.go:57 (in any order) -/
def octroiref17_Babel_own_r3 (env : Env) (h : Hp) (K : Env → Hp → Prop) : Prop :=
  nck (env 0) (
  rd Try.prog (Instr.fieldAt 67 (env 0) 4) noHp fun v17_2 =>
  rd Try.prog (Instr.loadAt 63 v17_2) h fun v18_3 =>
  rd Try.prog (Instr.indexAt 63 v18_3 (env 5)) noHp fun v20_5 =>
  rd Try.prog (Instr.fieldAt 112 v20_5 0) noHp fun v21_6 =>
  rd Try.prog (Instr.loadAt 24 v21_6) h fun v22_7 =>
  rd Try.prog (Instr.loadAt 24 (env 3)) h fun v23_8 =>
  rd Try.prog (bop Go.BinOp.eql 24 (Go.Operand.tmp 22) (Go.Operand.tmp 23) v22_7 v23_8) noHp fun v24_9 =>
  K ((((((((((env.set 15 (env 0)).set 16 (env 0)).set 17 v17_2).set 18 v18_3).set 19 (env 5)).set 20 v20_5).set 21 v21_6).set 22 v22_7).set 23 v23_8).set 24 v24_9) h)
@[congr] theorem octroiref17_Babel_own_r3_congr {env : Env} {h : Hp} {K : Env → Hp → Prop} : octroiref17_Babel_own_r3 env h K = octroiref17_Babel_own_r3 env h K := rfl

/-- ref.go:58 -/
def octroiref17_Babel_own_r4 (env : Env) (h : Hp) (K : Env → Hp → Prop) : Prop :=
  K ((env.set 25 (env 5)).set 4 (env 5)) h
@[congr] theorem octroiref17_Babel_own_r4_congr {env : Env} {h : Hp} {K : Env → Hp → Prop} : octroiref17_Babel_own_r4 env h K = octroiref17_Babel_own_r4 env h K := rfl

/-- ref.go:56 -/
def octroiref17_Babel_own_r5 (env : Env) (h : Hp) (K : Env → Hp → Prop) : Prop :=
  rd Try.prog (bop Go.BinOp.add 3 (Go.Operand.tmp 13) (Go.Operand.const (Go.Value.int Go.IntKind.i64 1)) (env 5) (Go.Value.int Go.IntKind.i64 1)) noHp fun v14_1 =>
  K (((env.set 13 (env 5)).set 14 v14_1).set 5 v14_1) h
@[congr] theorem octroiref17_Babel_own_r5_congr {env : Env} {h : Hp} {K : Env → Hp → Prop} : octroiref17_Babel_own_r5 env h K = octroiref17_Babel_own_r5 env h K := rfl

def octroiref17_Babel_own_L0 : Den := (sq (sq (rg octroiref17_Babel_own_r2) (cnd (Go.Operand.tmp 12) (ex .normal) (ex (.exit 0)))) (sq (blk 1 (sq (rg octroiref17_Babel_own_r3) (cnd (Go.Operand.tmp 24) (sq (rg octroiref17_Babel_own_r4) (ex .ret)) (ex .normal)))) (rg octroiref17_Babel_own_r5)))

/-- ref.go:61 -/
def octroiref17_Babel_own_r6 (env : Env) (h : Hp) (K : Env → Hp → Prop) : Prop :=
  K (env.set 4 (Go.Value.int Go.IntKind.i64 (-1))) h
@[congr] theorem octroiref17_Babel_own_r6_congr {env : Env} {h : Hp} {K : Env → Hp → Prop} : octroiref17_Babel_own_r6 env h K = octroiref17_Babel_own_r6 env h K := rfl

def octroiref17_Babel_own_D : Den := (sq (rg octroiref17_Babel_own_r0) (sq (sq (rg octroiref17_Babel_own_r1) (blk 0 (lp octroiref17_Babel_own_L0))) (sq (rg octroiref17_Babel_own_r6) (ex .ret))))

theorem octroiref17_Babel_own_eq : (den Try.prog 26 octroiref17_Babel_own_code).1 = octroiref17_Babel_own_D := by kernel_rfl

theorem octroiref17_Babel_own_ok {args : Array Value} {h : Hp} {Q : Value → Hp → Prop} (hn : args.size ≤ 26) (D : octroiref17_Babel_own_D (fin Try.prog [(Go.ResultVar.tmp 4)] Q) (env0 args) h) : Ok Try.prog 60 args h Q :=
  ok_of_den progIsOk Try.func60 (c := octroiref17_Babel_own_code) (by kernel_rfl) hn (by show (den Try.prog 26 octroiref17_Babel_own_code).1 _ _ _; rw [octroiref17_Babel_own_eq]; exact D)

/-! ### (*octroi/octroiref17.Babel).better: function 61 -/
noncomputable def octroiref17_Babel_better_code : Code := match Try.f61.body with | some c => c | none => .skip

/-- ref.go:115 -/
def octroiref17_Babel_better_r0 (env : Env) (h : Hp) (K : Env → Hp → Prop) : Prop :=
  arun Try.prog (Instr.box 24 (env 1)) h fun v6_0 h1 =>
  K ((env.set 6 v6_0).set 10 (Go.Value.bool false)) h1
@[congr] theorem octroiref17_Babel_better_r0_congr {env : Env} {h : Hp} {K : Env → Hp → Prop} : octroiref17_Babel_better_r0 env h K = octroiref17_Babel_better_r0 env h K := rfl

/-- ref.go:116 -/
def octroiref17_Babel_better_r1 (env : Env) (h : Hp) (K : Env → Hp → Prop) : Prop :=
  rd Try.prog (Instr.loadAt 24 (env 6)) h fun v17_1 =>
  Ok Try.prog 28 #[(env 0), v17_1, (env 2)] h fun v19_3 h1 =>
  rd Try.prog (Instr.extract v19_3 0) noHp fun v20_5 =>
  rd Try.prog (Instr.extract v19_3 1) noHp fun v21_6 =>
  rd Try.prog (Instr.extract v19_3 2) noHp fun v22_7 =>
  K (((((((((((env.set 16 (env 0)).set 17 v17_1).set 18 (env 2)).set 19 v19_3).set 15 v19_3).set 20 v20_5).set 21 v21_6).set 22 v22_7).set 11 v20_5).set 12 v21_6).set 13 v22_7) h1
@[congr] theorem octroiref17_Babel_better_r1_congr {env : Env} {h : Hp} {K : Env → Hp → Prop} : octroiref17_Babel_better_r1 env h K = octroiref17_Babel_better_r1 env h K := rfl

/-- ref.go:117 -/
def octroiref17_Babel_better_r2 (env : Env) (h : Hp) (K : Env → Hp → Prop) : Prop :=
  Ok Try.prog 71 #[(env 3), (env 11)] h fun v25_2 h1 =>
  K ((((env.set 23 (env 3)).set 24 (env 11)).set 25 v25_2).set 14 v25_2) h1
@[congr] theorem octroiref17_Babel_better_r2_congr {env : Env} {h : Hp} {K : Env → Hp → Prop} : octroiref17_Babel_better_r2 env h K = octroiref17_Babel_better_r2 env h K := rfl

/-- ref.go:118 -/
def octroiref17_Babel_better_r3 (env : Env) (h : Hp) (K : Env → Hp → Prop) : Prop :=
  rd Try.prog (Op.unary Go.UnOp.not (env 13)) noHp fun v27_1 =>
  gd (yb v27_1 == some false) (fun h k => k (env 14) h) h fun v29_3 h1 =>
  rd Try.prog (pck v27_1 (Go.Value.bool true) v29_3) noHp fun v30_4 =>
  gd (yb v30_4 == some false) (fun h k => k (env 3) h) h1 fun v32_6 h2 =>
  gd (yb v30_4 == some false) (fun h k => k (env 11) h) h2 fun v33_7 h3 =>
  gd (yb v30_4 == some false) (fun h k => rd Try.prog (bop Go.BinOp.eql 29 (Go.Operand.tmp 32) (Go.Operand.tmp 33) v32_6 v33_7) noHp fun v => k v h) h3 fun v34_8 h4 =>
  gd (yb v30_4 == some false) (fun h k => k v34_8 h) h4 fun v35_9 h5 =>
  gd (yb v35_9 == some true) (fun h k => k (env 4) h) h5 fun v36_10 h6 =>
  gd (yb v35_9 == some true) (fun h k => k (env 12) h) h6 fun v37_11 h7 =>
  gd (yb v35_9 == some true) (fun h k => rd Try.prog (bop Go.BinOp.lss 3 (Go.Operand.tmp 36) (Go.Operand.tmp 37) v36_10 v37_11) noHp fun v => k v h) h7 fun v38_12 h8 =>
  gd (yb v30_4 == some false) (fun h k => rd Try.prog (pck v35_9 v38_12 (Go.Value.bool false)) noHp fun v => k v h) h8 fun v39_13 h9 =>
  rd Try.prog (pck v30_4 (Go.Value.bool true) v39_13) noHp fun v40_14 =>
  K ((((((((((((((((env.set 26 (env 13)).set 27 v27_1).set 28 v27_1).set 29 v29_3).set 30 v30_4).set 31 v30_4).set 32 v32_6).set 33 v33_7).set 34 v34_8).set 35 v35_9).set 36 v36_10).set 37 v37_11).set 38 v38_12).set 39 v39_13).set 40 v40_14).set 10 v40_14) h9
@[congr] theorem octroiref17_Babel_better_r3_congr {env : Env} {h : Hp} {K : Env → Hp → Prop} : octroiref17_Babel_better_r3 env h K = octroiref17_Babel_better_r3 env h K := rfl

def octroiref17_Babel_better_D : Den := (sq (rg octroiref17_Babel_better_r0) (sq (rg octroiref17_Babel_better_r1) (sq (rg octroiref17_Babel_better_r2) (sq (rg octroiref17_Babel_better_r3) (ex .ret)))))

theorem octroiref17_Babel_better_eq : (den Try.prog 41 octroiref17_Babel_better_code).1 = octroiref17_Babel_better_D := by kernel_rfl

theorem octroiref17_Babel_better_ok {args : Array Value} {h : Hp} {Q : Value → Hp → Prop} (hn : args.size ≤ 41) (D : octroiref17_Babel_better_D (fin Try.prog [(Go.ResultVar.tmp 10)] Q) (env0 args) h) : Ok Try.prog 61 args h Q :=
  ok_of_den progIsOk Try.func61 (c := octroiref17_Babel_better_code) (by kernel_rfl) hn (by show (den Try.prog 41 octroiref17_Babel_better_code).1 _ _ _; rw [octroiref17_Babel_better_eq]; exact D)

/-! ### (*octroi/octroiref17.Babel).forget: function 62 -/
noncomputable def octroiref17_Babel_forget_code : Code := match Try.f62.body with | some c => c | none => .skip

/-- ref.go:139 -/
def octroiref17_Babel_forget_r0 (env : Env) (h : Hp) (K : Env → Hp → Prop) : Prop :=
  arun Try.prog (Instr.box 24 (env 1)) h fun v4_0 h1 =>
  K ((env.set 4 v4_0).set 6 (Go.Value.bool false)) h1
@[congr] theorem octroiref17_Babel_forget_r0_congr {env : Env} {h : Hp} {K : Env → Hp → Prop} : octroiref17_Babel_forget_r0 env h K = octroiref17_Babel_forget_r0 env h K := rfl

/-- ref.go:140 -/
def octroiref17_Babel_forget_r1 (env : Env) (h : Hp) (K : Env → Hp → Prop) : Prop :=
  K (env.set 7 (Go.Value.slice none 0 0)) h
@[congr] theorem octroiref17_Babel_forget_r1_congr {env : Env} {h : Hp} {K : Env → Hp → Prop} : octroiref17_Babel_forget_r1 env h K = octroiref17_Babel_forget_r1 env h K := rfl

/-- ref.go:141 -/
def octroiref17_Babel_forget_r2 (env : Env) (h : Hp) (K : Env → Hp → Prop) : Prop :=
  K (env.set 8 (Go.Value.int Go.IntKind.i64 0)) h
@[congr] theorem octroiref17_Babel_forget_r2_congr {env : Env} {h : Hp} {K : Env → Hp → Prop} : octroiref17_Babel_forget_r2 env h K = octroiref17_Babel_forget_r2 env h K := rfl

/-- ref.go:141 -/
def octroiref17_Babel_forget_r3 (env : Env) (h : Hp) (K : Env → Hp → Prop) : Prop :=
  nck (env 0) (
  rd Try.prog (Instr.fieldAt 67 (env 0) 5) noHp fun v13_3 =>
  rd Try.prog (Instr.loadAt 64 v13_3) h fun v14_4 =>
  rd Try.prog (Builtin.len_ #[64] 3 #[v14_4]) h fun v15_5 =>
  rd Try.prog (bop Go.BinOp.lss 3 (Go.Operand.tmp 10) (Go.Operand.tmp 15) (env 8) v15_5) noHp fun v16_6 =>
  K (((((((env.set 10 (env 8)).set 11 (env 0)).set 12 (env 0)).set 13 v13_3).set 14 v14_4).set 15 v15_5).set 16 v16_6) h)
@[congr] theorem octroiref17_Babel_forget_r3_congr {env : Env} {h : Hp} {K : Env → Hp → Prop} : octroiref17_Babel_forget_r3 env h K = octroiref17_Babel_forget_r3 env h K := rfl

/-- ref.go:142 (in any order) -/
def octroiref17_Babel_forget_r4 (env : Env) (h : Hp) (K : Env → Hp → Prop) : Prop :=
  nck (env 0) (
  rd Try.prog (Instr.fieldAt 67 (env 0) 5) noHp fun v21_2 =>
  rd Try.prog (Instr.loadAt 64 v21_2) h fun v22_3 =>
  rd Try.prog (Instr.indexAt 64 v22_3 (env 8)) noHp fun v24_5 =>
  rd Try.prog (Instr.fieldAt 116 v24_5 0) noHp fun v25_6 =>
  rd Try.prog (Instr.loadAt 24 v25_6) h fun v26_7 =>
  rd Try.prog (Instr.loadAt 24 (env 4)) h fun v27_8 =>
  rd Try.prog (bop Go.BinOp.neq 24 (Go.Operand.tmp 26) (Go.Operand.tmp 27) v26_7 v27_8) noHp fun v28_9 =>
  gd (yb v28_9 == some false) (fun h k => k (env 0) h) h fun v30_11 h1 =>
  gd (yb v28_9 == some false) (fun h k => nck v30_11 (k v30_11 h)) h1 fun v31_12 h2 =>
  gd (yb v28_9 == some false) (fun h k => rd Try.prog (Instr.fieldAt 67 v31_12 5) noHp fun v => k v h) h2 fun v32_13 h3 =>
  gd (yb v28_9 == some false) (fun h k => rd Try.prog (Instr.loadAt 64 v32_13) h fun v => k v h) h3 fun v33_14 h4 =>
  gd (yb v28_9 == some false) (fun h k => k (env 8) h) h4 fun v34_15 h5 =>
  gd (yb v28_9 == some false) (fun h k => rd Try.prog (Instr.indexAt 64 v33_14 v34_15) noHp fun v => k v h) h5 fun v35_16 h6 =>
  gd (yb v28_9 == some false) (fun h k => rd Try.prog (Instr.fieldAt 116 v35_16 1) noHp fun v => k v h) h6 fun v36_17 h7 =>
  gd (yb v28_9 == some false) (fun h k => rd Try.prog (Instr.loadAt 3 v36_17) h fun v => k v h) h7 fun v37_18 h8 =>
  gd (yb v28_9 == some false) (fun h k => k (env 2) h) h8 fun v38_19 h9 =>
  gd (yb v28_9 == some false) (fun h k => rd Try.prog (bop Go.BinOp.neq 3 (Go.Operand.tmp 37) (Go.Operand.tmp 38) v37_18 v38_19) noHp fun v => k v h) h9 fun v39_20 h10 =>
  rd Try.prog (pck v28_9 (Go.Value.bool true) v39_20) noHp fun v40_21 =>
  K ((((((((((((((((((((((env.set 19 (env 0)).set 20 (env 0)).set 21 v21_2).set 22 v22_3).set 23 (env 8)).set 24 v24_5).set 25 v25_6).set 26 v26_7).set 27 v27_8).set 28 v28_9).set 29 v28_9).set 30 v30_11).set 31 v31_12).set 32 v32_13).set 33 v33_14).set 34 v34_15).set 35 v35_16).set 36 v36_17).set 37 v37_18).set 38 v38_19).set 39 v39_20).set 40 v40_21) h10)
@[congr] theorem octroiref17_Babel_forget_r4_congr {env : Env} {h : Hp} {K : Env → Hp → Prop} : octroiref17_Babel_forget_r4 env h K = octroiref17_Babel_forget_r4 env h K := rfl

/-- ref.go:143 -/
def octroiref17_Babel_forget_r5 (env : Env) (h : Hp) (K : Env → Hp → Prop) : Prop :=
  nck (env 0) (
  rd Try.prog (Instr.fieldAt 67 (env 0) 5) noHp fun v44_3 =>
  rd Try.prog (Instr.loadAt 64 v44_3) h fun v45_4 =>
  rd Try.prog (Instr.indexAt 64 v45_4 (env 8)) noHp fun v47_6 =>
  rd Try.prog (Instr.loadAt 116 v47_6) h fun v48_7 =>
  arun Try.prog (Instr.buildSlice 64 1 #[(0, v48_7)]) h fun v49_8 h1 =>
  arun Try.prog (Builtin.append_ #[64, 64] 64 #[(env 7), v49_8]) h1 fun v50_9 h2 =>
  K (((((((((((env.set 41 (env 7)).set 42 (env 0)).set 43 (env 0)).set 44 v44_3).set 45 v45_4).set 46 (env 8)).set 47 v47_6).set 48 v48_7).set 49 v49_8).set 50 v50_9).set 7 v50_9) h2)
@[congr] theorem octroiref17_Babel_forget_r5_congr {env : Env} {h : Hp} {K : Env → Hp → Prop} : octroiref17_Babel_forget_r5 env h K = octroiref17_Babel_forget_r5 env h K := rfl

/-- ref.go:141 -/
def octroiref17_Babel_forget_r6 (env : Env) (h : Hp) (K : Env → Hp → Prop) : Prop :=
  rd Try.prog (bop Go.BinOp.add 3 (Go.Operand.tmp 17) (Go.Operand.const (Go.Value.int Go.IntKind.i64 1)) (env 8) (Go.Value.int Go.IntKind.i64 1)) noHp fun v18_1 =>
  K (((env.set 17 (env 8)).set 18 v18_1).set 8 v18_1) h
@[congr] theorem octroiref17_Babel_forget_r6_congr {env : Env} {h : Hp} {K : Env → Hp → Prop} : octroiref17_Babel_forget_r6 env h K = octroiref17_Babel_forget_r6 env h K := rfl

def octroiref17_Babel_forget_L0 : Den := (sq (sq (rg octroiref17_Babel_forget_r3) (cnd (Go.Operand.tmp 16) (ex .normal) (ex (.exit 0)))) (sq (blk 1 (sq (rg octroiref17_Babel_forget_r4) (cnd (Go.Operand.tmp 40) (rg octroiref17_Babel_forget_r5) (ex .normal)))) (rg octroiref17_Babel_forget_r6)))

/-- ref.go:146 -/
def octroiref17_Babel_forget_r7 (env : Env) (h : Hp) (K : Env → Hp → Prop) : Prop :=
  rd Try.prog (Builtin.len_ #[64] 3 #[(env 7)]) h fun v52_1 =>
  nck (env 0) (
  rd Try.prog (Instr.fieldAt 67 (env 0) 5) noHp fun v55_4 =>
  rd Try.prog (Instr.loadAt 64 v55_4) h fun v56_5 =>
  rd Try.prog (Builtin.len_ #[64] 3 #[v56_5]) h fun v57_6 =>
  rd Try.prog (bop Go.BinOp.lss 3 (Go.Operand.tmp 52) (Go.Operand.tmp 57) v52_1 v57_6) noHp fun v58_7 =>
  K (((((((((env.set 51 (env 7)).set 52 v52_1).set 53 (env 0)).set 54 (env 0)).set 55 v55_4).set 56 v56_5).set 57 v57_6).set 58 v58_7).set 9 v58_7) h)
@[congr] theorem octroiref17_Babel_forget_r7_congr {env : Env} {h : Hp} {K : Env → Hp → Prop} : octroiref17_Babel_forget_r7 env h K = octroiref17_Babel_forget_r7 env h K := rfl

/-- ref.go:147 -/
def octroiref17_Babel_forget_r8 (env : Env) (h : Hp) (K : Env → Hp → Prop) : Prop :=
  nck (env 0) (
  rd Try.prog (Instr.fieldAt 67 (env 0) 5) noHp fun v62_3 =>
  arun Try.prog (Instr.storeAt 64 v62_3 (env 7)) h fun _ h1 =>
  K ((((env.set 59 (env 0)).set 60 (env 7)).set 61 (env 0)).set 62 v62_3) h1)
@[congr] theorem octroiref17_Babel_forget_r8_congr {env : Env} {h : Hp} {K : Env → Hp → Prop} : octroiref17_Babel_forget_r8 env h K = octroiref17_Babel_forget_r8 env h K := rfl

/-- ref.go:148 -/
def octroiref17_Babel_forget_r9 (env : Env) (h : Hp) (K : Env → Hp → Prop) : Prop :=
  K ((env.set 63 (env 9)).set 6 (env 9)) h
@[congr] theorem octroiref17_Babel_forget_r9_congr {env : Env} {h : Hp} {K : Env → Hp → Prop} : octroiref17_Babel_forget_r9 env h K = octroiref17_Babel_forget_r9 env h K := rfl

def octroiref17_Babel_forget_D : Den := (sq (rg octroiref17_Babel_forget_r0) (sq (rg octroiref17_Babel_forget_r1) (sq (sq (rg octroiref17_Babel_forget_r2) (blk 0 (lp octroiref17_Babel_forget_L0))) (sq (rg octroiref17_Babel_forget_r7) (sq (rg octroiref17_Babel_forget_r8) (sq (rg octroiref17_Babel_forget_r9) (ex .ret)))))))

theorem octroiref17_Babel_forget_eq : (den Try.prog 64 octroiref17_Babel_forget_code).1 = octroiref17_Babel_forget_D := by kernel_rfl

theorem octroiref17_Babel_forget_ok {args : Array Value} {h : Hp} {Q : Value → Hp → Prop} (hn : args.size ≤ 64) (D : octroiref17_Babel_forget_D (fin Try.prog [(Go.ResultVar.tmp 6)] Q) (env0 args) h) : Ok Try.prog 62 args h Q :=
  ok_of_den progIsOk Try.func62 (c := octroiref17_Babel_forget_code) (by kernel_rfl) hn (by show (den Try.prog 64 octroiref17_Babel_forget_code).1 _ _ _; rw [octroiref17_Babel_forget_eq]; exact D)

/-! ### octroi/octroiref02.Less: function 63 -/
noncomputable def octroiref02_Less_code : Code := match Try.f63.body with | some c => c | none => .skip

/-- ref.go:54 -/
def octroiref02_Less_r0 (env : Env) (h : Hp) (K : Env → Hp → Prop) : Prop :=
  arun Try.prog (Instr.box 24 (env 0)) h fun v2_0 h1 =>
  arun Try.prog (Instr.box 24 (env 1)) h1 fun v3_1 h2 =>
  K (((env.set 2 v2_0).set 3 v3_1).set 4 (Go.Value.bool false)) h2
@[congr] theorem octroiref02_Less_r0_congr {env : Env} {h : Hp} {K : Env → Hp → Prop} : octroiref02_Less_r0 env h K = octroiref02_Less_r0 env h K := rfl

/-- ref.go:55 -/
def octroiref02_Less_r1 (env : Env) (h : Hp) (K : Env → Hp → Prop) : Prop :=
  rd Try.prog (Instr.fieldAt 24 (env 2) 0) noHp fun v5_0 =>
  rd Try.prog (Instr.loadAt 22 v5_0) h fun v6_1 =>
  rd Try.prog (Instr.fieldAt 24 (env 3) 0) noHp fun v7_2 =>
  rd Try.prog (Instr.loadAt 22 v7_2) h fun v8_3 =>
  rd Try.prog (bop Go.BinOp.lss 22 (Go.Operand.tmp 6) (Go.Operand.tmp 8) v6_1 v8_3) noHp fun v9_4 =>
  gd (yb v9_4 == some false) (fun h k => rd Try.prog (Instr.fieldAt 24 (env 2) 0) noHp fun v => k v h) h fun v11_6 h1 =>
  gd (yb v9_4 == some false) (fun h k => rd Try.prog (Instr.loadAt 22 v11_6) h fun v => k v h) h1 fun v12_7 h2 =>
  gd (yb v9_4 == some false) (fun h k => rd Try.prog (Instr.fieldAt 24 (env 3) 0) noHp fun v => k v h) h2 fun v13_8 h3 =>
  gd (yb v9_4 == some false) (fun h k => rd Try.prog (Instr.loadAt 22 v13_8) h fun v => k v h) h3 fun v14_9 h4 =>
  gd (yb v9_4 == some false) (fun h k => rd Try.prog (bop Go.BinOp.eql 22 (Go.Operand.tmp 12) (Go.Operand.tmp 14) v12_7 v14_9) noHp fun v => k v h) h4 fun v15_10 h5 =>
  gd (yb v9_4 == some false) (fun h k => k v15_10 h) h5 fun v16_11 h6 =>
  gd (yb v16_11 == some true) (fun h k => rd Try.prog (Instr.fieldAt 24 (env 2) 1) noHp fun v => k v h) h6 fun v17_12 h7 =>
  gd (yb v16_11 == some true) (fun h k => rd Try.prog (Instr.loadAt 3 v17_12) h fun v => k v h) h7 fun v18_13 h8 =>
  gd (yb v16_11 == some true) (fun h k => rd Try.prog (Instr.fieldAt 24 (env 3) 1) noHp fun v => k v h) h8 fun v19_14 h9 =>
  gd (yb v16_11 == some true) (fun h k => rd Try.prog (Instr.loadAt 3 v19_14) h fun v => k v h) h9 fun v20_15 h10 =>
  gd (yb v16_11 == some true) (fun h k => rd Try.prog (bop Go.BinOp.lss 3 (Go.Operand.tmp 18) (Go.Operand.tmp 20) v18_13 v20_15) noHp fun v => k v h) h10 fun v21_16 h11 =>
  gd (yb v9_4 == some false) (fun h k => rd Try.prog (pck v16_11 v21_16 (Go.Value.bool false)) noHp fun v => k v h) h11 fun v22_17 h12 =>
  rd Try.prog (pck v9_4 (Go.Value.bool true) v22_17) noHp fun v23_18 =>
  K ((((((((((((((((((((env.set 5 v5_0).set 6 v6_1).set 7 v7_2).set 8 v8_3).set 9 v9_4).set 10 v9_4).set 11 v11_6).set 12 v12_7).set 13 v13_8).set 14 v14_9).set 15 v15_10).set 16 v16_11).set 17 v17_12).set 18 v18_13).set 19 v19_14).set 20 v20_15).set 21 v21_16).set 22 v22_17).set 23 v23_18).set 4 v23_18) h12
@[congr] theorem octroiref02_Less_r1_congr {env : Env} {h : Hp} {K : Env → Hp → Prop} : octroiref02_Less_r1 env h K = octroiref02_Less_r1 env h K := rfl

def octroiref02_Less_D : Den := (sq (rg octroiref02_Less_r0) (sq (rg octroiref02_Less_r1) (ex .ret)))

theorem octroiref02_Less_eq : (den Try.prog 24 octroiref02_Less_code).1 = octroiref02_Less_D := by kernel_rfl

theorem octroiref02_Less_ok {args : Array Value} {h : Hp} {Q : Value → Hp → Prop} (hn : args.size ≤ 24) (D : octroiref02_Less_D (fin Try.prog [(Go.ResultVar.tmp 4)] Q) (env0 args) h) : Ok Try.prog 63 args h Q :=
  ok_of_den progIsOk Try.func63 (c := octroiref02_Less_code) (by kernel_rfl) hn (by show (den Try.prog 24 octroiref02_Less_code).1 _ _ _; rw [octroiref02_Less_eq]; exact D)

/-! ### octroi/octroiref01.Add: function 64 -/
noncomputable def octroiref01_Add_code : Code := match Try.f64.body with | some c => c | none => .skip

/-- ref.go:27 -/
def octroiref01_Add_r0 (env : Env) (h : Hp) (K : Env → Hp → Prop) : Prop :=
  K (env.set 6 (Go.Value.int Go.IntKind.i64 0)) h
@[congr] theorem octroiref01_Add_r0_congr {env : Env} {h : Hp} {K : Env → Hp → Prop} : octroiref01_Add_r0 env h K = octroiref01_Add_r0 env h K := rfl

/-- ref.go:28 -/
def octroiref01_Add_r1 (env : Env) (h : Hp) (K : Env → Hp → Prop) : Prop :=
  rd Try.prog (bop Go.BinOp.lss 3 (Go.Operand.tmp 7) (Go.Operand.const (Go.Value.int Go.IntKind.i64 0)) (env 0) (Go.Value.int Go.IntKind.i64 0)) noHp fun v8_1 =>
  K ((env.set 7 (env 0)).set 8 v8_1) h
@[congr] theorem octroiref01_Add_r1_congr {env : Env} {h : Hp} {K : Env → Hp → Prop} : octroiref01_Add_r1 env h K = octroiref01_Add_r1 env h K := rfl

/-- ref.go:29 -/
def octroiref01_Add_r2 (env : Env) (h : Hp) (K : Env → Hp → Prop) : Prop :=
  K (env.set 0 (Go.Value.int Go.IntKind.i64 0)) h
@[congr] theorem octroiref01_Add_r2_congr {env : Env} {h : Hp} {K : Env → Hp → Prop} : octroiref01_Add_r2 env h K = octroiref01_Add_r2 env h K := rfl

/-- ref.go:31 -/
def octroiref01_Add_r3 (env : Env) (h : Hp) (K : Env → Hp → Prop) : Prop :=
  rd Try.prog (bop Go.BinOp.lss 3 (Go.Operand.tmp 9) (Go.Operand.const (Go.Value.int Go.IntKind.i64 0)) (env 1) (Go.Value.int Go.IntKind.i64 0)) noHp fun v10_1 =>
  K ((env.set 9 (env 1)).set 10 v10_1) h
@[congr] theorem octroiref01_Add_r3_congr {env : Env} {h : Hp} {K : Env → Hp → Prop} : octroiref01_Add_r3 env h K = octroiref01_Add_r3 env h K := rfl

/-- ref.go:32 -/
def octroiref01_Add_r4 (env : Env) (h : Hp) (K : Env → Hp → Prop) : Prop :=
  K (env.set 1 (Go.Value.int Go.IntKind.i64 0)) h
@[congr] theorem octroiref01_Add_r4_congr {env : Env} {h : Hp} {K : Env → Hp → Prop} : octroiref01_Add_r4 env h K = octroiref01_Add_r4 env h K := rfl

/-- ref.go:34 -/
def octroiref01_Add_r5 (env : Env) (h : Hp) (K : Env → Hp → Prop) : Prop :=
  rd Try.prog (bop Go.BinOp.lss 3 (Go.Operand.tmp 11) (Go.Operand.const (Go.Value.int Go.IntKind.i64 0)) (env 2) (Go.Value.int Go.IntKind.i64 0)) noHp fun v12_1 =>
  K ((env.set 11 (env 2)).set 12 v12_1) h
@[congr] theorem octroiref01_Add_r5_congr {env : Env} {h : Hp} {K : Env → Hp → Prop} : octroiref01_Add_r5 env h K = octroiref01_Add_r5 env h K := rfl

/-- ref.go:35 -/
def octroiref01_Add_r6 (env : Env) (h : Hp) (K : Env → Hp → Prop) : Prop :=
  K (env.set 2 (Go.Value.int Go.IntKind.i64 0)) h
@[congr] theorem octroiref01_Add_r6_congr {env : Env} {h : Hp} {K : Env → Hp → Prop} : octroiref01_Add_r6 env h K = octroiref01_Add_r6 env h K := rfl

/-- ref.go:37 -/
def octroiref01_Add_r7 (env : Env) (h : Hp) (K : Env → Hp → Prop) : Prop :=
  rd Try.prog (bop Go.BinOp.gtr 3 (Go.Operand.tmp 13) (Go.Operand.tmp 14) (env 0) (env 2)) noHp fun v15_2 =>
  gd (yb v15_2 == some false) (fun h k => k (env 1) h) h fun v17_4 h1 =>
  gd (yb v15_2 == some false) (fun h k => k (env 2) h) h1 fun v18_5 h2 =>
  gd (yb v15_2 == some false) (fun h k => k (env 0) h) h2 fun v19_6 h3 =>
  gd (yb v15_2 == some false) (fun h k => rd Try.prog (bop Go.BinOp.sub 3 (Go.Operand.tmp 18) (Go.Operand.tmp 19) v18_5 v19_6) noHp fun v => k v h) h3 fun v20_7 h4 =>
  gd (yb v15_2 == some false) (fun h k => rd Try.prog (bop Go.BinOp.gtr 3 (Go.Operand.tmp 17) (Go.Operand.tmp 20) v17_4 v20_7) noHp fun v => k v h) h4 fun v21_8 h5 =>
  rd Try.prog (pck v15_2 (Go.Value.bool true) v21_8) noHp fun v22_9 =>
  K ((((((((((env.set 13 (env 0)).set 14 (env 2)).set 15 v15_2).set 16 v15_2).set 17 v17_4).set 18 v18_5).set 19 v19_6).set 20 v20_7).set 21 v21_8).set 22 v22_9) h5
@[congr] theorem octroiref01_Add_r7_congr {env : Env} {h : Hp} {K : Env → Hp → Prop} : octroiref01_Add_r7 env h K = octroiref01_Add_r7 env h K := rfl

/-- ref.go:38 -/
def octroiref01_Add_r8 (env : Env) (h : Hp) (K : Env → Hp → Prop) : Prop :=
  K ((env.set 23 (env 2)).set 6 (env 2)) h
@[congr] theorem octroiref01_Add_r8_congr {env : Env} {h : Hp} {K : Env → Hp → Prop} : octroiref01_Add_r8 env h K = octroiref01_Add_r8 env h K := rfl

/-- ref.go:40 -/
def octroiref01_Add_r9 (env : Env) (h : Hp) (K : Env → Hp → Prop) : Prop :=
  rd Try.prog (bop Go.BinOp.add 3 (Go.Operand.tmp 24) (Go.Operand.tmp 25) (env 0) (env 1)) noHp fun v26_2 =>
  K ((((env.set 24 (env 0)).set 25 (env 1)).set 26 v26_2).set 6 v26_2) h
@[congr] theorem octroiref01_Add_r9_congr {env : Env} {h : Hp} {K : Env → Hp → Prop} : octroiref01_Add_r9 env h K = octroiref01_Add_r9 env h K := rfl

def octroiref01_Add_D : Den := (sq (rg octroiref01_Add_r0) (sq (sq (rg octroiref01_Add_r1) (cnd (Go.Operand.tmp 8) (rg octroiref01_Add_r2) (ex .normal))) (sq (sq (rg octroiref01_Add_r3) (cnd (Go.Operand.tmp 10) (rg octroiref01_Add_r4) (ex .normal))) (sq (sq (rg octroiref01_Add_r5) (cnd (Go.Operand.tmp 12) (rg octroiref01_Add_r6) (ex .normal))) (sq (sq (rg octroiref01_Add_r7) (cnd (Go.Operand.tmp 22) (sq (rg octroiref01_Add_r8) (ex .ret)) (ex .normal))) (sq (rg octroiref01_Add_r9) (ex .ret)))))))

theorem octroiref01_Add_eq : (den Try.prog 27 octroiref01_Add_code).1 = octroiref01_Add_D := by kernel_rfl

theorem octroiref01_Add_ok {args : Array Value} {h : Hp} {Q : Value → Hp → Prop} (hn : args.size ≤ 27) (D : octroiref01_Add_D (fin Try.prog [(Go.ResultVar.tmp 6)] Q) (env0 args) h) : Ok Try.prog 64 args h Q :=
  ok_of_den progIsOk Try.func64 (c := octroiref01_Add_code) (by kernel_rfl) hn (by show (den Try.prog 27 octroiref01_Add_code).1 _ _ _; rw [octroiref01_Add_eq]; exact D)

/-! ### slices.pdqsortCmpFunc[octroi/api.Prefix]: function 65 -/
noncomputable def slices_pdqsortCmpFunc_api_Prefix_code : Code := match Try.f65.body with | some c => c | none => .skip

/-- zsortanyfunc.go:65 -/
def slices_pdqsortCmpFunc_api_Prefix_r0 (env : Env) (h : Hp) (K : Env → Hp → Prop) : Prop :=
  K (env.set 10 (Go.Value.bool true)) h
@[congr] theorem slices_pdqsortCmpFunc_api_Prefix_r0_congr {env : Env} {h : Hp} {K : Env → Hp → Prop} : slices_pdqsortCmpFunc_api_Prefix_r0 env h K = slices_pdqsortCmpFunc_api_Prefix_r0 env h K := rfl

/-- zsortanyfunc.go:66 -/
def slices_pdqsortCmpFunc_api_Prefix_r1 (env : Env) (h : Hp) (K : Env → Hp → Prop) : Prop :=
  K (env.set 11 (Go.Value.bool true)) h
@[congr] theorem slices_pdqsortCmpFunc_api_Prefix_r1_congr {env : Env} {h : Hp} {K : Env → Hp → Prop} : slices_pdqsortCmpFunc_api_Prefix_r1 env h K = slices_pdqsortCmpFunc_api_Prefix_r1 env h K := rfl

/-- zsortanyfunc.go:70 -/
def slices_pdqsortCmpFunc_api_Prefix_r2 (env : Env) (h : Hp) (K : Env → Hp → Prop) : Prop :=
  rd Try.prog (bop Go.BinOp.sub 3 (Go.Operand.tmp 21) (Go.Operand.tmp 22) (env 2) (env 1)) noHp fun v23_2 =>
  K ((((env.set 21 (env 2)).set 22 (env 1)).set 23 v23_2).set 12 v23_2) h
@[congr] theorem slices_pdqsortCmpFunc_api_Prefix_r2_congr {env : Env} {h : Hp} {K : Env → Hp → Prop} : slices_pdqsortCmpFunc_api_Prefix_r2 env h K = slices_pdqsortCmpFunc_api_Prefix_r2 env h K := rfl

/-- zsortanyfunc.go:72 -/
def slices_pdqsortCmpFunc_api_Prefix_r3 (env : Env) (h : Hp) (K : Env → Hp → Prop) : Prop :=
  rd Try.prog (bop Go.BinOp.leq 3 (Go.Operand.tmp 24) (Go.Operand.const (Go.Value.int Go.IntKind.i64 12)) (env 12) (Go.Value.int Go.IntKind.i64 12)) noHp fun v25_1 =>
  K ((env.set 24 (env 12)).set 25 v25_1) h
@[congr] theorem slices_pdqsortCmpFunc_api_Prefix_r3_congr {env : Env} {h : Hp} {K : Env → Hp → Prop} : slices_pdqsortCmpFunc_api_Prefix_r3 env h K = slices_pdqsortCmpFunc_api_Prefix_r3 env h K := rfl

/-- zsortanyfunc.go:73 -/
def slices_pdqsortCmpFunc_api_Prefix_r4 (env : Env) (h : Hp) (K : Env → Hp → Prop) : Prop :=
  Ok Try.prog 72 #[(env 0), (env 1), (env 2), (env 4)] h fun v30_4 h1 =>
  K (((((env.set 26 (env 0)).set 27 (env 1)).set 28 (env 2)).set 29 (env 4)).set 30 v30_4) h1
@[congr] theorem slices_pdqsortCmpFunc_api_Prefix_r4_congr {env : Env} {h : Hp} {K : Env → Hp → Prop} : slices_pdqsortCmpFunc_api_Prefix_r4 env h K = slices_pdqsortCmpFunc_api_Prefix_r4 env h K := rfl

/-- zsortanyfunc.go:78 -/
def slices_pdqsortCmpFunc_api_Prefix_r5 (env : Env) (h : Hp) (K : Env → Hp → Prop) : Prop :=
  rd Try.prog (bop Go.BinOp.eql 3 (Go.Operand.tmp 31) (Go.Operand.const (Go.Value.int Go.IntKind.i64 0)) (env 3) (Go.Value.int Go.IntKind.i64 0)) noHp fun v32_1 =>
  K ((env.set 31 (env 3)).set 32 v32_1) h
@[congr] theorem slices_pdqsortCmpFunc_api_Prefix_r5_congr {env : Env} {h : Hp} {K : Env → Hp → Prop} : slices_pdqsortCmpFunc_api_Prefix_r5 env h K = slices_pdqsortCmpFunc_api_Prefix_r5 env h K := rfl

/-- zsortanyfunc.go:79 -/
def slices_pdqsortCmpFunc_api_Prefix_r6 (env : Env) (h : Hp) (K : Env → Hp → Prop) : Prop :=
  Ok Try.prog 73 #[(env 0), (env 1), (env 2), (env 4)] h fun v37_4 h1 =>
  K (((((env.set 33 (env 0)).set 34 (env 1)).set 35 (env 2)).set 36 (env 4)).set 37 v37_4) h1
@[congr] theorem slices_pdqsortCmpFunc_api_Prefix_r6_congr {env : Env} {h : Hp} {K : Env → Hp → Prop} : slices_pdqsortCmpFunc_api_Prefix_r6 env h K = slices_pdqsortCmpFunc_api_Prefix_r6 env h K := rfl

/-- zsortanyfunc.go:84 -/
def slices_pdqsortCmpFunc_api_Prefix_r7 (env : Env) (h : Hp) (K : Env → Hp → Prop) : Prop :=
  rd Try.prog (Op.unary Go.UnOp.not (env 10)) noHp fun v39_1 =>
  K ((env.set 38 (env 10)).set 39 v39_1) h
@[congr] theorem slices_pdqsortCmpFunc_api_Prefix_r7_congr {env : Env} {h : Hp} {K : Env → Hp → Prop} : slices_pdqsortCmpFunc_api_Prefix_r7 env h K = slices_pdqsortCmpFunc_api_Prefix_r7 env h K := rfl

/-- zsortanyfunc.go:85 -/
def slices_pdqsortCmpFunc_api_Prefix_r8 (env : Env) (h : Hp) (K : Env → Hp → Prop) : Prop :=
  Ok Try.prog 74 #[(env 0), (env 1), (env 2), (env 4)] h fun v44_4 h1 =>
  K (((((env.set 40 (env 0)).set 41 (env 1)).set 42 (env 2)).set 43 (env 4)).set 44 v44_4) h1
@[congr] theorem slices_pdqsortCmpFunc_api_Prefix_r8_congr {env : Env} {h : Hp} {K : Env → Hp → Prop} : slices_pdqsortCmpFunc_api_Prefix_r8 env h K = slices_pdqsortCmpFunc_api_Prefix_r8 env h K := rfl

/-- zsortanyfunc.go:86 -/
def slices_pdqsortCmpFunc_api_Prefix_r9 (env : Env) (h : Hp) (K : Env → Hp → Prop) : Prop :=
  rd Try.prog (bop Go.BinOp.sub 3 (Go.Operand.tmp 45) (Go.Operand.const (Go.Value.int Go.IntKind.i64 1)) (env 3) (Go.Value.int Go.IntKind.i64 1)) noHp fun v46_1 =>
  K (((env.set 45 (env 3)).set 46 v46_1).set 3 v46_1) h
@[congr] theorem slices_pdqsortCmpFunc_api_Prefix_r9_congr {env : Env} {h : Hp} {K : Env → Hp → Prop} : slices_pdqsortCmpFunc_api_Prefix_r9 env h K = slices_pdqsortCmpFunc_api_Prefix_r9 env h K := rfl

/-- zsortanyfunc.go:89 -/
def slices_pdqsortCmpFunc_api_Prefix_r10 (env : Env) (h : Hp) (K : Env → Hp → Prop) : Prop :=
  Ok Try.prog 75 #[(env 0), (env 1), (env 2), (env 4)] h fun v52_4 h1 =>
  rd Try.prog (Instr.extract v52_4 0) noHp fun v53_6 =>
  rd Try.prog (Instr.extract v52_4 1) noHp fun v54_7 =>
  K ((((((((((env.set 48 (env 0)).set 49 (env 1)).set 50 (env 2)).set 51 (env 4)).set 52 v52_4).set 47 v52_4).set 53 v53_6).set 54 v54_7).set 13 v53_6).set 14 v54_7) h1
@[congr] theorem slices_pdqsortCmpFunc_api_Prefix_r10_congr {env : Env} {h : Hp} {K : Env → Hp → Prop} : slices_pdqsortCmpFunc_api_Prefix_r10 env h K = slices_pdqsortCmpFunc_api_Prefix_r10 env h K := rfl

/-- zsortanyfunc.go:90 -/
def slices_pdqsortCmpFunc_api_Prefix_r11 (env : Env) (h : Hp) (K : Env → Hp → Prop) : Prop :=
  rd Try.prog (bop Go.BinOp.eql 123 (Go.Operand.tmp 55) (Go.Operand.const (Go.Value.int Go.IntKind.i64 2)) (env 14) (Go.Value.int Go.IntKind.i64 2)) noHp fun v56_1 =>
  K ((env.set 55 (env 14)).set 56 v56_1) h
@[congr] theorem slices_pdqsortCmpFunc_api_Prefix_r11_congr {env : Env} {h : Hp} {K : Env → Hp → Prop} : slices_pdqsortCmpFunc_api_Prefix_r11 env h K = slices_pdqsortCmpFunc_api_Prefix_r11 env h K := rfl

/-- zsortanyfunc.go:91 -/
def slices_pdqsortCmpFunc_api_Prefix_r12 (env : Env) (h : Hp) (K : Env → Hp → Prop) : Prop :=
  Ok Try.prog 76 #[(env 0), (env 1), (env 2), (env 4)] h fun v61_4 h1 =>
  K (((((env.set 57 (env 0)).set 58 (env 1)).set 59 (env 2)).set 60 (env 4)).set 61 v61_4) h1
@[congr] theorem slices_pdqsortCmpFunc_api_Prefix_r12_congr {env : Env} {h : Hp} {K : Env → Hp → Prop} : slices_pdqsortCmpFunc_api_Prefix_r12 env h K = slices_pdqsortCmpFunc_api_Prefix_r12 env h K := rfl

/-- zsortanyfunc.go:95 -/
def slices_pdqsortCmpFunc_api_Prefix_r13 (env : Env) (h : Hp) (K : Env → Hp → Prop) : Prop :=
  rd Try.prog (bop Go.BinOp.sub 3 (Go.Operand.tmp 62) (Go.Operand.const (Go.Value.int Go.IntKind.i64 1)) (env 2) (Go.Value.int Go.IntKind.i64 1)) noHp fun v63_1 =>
  rd Try.prog (bop Go.BinOp.sub 3 (Go.Operand.tmp 64) (Go.Operand.tmp 65) (env 13) (env 1)) noHp fun v66_4 =>
  rd Try.prog (bop Go.BinOp.sub 3 (Go.Operand.tmp 63) (Go.Operand.tmp 66) v63_1 v66_4) noHp fun v67_5 =>
  K (((((((env.set 62 (env 2)).set 63 v63_1).set 64 (env 13)).set 65 (env 1)).set 66 v66_4).set 67 v67_5).set 13 v67_5) h
@[congr] theorem slices_pdqsortCmpFunc_api_Prefix_r13_congr {env : Env} {h : Hp} {K : Env → Hp → Prop} : slices_pdqsortCmpFunc_api_Prefix_r13 env h K = slices_pdqsortCmpFunc_api_Prefix_r13 env h K := rfl

/-- zsortanyfunc.go:96 -/
def slices_pdqsortCmpFunc_api_Prefix_r14 (env : Env) (h : Hp) (K : Env → Hp → Prop) : Prop :=
  K (env.set 14 (Go.Value.int Go.IntKind.i64 1)) h
@[congr] theorem slices_pdqsortCmpFunc_api_Prefix_r14_congr {env : Env} {h : Hp} {K : Env → Hp → Prop} : slices_pdqsortCmpFunc_api_Prefix_r14 env h K = slices_pdqsortCmpFunc_api_Prefix_r14 env h K := rfl

/-- zsortanyfunc.go:100 -/
def slices_pdqsortCmpFunc_api_Prefix_r15 (env : Env) (h : Hp) (K : Env → Hp → Prop) : Prop :=
  gd (yb (env 10) == some true) (fun h k => k (env 11) h) h fun v70_2 h1 =>
  rd Try.prog (pck (env 10) v70_2 (Go.Value.bool false)) noHp fun v71_3 =>
  gd (yb v71_3 == some true) (fun h k => k (env 14) h) h1 fun v73_5 h2 =>
  gd (yb v71_3 == some true) (fun h k => rd Try.prog (bop Go.BinOp.eql 123 (Go.Operand.tmp 73) (Go.Operand.const (Go.Value.int Go.IntKind.i64 1)) v73_5 (Go.Value.int Go.IntKind.i64 1)) noHp fun v => k v h) h2 fun v74_6 h3 =>
  rd Try.prog (pck v71_3 v74_6 (Go.Value.bool false)) noHp fun v75_7 =>
  K ((((((((env.set 68 (env 10)).set 69 (env 10)).set 70 v70_2).set 71 v71_3).set 72 v71_3).set 73 v73_5).set 74 v74_6).set 75 v75_7) h3
@[congr] theorem slices_pdqsortCmpFunc_api_Prefix_r15_congr {env : Env} {h : Hp} {K : Env → Hp → Prop} : slices_pdqsortCmpFunc_api_Prefix_r15 env h K = slices_pdqsortCmpFunc_api_Prefix_r15 env h K := rfl

/-- zsortanyfunc.go:101 -/
def slices_pdqsortCmpFunc_api_Prefix_r16 (env : Env) (h : Hp) (K : Env → Hp → Prop) : Prop :=
  Ok Try.prog 77 #[(env 0), (env 1), (env 2), (env 4)] h fun v80_4 h1 =>
  K (((((env.set 76 (env 0)).set 77 (env 1)).set 78 (env 2)).set 79 (env 4)).set 80 v80_4) h1
@[congr] theorem slices_pdqsortCmpFunc_api_Prefix_r16_congr {env : Env} {h : Hp} {K : Env → Hp → Prop} : slices_pdqsortCmpFunc_api_Prefix_r16 env h K = slices_pdqsortCmpFunc_api_Prefix_r16 env h K := rfl

/-- zsortanyfunc.go:108 (in any order) -/
def slices_pdqsortCmpFunc_api_Prefix_r17 (env : Env) (h : Hp) (K : Env → Hp → Prop) : Prop :=
  rd Try.prog (bop Go.BinOp.gtr 3 (Go.Operand.tmp 81) (Go.Operand.const (Go.Value.int Go.IntKind.i64 0)) (env 1) (Go.Value.int Go.IntKind.i64 0)) noHp fun v82_1 =>
  gd (yb v82_1 == some true) (fun h k => k (env 4) h) h fun v84_3 h1 =>
  gd (yb v82_1 == some true) (fun h k => k (env 0) h) h1 fun v85_4 h2 =>
  gd (yb v82_1 == some true) (fun h k => k (env 1) h) h2 fun v86_5 h3 =>
  gd (yb v82_1 == some true) (fun h k => rd Try.prog (bop Go.BinOp.sub 3 (Go.Operand.tmp 86) (Go.Operand.const (Go.Value.int Go.IntKind.i64 1)) v86_5 (Go.Value.int Go.IntKind.i64 1)) noHp fun v => k v h) h3 fun v87_6 h4 =>
  gd (yb v82_1 == some true) (fun h k => rd Try.prog (Instr.indexAt 88 v85_4 v87_6) noHp fun v => k v h) h4 fun v88_7 h5 =>
  gd (yb v82_1 == some true) (fun h k => rd Try.prog (Instr.loadAt 24 v88_7) h fun v => k v h) h5 fun v89_8 h6 =>
  gd (yb v82_1 == some true) (fun h k => k (env 0) h) h6 fun v90_9 h7 =>
  gd (yb v82_1 == some true) (fun h k => k (env 13) h) h7 fun v91_10 h8 =>
  gd (yb v82_1 == some true) (fun h k => rd Try.prog (Instr.indexAt 88 v90_9 v91_10) noHp fun v => k v h) h8 fun v92_11 h9 =>
  gd (yb v82_1 == some true) (fun h k => rd Try.prog (Instr.loadAt 24 v92_11) h fun v => k v h) h9 fun v93_12 h10 =>
  gd (yb v82_1 == some true) (fun h k => callV Try.prog v84_3 #[v89_8, v93_12] h k) h10 fun v94_13 h11 =>
  (True) ∧
  gd (yb v82_1 == some true) (fun h k => rd Try.prog (bop Go.BinOp.lss 3 (Go.Operand.tmp 94) (Go.Operand.const (Go.Value.int Go.IntKind.i64 0)) v94_13 (Go.Value.int Go.IntKind.i64 0)) noHp fun v => k v h) h11 fun v95_14 h12 =>
  gd (yb v82_1 == some true) (fun h k => rd Try.prog (Op.unary Go.UnOp.not v95_14) noHp fun v => k v h) h12 fun v96_15 h13 =>
  rd Try.prog (pck v82_1 v96_15 (Go.Value.bool false)) noHp fun v97_16 =>
  K (((((((((((((((((env.set 81 (env 1)).set 82 v82_1).set 83 v82_1).set 84 v84_3).set 85 v85_4).set 86 v86_5).set 87 v87_6).set 88 v88_7).set 89 v89_8).set 90 v90_9).set 91 v91_10).set 92 v92_11).set 93 v93_12).set 94 v94_13).set 95 v95_14).set 96 v96_15).set 97 v97_16) h13
@[congr] theorem slices_pdqsortCmpFunc_api_Prefix_r17_congr {env : Env} {h : Hp} {K : Env → Hp → Prop} : slices_pdqsortCmpFunc_api_Prefix_r17 env h K = slices_pdqsortCmpFunc_api_Prefix_r17 env h K := rfl

/-- zsortanyfunc.go:109 -/
def slices_pdqsortCmpFunc_api_Prefix_r18 (env : Env) (h : Hp) (K : Env → Hp → Prop) : Prop :=
  Ok Try.prog 78 #[(env 0), (env 1), (env 2), (env 13), (env 4)] h fun v103_5 h1 =>
  K (((((((env.set 98 (env 0)).set 99 (env 1)).set 100 (env 2)).set 101 (env 13)).set 102 (env 4)).set 103 v103_5).set 15 v103_5) h1
@[congr] theorem slices_pdqsortCmpFunc_api_Prefix_r18_congr {env : Env} {h : Hp} {K : Env → Hp → Prop} : slices_pdqsortCmpFunc_api_Prefix_r18 env h K = slices_pdqsortCmpFunc_api_Prefix_r18 env h K := rfl

/-- zsortanyfunc.go:110 -/
def slices_pdqsortCmpFunc_api_Prefix_r19 (env : Env) (h : Hp) (K : Env → Hp → Prop) : Prop :=
  K ((env.set 104 (env 15)).set 1 (env 15)) h
@[congr] theorem slices_pdqsortCmpFunc_api_Prefix_r19_congr {env : Env} {h : Hp} {K : Env → Hp → Prop} : slices_pdqsortCmpFunc_api_Prefix_r19 env h K = slices_pdqsortCmpFunc_api_Prefix_r19 env h K := rfl

/-- zsortanyfunc.go:114 -/
def slices_pdqsortCmpFunc_api_Prefix_r20 (env : Env) (h : Hp) (K : Env → Hp → Prop) : Prop :=
  Ok Try.prog 79 #[(env 0), (env 1), (env 2), (env 13), (env 4)] h fun v111_5 h1 =>
  rd Try.prog (Instr.extract v111_5 0) noHp fun v112_7 =>
  rd Try.prog (Instr.extract v111_5 1) noHp fun v113_8 =>
  K (((((((((((env.set 106 (env 0)).set 107 (env 1)).set 108 (env 2)).set 109 (env 13)).set 110 (env 4)).set 111 v111_5).set 105 v111_5).set 112 v112_7).set 113 v113_8).set 16 v112_7).set 17 v113_8) h1
@[congr] theorem slices_pdqsortCmpFunc_api_Prefix_r20_congr {env : Env} {h : Hp} {K : Env → Hp → Prop} : slices_pdqsortCmpFunc_api_Prefix_r20 env h K = slices_pdqsortCmpFunc_api_Prefix_r20 env h K := rfl

/-- zsortanyfunc.go:115 -/
def slices_pdqsortCmpFunc_api_Prefix_r21 (env : Env) (h : Hp) (K : Env → Hp → Prop) : Prop :=
  K ((env.set 114 (env 17)).set 11 (env 17)) h
@[congr] theorem slices_pdqsortCmpFunc_api_Prefix_r21_congr {env : Env} {h : Hp} {K : Env → Hp → Prop} : slices_pdqsortCmpFunc_api_Prefix_r21 env h K = slices_pdqsortCmpFunc_api_Prefix_r21 env h K := rfl

/-- zsortanyfunc.go:117 -/
def slices_pdqsortCmpFunc_api_Prefix_r22 (env : Env) (h : Hp) (K : Env → Hp → Prop) : Prop :=
  rd Try.prog (bop Go.BinOp.sub 3 (Go.Operand.tmp 115) (Go.Operand.tmp 116) (env 16) (env 1)) noHp fun v117_2 =>
  rd Try.prog (bop Go.BinOp.sub 3 (Go.Operand.tmp 118) (Go.Operand.tmp 119) (env 2) (env 16)) noHp fun v120_5 =>
  K ((((((((env.set 115 (env 16)).set 116 (env 1)).set 117 v117_2).set 118 (env 2)).set 119 (env 16)).set 120 v120_5).set 18 v117_2).set 19 v120_5) h
@[congr] theorem slices_pdqsortCmpFunc_api_Prefix_r22_congr {env : Env} {h : Hp} {K : Env → Hp → Prop} : slices_pdqsortCmpFunc_api_Prefix_r22 env h K = slices_pdqsortCmpFunc_api_Prefix_r22 env h K := rfl

/-- zsortanyfunc.go:118 -/
def slices_pdqsortCmpFunc_api_Prefix_r23 (env : Env) (h : Hp) (K : Env → Hp → Prop) : Prop :=
  rd Try.prog (bop Go.BinOp.quo 3 (Go.Operand.tmp 121) (Go.Operand.const (Go.Value.int Go.IntKind.i64 8)) (env 12) (Go.Value.int Go.IntKind.i64 8)) noHp fun v122_1 =>
  K (((env.set 121 (env 12)).set 122 v122_1).set 20 v122_1) h
@[congr] theorem slices_pdqsortCmpFunc_api_Prefix_r23_congr {env : Env} {h : Hp} {K : Env → Hp → Prop} : slices_pdqsortCmpFunc_api_Prefix_r23 env h K = slices_pdqsortCmpFunc_api_Prefix_r23 env h K := rfl

/-- zsortanyfunc.go:119 -/
def slices_pdqsortCmpFunc_api_Prefix_r24 (env : Env) (h : Hp) (K : Env → Hp → Prop) : Prop :=
  rd Try.prog (bop Go.BinOp.lss 3 (Go.Operand.tmp 123) (Go.Operand.tmp 124) (env 18) (env 19)) noHp fun v125_2 =>
  K (((env.set 123 (env 18)).set 124 (env 19)).set 125 v125_2) h
@[congr] theorem slices_pdqsortCmpFunc_api_Prefix_r24_congr {env : Env} {h : Hp} {K : Env → Hp → Prop} : slices_pdqsortCmpFunc_api_Prefix_r24 env h K = slices_pdqsortCmpFunc_api_Prefix_r24 env h K := rfl

/-- zsortanyfunc.go:120 -/
def slices_pdqsortCmpFunc_api_Prefix_r25 (env : Env) (h : Hp) (K : Env → Hp → Prop) : Prop :=
  rd Try.prog (bop Go.BinOp.geq 3 (Go.Operand.tmp 126) (Go.Operand.tmp 127) (env 18) (env 20)) noHp fun v128_2 =>
  K ((((env.set 126 (env 18)).set 127 (env 20)).set 128 v128_2).set 10 v128_2) h
@[congr] theorem slices_pdqsortCmpFunc_api_Prefix_r25_congr {env : Env} {h : Hp} {K : Env → Hp → Prop} : slices_pdqsortCmpFunc_api_Prefix_r25 env h K = slices_pdqsortCmpFunc_api_Prefix_r25 env h K := rfl

/-- zsortanyfunc.go:121 -/
def slices_pdqsortCmpFunc_api_Prefix_r26 (env : Env) (h : Hp) (K : Env → Hp → Prop) : Prop :=
  Ok Try.prog 65 #[(env 0), (env 1), (env 16), (env 3), (env 4)] h fun v134_5 h1 =>
  K ((((((env.set 129 (env 0)).set 130 (env 1)).set 131 (env 16)).set 132 (env 3)).set 133 (env 4)).set 134 v134_5) h1
@[congr] theorem slices_pdqsortCmpFunc_api_Prefix_r26_congr {env : Env} {h : Hp} {K : Env → Hp → Prop} : slices_pdqsortCmpFunc_api_Prefix_r26 env h K = slices_pdqsortCmpFunc_api_Prefix_r26 env h K := rfl

/-- zsortanyfunc.go:122 -/
def slices_pdqsortCmpFunc_api_Prefix_r27 (env : Env) (h : Hp) (K : Env → Hp → Prop) : Prop :=
  rd Try.prog (bop Go.BinOp.add 3 (Go.Operand.tmp 135) (Go.Operand.const (Go.Value.int Go.IntKind.i64 1)) (env 16) (Go.Value.int Go.IntKind.i64 1)) noHp fun v136_1 =>
  K (((env.set 135 (env 16)).set 136 v136_1).set 1 v136_1) h
@[congr] theorem slices_pdqsortCmpFunc_api_Prefix_r27_congr {env : Env} {h : Hp} {K : Env → Hp → Prop} : slices_pdqsortCmpFunc_api_Prefix_r27 env h K = slices_pdqsortCmpFunc_api_Prefix_r27 env h K := rfl

/-- zsortanyfunc.go:124 -/
def slices_pdqsortCmpFunc_api_Prefix_r28 (env : Env) (h : Hp) (K : Env → Hp → Prop) : Prop :=
  rd Try.prog (bop Go.BinOp.geq 3 (Go.Operand.tmp 137) (Go.Operand.tmp 138) (env 19) (env 20)) noHp fun v139_2 =>
  K ((((env.set 137 (env 19)).set 138 (env 20)).set 139 v139_2).set 10 v139_2) h
@[congr] theorem slices_pdqsortCmpFunc_api_Prefix_r28_congr {env : Env} {h : Hp} {K : Env → Hp → Prop} : slices_pdqsortCmpFunc_api_Prefix_r28 env h K = slices_pdqsortCmpFunc_api_Prefix_r28 env h K := rfl

/-- zsortanyfunc.go:125 -/
def slices_pdqsortCmpFunc_api_Prefix_r29 (env : Env) (h : Hp) (K : Env → Hp → Prop) : Prop :=
  rd Try.prog (bop Go.BinOp.add 3 (Go.Operand.tmp 141) (Go.Operand.const (Go.Value.int Go.IntKind.i64 1)) (env 16) (Go.Value.int Go.IntKind.i64 1)) noHp fun v142_2 =>
  Ok Try.prog 65 #[(env 0), v142_2, (env 2), (env 3), (env 4)] h fun v146_6 h1 =>
  K (((((((env.set 140 (env 0)).set 141 (env 16)).set 142 v142_2).set 143 (env 2)).set 144 (env 3)).set 145 (env 4)).set 146 v146_6) h1
@[congr] theorem slices_pdqsortCmpFunc_api_Prefix_r29_congr {env : Env} {h : Hp} {K : Env → Hp → Prop} : slices_pdqsortCmpFunc_api_Prefix_r29 env h K = slices_pdqsortCmpFunc_api_Prefix_r29 env h K := rfl

/-- zsortanyfunc.go:126 -/
def slices_pdqsortCmpFunc_api_Prefix_r30 (env : Env) (h : Hp) (K : Env → Hp → Prop) : Prop :=
  K ((env.set 147 (env 16)).set 2 (env 16)) h
@[congr] theorem slices_pdqsortCmpFunc_api_Prefix_r30_congr {env : Env} {h : Hp} {K : Env → Hp → Prop} : slices_pdqsortCmpFunc_api_Prefix_r30 env h K = slices_pdqsortCmpFunc_api_Prefix_r30 env h K := rfl

def slices_pdqsortCmpFunc_api_Prefix_L0 : Den := (blk 1 (sq (rg slices_pdqsortCmpFunc_api_Prefix_r2) (sq (sq (rg slices_pdqsortCmpFunc_api_Prefix_r3) (cnd (Go.Operand.tmp 25) (sq (rg slices_pdqsortCmpFunc_api_Prefix_r4) (ex .ret)) (ex .normal))) (sq (sq (rg slices_pdqsortCmpFunc_api_Prefix_r5) (cnd (Go.Operand.tmp 32) (sq (rg slices_pdqsortCmpFunc_api_Prefix_r6) (ex .ret)) (ex .normal))) (sq (sq (rg slices_pdqsortCmpFunc_api_Prefix_r7) (cnd (Go.Operand.tmp 39) (sq (rg slices_pdqsortCmpFunc_api_Prefix_r8) (rg slices_pdqsortCmpFunc_api_Prefix_r9)) (ex .normal))) (sq (rg slices_pdqsortCmpFunc_api_Prefix_r10) (sq (sq (rg slices_pdqsortCmpFunc_api_Prefix_r11) (cnd (Go.Operand.tmp 56) (sq (rg slices_pdqsortCmpFunc_api_Prefix_r12) (sq (rg slices_pdqsortCmpFunc_api_Prefix_r13) (rg slices_pdqsortCmpFunc_api_Prefix_r14))) (ex .normal))) (sq (sq (rg slices_pdqsortCmpFunc_api_Prefix_r15) (cnd (Go.Operand.tmp 75) (sq (rg slices_pdqsortCmpFunc_api_Prefix_r16) (cnd (Go.Operand.tmp 80) (ex .ret) (ex .normal))) (ex .normal))) (sq (sq (rg slices_pdqsortCmpFunc_api_Prefix_r17) (cnd (Go.Operand.tmp 97) (sq (rg slices_pdqsortCmpFunc_api_Prefix_r18) (sq (rg slices_pdqsortCmpFunc_api_Prefix_r19) (ex (.exit 1)))) (ex .normal))) (sq (rg slices_pdqsortCmpFunc_api_Prefix_r20) (sq (rg slices_pdqsortCmpFunc_api_Prefix_r21) (sq (rg slices_pdqsortCmpFunc_api_Prefix_r22) (sq (rg slices_pdqsortCmpFunc_api_Prefix_r23) (sq (rg slices_pdqsortCmpFunc_api_Prefix_r24) (cnd (Go.Operand.tmp 125) (sq (rg slices_pdqsortCmpFunc_api_Prefix_r25) (sq (rg slices_pdqsortCmpFunc_api_Prefix_r26) (rg slices_pdqsortCmpFunc_api_Prefix_r27))) (sq (rg slices_pdqsortCmpFunc_api_Prefix_r28) (sq (rg slices_pdqsortCmpFunc_api_Prefix_r29) (rg slices_pdqsortCmpFunc_api_Prefix_r30))))))))))))))))))

def slices_pdqsortCmpFunc_api_Prefix_D : Den := (sq (rg slices_pdqsortCmpFunc_api_Prefix_r0) (sq (rg slices_pdqsortCmpFunc_api_Prefix_r1) (blk 0 (lp slices_pdqsortCmpFunc_api_Prefix_L0))))

theorem slices_pdqsortCmpFunc_api_Prefix_eq : (den Try.prog 148 slices_pdqsortCmpFunc_api_Prefix_code).1 = slices_pdqsortCmpFunc_api_Prefix_D := by kernel_rfl

theorem slices_pdqsortCmpFunc_api_Prefix_ok {args : Array Value} {h : Hp} {Q : Value → Hp → Prop} (hn : args.size ≤ 148) (D : slices_pdqsortCmpFunc_api_Prefix_D (fin Try.prog [] Q) (env0 args) h) : Ok Try.prog 65 args h Q :=
  ok_of_den progIsOk Try.func65 (c := slices_pdqsortCmpFunc_api_Prefix_code) (by kernel_rfl) hn (by show (den Try.prog 148 slices_pdqsortCmpFunc_api_Prefix_code).1 _ _ _; rw [slices_pdqsortCmpFunc_api_Prefix_eq]; exact D)

/-! ### math/bits.Len: function 66 -/
noncomputable def math_bits_Len_code : Code := match Try.f66.body with | some c => c | none => .skip

/-- bits.go:302 -/
def math_bits_Len_r0 (env : Env) (h : Hp) (K : Env → Hp → Prop) : Prop :=
  K (env.set 2 (Go.Value.int Go.IntKind.i64 0)) h
@[congr] theorem math_bits_Len_r0_congr {env : Env} {h : Hp} {K : Env → Hp → Prop} : math_bits_Len_r0 env h K = math_bits_Len_r0 env h K := rfl

/-- bits.go:304 -/
def math_bits_Len_r1 (env : Env) (h : Hp) (K : Env → Hp → Prop) : Prop :=
  rd Try.prog (convert 120 22 (env 0)) noHp fun v4_1 =>
  Ok Try.prog 80 #[v4_1] h fun v5_2 h1 =>
  K ((((env.set 3 (env 0)).set 4 v4_1).set 5 v5_2).set 2 v5_2) h1
@[congr] theorem math_bits_Len_r1_congr {env : Env} {h : Hp} {K : Env → Hp → Prop} : math_bits_Len_r1 env h K = math_bits_Len_r1 env h K := rfl

/-- bits.go:306 -/
def math_bits_Len_r2 (env : Env) (h : Hp) (K : Env → Hp → Prop) : Prop :=
  Ok Try.prog 81 #[(env 0)] h fun v7_1 h1 =>
  K (((env.set 6 (env 0)).set 7 v7_1).set 2 v7_1) h1
@[congr] theorem math_bits_Len_r2_congr {env : Env} {h : Hp} {K : Env → Hp → Prop} : math_bits_Len_r2 env h K = math_bits_Len_r2 env h K := rfl

def math_bits_Len_D : Den := (sq (rg math_bits_Len_r0) (sq (cnd (Go.Operand.const (Go.Value.bool false)) (sq (rg math_bits_Len_r1) (ex .ret)) (ex .normal)) (sq (rg math_bits_Len_r2) (ex .ret))))

theorem math_bits_Len_eq : (den Try.prog 8 math_bits_Len_code).1 = math_bits_Len_D := by kernel_rfl

theorem math_bits_Len_ok {args : Array Value} {h : Hp} {Q : Value → Hp → Prop} (hn : args.size ≤ 8) (D : math_bits_Len_D (fin Try.prog [(Go.ResultVar.tmp 2)] Q) (env0 args) h) : Ok Try.prog 66 args h Q :=
  ok_of_den progIsOk Try.func66 (c := math_bits_Len_code) (by kernel_rfl) hn (by show (den Try.prog 8 math_bits_Len_code).1 _ _ _; rw [math_bits_Len_eq]; exact D)

/-! ### octroi/num.Add: function 67 -/
noncomputable def num_Add_code : Code := match Try.f67.body with | some c => c | none => .skip

/-- num.go:46 -/
def num_Add_r0 (env : Env) (h : Hp) (K : Env → Hp → Prop) : Prop :=
  K (env.set 6 (Go.Value.int Go.IntKind.i64 0)) h
@[congr] theorem num_Add_r0_congr {env : Env} {h : Hp} {K : Env → Hp → Prop} : num_Add_r0 env h K = num_Add_r0 env h K := rfl

/-- num.go:47 -/
def num_Add_r1 (env : Env) (h : Hp) (K : Env → Hp → Prop) : Prop :=
  rd Try.prog (Builtin.max_ #[3, 3] 3 #[(env 0), (Go.Value.int Go.IntKind.i64 0)]) h fun v8_1 =>
  rd Try.prog (Builtin.max_ #[3, 3] 3 #[(env 1), (Go.Value.int Go.IntKind.i64 0)]) h fun v10_3 =>
  rd Try.prog (Builtin.max_ #[3, 3] 3 #[(env 2), (Go.Value.int Go.IntKind.i64 0)]) h fun v12_5 =>
  K (((((((((env.set 7 (env 0)).set 8 v8_1).set 9 (env 1)).set 10 v10_3).set 11 (env 2)).set 12 v12_5).set 0 v8_1).set 1 v10_3).set 2 v12_5) h
@[congr] theorem num_Add_r1_congr {env : Env} {h : Hp} {K : Env → Hp → Prop} : num_Add_r1 env h K = num_Add_r1 env h K := rfl

/-- num.go:48 -/
def num_Add_r2 (env : Env) (h : Hp) (K : Env → Hp → Prop) : Prop :=
  rd Try.prog (Builtin.min_ #[3, 3] 3 #[(env 0), (env 2)]) h fun v15_2 =>
  rd Try.prog (Builtin.min_ #[3, 3] 3 #[(env 0), (env 2)]) h fun v20_7 =>
  rd Try.prog (bop Go.BinOp.sub 3 (Go.Operand.tmp 17) (Go.Operand.tmp 20) (env 2) v20_7) noHp fun v21_8 =>
  rd Try.prog (Builtin.min_ #[3, 3] 3 #[(env 1), v21_8]) h fun v22_9 =>
  rd Try.prog (bop Go.BinOp.add 3 (Go.Operand.tmp 15) (Go.Operand.tmp 22) v15_2 v22_9) noHp fun v23_10 =>
  K ((((((((((((env.set 13 (env 0)).set 14 (env 2)).set 15 v15_2).set 16 (env 1)).set 17 (env 2)).set 18 (env 0)).set 19 (env 2)).set 20 v20_7).set 21 v21_8).set 22 v22_9).set 23 v23_10).set 6 v23_10) h
@[congr] theorem num_Add_r2_congr {env : Env} {h : Hp} {K : Env → Hp → Prop} : num_Add_r2 env h K = num_Add_r2 env h K := rfl

def num_Add_D : Den := (sq (rg num_Add_r0) (sq (rg num_Add_r1) (sq (rg num_Add_r2) (ex .ret))))

theorem num_Add_eq : (den Try.prog 24 num_Add_code).1 = num_Add_D := by kernel_rfl

theorem num_Add_ok {args : Array Value} {h : Hp} {Q : Value → Hp → Prop} (hn : args.size ≤ 24) (D : num_Add_D (fin Try.prog [(Go.ResultVar.tmp 6)] Q) (env0 args) h) : Ok Try.prog 67 args h Q :=
  ok_of_den progIsOk Try.func67 (c := num_Add_code) (by kernel_rfl) hn (by show (den Try.prog 24 num_Add_code).1 _ _ _; rw [num_Add_eq]; exact D)

/-! ### octroi/octroiref02.Mask: function 68 -/
noncomputable def octroiref02_Mask_code : Code := match Try.f68.body with | some c => c | none => .skip

/-- ref.go:7 -/
def octroiref02_Mask_r0 (env : Env) (h : Hp) (K : Env → Hp → Prop) : Prop :=
  K (env.set 2 (Go.Value.int Go.IntKind.u32 0)) h
@[congr] theorem octroiref02_Mask_r0_congr {env : Env} {h : Hp} {K : Env → Hp → Prop} : octroiref02_Mask_r0 env h K = octroiref02_Mask_r0 env h K := rfl

/-- ref.go:8 -/
def octroiref02_Mask_r1 (env : Env) (h : Hp) (K : Env → Hp → Prop) : Prop :=
  K (env.set 3 (Go.Value.int Go.IntKind.u32 0)) h
@[congr] theorem octroiref02_Mask_r1_congr {env : Env} {h : Hp} {K : Env → Hp → Prop} : octroiref02_Mask_r1 env h K = octroiref02_Mask_r1 env h K := rfl

/-- ref.go:9 -/
def octroiref02_Mask_r2 (env : Env) (h : Hp) (K : Env → Hp → Prop) : Prop :=
  K (env.set 4 (Go.Value.int Go.IntKind.u32 2147483648)) h
@[congr] theorem octroiref02_Mask_r2_congr {env : Env} {h : Hp} {K : Env → Hp → Prop} : octroiref02_Mask_r2 env h K = octroiref02_Mask_r2 env h K := rfl

/-- ref.go:10 -/
def octroiref02_Mask_r3 (env : Env) (h : Hp) (K : Env → Hp → Prop) : Prop :=
  K (env.set 5 (Go.Value.int Go.IntKind.i64 0)) h
@[congr] theorem octroiref02_Mask_r3_congr {env : Env} {h : Hp} {K : Env → Hp → Prop} : octroiref02_Mask_r3 env h K = octroiref02_Mask_r3 env h K := rfl

/-- ref.go:10 -/
def octroiref02_Mask_r4 (env : Env) (h : Hp) (K : Env → Hp → Prop) : Prop :=
  rd Try.prog (bop Go.BinOp.lss 3 (Go.Operand.tmp 6) (Go.Operand.tmp 7) (env 5) (env 0)) noHp fun v8_2 =>
  gd (yb v8_2 == some true) (fun h k => k (env 5) h) h fun v10_4 h1 =>
  gd (yb v8_2 == some true) (fun h k => rd Try.prog (bop Go.BinOp.lss 3 (Go.Operand.tmp 10) (Go.Operand.const (Go.Value.int Go.IntKind.i64 32)) v10_4 (Go.Value.int Go.IntKind.i64 32)) noHp fun v => k v h) h1 fun v11_5 h2 =>
  rd Try.prog (pck v8_2 v11_5 (Go.Value.bool false)) noHp fun v12_6 =>
  K (((((((env.set 6 (env 5)).set 7 (env 0)).set 8 v8_2).set 9 v8_2).set 10 v10_4).set 11 v11_5).set 12 v12_6) h2
@[congr] theorem octroiref02_Mask_r4_congr {env : Env} {h : Hp} {K : Env → Hp → Prop} : octroiref02_Mask_r4 env h K = octroiref02_Mask_r4 env h K := rfl

/-- ref.go:11 -/
def octroiref02_Mask_r5 (env : Env) (h : Hp) (K : Env → Hp → Prop) : Prop :=
  rd Try.prog (bop Go.BinOp.add 22 (Go.Operand.tmp 15) (Go.Operand.tmp 16) (env 3) (env 4)) noHp fun v17_2 =>
  K ((((env.set 15 (env 3)).set 16 (env 4)).set 17 v17_2).set 3 v17_2) h
@[congr] theorem octroiref02_Mask_r5_congr {env : Env} {h : Hp} {K : Env → Hp → Prop} : octroiref02_Mask_r5 env h K = octroiref02_Mask_r5 env h K := rfl

/-- ref.go:12 -/
def octroiref02_Mask_r6 (env : Env) (h : Hp) (K : Env → Hp → Prop) : Prop :=
  rd Try.prog (bop Go.BinOp.quo 22 (Go.Operand.tmp 18) (Go.Operand.const (Go.Value.int Go.IntKind.u32 2)) (env 4) (Go.Value.int Go.IntKind.u32 2)) noHp fun v19_1 =>
  K (((env.set 18 (env 4)).set 19 v19_1).set 4 v19_1) h
@[congr] theorem octroiref02_Mask_r6_congr {env : Env} {h : Hp} {K : Env → Hp → Prop} : octroiref02_Mask_r6 env h K = octroiref02_Mask_r6 env h K := rfl

/-- ref.go:10 -/
def octroiref02_Mask_r7 (env : Env) (h : Hp) (K : Env → Hp → Prop) : Prop :=
  rd Try.prog (bop Go.BinOp.add 3 (Go.Operand.tmp 13) (Go.Operand.const (Go.Value.int Go.IntKind.i64 1)) (env 5) (Go.Value.int Go.IntKind.i64 1)) noHp fun v14_1 =>
  K (((env.set 13 (env 5)).set 14 v14_1).set 5 v14_1) h
@[congr] theorem octroiref02_Mask_r7_congr {env : Env} {h : Hp} {K : Env → Hp → Prop} : octroiref02_Mask_r7 env h K = octroiref02_Mask_r7 env h K := rfl

def octroiref02_Mask_L0 : Den := (sq (sq (rg octroiref02_Mask_r4) (cnd (Go.Operand.tmp 12) (ex .normal) (ex (.exit 0)))) (sq (blk 1 (sq (rg octroiref02_Mask_r5) (rg octroiref02_Mask_r6))) (rg octroiref02_Mask_r7)))

/-- ref.go:14 -/
def octroiref02_Mask_r8 (env : Env) (h : Hp) (K : Env → Hp → Prop) : Prop :=
  K ((env.set 20 (env 3)).set 2 (env 3)) h
@[congr] theorem octroiref02_Mask_r8_congr {env : Env} {h : Hp} {K : Env → Hp → Prop} : octroiref02_Mask_r8 env h K = octroiref02_Mask_r8 env h K := rfl

def octroiref02_Mask_D : Den := (sq (rg octroiref02_Mask_r0) (sq (rg octroiref02_Mask_r1) (sq (rg octroiref02_Mask_r2) (sq (sq (rg octroiref02_Mask_r3) (blk 0 (lp octroiref02_Mask_L0))) (sq (rg octroiref02_Mask_r8) (ex .ret))))))

theorem octroiref02_Mask_eq : (den Try.prog 21 octroiref02_Mask_code).1 = octroiref02_Mask_D := by kernel_rfl

theorem octroiref02_Mask_ok {args : Array Value} {h : Hp} {Q : Value → Hp → Prop} (hn : args.size ≤ 21) (D : octroiref02_Mask_D (fin Try.prog [(Go.ResultVar.tmp 2)] Q) (env0 args) h) : Ok Try.prog 68 args h Q :=
  ok_of_den progIsOk Try.func68 (c := octroiref02_Mask_code) (by kernel_rfl) hn (by show (den Try.prog 21 octroiref02_Mask_code).1 _ _ _; rw [octroiref02_Mask_eq]; exact D)

/-! ### octroi/octroiref03.is: function 69 -/
noncomputable def octroiref03_is_code : Code := match Try.f69.body with | some c => c | none => .skip

/-- ref.go:16 -/
def octroiref03_is_r0 (env : Env) (h : Hp) (K : Env → Hp → Prop) : Prop :=
  K (env.set 2 (Go.Value.bool false)) h
@[congr] theorem octroiref03_is_r0_congr {env : Env} {h : Hp} {K : Env → Hp → Prop} : octroiref03_is_r0 env h K = octroiref03_is_r0 env h K := rfl

/-- ref.go:16 -/
def octroiref03_is_r1 (env : Env) (h : Hp) (K : Env → Hp → Prop) : Prop :=
  rd Try.prog (bop Go.BinOp.geq 3 (Go.Operand.tmp 3) (Go.Operand.const (Go.Value.int Go.IntKind.i64 0)) (env 0) (Go.Value.int Go.IntKind.i64 0)) noHp fun v4_1 =>
  gd (yb v4_1 == some true) (fun h k => k (env 0) h) h fun v6_3 h1 =>
  gd (yb v4_1 == some true) (fun h k => rd Try.prog (bop Go.BinOp.lss 3 (Go.Operand.tmp 6) (Go.Operand.const (Go.Value.int Go.IntKind.i64 16)) v6_3 (Go.Value.int Go.IntKind.i64 16)) noHp fun v => k v h) h1 fun v7_4 h2 =>
  rd Try.prog (pck v4_1 v7_4 (Go.Value.bool false)) noHp fun v8_5 =>
  K (((((((env.set 3 (env 0)).set 4 v4_1).set 5 v4_1).set 6 v6_3).set 7 v7_4).set 8 v8_5).set 2 v8_5) h2
@[congr] theorem octroiref03_is_r1_congr {env : Env} {h : Hp} {K : Env → Hp → Prop} : octroiref03_is_r1 env h K = octroiref03_is_r1 env h K := rfl

def octroiref03_is_D : Den := (sq (rg octroiref03_is_r0) (sq (rg octroiref03_is_r1) (ex .ret)))

theorem octroiref03_is_eq : (den Try.prog 9 octroiref03_is_code).1 = octroiref03_is_D := by kernel_rfl

theorem octroiref03_is_ok {args : Array Value} {h : Hp} {Q : Value → Hp → Prop} (hn : args.size ≤ 9) (D : octroiref03_is_D (fin Try.prog [(Go.ResultVar.tmp 2)] Q) (env0 args) h) : Ok Try.prog 69 args h Q :=
  ok_of_den progIsOk Try.func69 (c := octroiref03_is_code) (by kernel_rfl) hn (by show (den Try.prog 9 octroiref03_is_code).1 _ _ _; rw [octroiref03_is_eq]; exact D)

/-! ### octroi/octroiref03.bit: function 70 -/
noncomputable def octroiref03_bit_code : Code := match Try.f70.body with | some c => c | none => .skip

/-- ref.go:7 -/
def octroiref03_bit_r0 (env : Env) (h : Hp) (K : Env → Hp → Prop) : Prop :=
  K (env.set 2 (Go.Value.int Go.IntKind.i64 0)) h
@[congr] theorem octroiref03_bit_r0_congr {env : Env} {h : Hp} {K : Env → Hp → Prop} : octroiref03_bit_r0 env h K = octroiref03_bit_r0 env h K := rfl

/-- ref.go:8 -/
def octroiref03_bit_r1 (env : Env) (h : Hp) (K : Env → Hp → Prop) : Prop :=
  K (env.set 3 (Go.Value.int Go.IntKind.i64 1)) h
@[congr] theorem octroiref03_bit_r1_congr {env : Env} {h : Hp} {K : Env → Hp → Prop} : octroiref03_bit_r1 env h K = octroiref03_bit_r1 env h K := rfl

/-- ref.go:9 -/
def octroiref03_bit_r2 (env : Env) (h : Hp) (K : Env → Hp → Prop) : Prop :=
  K (env.set 4 (Go.Value.int Go.IntKind.i64 0)) h
@[congr] theorem octroiref03_bit_r2_congr {env : Env} {h : Hp} {K : Env → Hp → Prop} : octroiref03_bit_r2 env h K = octroiref03_bit_r2 env h K := rfl

/-- ref.go:9 -/
def octroiref03_bit_r3 (env : Env) (h : Hp) (K : Env → Hp → Prop) : Prop :=
  rd Try.prog (bop Go.BinOp.lss 3 (Go.Operand.tmp 5) (Go.Operand.tmp 6) (env 4) (env 0)) noHp fun v7_2 =>
  K (((env.set 5 (env 4)).set 6 (env 0)).set 7 v7_2) h
@[congr] theorem octroiref03_bit_r3_congr {env : Env} {h : Hp} {K : Env → Hp → Prop} : octroiref03_bit_r3 env h K = octroiref03_bit_r3 env h K := rfl

/-- ref.go:10 -/
def octroiref03_bit_r4 (env : Env) (h : Hp) (K : Env → Hp → Prop) : Prop :=
  rd Try.prog (bop Go.BinOp.mul 3 (Go.Operand.const (Go.Value.int Go.IntKind.i64 2)) (Go.Operand.tmp 10) (Go.Value.int Go.IntKind.i64 2) (env 3)) noHp fun v11_1 =>
  K (((env.set 10 (env 3)).set 11 v11_1).set 3 v11_1) h
@[congr] theorem octroiref03_bit_r4_congr {env : Env} {h : Hp} {K : Env → Hp → Prop} : octroiref03_bit_r4 env h K = octroiref03_bit_r4 env h K := rfl

/-- ref.go:9 -/
def octroiref03_bit_r5 (env : Env) (h : Hp) (K : Env → Hp → Prop) : Prop :=
  rd Try.prog (bop Go.BinOp.add 3 (Go.Operand.tmp 8) (Go.Operand.const (Go.Value.int Go.IntKind.i64 1)) (env 4) (Go.Value.int Go.IntKind.i64 1)) noHp fun v9_1 =>
  K (((env.set 8 (env 4)).set 9 v9_1).set 4 v9_1) h
@[congr] theorem octroiref03_bit_r5_congr {env : Env} {h : Hp} {K : Env → Hp → Prop} : octroiref03_bit_r5 env h K = octroiref03_bit_r5 env h K := rfl

def octroiref03_bit_L0 : Den := (sq (sq (rg octroiref03_bit_r3) (cnd (Go.Operand.tmp 7) (ex .normal) (ex (.exit 0)))) (sq (blk 1 (rg octroiref03_bit_r4)) (rg octroiref03_bit_r5)))

/-- ref.go:12 -/
def octroiref03_bit_r6 (env : Env) (h : Hp) (K : Env → Hp → Prop) : Prop :=
  K ((env.set 12 (env 3)).set 2 (env 3)) h
@[congr] theorem octroiref03_bit_r6_congr {env : Env} {h : Hp} {K : Env → Hp → Prop} : octroiref03_bit_r6 env h K = octroiref03_bit_r6 env h K := rfl

def octroiref03_bit_D : Den := (sq (rg octroiref03_bit_r0) (sq (rg octroiref03_bit_r1) (sq (sq (rg octroiref03_bit_r2) (blk 0 (lp octroiref03_bit_L0))) (sq (rg octroiref03_bit_r6) (ex .ret)))))

theorem octroiref03_bit_eq : (den Try.prog 13 octroiref03_bit_code).1 = octroiref03_bit_D := by kernel_rfl

theorem octroiref03_bit_ok {args : Array Value} {h : Hp} {Q : Value → Hp → Prop} (hn : args.size ≤ 13) (D : octroiref03_bit_D (fin Try.prog [(Go.ResultVar.tmp 2)] Q) (env0 args) h) : Ok Try.prog 70 args h Q :=
  ok_of_den progIsOk Try.func70 (c := octroiref03_bit_code) (by kernel_rfl) hn (by show (den Try.prog 13 octroiref03_bit_code).1 _ _ _; rw [octroiref03_bit_eq]; exact D)

/-! ### octroi/octroiref01.Newer: function 71 -/
noncomputable def octroiref01_Newer_code : Code := match Try.f71.body with | some c => c | none => .skip

/-- ref.go:44 -/
def octroiref01_Newer_r0 (env : Env) (h : Hp) (K : Env → Hp → Prop) : Prop :=
  K (env.set 4 (Go.Value.bool false)) h
@[congr] theorem octroiref01_Newer_r0_congr {env : Env} {h : Hp} {K : Env → Hp → Prop} : octroiref01_Newer_r0 env h K = octroiref01_Newer_r0 env h K := rfl

/-- ref.go:45 -/
def octroiref01_Newer_r1 (env : Env) (h : Hp) (K : Env → Hp → Prop) : Prop :=
  rd Try.prog (bop Go.BinOp.sub 29 (Go.Operand.tmp 6) (Go.Operand.tmp 7) (env 0) (env 1)) noHp fun v8_2 =>
  K ((((env.set 6 (env 0)).set 7 (env 1)).set 8 v8_2).set 5 v8_2) h
@[congr] theorem octroiref01_Newer_r1_congr {env : Env} {h : Hp} {K : Env → Hp → Prop} : octroiref01_Newer_r1 env h K = octroiref01_Newer_r1 env h K := rfl

/-- ref.go:46 -/
def octroiref01_Newer_r2 (env : Env) (h : Hp) (K : Env → Hp → Prop) : Prop :=
  rd Try.prog (bop Go.BinOp.geq 29 (Go.Operand.tmp 9) (Go.Operand.const (Go.Value.int Go.IntKind.u16 1)) (env 5) (Go.Value.int Go.IntKind.u16 1)) noHp fun v10_1 =>
  gd (yb v10_1 == some true) (fun h k => k (env 5) h) h fun v12_3 h1 =>
  gd (yb v10_1 == some true) (fun h k => rd Try.prog (bop Go.BinOp.leq 29 (Go.Operand.tmp 12) (Go.Operand.const (Go.Value.int Go.IntKind.u16 32767)) v12_3 (Go.Value.int Go.IntKind.u16 32767)) noHp fun v => k v h) h1 fun v13_4 h2 =>
  rd Try.prog (pck v10_1 v13_4 (Go.Value.bool false)) noHp fun v14_5 =>
  K (((((((env.set 9 (env 5)).set 10 v10_1).set 11 v10_1).set 12 v12_3).set 13 v13_4).set 14 v14_5).set 4 v14_5) h2
@[congr] theorem octroiref01_Newer_r2_congr {env : Env} {h : Hp} {K : Env → Hp → Prop} : octroiref01_Newer_r2 env h K = octroiref01_Newer_r2 env h K := rfl

def octroiref01_Newer_D : Den := (sq (rg octroiref01_Newer_r0) (sq (rg octroiref01_Newer_r1) (sq (rg octroiref01_Newer_r2) (ex .ret))))

theorem octroiref01_Newer_eq : (den Try.prog 15 octroiref01_Newer_code).1 = octroiref01_Newer_D := by kernel_rfl

theorem octroiref01_Newer_ok {args : Array Value} {h : Hp} {Q : Value → Hp → Prop} (hn : args.size ≤ 15) (D : octroiref01_Newer_D (fin Try.prog [(Go.ResultVar.tmp 4)] Q) (env0 args) h) : Ok Try.prog 71 args h Q :=
  ok_of_den progIsOk Try.func71 (c := octroiref01_Newer_code) (by kernel_rfl) hn (by show (den Try.prog 15 octroiref01_Newer_code).1 _ _ _; rw [octroiref01_Newer_eq]; exact D)

/-! ### slices.insertionSortCmpFunc[octroi/api.Prefix]: function 72 -/
noncomputable def slices_insertionSortCmpFunc_api_Prefix_code : Code := match Try.f72.body with | some c => c | none => .skip

/-- zsortanyfunc.go:11 -/
def slices_insertionSortCmpFunc_api_Prefix_r0 (env : Env) (h : Hp) (K : Env → Hp → Prop) : Prop :=
  rd Try.prog (bop Go.BinOp.add 3 (Go.Operand.tmp 10) (Go.Operand.const (Go.Value.int Go.IntKind.i64 1)) (env 1) (Go.Value.int Go.IntKind.i64 1)) noHp fun v11_1 =>
  K (((env.set 10 (env 1)).set 11 v11_1).set 8 v11_1) h
@[congr] theorem slices_insertionSortCmpFunc_api_Prefix_r0_congr {env : Env} {h : Hp} {K : Env → Hp → Prop} : slices_insertionSortCmpFunc_api_Prefix_r0 env h K = slices_insertionSortCmpFunc_api_Prefix_r0 env h K := rfl

/-- zsortanyfunc.go:11 -/
def slices_insertionSortCmpFunc_api_Prefix_r1 (env : Env) (h : Hp) (K : Env → Hp → Prop) : Prop :=
  rd Try.prog (bop Go.BinOp.lss 3 (Go.Operand.tmp 12) (Go.Operand.tmp 13) (env 8) (env 2)) noHp fun v14_2 =>
  K (((env.set 12 (env 8)).set 13 (env 2)).set 14 v14_2) h
@[congr] theorem slices_insertionSortCmpFunc_api_Prefix_r1_congr {env : Env} {h : Hp} {K : Env → Hp → Prop} : slices_insertionSortCmpFunc_api_Prefix_r1 env h K = slices_insertionSortCmpFunc_api_Prefix_r1 env h K := rfl

/-- zsortanyfunc.go:12 -/
def slices_insertionSortCmpFunc_api_Prefix_r2 (env : Env) (h : Hp) (K : Env → Hp → Prop) : Prop :=
  K ((env.set 17 (env 8)).set 9 (env 8)) h
@[congr] theorem slices_insertionSortCmpFunc_api_Prefix_r2_congr {env : Env} {h : Hp} {K : Env → Hp → Prop} : slices_insertionSortCmpFunc_api_Prefix_r2 env h K = slices_insertionSortCmpFunc_api_Prefix_r2 env h K := rfl

/-- zsortanyfunc.go:12 (in any order) -/
def slices_insertionSortCmpFunc_api_Prefix_r3 (env : Env) (h : Hp) (K : Env → Hp → Prop) : Prop :=
  rd Try.prog (bop Go.BinOp.gtr 3 (Go.Operand.tmp 18) (Go.Operand.tmp 19) (env 9) (env 1)) noHp fun v20_2 =>
  gd (yb v20_2 == some true) (fun h k => k (env 3) h) h fun v22_4 h1 =>
  gd (yb v20_2 == some true) (fun h k => k (env 0) h) h1 fun v23_5 h2 =>
  gd (yb v20_2 == some true) (fun h k => k (env 9) h) h2 fun v24_6 h3 =>
  gd (yb v20_2 == some true) (fun h k => rd Try.prog (Instr.indexAt 88 v23_5 v24_6) noHp fun v => k v h) h3 fun v25_7 h4 =>
  gd (yb v20_2 == some true) (fun h k => rd Try.prog (Instr.loadAt 24 v25_7) h fun v => k v h) h4 fun v26_8 h5 =>
  gd (yb v20_2 == some true) (fun h k => k (env 0) h) h5 fun v27_9 h6 =>
  gd (yb v20_2 == some true) (fun h k => k (env 9) h) h6 fun v28_10 h7 =>
  gd (yb v20_2 == some true) (fun h k => rd Try.prog (bop Go.BinOp.sub 3 (Go.Operand.tmp 28) (Go.Operand.const (Go.Value.int Go.IntKind.i64 1)) v28_10 (Go.Value.int Go.IntKind.i64 1)) noHp fun v => k v h) h7 fun v29_11 h8 =>
  gd (yb v20_2 == some true) (fun h k => rd Try.prog (Instr.indexAt 88 v27_9 v29_11) noHp fun v => k v h) h8 fun v30_12 h9 =>
  gd (yb v20_2 == some true) (fun h k => rd Try.prog (Instr.loadAt 24 v30_12) h fun v => k v h) h9 fun v31_13 h10 =>
  gd (yb v20_2 == some true) (fun h k => callV Try.prog v22_4 #[v26_8, v31_13] h k) h10 fun v32_14 h11 =>
  (True) ∧
  gd (yb v20_2 == some true) (fun h k => rd Try.prog (bop Go.BinOp.lss 3 (Go.Operand.tmp 32) (Go.Operand.const (Go.Value.int Go.IntKind.i64 0)) v32_14 (Go.Value.int Go.IntKind.i64 0)) noHp fun v => k v h) h11 fun v33_15 h12 =>
  rd Try.prog (pck v20_2 v33_15 (Go.Value.bool false)) noHp fun v34_16 =>
  K (((((((((((((((((env.set 18 (env 9)).set 19 (env 1)).set 20 v20_2).set 21 v20_2).set 22 v22_4).set 23 v23_5).set 24 v24_6).set 25 v25_7).set 26 v26_8).set 27 v27_9).set 28 v28_10).set 29 v29_11).set 30 v30_12).set 31 v31_13).set 32 v32_14).set 33 v33_15).set 34 v34_16) h12
@[congr] theorem slices_insertionSortCmpFunc_api_Prefix_r3_congr {env : Env} {h : Hp} {K : Env → Hp → Prop} : slices_insertionSortCmpFunc_api_Prefix_r3 env h K = slices_insertionSortCmpFunc_api_Prefix_r3 env h K := rfl

/-- zsortanyfunc.go:13 (in any order) -/
def slices_insertionSortCmpFunc_api_Prefix_r4 (env : Env) (h : Hp) (K : Env → Hp → Prop) : Prop :=
  rd Try.prog (bop Go.BinOp.sub 3 (Go.Operand.tmp 40) (Go.Operand.const (Go.Value.int Go.IntKind.i64 1)) (env 9) (Go.Value.int Go.IntKind.i64 1)) noHp fun v41_4 =>
  rd Try.prog (bop Go.BinOp.sub 3 (Go.Operand.tmp 43) (Go.Operand.const (Go.Value.int Go.IntKind.i64 1)) (env 9) (Go.Value.int Go.IntKind.i64 1)) noHp fun v44_7 =>
  rd Try.prog (Instr.indexAt 88 (env 0) v44_7) noHp fun v45_8 =>
  rd Try.prog (Instr.loadAt 24 v45_8) h fun v46_9 =>
  rd Try.prog (Instr.indexAt 88 (env 0) (env 9)) noHp fun v49_12 =>
  rd Try.prog (Instr.loadAt 24 v49_12) h fun v50_13 =>
  rd Try.prog (Instr.indexAt 88 (env 0) (env 9)) noHp fun v51_14 =>
  arun Try.prog (Instr.storeAt 24 v51_14 v46_9) h fun _ h1 =>
  (True) ∧
  rd Try.prog (Instr.indexAt 88 (env 0) v41_4) noHp fun v52_16 =>
  arun Try.prog (Instr.storeAt 24 v52_16 v50_13) h1 fun _ h2 =>
  (True) ∧
  K ((((((((((((((((env.set 37 (env 0)).set 38 (env 9)).set 39 (env 0)).set 40 (env 9)).set 41 v41_4).set 42 (env 0)).set 43 (env 9)).set 44 v44_7).set 45 v45_8).set 46 v46_9).set 47 (env 0)).set 48 (env 9)).set 49 v49_12).set 50 v50_13).set 51 v51_14).set 52 v52_16) h2
@[congr] theorem slices_insertionSortCmpFunc_api_Prefix_r4_congr {env : Env} {h : Hp} {K : Env → Hp → Prop} : slices_insertionSortCmpFunc_api_Prefix_r4 env h K = slices_insertionSortCmpFunc_api_Prefix_r4 env h K := rfl

/-- zsortanyfunc.go:12 -/
def slices_insertionSortCmpFunc_api_Prefix_r5 (env : Env) (h : Hp) (K : Env → Hp → Prop) : Prop :=
  rd Try.prog (bop Go.BinOp.sub 3 (Go.Operand.tmp 35) (Go.Operand.const (Go.Value.int Go.IntKind.i64 1)) (env 9) (Go.Value.int Go.IntKind.i64 1)) noHp fun v36_1 =>
  K (((env.set 35 (env 9)).set 36 v36_1).set 9 v36_1) h
@[congr] theorem slices_insertionSortCmpFunc_api_Prefix_r5_congr {env : Env} {h : Hp} {K : Env → Hp → Prop} : slices_insertionSortCmpFunc_api_Prefix_r5 env h K = slices_insertionSortCmpFunc_api_Prefix_r5 env h K := rfl

def slices_insertionSortCmpFunc_api_Prefix_L0 : Den := (sq (sq (rg slices_insertionSortCmpFunc_api_Prefix_r3) (cnd (Go.Operand.tmp 34) (ex .normal) (ex (.exit 2)))) (sq (blk 3 (rg slices_insertionSortCmpFunc_api_Prefix_r4)) (rg slices_insertionSortCmpFunc_api_Prefix_r5)))

/-- zsortanyfunc.go:11 -/
def slices_insertionSortCmpFunc_api_Prefix_r6 (env : Env) (h : Hp) (K : Env → Hp → Prop) : Prop :=
  rd Try.prog (bop Go.BinOp.add 3 (Go.Operand.tmp 15) (Go.Operand.const (Go.Value.int Go.IntKind.i64 1)) (env 8) (Go.Value.int Go.IntKind.i64 1)) noHp fun v16_1 =>
  K (((env.set 15 (env 8)).set 16 v16_1).set 8 v16_1) h
@[congr] theorem slices_insertionSortCmpFunc_api_Prefix_r6_congr {env : Env} {h : Hp} {K : Env → Hp → Prop} : slices_insertionSortCmpFunc_api_Prefix_r6 env h K = slices_insertionSortCmpFunc_api_Prefix_r6 env h K := rfl

def slices_insertionSortCmpFunc_api_Prefix_L1 : Den := (sq (sq (rg slices_insertionSortCmpFunc_api_Prefix_r1) (cnd (Go.Operand.tmp 14) (ex .normal) (ex (.exit 0)))) (sq (blk 1 (sq (rg slices_insertionSortCmpFunc_api_Prefix_r2) (blk 2 (lp slices_insertionSortCmpFunc_api_Prefix_L0)))) (rg slices_insertionSortCmpFunc_api_Prefix_r6)))

def slices_insertionSortCmpFunc_api_Prefix_D : Den := (sq (rg slices_insertionSortCmpFunc_api_Prefix_r0) (blk 0 (lp slices_insertionSortCmpFunc_api_Prefix_L1)))

theorem slices_insertionSortCmpFunc_api_Prefix_eq : (den Try.prog 53 slices_insertionSortCmpFunc_api_Prefix_code).1 = slices_insertionSortCmpFunc_api_Prefix_D := by kernel_rfl

theorem slices_insertionSortCmpFunc_api_Prefix_ok {args : Array Value} {h : Hp} {Q : Value → Hp → Prop} (hn : args.size ≤ 53) (D : slices_insertionSortCmpFunc_api_Prefix_D (fin Try.prog [] Q) (env0 args) h) : Ok Try.prog 72 args h Q :=
  ok_of_den progIsOk Try.func72 (c := slices_insertionSortCmpFunc_api_Prefix_code) (by kernel_rfl) hn (by show (den Try.prog 53 slices_insertionSortCmpFunc_api_Prefix_code).1 _ _ _; rw [slices_insertionSortCmpFunc_api_Prefix_eq]; exact D)

end Go.Proofs.Ytchbipkoifmmdaa

/- Printed by wip/kit/gen.py: all formulas. -/

/- Tlv: a flat struct (printed by wip/lib/struct.py). -/
namespace Go.Proofs.Ytchbipkoifmmdaa
open Go
set_option linter.unusedSimpArgs false
set_option linter.unusedVariables false

structure Tlv where
  k : Int
  s : Nat
  iv : Int
  c : Int
  a : Nat
  l : Int
  rt : Nat
  tg : Nat
  hp : Int
deriving DecidableEq

def Tlv.enc (x : Tlv) : List Value := [.int .i64 x.k, .int .u16 (x.s : Nat), .int .i64 x.iv, .int .i64 x.c, .int .u32 (x.a : Nat), .int .i64 x.l, .int .u64 (x.rt : Nat), .int .u16 (x.tg : Nat), .int .i64 x.hp]
abbrev Tlvv (x : Tlv) : Value := .agg #[.int .i64 x.k, .int .u16 (x.s : Nat), .int .i64 x.iv, .int .i64 x.c, .int .u32 (x.a : Nat), .int .i64 x.l, .int .u64 (x.rt : Nat), .int .u16 (x.tg : Nat), .int .i64 x.hp]
abbrev Tlv.cells (x : Tlv) : Array Value := #[.int .i64 x.k, .int .u16 (x.s : Nat), .int .i64 x.iv, .int .i64 x.c, .int .u32 (x.a : Nat), .int .i64 x.l, .int .u64 (x.rt : Nat), .int .u16 (x.tg : Nat), .int .i64 x.hp]
structure Tlv.Good (x : Tlv) : Prop where
  s : x.s < 2 ^ 16
  a : x.a < 2 ^ 32
  rt : x.rt < 2 ^ 64
  tg : x.tg < 2 ^ 16
theorem Tlv.one (x : Tlv) : (Tlv.enc x).length = 9 ∧ ∀ u ∈ Tlv.enc x, oneCell u = true := ⟨rfl, by simp [Tlv.enc]⟩

theorem Tlv_at {h : Hp} {v : Value} {xs : List Tlv} {i : Nat} {x : Tlv} (S : SlAt h 31 9 Tlv.enc v xs) (hx : xs[i]? = some x) :
    ∃ b cap c, v = .slice (some ⟨b, 0, none⟩) xs.length cap ∧ h b = some (.cells c 31 (0, 0)) ∧ c[i * 9]? = some (.int .i64 x.k) ∧ c[i * 9 + 1]? = some (.int .u16 (x.s : Nat)) ∧ c[i * 9 + 2]? = some (.int .i64 x.iv) ∧ c[i * 9 + 3]? = some (.int .i64 x.c) ∧ c[i * 9 + 4]? = some (.int .u32 (x.a : Nat)) ∧ c[i * 9 + 5]? = some (.int .i64 x.l) ∧ c[i * 9 + 6]? = some (.int .u64 (x.rt : Nat)) ∧ c[i * 9 + 7]? = some (.int .u16 (x.tg : Nat)) ∧ c[i * 9 + 8]? = some (.int .i64 x.hp) := by
  obtain ⟨b, cap, c, e, hb, H⟩ := SlAt.at' S hx
  exact ⟨b, cap, c, e, hb, H 0 (by omega), H 1 (by omega), H 2 (by omega), H 3 (by omega), H 4 (by omega), H 5 (by omega), H 6 (by omega), H 7 (by omega), H 8 (by omega)⟩

def SameInv_Tlv (g0 : Hp) (v w : Value) (L : List Tlv) (mm : Nat) (env : Env) (g : Hp) : Prop :=
  g = g0 ∧ ∃ i : Nat, env 0 = v ∧ env 1 = w ∧ env 5 = .int .i64 (i : Nat) ∧ i + mm = L.length ∧ i ≤ L.length

set_option maxRecDepth 20000 in
theorem same_Tlv {h : Hp} {v w : Value} {L : List Tlv} {Q : Value → Hp → Prop} (S : SlAt h 31 9 Tlv.enc v L) (S' : SlAt h 31 9 Tlv.enc w L) (hl : L.length ≤ 1000000) (hQ : Q (.bool true) h) : Ok Try.prog F_octroiref06_Same #[v, w] h Q := by
  obtain ⟨p, cap, hv⟩ := S.shape'
  obtain ⟨p', cap', hw⟩ := S'.shape'
  refine octroiref06_Same_ok (by simp) ?_
  unfold octroiref06_Same_D
  simp (disch := omega) [octroiref06_Same_r0, octroiref06_Same_r1, octroiref06_Same_r3, hv, hw]
  refine ⟨SameInv_Tlv h v w L, ⟨L.length, rfl, 0, by simp [hv], by simp [hw], by simp, by omega, by omega⟩, ?_⟩
  rintro mm env g ⟨rfl, i, e0, e1, e5, him, hi⟩
  unfold octroiref06_Same_L0
  by_cases hm : mm = 0
  · have : i = L.length := by omega
    subst this
    simp (disch := omega) [octroiref06_Same_r4, octroiref06_Same_r8, e0, e1, e5, hv]
    exact .to _ (.refl _) hQ
  · obtain ⟨y, hy⟩ : ∃ y, L[i]? = some y := ⟨_, List.getElem?_eq_getElem (by omega)⟩
    obtain ⟨b, c1, c, ev, hb, q0, q1, q2, q3, q4, q5, q6, q7, q8⟩ := Tlv_at S hy
    obtain ⟨b', c1', c', ew, hb', t0, t1, t2, t3, t4, t5, t6, t7, t8⟩ := Tlv_at S' hy
    have hi' : i < L.length := by omega
    rw [ev] at e0
    rw [ew] at e1
    simp (disch := omega) [octroiref06_Same_r4, octroiref06_Same_r5, octroiref06_Same_r7, e0, e1, e5, hi', hb, hb', q0, q1, q2, q3, q4, q5, q6, q7, q8, t0, t1, t2, t3, t4, t5, t6, t7, t8, wrap_i64]
    exact ⟨mm - 1, by omega, rfl, i + 1, by simp [e0, ev], by simp [e1, ew], by simp, by omega, by omega⟩
end Go.Proofs.Ytchbipkoifmmdaa

/- Maps with integer keys; a range over a map, whatever order is drawn. -/
namespace Go.Proofs.Ytchbipkoifmmdaa
open Go
set_option linter.unusedSimpArgs false
set_option linter.unusedVariables false

section
variable {P : Program} {h : Hp} {α β : Type} [DecidableEq α] {kenc : α → Value} {venc : β → Value}

theorem findNow_int {kd kd' : IntKind} {f : α → Int} (hf : ∀ x y, f x = f y → x = y) {a : α} : ∀ {es : List MapEntry} {m : List (α × β)} (i : Nat), Ents (fun x => .int kd (f x)) venc es m →
    Instr.findNow (.int kd') (.int kd (f a)) es i = some ((findM a m i).map fun x => (x.1, venc x.2)) := by
  intro es m i H
  induction H generalizing i with
  | nil => rfl
  | @cons e es k v m h1 h2 _ ih =>
    unfold Instr.findNow
    have hs : Instr.sameNow (.int kd') (.int kd (f a)) e.key = some (f a == f k) := by
      rw [h1]; simp [Instr.sameNow]
    rw [hs]
    by_cases hak : a = k
    · subst hak; simp [findM, h2]
    · have : (f a == f k) = false := by simp; exact fun e => hak (hf _ _ e)
      rw [this]
      simp only [findM, if_neg hak]
      exact ih _

theorem rr_findKey_int {kt : TypeId} {kd kd' : IntKind} {f : α → Int} (hf : ∀ x y, f x = f y → x = y) {a : α} (hu : P.underlying kt = some (.int kd')) {es : List MapEntry} {m : List (α × β)} (H : Ents (fun x => .int kd (f x)) venc es m) :
    rrun P (Instr.findKey kt (.int kd (f a)) es) h = some ((findM a m 0).map fun x => (x.1, venc x.2)) := by
  unfold Instr.findKey
  rw [rrun_bnd, rr_underlying, hu, Option.bind_some, findNow_int hf 0 H]
  rfl

/-! ### When entries came -/
def BornOk (es : List MapEntry) (clock : Nat) : Prop := (es.map (·.born)).Nodup ∧ ∀ e ∈ es, e.born < clock

def MapB (h : Hp) (r : Nat) (kenc : α → Value) (venc : β → Value) (m : List (α × β)) : Prop := ∃ es clock, h r = some (.map es clock) ∧ Ents kenc venc es.toList m ∧ BornOk es.toList clock

omit [DecidableEq α] in
theorem MapB.at {r : Nat} {m : List (α × β)} (M : MapB h r kenc venc m) : MapAt h r kenc venc m := by
  obtain ⟨es, clock, h1, h2, _⟩ := M; exact ⟨es, clock, h1, h2⟩

omit [DecidableEq α] in
theorem MapB.keep {h' : Hp} {r : Nat} {m : List (α × β)} (M : MapB h r kenc venc m) (e : h' r = h r) : MapB h' r kenc venc m := by
  obtain ⟨es, clock, h1, h2, h3⟩ := M; exact ⟨es, clock, by rw [e]; exact h1, h2, h3⟩

omit [DecidableEq α] in
theorem MapB.le {h' : Hp} {r : Nat} {m : List (α × β)} (M : MapB h r kenc venc m) (e : Le h h') : MapB h' r kenc venc m := by
  obtain ⟨es, clock, h1, h2, h3⟩ := M; exact ⟨es, clock, e _ _ h1, h2, h3⟩

omit [DecidableEq α] in
theorem MapB.alive {r : Nat} {m : List (α × β)} (M : MapB h r kenc venc m) : ∃ o, h r = some o := by
  obtain ⟨es, clock, h1, _⟩ := M; exact ⟨_, h1⟩

theorem BornOk.push {es : List MapEntry} {c : Nat} (B : BornOk es c) {k v : Value} : BornOk (es ++ [{ key := k, val := v, born := c }]) (c + 1) := by
  refine ⟨?_, fun e he => ?_⟩
  · rw [List.map_append, List.nodup_append]
    refine ⟨B.1, by simp, fun x hx y hy => ?_⟩
    obtain ⟨e, he, rfl⟩ := List.mem_map.1 hx
    simp at hy; subst hy
    exact Nat.ne_of_lt (B.2 e he)
  · rcases List.mem_append.1 he with q | q
    · exact Nat.lt_succ_of_lt (B.2 e q)
    · simp at q; subst q; exact Nat.lt_succ_self _

theorem map_modify_same {γ δ : Type} (g : γ → δ) (f : γ → γ) (hg : ∀ x, g (f x) = g x) : ∀ (l : List γ) (j : Nat), (l.modify j f).map g = l.map g
  | [], j => by simp
  | x :: xs, 0 => by simp [hg]
  | x :: xs, j + 1 => by simp [map_modify_same g f hg xs j]

theorem BornOk.modify {es : List MapEntry} {c j : Nat} (B : BornOk es c) {f : MapEntry → MapEntry} (hf : ∀ e, (f e).born = e.born) : BornOk (es.modify j f) c := by
  have e := map_modify_same (·.born) f hf es j
  refine ⟨by rw [e]; exact B.1, fun x hx => ?_⟩
  have : x.born ∈ (es.modify j f).map (·.born) := List.mem_map_of_mem hx
  rw [e] at this
  obtain ⟨y, hy, q⟩ := List.mem_map.1 this
  rw [← q]; exact B.2 y hy

theorem BornOk.sub {es es' : List MapEntry} {c : Nat} (B : BornOk es c) (s : List.Sublist es' es) : BornOk es' c :=
  ⟨List.Sublist.nodup (s.map _) B.1, fun e he => B.2 e (s.subset he)⟩

theorem arun_mapUpdateB {t kt et : TypeId} {r : Nat} {a : α} {v : β} {m : List (α × β)} {K : Unit → Hp → Prop} (hu : P.underlying t = some (.map kt et)) (M : MapB h r kenc venc m) (hck : ∀ e, rrun P (Instr.checkKey e 10000 kt (kenc a)) h = some ())
    (hfk : ∀ es : List MapEntry, Ents kenc venc es m → rrun P (Instr.findKey kt (kenc a) es) h = some ((findM a m 0).map fun x => (x.1, venc x.2))) (hsb : Instr.sameBits 10000 (kenc a) (kenc a) = true)
    (hK : ∀ es clock, MapB (h.upd r (.map es clock)) r kenc venc (setM a v m) → K () (h.upd r (.map es clock))) :
    arun P (Instr.mapUpdate t (.map (some r)) (kenc a) (venc v)) h K := by
  obtain ⟨es, clock, hr, hE, hB⟩ := M
  unfold Instr.mapUpdate
  rw [arun_bnd_rr (a := .map kt et) (by rw [rr_underlying, hu])]
  simp only []
  rw [arun_bnd_rr (a := .map es clock) (rr_getObj hr)]
  simp only []
  rw [arun_bnd_rr (a := ()) (hck _), arun_bnd_rr (hfk _ hE)]
  have set : ∀ o, K () (h.upd r o) → arun P (setObj r o) h K := fun o hk => ⟨⟨_, hr, rfl⟩, hk⟩
  have kk : ∀ es clock, Ents kenc venc es.toList (setM a v m) → BornOk es.toList clock → K () (h.upd r (.map es clock)) := fun es clock q1 q2 =>
    hK es clock ⟨es, clock, upd_same, q1, q2⟩
  cases hf : findM a m 0 with
  | none =>
    simp only [Option.map_none]
    refine set _ (kk _ _ ?_ ?_)
    · rw [Array.toList_push]; exact hE.push hf
    · rw [Array.toList_push]; exact hB.push
  | some x =>
    obtain ⟨j, v0⟩ := x
    simp only [Option.map_some]
    obtain ⟨e, he, hke, _⟩ := hE.get (i := j) (x := (a, v0)) (by have := (findM_some hf).2; simpa using this)
    have hes : es[j]? = some e := by simpa using he
    have hks : rrun P (Instr.keyThatStays (((es[j]?).map (·.key)).getD (kenc a)) (kenc a)) h = some (kenc a) := by
      rw [hes]
      unfold Instr.keyThatStays
      simp only [Option.map_some, Option.getD_some, hke, hsb, if_true]
      rfl
    rw [arun_bnd_rr hks]
    refine set _ (kk _ _ ?_ ?_)
    · rw [Array.toList_modify]; exact hE.modify hf
    · rw [Array.toList_modify]; exact hB.modify (fun _ => rfl)

theorem arun_mapDeleteB {t kt et R : TypeId} {ts : Array TypeId} {r : Nat} {a : α} {m : List (α × β)} {K : Value → Hp → Prop} (ht : ts[0]? = some t) (hu : P.underlying t = some (.map kt et)) (M : MapB h r kenc venc m)
    (hck : ∀ e, rrun P (Instr.checkKey e 10000 kt (kenc a)) h = some ())
    (hfk : ∀ es : List MapEntry, Ents kenc venc es m → rrun P (Instr.findKey kt (kenc a) es) h = some ((findM a m 0).map fun x => (x.1, venc x.2)))
    (hK : ∀ es clock, MapB (h.upd r (.map es clock)) r kenc venc (delM a m) → K (.tuple #[]) (h.upd r (.map es clock))) :
    arun P (Builtin.delete_ ts R #[.map (some r), kenc a]) h K := by
  obtain ⟨es, clock, hr, hE, hB⟩ := M
  have set : ∀ o, K (.tuple #[]) (h.upd r o) → arun P (setObj r o >>= fun _ => pure (Value.tuple #[])) h K := fun o hk => ⟨⟨_, hr, rfl⟩, hk⟩
  have kk : ∀ es clock, Ents kenc venc es.toList (delM a m) → BornOk es.toList clock → K (.tuple #[]) (h.upd r (.map es clock)) := fun es clock q1 q2 =>
    hK es clock ⟨es, clock, upd_same, q1, q2⟩
  unfold Builtin.delete_
  rw [ht]
  simp only [List.getElem?_toArray, List.getElem?_cons_zero, List.getElem?_cons_succ]
  rw [arun_bnd_rr (a := .map kt et) (by rw [rr_underlying, hu])]
  simp only [bind_assoc, pure_bind]
  rw [arun_bnd_rr (a := .map es clock) (rr_getObj hr)]
  simp only []
  rw [arun_bnd_rr (a := ()) (hck _), arun_bnd_rr (hfk _ hE)]
  cases hf : findM a m 0 with
  | none =>
    simp only [Option.map_none]
    have : delM a m = m := delM_none (by unfold getM; rw [hf]; rfl)
    exact set _ (kk _ _ (by rw [this]; exact hE) hB)
  | some x =>
    obtain ⟨j, v⟩ := x
    simp only [Option.map_some]
    refine set _ (kk _ _ ?_ ?_)
    · rw [Array.toList_eraseIdxIfInBounds]; exact hE.erase hf
    · rw [Array.toList_eraseIdxIfInBounds]; exact hB.sub (List.eraseIdx_sublist _ _)

omit [DecidableEq α] in
theorem arun_makeMapB {t : TypeId} {K : Value → Hp → Prop} (hK : ∀ b, h b = none → MapB (h.upd b (.map #[] 0)) b kenc venc [] → K (.map (some b)) (h.upd b (.map #[] 0))) : arun P (Instr.makeMap t none) h K :=
  fun b hb => hK b hb ⟨#[], 0, upd_same, .nil, by simp [BornOk]⟩

/-! ### A range over a map -/
def seenOf (es : Array MapEntry) (is : List Nat) : Array Nat := (is.map fun i => ((es[i]?).map (·.born)).getD 0).toArray

/-- An iterator that has handed out these places, in this order. -/
def IterAt (h : Hp) (it r : Nat) (kenc : α → Value) (venc : β → Value) (m : List (α × β)) (is : List Nat) : Prop :=
  ∃ es clock, h r = some (.map es clock) ∧ h it = some (.mapIter (some r) clock (seenOf es is) clock) ∧ Ents kenc venc es.toList m ∧ BornOk es.toList clock ∧ is.Nodup ∧ ∀ i ∈ is, i < m.length

omit [DecidableEq α] in
theorem IterAt.keep {h' : Hp} {it r : Nat} {m : List (α × β)} {is : List Nat} (I : IterAt h it r kenc venc m is) (e1 : h' r = h r) (e2 : h' it = h it) : IterAt h' it r kenc venc m is := by
  obtain ⟨es, clock, h1, h2, h3⟩ := I; exact ⟨es, clock, by rw [e1]; exact h1, by rw [e2]; exact h2, h3⟩

omit [DecidableEq α] in
theorem IterAt.le {h' : Hp} {it r : Nat} {m : List (α × β)} {is : List Nat} (I : IterAt h it r kenc venc m is) (l : Le h h') : IterAt h' it r kenc venc m is := by
  obtain ⟨es, clock, h1, h2, h3⟩ := I; exact ⟨es, clock, l _ _ h1, l _ _ h2, h3⟩

omit [DecidableEq α] in
theorem IterAt.map {it r : Nat} {m : List (α × β)} {is : List Nat} (I : IterAt h it r kenc venc m is) : MapB h r kenc venc m := by
  obtain ⟨es, clock, h1, h2, h3, h4, _⟩ := I; exact ⟨es, clock, h1, h3, h4⟩

omit [DecidableEq α] in
theorem IterAt.ne {it r : Nat} {m : List (α × β)} {is : List Nat} (I : IterAt h it r kenc venc m is) : it ≠ r := by
  obtain ⟨es, clock, h1, h2, _⟩ := I
  rintro rfl; rw [h1] at h2; cases h2

omit [DecidableEq α] in
theorem arun_range {t kt et : TypeId} {r : Nat} {m : List (α × β)} {K : Value → Hp → Prop} (hu : P.underlying t = some (.map kt et)) (M : MapB h r kenc venc m)
    (hK : ∀ b o, h b = none → IterAt (h.upd b o) b r kenc venc m [] → K (.pointer (some ⟨b, 0, none⟩)) (h.upd b o)) : arun P (Instr.range t (.map (some r))) h K := by
  obtain ⟨es, clock, hr, hE, hB⟩ := M
  unfold Instr.range
  rw [arun_bnd_rr (a := .map kt et) (by rw [rr_underlying, hu])]
  simp only [bind_assoc, pure_bind]
  rw [arun_bnd_rr (a := .map es clock) (rr_getObj hr)]
  simp only [pure_bind]
  intro b hb
  refine hK b _ hb ⟨es, clock, ?_, upd_same, hE, hB, by simp, by simp⟩
  rw [upd_ne (by rintro rfl; rw [hr] at hb; cases hb)]; exact hr

omit [DecidableEq α] in
theorem born_inj {es : Array MapEntry} {c : Nat} (B : BornOk es.toList c) {i j : Nat} {e e' : MapEntry} (hi : es[i]? = some e) (hj : es[j]? = some e') (q : e.born = e'.born) : i = j := by
  have h1 : (es.toList.map (·.born))[i]? = some e.born := by rw [List.getElem?_map]; simp [hi]
  have h2 : (es.toList.map (·.born))[j]? = some e.born := by rw [List.getElem?_map]; simp [hj, q]
  exact (List.getElem?_inj (List.getElem?_eq_some_iff.1 h1).1 B.1).1 (by rw [h1, h2])

omit [DecidableEq α] in
theorem mem_seen {es : Array MapEntry} {c : Nat} (B : BornOk es.toList c) {is : List Nat} (hl : ∀ i ∈ is, i < es.size) {i : Nat} {e : MapEntry} (hi : es[i]? = some e) : (seenOf es is).contains e.born = decide (i ∈ is) := by
  rw [Bool.eq_iff_iff, decide_eq_true_eq, Array.contains_iff_mem]
  unfold seenOf
  rw [List.mem_toArray, List.mem_map]
  constructor
  · rintro ⟨j, hj, q⟩
    have hj' : es[j]? = some (es[j]'(hl j hj)) := Array.getElem?_eq_getElem (hl j hj)
    rw [hj', Option.map_some, Option.getD_some] at q
    rw [← born_inj B hj' hi q]; exact hj
  · intro hm; exact ⟨i, hm, by rw [hi]; rfl⟩

theorem seenOf_push {es : Array MapEntry} {is : List Nat} {i : Nat} {e : MapEntry} (hi : es[i]? = some e) : (seenOf es is).push e.born = seenOf es (is ++ [i]) := by
  unfold seenOf; simp [hi]

omit [DecidableEq α] in
theorem arun_next {it r : Nat} {m : List (α × β)} {is : List Nat} {ty : TypeId} {K : Value → Hp → Prop} (I : IterAt h it r kenc venc m is) (hend : (∀ i, i < m.length → i ∈ is) → K (.tuple #[.bool false]) h)
    (hstep : ∀ i x o, m[i]? = some x → i ∉ is → IterAt (h.upd it o) it r kenc venc m (is ++ [i]) → K (.tuple #[.bool true, kenc x.1, venc x.2]) (h.upd it o)) :
    arun P (Instr.next (.pointer (some ⟨it, 0, none⟩)) false ty) h K := by
  have hne := I.ne
  obtain ⟨es, clock, hr, hi, hE, hB, hN, hl⟩ := I
  have hlen : es.size = m.length := by have := hE.length_eq; rwa [Array.length_toList] at this
  have hgi : rrun P (getObj it) h = some (.mapIter (some r) clock (seenOf es is) clock) := by unfold getObj; simp only [rrun, hi, isRow]
  unfold Instr.next
  simp only []
  rw [arun_bnd_rr hgi]
  simp only []
  rw [arun_bnd_rr (a := .map es clock) (rr_getObj hr)]
  simp only []
  have hall : (!(seenOf es is).isEmpty && !es.isEmpty && es.all (fun x => decide (x.born ≥ clock))) = false := by
    by_cases h0 : es.size = 0
    · have : es = #[] := Array.eq_empty_of_size_eq_zero h0
      subst this; simp
    · have : es.all (fun x => decide (x.born ≥ clock)) = false := by
        rw [Array.all_eq_false]
        refine ⟨0, by omega, ?_⟩
        have := hB.2 es[0] (by simp)
        simp; omega
      rw [this]; simp
  have hc0 : (!(seenOf es is).isEmpty && !es.isEmpty && es.all fun x => decide (x.born ≥ clock)) = false := hall
  rw [if_neg (by rw [hc0]; simp)]
  generalize hL : (es.filter fun e => !(seenOf es is).contains e.born) = L
  have hmemL : ∀ e ∈ L, e.born < clock := by
    intro e he; rw [← hL] at he; simp at he; exact hB.2 e (by simpa using he.1)
  have e1 : L.filter (fun x => decide (x.born < clock)) = L := Array.filter_eq_self.2 (fun x hx => by simpa using hmemL x hx)
  have e2 : L.filter (fun x => decide (x.born ≥ clock)) = #[] := by
    rw [Array.filter_eq_empty_iff]
    intro x hx
    have := hmemL x hx
    simp; omega
  simp only [e1, e2, Array.append_empty]
  by_cases h0 : L.size = 0
  · have hLe : L = #[] := Array.eq_empty_of_size_eq_zero h0
    subst hLe
    simp only [Array.isEmpty_empty, if_true, Array.map_empty, Array.append_empty]
    show arun P (.choose (.mapNext 1) _) h K
    unfold arun
    simp only [Question.forced, Nat.le_refl, decide_true, if_true]
    refine hend fun i hi => ?_
    have hi' : i < es.size := by omega
    have hei : es[i]? = some es[i] := Array.getElem?_eq_getElem hi'
    have := mem_seen hB (is := is) (fun j hj => by rw [hlen]; exact hl j hj) hei
    rw [Array.filter_eq_empty_iff] at hL
    have h2 := hL es[i] (by simp)
    rw [this] at h2
    simpa using h2
  · have hne' : L.isEmpty = false := by simp [Array.isEmpty, h0]
    have step : ∀ j, j < L.size → ∃ e, L[j]? = some e ∧ K (.tuple #[.bool true, e.key, e.val]) (h.upd it (.mapIter (some r) clock ((seenOf es is).push e.born) clock)) := by
      intro j hj
      refine ⟨L[j], Array.getElem?_eq_getElem hj, ?_⟩
      have hm : L[j] ∈ (es.filter fun e => !(seenOf es is).contains e.born) := by rw [hL]; exact Array.getElem_mem hj
      generalize L[j] = e at hm
      rw [Array.mem_filter] at hm
      obtain ⟨i, hi1, hi2⟩ := Array.mem_iff_getElem.1 hm.1
      have hei : es[i]? = some e := by rw [Array.getElem?_eq_getElem hi1, hi2]
      have hns : i ∉ is := by
        have h2 := hm.2
        rw [mem_seen hB (is := is) (fun j hj => by rw [hlen]; exact hl j hj) hei] at h2
        simpa using h2
      have hil : i < m.length := by omega
      obtain ⟨e', he', hk, hv⟩ := hE.get (i := i) (x := m[i]) (List.getElem?_eq_getElem hil)
      have : e' = e := by
        have : es[i]? = some e' := by simpa using he'
        rw [hei] at this; simpa using this.symm
      subst this
      rw [hk, hv]
      refine hstep i m[i] _ (List.getElem?_eq_getElem hil) hns ⟨es, clock, by rw [upd_ne hne.symm]; exact hr, by rw [upd_same, seenOf_push hei], hE, hB, ?_, ?_⟩
      · rw [List.nodup_append]; exact ⟨hN, by simp, fun x hx y hy => by simp at hy; subst hy; rintro rfl; exact hns hx⟩
      · intro j hj
        rcases List.mem_append.1 hj with q | q
        · exact hl j q
        · simp at q; subst q; exact hil
    simp only [hne', Bool.false_eq_true, if_false, Array.empty_append, Array.size_map]
    show arun P (.choose (.mapNext L.size) _) h K
    unfold arun
    have fin : ∀ j, j < L.size → arun P (match (L.map some)[j]? with
        | some (some e) => (do setObj it (.mapIter (some r) clock ((seenOf es is).push e.born) clock); pure (.tuple #[.bool true, e.key, e.val]))
        | some none => pure (.tuple #[.bool false])
        | none => stuck "Next: no such candidate") h K := by
      intro j hj
      obtain ⟨e, he, hk⟩ := step j hj
      rw [Array.getElem?_map, he, Option.map_some]
      exact ⟨⟨_, hi, rfl⟩, hk⟩
    by_cases hf : L.size ≤ 1
    · simp only [Question.forced, hf, decide_true, if_true]
      exact fin 0 (by omega)
    · simp only [Question.forced, hf, decide_false, Bool.false_eq_true, if_false]
      intro t
      exact fin _ (Nat.mod_lt _ (by omega))

omit [DecidableEq α] in
theorem arun_entry {it r : Nat} {m : List (α × β)} {is : List Nat} {i : Nat} {x : α × β} {K : Value → Hp → Prop} (I : IterAt h it r kenc venc m (is ++ [i])) (hx : m[i]? = some x) (hK : K (.tuple #[kenc x.1, venc x.2]) h) :
    arun P (Instr.entry (.pointer (some ⟨it, 0, none⟩))) h K := by
  obtain ⟨es, clock, hr, hi, hE, hB, hN, hl⟩ := I
  obtain ⟨e, he, hk, hv⟩ := hE.get hx
  have hei : es[i]? = some e := by simpa using he
  have hgi : rrun P (getObj it) h = some (.mapIter (some r) clock (seenOf es (is ++ [i])) clock) := by unfold getObj; simp only [rrun, hi, isRow]
  have hf : es.find? (·.born == e.born) = some e := by
    cases hq : es.find? (·.born == e.born) with
    | none =>
      rw [Array.find?_eq_none] at hq
      have := hq e (Array.mem_of_getElem? hei)
      simp at this
    | some e' =>
      have hb := Array.find?_some hq
      have hm := Array.mem_of_find?_eq_some hq
      obtain ⟨j, hj1, hj2⟩ := Array.mem_iff_getElem.1 hm
      have hej : es[j]? = some e' := by rw [Array.getElem?_eq_getElem hj1, hj2]
      have := born_inj hB hej hei (by simpa using hb)
      subst this
      rw [hej] at hei; exact hei
  unfold Instr.entry
  simp only []
  rw [arun_bnd_rr hgi]
  simp only []
  rw [← seenOf_push hei, Array.back?_push]
  simp only []
  rw [arun_bnd_rr (a := .map es clock) (rr_getObj hr)]
  simp only [bne_self_eq_false, Bool.false_eq_true, if_false, hf]
  rw [← hk, ← hv] at hK
  exact hK
end

/-! ### What has been visited -/
def vis {γ : Type} (m : List γ) (is : List Nat) : List γ := is.filterMap (m[·]?)

theorem vis_nil {γ : Type} (m : List γ) : vis m [] = [] := rfl
theorem vis_snoc {γ : Type} {m : List γ} {is : List Nat} {i : Nat} {x : γ} (h : m[i]? = some x) : vis m (is ++ [i]) = vis m is ++ [x] := by
  unfold vis; simp [h]

theorem vis_range {γ : Type} : ∀ (m : List γ), vis m (List.range m.length) = m
  | [] => rfl
  | x :: xs => by
    have := vis_range xs
    unfold vis at *
    rw [List.length_cons, List.range_succ_eq_map, List.filterMap_cons]
    simp only [List.getElem?_cons_zero, List.filterMap_map]
    congr 1

theorem vis_perm {γ : Type} {m : List γ} {is : List Nat} (hn : is.Nodup) (hl : ∀ i ∈ is, i < m.length) (ha : ∀ i, i < m.length → i ∈ is) : (vis m is).Perm m := by
  have h1 : is.Perm (List.range m.length) := (List.perm_ext_iff_of_nodup hn List.nodup_range).2 (fun i => by rw [List.mem_range]; exact ⟨hl i, ha i⟩)
  have h2 := h1.filterMap (m[·]?)
  have h3 := vis_range m
  unfold vis at *
  rw [h3] at h2; exact h2

theorem vis_sub {γ : Type} {m : List γ} {is : List Nat} : ∀ x ∈ vis m is, x ∈ m := by
  intro x hx
  unfold vis at hx
  obtain ⟨i, _, e⟩ := List.mem_filterMap.1 hx
  exact List.mem_of_getElem? e

theorem vis_length {γ : Type} {m : List γ} {is : List Nat} : (vis m is).length ≤ is.length := List.length_filterMap_le _ _

theorem IterAt.nodup {h : Hp} {α β : Type} {kenc : α → Value} {venc : β → Value} {it r : Nat} {m : List (α × β)} {is : List Nat} (I : IterAt h it r kenc venc m is) : is.Nodup ∧ ∀ i ∈ is, i < m.length := by
  obtain ⟨es, cl, _, _, _, _, h1, h2⟩ := I; exact ⟨h1, h2⟩

theorem nodup_bound {is : List Nat} {n : Nat} (hn : is.Nodup) (hl : ∀ i ∈ is, i < n) : is.length ≤ n := by
  have h1 := List.Nodup.length_le_of_subset hn (l₂ := List.range n) (fun i hi => List.mem_range.2 (hl i hi))
  simpa using h1

theorem IterAt.len {h : Hp} {α β : Type} {kenc : α → Value} {venc : β → Value} {it r : Nat} {m : List (α × β)} {is : List Nat} (I : IterAt h it r kenc venc m is) : is.length ≤ m.length := nodup_bound I.nodup.1 I.nodup.2
end Go.Proofs.Ytchbipkoifmmdaa

/- A range over a map out of which entries may be taken, or whose values may be set anew, on the way. -/
namespace Go.Proofs.Ytchbipkoifmmdaa
open Go
set_option linter.unusedSimpArgs false
set_option linter.unusedVariables false

section
variable {P : Program} {h : Hp} {α β : Type} [DecidableEq α] {kenc : α → Value} {venc : β → Value}

/-- What an iterator has seen, of the entries that are there, is what it has handed out. -/
def SeenOk (es : List MapEntry) (ks : List α) (seen : Array Nat) (V : List α) : Prop :=
  ∀ (i : Nat) (e : MapEntry) (k : α), es[i]? = some e → ks[i]? = some k → seen.contains e.born = decide (k ∈ V) ∧ (V.getLast? = some k → seen.back? = some e.born)

/-- An iterator that has handed out these keys, over a map that now holds these. -/
def IterS (h : Hp) (it r : Nat) (kenc : α → Value) (venc : β → Value) (m : List (α × β)) (V : List α) : Prop :=
  Uniq m ∧ ∃ (es : Array MapEntry) (clock : Nat) (seen : Array Nat), h r = some (.map es clock) ∧ h it = some (.mapIter (some r) clock seen clock) ∧ Ents kenc venc es.toList m ∧ BornOk es.toList clock ∧
    (∀ b ∈ seen, b < clock) ∧ SeenOk es.toList (m.map (·.1)) seen V

omit [DecidableEq α] in
theorem IterS.keep [DecidableEq α] {h' : Hp} {it r : Nat} {m : List (α × β)} {V : List α} (I : IterS h it r kenc venc m V) (e1 : h' r = h r) (e2 : h' it = h it) : IterS h' it r kenc venc m V := by
  obtain ⟨u, es, clock, seen, h1, h2, h3⟩ := I; exact ⟨u, es, clock, seen, by rw [e1]; exact h1, by rw [e2]; exact h2, h3⟩

theorem IterS.le {h' : Hp} {it r : Nat} {m : List (α × β)} {V : List α} (I : IterS h it r kenc venc m V) (l : Le h h') : IterS h' it r kenc venc m V := by
  obtain ⟨u, es, clock, seen, h1, h2, h3⟩ := I; exact ⟨u, es, clock, seen, l _ _ h1, l _ _ h2, h3⟩

theorem IterS.map {it r : Nat} {m : List (α × β)} {V : List α} (I : IterS h it r kenc venc m V) : MapB h r kenc venc m := by
  obtain ⟨u, es, clock, seen, h1, h2, h3, h4, _⟩ := I; exact ⟨es, clock, h1, h3, h4⟩

theorem IterS.ne {it r : Nat} {m : List (α × β)} {V : List α} (I : IterS h it r kenc venc m V) : it ≠ r := by
  obtain ⟨u, es, clock, seen, h1, h2, _⟩ := I
  rintro rfl; rw [h1] at h2; cases h2

theorem IterS.alive {it r : Nat} {m : List (α × β)} {V : List α} (I : IterS h it r kenc venc m V) : (∃ o, h r = some o) ∧ ∃ o, h it = some o := by
  obtain ⟨u, es, clock, seen, h1, h2, _⟩ := I; exact ⟨⟨_, h1⟩, ⟨_, h2⟩⟩

theorem arun_rangeS {t kt et : TypeId} {r : Nat} {m : List (α × β)} {K : Value → Hp → Prop} (hu : P.underlying t = some (.map kt et)) (M : MapB h r kenc venc m) (u : Uniq m)
    (hK : ∀ b o, h b = none → IterS (h.upd b o) b r kenc venc m [] → K (.pointer (some ⟨b, 0, none⟩)) (h.upd b o)) : arun P (Instr.range t (.map (some r))) h K := by
  obtain ⟨es, clock, hr, hE, hB⟩ := M
  unfold Instr.range
  rw [arun_bnd_rr (a := .map kt et) (by rw [rr_underlying, hu])]
  simp only [bind_assoc, pure_bind]
  rw [arun_bnd_rr (a := .map es clock) (rr_getObj hr)]
  simp only [pure_bind]
  intro b hb
  refine hK b _ hb ⟨u, es, clock, #[], ?_, upd_same, hE, hB, by simp, fun i e k he hk => by simp⟩
  rw [upd_ne (by rintro rfl; rw [hr] at hb; cases hb)]; exact hr

theorem arun_nextS {it r : Nat} {m : List (α × β)} {V : List α} {ty : TypeId} {K : Value → Hp → Prop} (I : IterS h it r kenc venc m V) (hend : (∀ x ∈ m, x.1 ∈ V) → K (.tuple #[.bool false]) h)
    (hstep : ∀ x o, x ∈ m → x.1 ∉ V → IterS (h.upd it o) it r kenc venc m (V ++ [x.1]) → K (.tuple #[.bool true, kenc x.1, venc x.2]) (h.upd it o)) :
    arun P (Instr.next (.pointer (some ⟨it, 0, none⟩)) false ty) h K := by
  have hne := I.ne
  obtain ⟨u, es, clock, seen, hr, hi, hE, hB, hL0, hS⟩ := I
  have hlen : es.size = m.length := by have := hE.length_eq; rwa [Array.length_toList] at this
  have hgi : rrun P (getObj it) h = some (.mapIter (some r) clock seen clock) := by unfold getObj; simp only [rrun, hi, isRow]
  unfold Instr.next
  simp only []
  rw [arun_bnd_rr hgi]
  simp only []
  rw [arun_bnd_rr (a := .map es clock) (rr_getObj hr)]
  simp only []
  have hc0 : (!seen.isEmpty && !es.isEmpty && es.all fun x => decide (x.born ≥ clock)) = false := by
    by_cases h0 : es.size = 0
    · have : es = #[] := Array.eq_empty_of_size_eq_zero h0
      subst this; simp
    · have : es.all (fun x => decide (x.born ≥ clock)) = false := by
        rw [Array.all_eq_false]
        refine ⟨0, by omega, ?_⟩
        have := hB.2 es[0] (by simp)
        simp; omega
      rw [this]; simp
  rw [if_neg (by rw [hc0]; simp)]
  generalize hL : (es.filter fun e => !seen.contains e.born) = L
  have hmemL : ∀ e ∈ L, e.born < clock := by
    intro e he; rw [← hL] at he; simp at he; exact hB.2 e (by simpa using he.1)
  have e1 : L.filter (fun x => decide (x.born < clock)) = L := Array.filter_eq_self.2 (fun x hx => by simpa using hmemL x hx)
  have e2 : L.filter (fun x => decide (x.born ≥ clock)) = #[] := by
    rw [Array.filter_eq_empty_iff]
    intro x hx
    have := hmemL x hx
    simp; omega
  simp only [e1, e2, Array.append_empty]
  by_cases h0 : L.size = 0
  · have hLe : L = #[] := Array.eq_empty_of_size_eq_zero h0
    subst hLe
    simp only [Array.isEmpty_empty, if_true, Array.map_empty, Array.append_empty]
    show arun P (.choose (.mapNext 1) _) h K
    unfold arun
    simp only [Question.forced, Nat.le_refl, decide_true, if_true]
    refine hend fun x hx => ?_
    obtain ⟨i, hi', rfl⟩ := List.mem_iff_getElem.1 hx
    have hi2 : i < es.size := by omega
    have hei : es.toList[i]? = some es[i] := by simp [Array.getElem?_eq_getElem hi2]
    have hk : (m.map (·.1))[i]? = some m[i].1 := by rw [List.getElem?_map, List.getElem?_eq_getElem hi']; rfl
    have := (hS i _ _ hei hk).1
    rw [Array.filter_eq_empty_iff] at hL
    have h2 := hL es[i] (by simp)
    rw [this] at h2
    simpa using h2
  · have hne' : L.isEmpty = false := by simp [Array.isEmpty, h0]
    have step : ∀ j, j < L.size → ∃ e, L[j]? = some e ∧ K (.tuple #[.bool true, e.key, e.val]) (h.upd it (.mapIter (some r) clock (seen.push e.born) clock)) := by
      intro j hj
      refine ⟨L[j], Array.getElem?_eq_getElem hj, ?_⟩
      have hm : L[j] ∈ (es.filter fun e => !seen.contains e.born) := by rw [hL]; exact Array.getElem_mem hj
      generalize L[j] = e at hm
      rw [Array.mem_filter] at hm
      obtain ⟨i, hi1, hi2⟩ := Array.mem_iff_getElem.1 hm.1
      have hei : es[i]? = some e := by rw [Array.getElem?_eq_getElem hi1, hi2]
      have hei' : es.toList[i]? = some e := by simpa using hei
      have hil : i < m.length := by omega
      obtain ⟨e', he', hk, hv⟩ := hE.get (i := i) (x := m[i]) (List.getElem?_eq_getElem hil)
      have : e' = e := by rw [hei'] at he'; simpa using he'.symm
      subst this
      have hki : (m.map (·.1))[i]? = some m[i].1 := by rw [List.getElem?_map, List.getElem?_eq_getElem hil]; rfl
      have hns : m[i].1 ∉ V := by
        have h2 := hm.2
        rw [(hS i _ _ hei' hki).1] at h2
        simpa using h2
      rw [hk, hv]
      refine hstep m[i] _ (List.getElem_mem hil) hns ⟨u, es, clock, _, by rw [upd_ne hne.symm]; exact hr, upd_same, hE, hB, ?_, ?_⟩
      · intro b hb
        rcases Array.mem_push.1 hb with q | q
        · exact hL0 b q
        · subst q; exact hB.2 e' (List.mem_of_getElem? hei')
      · intro i' e2 k2 h1 h2
        have hcon : (seen.push e'.born).contains e2.born = (seen.contains e2.born || decide (e2.born = e'.born)) := by
          rw [Bool.eq_iff_iff, Array.contains_iff_mem, Array.mem_push, Bool.or_eq_true, Array.contains_iff_mem, decide_eq_true_eq]
        have hsame : e2.born = e'.born ↔ k2 = m[i].1 := by
          constructor
          · intro q
            have := born_inj hB (by simpa using h1) hei q
            subst this
            rw [hki] at h2; simpa using h2.symm
          · intro q
            subst q
            have hnd : (m.map (·.1)).Nodup := u
            have hi3 : i' = i := (List.getElem?_inj (List.getElem?_eq_some_iff.1 h2).1 hnd).1 (by rw [h2, hki])
            subst hi3
            rw [hei'] at h1; simp at h1; rw [h1]
        refine ⟨?_, fun q => ?_⟩
        · rw [hcon, (hS i' e2 k2 h1 h2).1, Bool.eq_iff_iff]
          simp only [Bool.or_eq_true, decide_eq_true_eq, List.mem_append, List.mem_singleton, hsame]
        · simp at q
          rw [Array.back?_push, hsame.2 q.symm]
    simp only [hne', Bool.false_eq_true, if_false, Array.empty_append, Array.size_map]
    show arun P (.choose (.mapNext L.size) _) h K
    unfold arun
    have fin : ∀ j, j < L.size → arun P (match (L.map some)[j]? with
        | some (some e) => (do setObj it (.mapIter (some r) clock (seen.push e.born) clock); pure (.tuple #[.bool true, e.key, e.val]))
        | some none => pure (.tuple #[.bool false])
        | none => stuck "Next: no such candidate") h K := by
      intro j hj
      obtain ⟨e, he, hk⟩ := step j hj
      rw [Array.getElem?_map, he, Option.map_some]
      exact ⟨⟨_, hi, rfl⟩, hk⟩
    by_cases hf : L.size ≤ 1
    · simp only [Question.forced, hf, decide_true, if_true]
      exact fin 0 (by omega)
    · simp only [Question.forced, hf, decide_false, Bool.false_eq_true, if_false]
      intro t
      exact fin _ (Nat.mod_lt _ (by omega))

theorem arun_entryS {it r : Nat} {m : List (α × β)} {V : List α} {x : α × β} {K : Value → Hp → Prop} (I : IterS h it r kenc venc m (V ++ [x.1])) (hx : x ∈ m) (hK : K (.tuple #[kenc x.1, venc x.2]) h) :
    arun P (Instr.entry (.pointer (some ⟨it, 0, none⟩))) h K := by
  obtain ⟨u, es, clock, seen, hr, hi, hE, hB, hL0, hS⟩ := I
  obtain ⟨i, hil, hxi⟩ := List.mem_iff_getElem.1 hx
  have hxi' : m[i]? = some x := by rw [List.getElem?_eq_getElem hil, hxi]
  obtain ⟨e, he, hk, hv⟩ := hE.get hxi'
  have hei : es[i]? = some e := by simpa using he
  have hki : (m.map (·.1))[i]? = some x.1 := by rw [List.getElem?_map, hxi']; rfl
  have hback := (hS i e x.1 he hki).2 (by simp)
  have hgi : rrun P (getObj it) h = some (.mapIter (some r) clock seen clock) := by unfold getObj; simp only [rrun, hi, isRow]
  have hf : es.find? (·.born == e.born) = some e := by
    cases hq : es.find? (·.born == e.born) with
    | none =>
      rw [Array.find?_eq_none] at hq
      have := hq e (Array.mem_of_getElem? hei)
      simp at this
    | some e' =>
      have hb := Array.find?_some hq
      have hm := Array.mem_of_find?_eq_some hq
      obtain ⟨j, hj1, hj2⟩ := Array.mem_iff_getElem.1 hm
      have hej : es[j]? = some e' := by rw [Array.getElem?_eq_getElem hj1, hj2]
      have := born_inj hB hej hei (by simpa using hb)
      subst this
      rw [hej] at hei; exact hei
  unfold Instr.entry
  simp only []
  rw [arun_bnd_rr hgi]
  simp only []
  rw [hback]
  simp only []
  rw [arun_bnd_rr (a := .map es clock) (rr_getObj hr)]
  simp only [bne_self_eq_false, Bool.false_eq_true, if_false, hf]
  rw [← hk, ← hv] at hK
  exact hK

theorem delM_erase {a : α} {v : β} : ∀ {m : List (α × β)} {i j : Nat}, findM a m i = some (i + j, v) → delM a m = m.eraseIdx j
  | [], _, _, h => by cases h
  | x :: xs, i, j, h => by
    simp only [findM] at h
    split at h
    · rename_i e
      have : j = 0 := by simp only [Option.some.injEq, Prod.mk.injEq] at h; omega
      subst this
      simp only [delM, if_pos e, List.eraseIdx_zero, List.tail_cons]
    · rename_i hne
      have := (findM_some h).1
      obtain ⟨j', rfl⟩ : ∃ j', j = j' + 1 := ⟨j - 1, by omega⟩
      simp only [delM, if_neg hne, List.eraseIdx_cons_succ]
      rw [delM_erase (i := i + 1) (j := j') (by rw [h]; congr 2; omega)]

theorem SeenOk.erase {es : List MapEntry} {ks : List α} {seen : Array Nat} {V : List α} {j : Nat} (S : SeenOk es ks seen V) : SeenOk (es.eraseIdx j) (ks.eraseIdx j) seen V := by
  intro i e k h1 h2
  rw [List.getElem?_eraseIdx] at h1 h2
  by_cases hij : i < j
  · rw [if_pos hij] at h1 h2; exact S i e k h1 h2
  · rw [if_neg hij] at h1 h2; exact S (i + 1) e k h1 h2

theorem SeenOk.modify {es : List MapEntry} {ks : List α} {seen : Array Nat} {V : List α} {j : Nat} {f : MapEntry → MapEntry} (hf : ∀ e, (f e).born = e.born) (S : SeenOk es ks seen V) : SeenOk (es.modify j f) ks seen V := by
  intro i e k h1 h2
  rw [List.getElem?_modify] at h1
  cases he : es[i]? with
  | none => rw [he] at h1; cases h1
  | some e0 =>
    rw [he] at h1
    have hb : e.born = e0.born := by
      simp at h1; subst h1; split
      · exact hf _
      · rfl
    rw [hb]; exact S i e0 k he h2

theorem arun_mapDeleteS {t kt et R : TypeId} {ts : Array TypeId} {it r : Nat} {a : α} {m : List (α × β)} {V : List α} {K : Value → Hp → Prop} (ht : ts[0]? = some t) (hu : P.underlying t = some (.map kt et)) (I : IterS h it r kenc venc m V)
    (hck : ∀ e, rrun P (Instr.checkKey e 10000 kt (kenc a)) h = some ())
    (hfk : ∀ es : List MapEntry, Ents kenc venc es m → rrun P (Instr.findKey kt (kenc a) es) h = some ((findM a m 0).map fun x => (x.1, venc x.2)))
    (hK : ∀ o, IterS (h.upd r o) it r kenc venc (delM a m) V → K (.tuple #[]) (h.upd r o)) :
    arun P (Builtin.delete_ ts R #[.map (some r), kenc a]) h K := by
  have hne := I.ne
  obtain ⟨u, es, clock, seen, hr, hi, hE, hB, hL0, hS⟩ := I
  have set : ∀ o, K (.tuple #[]) (h.upd r o) → arun P (setObj r o >>= fun _ => pure (Value.tuple #[])) h K := fun o hk => ⟨⟨_, hr, rfl⟩, hk⟩
  have kk : ∀ es' : Array MapEntry, Ents kenc venc es'.toList (delM a m) → BornOk es'.toList clock → SeenOk es'.toList ((delM a m).map (·.1)) seen V → K (.tuple #[]) (h.upd r (.map es' clock)) := fun es' q1 q2 q3 =>
    hK _ ⟨u.del, es', clock, seen, upd_same, by rw [upd_ne hne]; exact hi, q1, q2, hL0, q3⟩
  unfold Builtin.delete_
  rw [ht]
  simp only [List.getElem?_toArray, List.getElem?_cons_zero, List.getElem?_cons_succ]
  rw [arun_bnd_rr (a := .map kt et) (by rw [rr_underlying, hu])]
  simp only [bind_assoc, pure_bind]
  rw [arun_bnd_rr (a := .map es clock) (rr_getObj hr)]
  simp only []
  rw [arun_bnd_rr (a := ()) (hck _), arun_bnd_rr (hfk _ hE)]
  cases hf : findM a m 0 with
  | none =>
    simp only [Option.map_none]
    have hd : delM a m = m := delM_none (by unfold getM; rw [hf]; rfl)
    exact set _ (kk _ (by rw [hd]; exact hE) hB (by rw [hd]; exact hS))
  | some x =>
    obtain ⟨j, v⟩ := x
    simp only [Option.map_some]
    refine set _ (kk _ ?_ ?_ ?_)
    · rw [Array.toList_eraseIdxIfInBounds]; exact hE.erase hf
    · rw [Array.toList_eraseIdxIfInBounds]; exact hB.sub (List.eraseIdx_sublist _ _)
    · rw [Array.toList_eraseIdxIfInBounds, delM_erase (i := 0) (j := j) (v := v) (by simpa using hf)]
      have : (m.eraseIdx j).map (·.1) = (m.map (·.1)).eraseIdx j := by
        refine List.ext_getElem? fun i => ?_
        rw [List.getElem?_map, List.getElem?_eraseIdx, List.getElem?_eraseIdx, List.getElem?_map, List.getElem?_map]
        split <;> rfl
      rw [this]
      exact hS.erase

/-- A value set anew, of a key that is there. -/
theorem arun_mapUpdateS {t kt et : TypeId} {it r : Nat} {a : α} {v : β} {m : List (α × β)} {V : List α} {K : Unit → Hp → Prop} (hu : P.underlying t = some (.map kt et)) (I : IterS h it r kenc venc m V) (hin : (getM m a).isSome = true)
    (hck : ∀ e, rrun P (Instr.checkKey e 10000 kt (kenc a)) h = some ())
    (hfk : ∀ es : List MapEntry, Ents kenc venc es m → rrun P (Instr.findKey kt (kenc a) es) h = some ((findM a m 0).map fun x => (x.1, venc x.2)))
    (hsb : Instr.sameBits 10000 (kenc a) (kenc a) = true)
    (hK : ∀ o, IterS (h.upd r o) it r kenc venc (setM a v m) V → K () (h.upd r o)) :
    arun P (Instr.mapUpdate t (.map (some r)) (kenc a) (venc v)) h K := by
  have hne := I.ne
  obtain ⟨u, es, clock, seen, hr, hi, hE, hB, hL0, hS⟩ := I
  have set : ∀ o, K () (h.upd r o) → arun P (setObj r o) h K := fun o hk => ⟨⟨_, hr, rfl⟩, hk⟩
  unfold Instr.mapUpdate
  rw [arun_bnd_rr (a := .map kt et) (by rw [rr_underlying, hu])]
  simp only [bind_assoc, pure_bind]
  rw [arun_bnd_rr (a := .map es clock) (rr_getObj hr)]
  simp only []
  rw [arun_bnd_rr (a := ()) (hck _), arun_bnd_rr (hfk _ hE)]
  cases hf : findM a m 0 with
  | none => unfold getM at hin; rw [hf] at hin; cases hin
  | some x =>
    obtain ⟨j, v0⟩ := x
    simp only [Option.map_some]
    obtain ⟨e, he, hke, _⟩ := hE.get (i := j) (x := (a, v0)) (by have := (findM_some hf).2; simpa using this)
    have hes : es[j]? = some e := by simpa using he
    have hks : rrun P (Instr.keyThatStays (((es[j]?).map (·.key)).getD (kenc a)) (kenc a)) h = some (kenc a) := by
      rw [hes]
      unfold Instr.keyThatStays
      simp only [Option.map_some, Option.getD_some, hke, hsb, if_true]
      rfl
    rw [arun_bnd_rr hks]
    refine set _ (hK _ ⟨u.set, _, clock, seen, upd_same, by rw [upd_ne hne]; exact hi, ?_, ?_, hL0, ?_⟩)
    · rw [Array.toList_modify]; exact hE.modify hf
    · rw [Array.toList_modify]; exact hB.modify (fun _ => rfl)
    · rw [Array.toList_modify]
      have hk : (setM a v m).map (·.1) = m.map (·.1) := by
        rw [setM_keys, if_pos]
        unfold getM at hin
        cases hg : getM m a with
        | none => unfold getM at hg; rw [hf] at hg; cases hg
        | some v => exact List.mem_map_of_mem (getM_mem hg)
      rw [hk]
      exact hS.modify (fun _ => rfl)
end
end Go.Proofs.Ytchbipkoifmmdaa
