/- Printed by wip/kit/gen.py out of the translation: formulas of Go functions, and that they are these functions'. -/
import Derived.Test.YtjcecdjbllpmcaaChecked
import Derived.Test.YtjcecdjbllpmcaaZ1

set_option linter.unusedSimpArgs false
set_option linter.unusedVariables false

namespace Go.Proofs.Ytjcecdjbllpmcaa
open Go

set_option maxRecDepth 100000
set_option linter.unusedVariables false

theorem progIsOk : progOk Try.prog = true := by kernel_rfl

/-! ### octroi/octroilaw12.JournalLast: function 3 -/
noncomputable def octroilaw12_JournalLast_code : Code := match Try.f3.body with | some c => c | none => .skip

/-- law.go:117 -/
def octroilaw12_JournalLast_r0 (env : Env) (h : Hp) (K : Env → Hp → Prop) : Prop :=
  arun Try.prog (Instr.box 25 (env 1)) h fun v5_0 h1 =>
  K ((env.set 5 v5_0).set 8 (Go.Value.bool false)) h1
@[congr] theorem octroilaw12_JournalLast_r0_congr {env : Env} {h : Hp} {K : Env → Hp → Prop} : octroilaw12_JournalLast_r0 env h K = octroilaw12_JournalLast_r0 env h K := rfl

/-- law.go:118 -/
def octroilaw12_JournalLast_r1 (env : Env) (h : Hp) (K : Env → Hp → Prop) : Prop :=
  Ok Try.prog 9 #[] h fun v19_0 h1 =>
  K ((env.set 19 v19_0).set 9 v19_0) h1
@[congr] theorem octroilaw12_JournalLast_r1_congr {env : Env} {h : Hp} {K : Env → Hp → Prop} : octroilaw12_JournalLast_r1 env h K = octroilaw12_JournalLast_r1 env h K := rfl

/-- law.go:119 -/
def octroilaw12_JournalLast_r2 (env : Env) (h : Hp) (K : Env → Hp → Prop) : Prop :=
  Ok Try.prog 10 #[(Go.Value.int Go.IntKind.i64 1000)] h fun v20_0 h1 =>
  K ((env.set 20 v20_0).set 10 v20_0) h1
@[congr] theorem octroilaw12_JournalLast_r2_congr {env : Env} {h : Hp} {K : Env → Hp → Prop} : octroilaw12_JournalLast_r2 env h K = octroilaw12_JournalLast_r2 env h K := rfl

/-- law.go:120 -/
def octroilaw12_JournalLast_r3 (env : Env) (h : Hp) (K : Env → Hp → Prop) : Prop :=
  rd Try.prog (Op.unary Go.UnOp.not (env 9)) noHp fun v22_1 =>
  gd (yb v22_1 == some false) (fun h k => k (env 10) h) h fun v24_3 h1 =>
  gd (yb v22_1 == some false) (fun h k => rd Try.prog (bop Go.BinOp.eql 27 (Go.Operand.tmp 24) (Go.Operand.const (Go.Value.pointer none)) v24_3 (Go.Value.pointer none)) noHp fun v => k v h) h1 fun v25_4 h2 =>
  rd Try.prog (pck v22_1 (Go.Value.bool true) v25_4) noHp fun v26_5 =>
  gd (yb v26_5 == some false) (fun h k => k (env 0) h) h2 fun v28_7 h3 =>
  gd (yb v26_5 == some false) (fun h k => rd Try.prog (Builtin.len_ #[22] 3 #[v28_7]) h fun v => k v h) h3 fun v29_8 h4 =>
  gd (yb v26_5 == some false) (fun h k => rd Try.prog (bop Go.BinOp.gtr 3 (Go.Operand.tmp 29) (Go.Operand.const (Go.Value.int Go.IntKind.i64 150)) v29_8 (Go.Value.int Go.IntKind.i64 150)) noHp fun v => k v h) h4 fun v30_9 h5 =>
  rd Try.prog (pck v26_5 (Go.Value.bool true) v30_9) noHp fun v31_10 =>
  gd (yb v31_10 == some false) (fun h k => k (env 2) h) h5 fun v33_12 h6 =>
  gd (yb v31_10 == some false) (fun h k => rd Try.prog (Instr.fieldAt 25 (env 5) 0) noHp fun v => k v h) h6 fun v34_13 h7 =>
  gd (yb v31_10 == some false) (fun h k => rd Try.prog (Instr.loadAt 3 v34_13) h fun v => k v h) h7 fun v35_14 h8 =>
  gd (yb v31_10 == some false) (fun h k => rd Try.prog (bop Go.BinOp.eql 3 (Go.Operand.tmp 33) (Go.Operand.tmp 35) v33_12 v35_14) noHp fun v => k v h) h8 fun v36_15 h9 =>
  gd (yb v31_10 == some false) (fun h k => k v36_15 h) h9 fun v37_16 h10 =>
  gd (yb v37_16 == some true) (fun h k => k (env 3) h) h10 fun v38_17 h11 =>
  gd (yb v37_16 == some true) (fun h k => rd Try.prog (Instr.fieldAt 25 (env 5) 1) noHp fun v => k v h) h11 fun v39_18 h12 =>
  gd (yb v37_16 == some true) (fun h k => rd Try.prog (Instr.loadAt 23 v39_18) h fun v => k v h) h12 fun v40_19 h13 =>
  gd (yb v37_16 == some true) (fun h k => rd Try.prog (bop Go.BinOp.eql 23 (Go.Operand.tmp 38) (Go.Operand.tmp 40) v38_17 v40_19) noHp fun v => k v h) h13 fun v41_20 h14 =>
  gd (yb v31_10 == some false) (fun h k => rd Try.prog (pck v37_16 v41_20 (Go.Value.bool false)) noHp fun v => k v h) h14 fun v42_21 h15 =>
  rd Try.prog (pck v31_10 (Go.Value.bool true) v42_21) noHp fun v43_22 =>
  K (((((((((((((((((((((((env.set 21 (env 9)).set 22 v22_1).set 23 v22_1).set 24 v24_3).set 25 v25_4).set 26 v26_5).set 27 v26_5).set 28 v28_7).set 29 v29_8).set 30 v30_9).set 31 v31_10).set 32 v31_10).set 33 v33_12).set 34 v34_13).set 35 v35_14).set 36 v36_15).set 37 v37_16).set 38 v38_17).set 39 v39_18).set 40 v40_19).set 41 v41_20).set 42 v42_21).set 43 v43_22) h15
@[congr] theorem octroilaw12_JournalLast_r3_congr {env : Env} {h : Hp} {K : Env → Hp → Prop} : octroilaw12_JournalLast_r3 env h K = octroilaw12_JournalLast_r3 env h K := rfl

/-- law.go:121 -/
def octroilaw12_JournalLast_r4 (env : Env) (h : Hp) (K : Env → Hp → Prop) : Prop :=
  gd (yb (env 9) == some true) (fun h k => k (env 10) h) h fun v46_2 h1 =>
  gd (yb (env 9) == some true) (fun h k => rd Try.prog (bop Go.BinOp.neq 27 (Go.Operand.tmp 46) (Go.Operand.const (Go.Value.pointer none)) v46_2 (Go.Value.pointer none)) noHp fun v => k v h) h1 fun v47_3 h2 =>
  rd Try.prog (pck (env 9) v47_3 (Go.Value.bool false)) noHp fun v48_4 =>
  K ((((((env.set 44 (env 9)).set 45 (env 9)).set 46 v46_2).set 47 v47_3).set 48 v48_4).set 8 v48_4) h2
@[congr] theorem octroilaw12_JournalLast_r4_congr {env : Env} {h : Hp} {K : Env → Hp → Prop} : octroilaw12_JournalLast_r4 env h K = octroilaw12_JournalLast_r4 env h K := rfl

/-- law.go:123 -/
def octroilaw12_JournalLast_r5 (env : Env) (h : Hp) (K : Env → Hp → Prop) : Prop :=
  K (env.set 11 (Go.Value.int Go.IntKind.i64 0)) h
@[congr] theorem octroilaw12_JournalLast_r5_congr {env : Env} {h : Hp} {K : Env → Hp → Prop} : octroilaw12_JournalLast_r5 env h K = octroilaw12_JournalLast_r5 env h K := rfl

/-- law.go:123 -/
def octroilaw12_JournalLast_r6 (env : Env) (h : Hp) (K : Env → Hp → Prop) : Prop :=
  rd Try.prog (Builtin.len_ #[22] 3 #[(env 0)]) h fun v51_2 =>
  rd Try.prog (bop Go.BinOp.lss 3 (Go.Operand.tmp 49) (Go.Operand.tmp 51) (env 11) v51_2) noHp fun v52_3 =>
  K ((((env.set 49 (env 11)).set 50 (env 0)).set 51 v51_2).set 52 v52_3) h
@[congr] theorem octroilaw12_JournalLast_r6_congr {env : Env} {h : Hp} {K : Env → Hp → Prop} : octroilaw12_JournalLast_r6 env h K = octroilaw12_JournalLast_r6 env h K := rfl

/-- law.go:124 -/
def octroilaw12_JournalLast_r7 (env : Env) (h : Hp) (K : Env → Hp → Prop) : Prop :=
  rd Try.prog (Instr.indexAt 22 (env 0) (env 11)) noHp fun v58_3 =>
  rd Try.prog (Instr.loadAt 25 v58_3) h fun v59_4 =>
  Ok Try.prog 11 #[(env 10), v59_4] h fun v60_5 h1 =>
  K ((((((env.set 55 (env 10)).set 56 (env 0)).set 57 (env 11)).set 58 v58_3).set 59 v59_4).set 60 v60_5) h1
@[congr] theorem octroilaw12_JournalLast_r7_congr {env : Env} {h : Hp} {K : Env → Hp → Prop} : octroilaw12_JournalLast_r7 env h K = octroilaw12_JournalLast_r7 env h K := rfl

/-- law.go:123 -/
def octroilaw12_JournalLast_r8 (env : Env) (h : Hp) (K : Env → Hp → Prop) : Prop :=
  rd Try.prog (bop Go.BinOp.add 3 (Go.Operand.tmp 53) (Go.Operand.const (Go.Value.int Go.IntKind.i64 1)) (env 11) (Go.Value.int Go.IntKind.i64 1)) noHp fun v54_1 =>
  K (((env.set 53 (env 11)).set 54 v54_1).set 11 v54_1) h
@[congr] theorem octroilaw12_JournalLast_r8_congr {env : Env} {h : Hp} {K : Env → Hp → Prop} : octroilaw12_JournalLast_r8 env h K = octroilaw12_JournalLast_r8 env h K := rfl

def octroilaw12_JournalLast_L0 : Den := (sq (sq (rg octroilaw12_JournalLast_r6) (cnd (Go.Operand.tmp 52) (ex .normal) (ex (.exit 0)))) (sq (blk 1 (rg octroilaw12_JournalLast_r7)) (rg octroilaw12_JournalLast_r8)))

/-- law.go:126 -/
def octroilaw12_JournalLast_r9 (env : Env) (h : Hp) (K : Env → Hp → Prop) : Prop :=
  Ok Try.prog 12 #[(env 10), (env 2), (env 3)] h fun v65_3 h1 =>
  rd Try.prog (Instr.extract v65_3 0) noHp fun v66_5 =>
  rd Try.prog (Instr.extract v65_3 1) noHp fun v67_6 =>
  K (((((((((env.set 62 (env 10)).set 63 (env 2)).set 64 (env 3)).set 65 v65_3).set 61 v65_3).set 66 v66_5).set 67 v67_6).set 12 v66_5).set 13 v67_6) h1
@[congr] theorem octroilaw12_JournalLast_r9_congr {env : Env} {h : Hp} {K : Env → Hp → Prop} : octroilaw12_JournalLast_r9 env h K = octroilaw12_JournalLast_r9 env h K := rfl

/-- law.go:127 -/
def octroilaw12_JournalLast_r10 (env : Env) (h : Hp) (K : Env → Hp → Prop) : Prop :=
  rd Try.prog (Instr.loadAt 25 (env 5)) h fun v69_1 =>
  Ok Try.prog 11 #[(env 10), v69_1] h fun v70_2 h1 =>
  K ((((env.set 68 (env 10)).set 69 v69_1).set 70 v70_2).set 14 v70_2) h1
@[congr] theorem octroilaw12_JournalLast_r10_congr {env : Env} {h : Hp} {K : Env → Hp → Prop} : octroilaw12_JournalLast_r10 env h K = octroilaw12_JournalLast_r10 env h K := rfl

/-- law.go:128 -/
def octroilaw12_JournalLast_r11 (env : Env) (h : Hp) (K : Env → Hp → Prop) : Prop :=
  Ok Try.prog 12 #[(env 10), (env 2), (env 3)] h fun v75_3 h1 =>
  rd Try.prog (Instr.extract v75_3 0) noHp fun v76_5 =>
  rd Try.prog (Instr.extract v75_3 1) noHp fun v77_6 =>
  K (((((((((env.set 72 (env 10)).set 73 (env 2)).set 74 (env 3)).set 75 v75_3).set 71 v75_3).set 76 v76_5).set 77 v77_6).set 15 v76_5).set 16 v77_6) h1
@[congr] theorem octroilaw12_JournalLast_r11_congr {env : Env} {h : Hp} {K : Env → Hp → Prop} : octroilaw12_JournalLast_r11 env h K = octroilaw12_JournalLast_r11 env h K := rfl

/-- law.go:129 -/
def octroilaw12_JournalLast_r12 (env : Env) (h : Hp) (K : Env → Hp → Prop) : Prop :=
  rd Try.prog (Instr.fieldAt 25 (env 5) 0) noHp fun v80_1 =>
  rd Try.prog (Instr.loadAt 3 v80_1) h fun v81_2 =>
  rd Try.prog (Instr.fieldAt 25 (env 5) 1) noHp fun v82_3 =>
  rd Try.prog (Instr.loadAt 23 v82_3) h fun v83_4 =>
  Ok Try.prog 12 #[(env 10), v81_2, v83_4] h fun v84_5 h1 =>
  rd Try.prog (Instr.extract v84_5 0) noHp fun v85_7 =>
  rd Try.prog (Instr.extract v84_5 1) noHp fun v86_8 =>
  K (((((((((((env.set 79 (env 10)).set 80 v80_1).set 81 v81_2).set 82 v82_3).set 83 v83_4).set 84 v84_5).set 78 v84_5).set 85 v85_7).set 86 v86_8).set 17 v85_7).set 18 v86_8) h1
@[congr] theorem octroilaw12_JournalLast_r12_congr {env : Env} {h : Hp} {K : Env → Hp → Prop} : octroilaw12_JournalLast_r12 env h K = octroilaw12_JournalLast_r12 env h K := rfl

/-- law.go:130 -/
def octroilaw12_JournalLast_r13 (env : Env) (h : Hp) (K : Env → Hp → Prop) : Prop :=
  rd Try.prog (bop Go.BinOp.eql 23 (Go.Operand.tmp 87) (Go.Operand.tmp 88) (env 12) (env 15)) noHp fun v89_2 =>
  gd (yb v89_2 == some true) (fun h k => k (env 13) h) h fun v91_4 h1 =>
  gd (yb v89_2 == some true) (fun h k => k (env 16) h) h1 fun v92_5 h2 =>
  gd (yb v89_2 == some true) (fun h k => rd Try.prog (bop Go.BinOp.eql 4 (Go.Operand.tmp 91) (Go.Operand.tmp 92) v91_4 v92_5) noHp fun v => k v h) h2 fun v93_6 h3 =>
  rd Try.prog (pck v89_2 v93_6 (Go.Value.bool false)) noHp fun v94_7 =>
  gd (yb v94_7 == some true) (fun h k => k (env 14) h) h3 fun v96_9 h4 =>
  gd (yb v94_7 == some true) (fun h k => rd Try.prog (bop Go.BinOp.eql 29 (Go.Operand.tmp 96) (Go.Operand.const (Go.Value.int Go.IntKind.i64 0)) v96_9 (Go.Value.int Go.IntKind.i64 0)) noHp fun v => k v h) h4 fun v97_10 h5 =>
  gd (yb v94_7 == some true) (fun h k => k v97_10 h) h5 fun v98_11 h6 =>
  gd (yb v98_11 == some true) (fun h k => k (env 18) h) h6 fun v99_12 h7 =>
  gd (yb v94_7 == some true) (fun h k => rd Try.prog (pck v98_11 v99_12 (Go.Value.bool false)) noHp fun v => k v h) h7 fun v100_13 h8 =>
  gd (yb v94_7 == some true) (fun h k => k v100_13 h) h8 fun v101_14 h9 =>
  gd (yb v101_14 == some true) (fun h k => k (env 17) h) h9 fun v102_15 h10 =>
  gd (yb v101_14 == some true) (fun h k => rd Try.prog (Instr.fieldAt 25 (env 5) 2) noHp fun v => k v h) h10 fun v103_16 h11 =>
  gd (yb v101_14 == some true) (fun h k => rd Try.prog (Instr.loadAt 23 v103_16) h fun v => k v h) h11 fun v104_17 h12 =>
  gd (yb v101_14 == some true) (fun h k => rd Try.prog (bop Go.BinOp.eql 23 (Go.Operand.tmp 102) (Go.Operand.tmp 104) v102_15 v104_17) noHp fun v => k v h) h12 fun v105_18 h13 =>
  gd (yb v94_7 == some true) (fun h k => rd Try.prog (pck v101_14 v105_18 (Go.Value.bool false)) noHp fun v => k v h) h13 fun v106_19 h14 =>
  gd (yb v94_7 == some true) (fun h k => k v106_19 h) h14 fun v107_20 h15 =>
  gd (yb v107_20 == some false) (fun h k => k (env 14) h) h15 fun v108_21 h16 =>
  gd (yb v107_20 == some false) (fun h k => rd Try.prog (bop Go.BinOp.eql 29 (Go.Operand.tmp 108) (Go.Operand.const (Go.Value.int Go.IntKind.i64 1)) v108_21 (Go.Value.int Go.IntKind.i64 1)) noHp fun v => k v h) h16 fun v109_22 h17 =>
  gd (yb v107_20 == some false) (fun h k => k v109_22 h) h17 fun v110_23 h18 =>
  gd (yb v110_23 == some true) (fun h k => k (env 18) h) h18 fun v111_24 h19 =>
  gd (yb v110_23 == some true) (fun h k => rd Try.prog (Op.unary Go.UnOp.not v111_24) noHp fun v => k v h) h19 fun v112_25 h20 =>
  gd (yb v107_20 == some false) (fun h k => rd Try.prog (pck v110_23 v112_25 (Go.Value.bool false)) noHp fun v => k v h) h20 fun v113_26 h21 =>
  gd (yb v94_7 == some true) (fun h k => rd Try.prog (pck v107_20 (Go.Value.bool true) v113_26) noHp fun v => k v h) h21 fun v114_27 h22 =>
  rd Try.prog (pck v94_7 v114_27 (Go.Value.bool false)) noHp fun v115_28 =>
  K ((((((((((((((((((((((((((((((env.set 87 (env 12)).set 88 (env 15)).set 89 v89_2).set 90 v89_2).set 91 v91_4).set 92 v92_5).set 93 v93_6).set 94 v94_7).set 95 v94_7).set 96 v96_9).set 97 v97_10).set 98 v98_11).set 99 v99_12).set 100 v100_13).set 101 v101_14).set 102 v102_15).set 103 v103_16).set 104 v104_17).set 105 v105_18).set 106 v106_19).set 107 v107_20).set 108 v108_21).set 109 v109_22).set 110 v110_23).set 111 v111_24).set 112 v112_25).set 113 v113_26).set 114 v114_27).set 115 v115_28).set 8 v115_28) h22
@[congr] theorem octroilaw12_JournalLast_r13_congr {env : Env} {h : Hp} {K : Env → Hp → Prop} : octroilaw12_JournalLast_r13 env h K = octroilaw12_JournalLast_r13 env h K := rfl

def octroilaw12_JournalLast_D : Den := (sq (rg octroilaw12_JournalLast_r0) (sq (rg octroilaw12_JournalLast_r1) (sq (rg octroilaw12_JournalLast_r2) (sq (sq (rg octroilaw12_JournalLast_r3) (cnd (Go.Operand.tmp 43) (sq (rg octroilaw12_JournalLast_r4) (ex .ret)) (ex .normal))) (sq (sq (rg octroilaw12_JournalLast_r5) (blk 0 (lp octroilaw12_JournalLast_L0))) (sq (rg octroilaw12_JournalLast_r9) (sq (rg octroilaw12_JournalLast_r10) (sq (rg octroilaw12_JournalLast_r11) (sq (rg octroilaw12_JournalLast_r12) (sq (rg octroilaw12_JournalLast_r13) (ex .ret)))))))))))

theorem octroilaw12_JournalLast_eq : (den Try.prog 116 octroilaw12_JournalLast_code).1 = octroilaw12_JournalLast_D := by kernel_rfl

theorem octroilaw12_JournalLast_ok {args : Array Value} {h : Hp} {Q : Value → Hp → Prop} (hn : args.size ≤ 116) (D : octroilaw12_JournalLast_D (fin Try.prog [(Go.ResultVar.tmp 8)] Q) (env0 args) h) : Ok Try.prog 3 args h Q :=
  ok_of_den progIsOk Try.func3 (c := octroilaw12_JournalLast_code) (by kernel_rfl) hn (by show (den Try.prog 116 octroilaw12_JournalLast_code).1 _ _ _; rw [octroilaw12_JournalLast_eq]; exact D)

/-! ### octroi/octroilaw12.JournalSyncs: function 4 -/
noncomputable def octroilaw12_JournalSyncs_code : Code := match Try.f4.body with | some c => c | none => .skip

/-- more.go:35 -/
def octroilaw12_JournalSyncs_r0 (env : Env) (h : Hp) (K : Env → Hp → Prop) : Prop :=
  K (env.set 6 (Go.Value.bool false)) h
@[congr] theorem octroilaw12_JournalSyncs_r0_congr {env : Env} {h : Hp} {K : Env → Hp → Prop} : octroilaw12_JournalSyncs_r0 env h K = octroilaw12_JournalSyncs_r0 env h K := rfl

/-- more.go:36 -/
def octroilaw12_JournalSyncs_r1 (env : Env) (h : Hp) (K : Env → Hp → Prop) : Prop :=
  Ok Try.prog 9 #[] h fun v12_0 h1 =>
  K ((env.set 12 v12_0).set 7 v12_0) h1
@[congr] theorem octroilaw12_JournalSyncs_r1_congr {env : Env} {h : Hp} {K : Env → Hp → Prop} : octroilaw12_JournalSyncs_r1 env h K = octroilaw12_JournalSyncs_r1 env h K := rfl

/-- more.go:37 -/
def octroilaw12_JournalSyncs_r2 (env : Env) (h : Hp) (K : Env → Hp → Prop) : Prop :=
  Ok Try.prog 10 #[(Go.Value.int Go.IntKind.i64 1000)] h fun v13_0 h1 =>
  K ((env.set 13 v13_0).set 8 v13_0) h1
@[congr] theorem octroilaw12_JournalSyncs_r2_congr {env : Env} {h : Hp} {K : Env → Hp → Prop} : octroilaw12_JournalSyncs_r2 env h K = octroilaw12_JournalSyncs_r2 env h K := rfl

/-- more.go:38 -/
def octroilaw12_JournalSyncs_r3 (env : Env) (h : Hp) (K : Env → Hp → Prop) : Prop :=
  rd Try.prog (Op.unary Go.UnOp.not (env 7)) noHp fun v15_1 =>
  gd (yb v15_1 == some false) (fun h k => k (env 8) h) h fun v17_3 h1 =>
  gd (yb v15_1 == some false) (fun h k => rd Try.prog (bop Go.BinOp.eql 27 (Go.Operand.tmp 17) (Go.Operand.const (Go.Value.pointer none)) v17_3 (Go.Value.pointer none)) noHp fun v => k v h) h1 fun v18_4 h2 =>
  rd Try.prog (pck v15_1 (Go.Value.bool true) v18_4) noHp fun v19_5 =>
  gd (yb v19_5 == some false) (fun h k => k (env 0) h) h2 fun v21_7 h3 =>
  gd (yb v19_5 == some false) (fun h k => rd Try.prog (Builtin.len_ #[22] 3 #[v21_7]) h fun v => k v h) h3 fun v22_8 h4 =>
  gd (yb v19_5 == some false) (fun h k => rd Try.prog (bop Go.BinOp.gtr 3 (Go.Operand.tmp 22) (Go.Operand.const (Go.Value.int Go.IntKind.i64 150)) v22_8 (Go.Value.int Go.IntKind.i64 150)) noHp fun v => k v h) h4 fun v23_9 h5 =>
  rd Try.prog (pck v19_5 (Go.Value.bool true) v23_9) noHp fun v24_10 =>
  K (((((((((((env.set 14 (env 7)).set 15 v15_1).set 16 v15_1).set 17 v17_3).set 18 v18_4).set 19 v19_5).set 20 v19_5).set 21 v21_7).set 22 v22_8).set 23 v23_9).set 24 v24_10) h5
@[congr] theorem octroilaw12_JournalSyncs_r3_congr {env : Env} {h : Hp} {K : Env → Hp → Prop} : octroilaw12_JournalSyncs_r3 env h K = octroilaw12_JournalSyncs_r3 env h K := rfl

/-- more.go:39 -/
def octroilaw12_JournalSyncs_r4 (env : Env) (h : Hp) (K : Env → Hp → Prop) : Prop :=
  gd (yb (env 7) == some true) (fun h k => k (env 8) h) h fun v27_2 h1 =>
  gd (yb (env 7) == some true) (fun h k => rd Try.prog (bop Go.BinOp.neq 27 (Go.Operand.tmp 27) (Go.Operand.const (Go.Value.pointer none)) v27_2 (Go.Value.pointer none)) noHp fun v => k v h) h1 fun v28_3 h2 =>
  rd Try.prog (pck (env 7) v28_3 (Go.Value.bool false)) noHp fun v29_4 =>
  K ((((((env.set 25 (env 7)).set 26 (env 7)).set 27 v27_2).set 28 v28_3).set 29 v29_4).set 6 v29_4) h2
@[congr] theorem octroilaw12_JournalSyncs_r4_congr {env : Env} {h : Hp} {K : Env → Hp → Prop} : octroilaw12_JournalSyncs_r4 env h K = octroilaw12_JournalSyncs_r4 env h K := rfl

/-- more.go:41 -/
def octroilaw12_JournalSyncs_r5 (env : Env) (h : Hp) (K : Env → Hp → Prop) : Prop :=
  K (env.set 9 (Go.Value.int Go.IntKind.i64 0)) h
@[congr] theorem octroilaw12_JournalSyncs_r5_congr {env : Env} {h : Hp} {K : Env → Hp → Prop} : octroilaw12_JournalSyncs_r5 env h K = octroilaw12_JournalSyncs_r5 env h K := rfl

/-- more.go:41 -/
def octroilaw12_JournalSyncs_r6 (env : Env) (h : Hp) (K : Env → Hp → Prop) : Prop :=
  rd Try.prog (Builtin.len_ #[22] 3 #[(env 0)]) h fun v32_2 =>
  rd Try.prog (bop Go.BinOp.lss 3 (Go.Operand.tmp 30) (Go.Operand.tmp 32) (env 9) v32_2) noHp fun v33_3 =>
  K ((((env.set 30 (env 9)).set 31 (env 0)).set 32 v32_2).set 33 v33_3) h
@[congr] theorem octroilaw12_JournalSyncs_r6_congr {env : Env} {h : Hp} {K : Env → Hp → Prop} : octroilaw12_JournalSyncs_r6 env h K = octroilaw12_JournalSyncs_r6 env h K := rfl

/-- more.go:42 -/
def octroilaw12_JournalSyncs_r7 (env : Env) (h : Hp) (K : Env → Hp → Prop) : Prop :=
  rd Try.prog (Instr.indexAt 22 (env 0) (env 9)) noHp fun v39_3 =>
  rd Try.prog (Instr.loadAt 25 v39_3) h fun v40_4 =>
  Ok Try.prog 11 #[(env 8), v40_4] h fun v41_5 h1 =>
  K ((((((env.set 36 (env 8)).set 37 (env 0)).set 38 (env 9)).set 39 v39_3).set 40 v40_4).set 41 v41_5) h1
@[congr] theorem octroilaw12_JournalSyncs_r7_congr {env : Env} {h : Hp} {K : Env → Hp → Prop} : octroilaw12_JournalSyncs_r7 env h K = octroilaw12_JournalSyncs_r7 env h K := rfl

/-- more.go:41 -/
def octroilaw12_JournalSyncs_r8 (env : Env) (h : Hp) (K : Env → Hp → Prop) : Prop :=
  rd Try.prog (bop Go.BinOp.add 3 (Go.Operand.tmp 34) (Go.Operand.const (Go.Value.int Go.IntKind.i64 1)) (env 9) (Go.Value.int Go.IntKind.i64 1)) noHp fun v35_1 =>
  K (((env.set 34 (env 9)).set 35 v35_1).set 9 v35_1) h
@[congr] theorem octroilaw12_JournalSyncs_r8_congr {env : Env} {h : Hp} {K : Env → Hp → Prop} : octroilaw12_JournalSyncs_r8 env h K = octroilaw12_JournalSyncs_r8 env h K := rfl

def octroilaw12_JournalSyncs_L0 : Den := (sq (sq (rg octroilaw12_JournalSyncs_r6) (cnd (Go.Operand.tmp 33) (ex .normal) (ex (.exit 0)))) (sq (blk 1 (rg octroilaw12_JournalSyncs_r7)) (rg octroilaw12_JournalSyncs_r8)))

/-- more.go:44 -/
def octroilaw12_JournalSyncs_r9 (env : Env) (h : Hp) (K : Env → Hp → Prop) : Prop :=
  Ok Try.prog 13 #[(env 8)] h fun v43_1 h1 =>
  arun Try.prog (convert 34 9 v43_1) h1 fun v44_2 h2 =>
  K ((((env.set 42 (env 8)).set 43 v43_1).set 44 v44_2).set 10 v44_2) h2
@[congr] theorem octroilaw12_JournalSyncs_r9_congr {env : Env} {h : Hp} {K : Env → Hp → Prop} : octroilaw12_JournalSyncs_r9 env h K = octroilaw12_JournalSyncs_r9 env h K := rfl

/-- more.go:45 -/
def octroilaw12_JournalSyncs_r10 (env : Env) (h : Hp) (K : Env → Hp → Prop) : Prop :=
  Ok Try.prog 14 #[(env 8)] h fun v46_1 h1 =>
  K ((env.set 45 (env 8)).set 46 v46_1) h1
@[congr] theorem octroilaw12_JournalSyncs_r10_congr {env : Env} {h : Hp} {K : Env → Hp → Prop} : octroilaw12_JournalSyncs_r10 env h K = octroilaw12_JournalSyncs_r10 env h K := rfl

/-- more.go:46 -/
def octroilaw12_JournalSyncs_r11 (env : Env) (h : Hp) (K : Env → Hp → Prop) : Prop :=
  Ok Try.prog 15 #[(env 8), (env 1)] h fun v49_2 h1 =>
  K (((env.set 47 (env 8)).set 48 (env 1)).set 49 v49_2) h1
@[congr] theorem octroilaw12_JournalSyncs_r11_congr {env : Env} {h : Hp} {K : Env → Hp → Prop} : octroilaw12_JournalSyncs_r11 env h K = octroilaw12_JournalSyncs_r11 env h K := rfl

/-- more.go:47 -/
def octroilaw12_JournalSyncs_r12 (env : Env) (h : Hp) (K : Env → Hp → Prop) : Prop :=
  Ok Try.prog 13 #[(env 8)] h fun v51_1 h1 =>
  arun Try.prog (convert 34 9 v51_1) h1 fun v52_2 h2 =>
  K ((((env.set 50 (env 8)).set 51 v51_1).set 52 v52_2).set 11 v52_2) h2
@[congr] theorem octroilaw12_JournalSyncs_r12_congr {env : Env} {h : Hp} {K : Env → Hp → Prop} : octroilaw12_JournalSyncs_r12 env h K = octroilaw12_JournalSyncs_r12 env h K := rfl

/-- more.go:48 -/
def octroilaw12_JournalSyncs_r13 (env : Env) (h : Hp) (K : Env → Hp → Prop) : Prop :=
  Ok Try.prog 15 #[(env 8), (env 2)] h fun v55_2 h1 =>
  K (((env.set 53 (env 8)).set 54 (env 2)).set 55 v55_2) h1
@[congr] theorem octroilaw12_JournalSyncs_r13_congr {env : Env} {h : Hp} {K : Env → Hp → Prop} : octroilaw12_JournalSyncs_r13 env h K = octroilaw12_JournalSyncs_r13 env h K := rfl

/-- more.go:49 -/
def octroilaw12_JournalSyncs_r14 (env : Env) (h : Hp) (K : Env → Hp → Prop) : Prop :=
  rd Try.prog (bop Go.BinOp.eql 9 (Go.Operand.tmp 56) (Go.Operand.tmp 57) (env 11) (env 10)) noHp fun v58_2 =>
  gd (yb v58_2 == some true) (fun h k => k (env 8) h) h fun v60_4 h1 =>
  gd (yb v58_2 == some true) (fun h k => Ok Try.prog 13 #[v60_4] h k) h1 fun v61_5 h2 =>
  gd (yb v58_2 == some true) (fun h k => arun Try.prog (convert 34 9 v61_5) h k) h2 fun v62_6 h3 =>
  gd (yb v58_2 == some true) (fun h k => k (env 10) h) h3 fun v63_7 h4 =>
  gd (yb v58_2 == some true) (fun h k => rd Try.prog (bop Go.BinOp.eql 9 (Go.Operand.tmp 62) (Go.Operand.tmp 63) v62_6 v63_7) noHp fun v => k v h) h4 fun v64_8 h5 =>
  rd Try.prog (pck v58_2 v64_8 (Go.Value.bool false)) noHp fun v65_9 =>
  K (((((((((((env.set 56 (env 11)).set 57 (env 10)).set 58 v58_2).set 59 v58_2).set 60 v60_4).set 61 v61_5).set 62 v62_6).set 63 v63_7).set 64 v64_8).set 65 v65_9).set 6 v65_9) h5
@[congr] theorem octroilaw12_JournalSyncs_r14_congr {env : Env} {h : Hp} {K : Env → Hp → Prop} : octroilaw12_JournalSyncs_r14 env h K = octroilaw12_JournalSyncs_r14 env h K := rfl

def octroilaw12_JournalSyncs_D : Den := (sq (rg octroilaw12_JournalSyncs_r0) (sq (rg octroilaw12_JournalSyncs_r1) (sq (rg octroilaw12_JournalSyncs_r2) (sq (sq (rg octroilaw12_JournalSyncs_r3) (cnd (Go.Operand.tmp 24) (sq (rg octroilaw12_JournalSyncs_r4) (ex .ret)) (ex .normal))) (sq (sq (rg octroilaw12_JournalSyncs_r5) (blk 0 (lp octroilaw12_JournalSyncs_L0))) (sq (rg octroilaw12_JournalSyncs_r9) (sq (rg octroilaw12_JournalSyncs_r10) (sq (rg octroilaw12_JournalSyncs_r11) (sq (rg octroilaw12_JournalSyncs_r12) (sq (rg octroilaw12_JournalSyncs_r13) (sq (rg octroilaw12_JournalSyncs_r14) (ex .ret))))))))))))

theorem octroilaw12_JournalSyncs_eq : (den Try.prog 66 octroilaw12_JournalSyncs_code).1 = octroilaw12_JournalSyncs_D := by kernel_rfl

theorem octroilaw12_JournalSyncs_ok {args : Array Value} {h : Hp} {Q : Value → Hp → Prop} (hn : args.size ≤ 66) (D : octroilaw12_JournalSyncs_D (fin Try.prog [(Go.ResultVar.tmp 6)] Q) (env0 args) h) : Ok Try.prog 4 args h Q :=
  ok_of_den progIsOk Try.func4 (c := octroilaw12_JournalSyncs_code) (by kernel_rfl) hn (by show (den Try.prog 66 octroilaw12_JournalSyncs_code).1 _ _ _; rw [octroilaw12_JournalSyncs_eq]; exact D)

/-! ### octroi/octroilaw12.JournalFull: function 5 -/
noncomputable def octroilaw12_JournalFull_code : Code := match Try.f5.body with | some c => c | none => .skip

/-- more.go:10 -/
def octroilaw12_JournalFull_r0 (env : Env) (h : Hp) (K : Env → Hp → Prop) : Prop :=
  arun Try.prog (Instr.box 25 (env 2)) h fun v5_0 h1 =>
  K ((env.set 5 v5_0).set 6 (Go.Value.bool false)) h1
@[congr] theorem octroilaw12_JournalFull_r0_congr {env : Env} {h : Hp} {K : Env → Hp → Prop} : octroilaw12_JournalFull_r0 env h K = octroilaw12_JournalFull_r0 env h K := rfl

/-- more.go:11 -/
def octroilaw12_JournalFull_r1 (env : Env) (h : Hp) (K : Env → Hp → Prop) : Prop :=
  Ok Try.prog 9 #[] h fun v15_0 h1 =>
  K ((env.set 15 v15_0).set 7 v15_0) h1
@[congr] theorem octroilaw12_JournalFull_r1_congr {env : Env} {h : Hp} {K : Env → Hp → Prop} : octroilaw12_JournalFull_r1 env h K = octroilaw12_JournalFull_r1 env h K := rfl

/-- more.go:12 -/
def octroilaw12_JournalFull_r2 (env : Env) (h : Hp) (K : Env → Hp → Prop) : Prop :=
  Ok Try.prog 10 #[(env 0)] h fun v17_1 h1 =>
  K (((env.set 16 (env 0)).set 17 v17_1).set 8 v17_1) h1
@[congr] theorem octroilaw12_JournalFull_r2_congr {env : Env} {h : Hp} {K : Env → Hp → Prop} : octroilaw12_JournalFull_r2 env h K = octroilaw12_JournalFull_r2 env h K := rfl

/-- more.go:13 -/
def octroilaw12_JournalFull_r3 (env : Env) (h : Hp) (K : Env → Hp → Prop) : Prop :=
  rd Try.prog (Op.unary Go.UnOp.not (env 7)) noHp fun v19_1 =>
  gd (yb v19_1 == some false) (fun h k => k (env 8) h) h fun v21_3 h1 =>
  gd (yb v19_1 == some false) (fun h k => rd Try.prog (bop Go.BinOp.eql 27 (Go.Operand.tmp 21) (Go.Operand.const (Go.Value.pointer none)) v21_3 (Go.Value.pointer none)) noHp fun v => k v h) h1 fun v22_4 h2 =>
  rd Try.prog (pck v19_1 (Go.Value.bool true) v22_4) noHp fun v23_5 =>
  gd (yb v23_5 == some false) (fun h k => k (env 1) h) h2 fun v25_7 h3 =>
  gd (yb v23_5 == some false) (fun h k => rd Try.prog (Builtin.len_ #[22] 3 #[v25_7]) h fun v => k v h) h3 fun v26_8 h4 =>
  gd (yb v23_5 == some false) (fun h k => rd Try.prog (bop Go.BinOp.gtr 3 (Go.Operand.tmp 26) (Go.Operand.const (Go.Value.int Go.IntKind.i64 150)) v26_8 (Go.Value.int Go.IntKind.i64 150)) noHp fun v => k v h) h4 fun v27_9 h5 =>
  rd Try.prog (pck v23_5 (Go.Value.bool true) v27_9) noHp fun v28_10 =>
  gd (yb v28_10 == some false) (fun h k => k (env 0) h) h5 fun v30_12 h6 =>
  gd (yb v28_10 == some false) (fun h k => rd Try.prog (bop Go.BinOp.lss 3 (Go.Operand.tmp 30) (Go.Operand.const (Go.Value.int Go.IntKind.i64 1)) v30_12 (Go.Value.int Go.IntKind.i64 1)) noHp fun v => k v h) h6 fun v31_13 h7 =>
  rd Try.prog (pck v28_10 (Go.Value.bool true) v31_13) noHp fun v32_14 =>
  gd (yb v32_14 == some false) (fun h k => rd Try.prog (Instr.fieldAt 25 (env 5) 0) noHp fun v => k v h) h7 fun v34_16 h8 =>
  gd (yb v32_14 == some false) (fun h k => rd Try.prog (Instr.loadAt 3 v34_16) h fun v => k v h) h8 fun v35_17 h9 =>
  gd (yb v32_14 == some false) (fun h k => rd Try.prog (bop Go.BinOp.lss 3 (Go.Operand.tmp 35) (Go.Operand.const (Go.Value.int Go.IntKind.i64 0)) v35_17 (Go.Value.int Go.IntKind.i64 0)) noHp fun v => k v h) h9 fun v36_18 h10 =>
  rd Try.prog (pck v32_14 (Go.Value.bool true) v36_18) noHp fun v37_19 =>
  gd (yb v37_19 == some false) (fun h k => rd Try.prog (Instr.fieldAt 25 (env 5) 0) noHp fun v => k v h) h10 fun v39_21 h11 =>
  gd (yb v37_19 == some false) (fun h k => rd Try.prog (Instr.loadAt 3 v39_21) h fun v => k v h) h11 fun v40_22 h12 =>
  gd (yb v37_19 == some false) (fun h k => rd Try.prog (bop Go.BinOp.gtr 3 (Go.Operand.tmp 40) (Go.Operand.const (Go.Value.int Go.IntKind.i64 255)) v40_22 (Go.Value.int Go.IntKind.i64 255)) noHp fun v => k v h) h12 fun v41_23 h13 =>
  rd Try.prog (pck v37_19 (Go.Value.bool true) v41_23) noHp fun v42_24 =>
  K (((((((((((((((((((((((((env.set 18 (env 7)).set 19 v19_1).set 20 v19_1).set 21 v21_3).set 22 v22_4).set 23 v23_5).set 24 v23_5).set 25 v25_7).set 26 v26_8).set 27 v27_9).set 28 v28_10).set 29 v28_10).set 30 v30_12).set 31 v31_13).set 32 v32_14).set 33 v32_14).set 34 v34_16).set 35 v35_17).set 36 v36_18).set 37 v37_19).set 38 v37_19).set 39 v39_21).set 40 v40_22).set 41 v41_23).set 42 v42_24) h13
@[congr] theorem octroilaw12_JournalFull_r3_congr {env : Env} {h : Hp} {K : Env → Hp → Prop} : octroilaw12_JournalFull_r3 env h K = octroilaw12_JournalFull_r3 env h K := rfl

/-- more.go:14 -/
def octroilaw12_JournalFull_r4 (env : Env) (h : Hp) (K : Env → Hp → Prop) : Prop :=
  gd (yb (env 7) == some true) (fun h k => k (env 8) h) h fun v45_2 h1 =>
  gd (yb (env 7) == some true) (fun h k => rd Try.prog (bop Go.BinOp.neq 27 (Go.Operand.tmp 45) (Go.Operand.const (Go.Value.pointer none)) v45_2 (Go.Value.pointer none)) noHp fun v => k v h) h1 fun v46_3 h2 =>
  rd Try.prog (pck (env 7) v46_3 (Go.Value.bool false)) noHp fun v47_4 =>
  K ((((((env.set 43 (env 7)).set 44 (env 7)).set 45 v45_2).set 46 v46_3).set 47 v47_4).set 6 v47_4) h2
@[congr] theorem octroilaw12_JournalFull_r4_congr {env : Env} {h : Hp} {K : Env → Hp → Prop} : octroilaw12_JournalFull_r4 env h K = octroilaw12_JournalFull_r4 env h K := rfl

/-- more.go:16 -/
def octroilaw12_JournalFull_r5 (env : Env) (h : Hp) (K : Env → Hp → Prop) : Prop :=
  K (env.set 9 (Go.Value.int Go.IntKind.i64 0)) h
@[congr] theorem octroilaw12_JournalFull_r5_congr {env : Env} {h : Hp} {K : Env → Hp → Prop} : octroilaw12_JournalFull_r5 env h K = octroilaw12_JournalFull_r5 env h K := rfl

/-- more.go:16 -/
def octroilaw12_JournalFull_r6 (env : Env) (h : Hp) (K : Env → Hp → Prop) : Prop :=
  rd Try.prog (Builtin.len_ #[22] 3 #[(env 1)]) h fun v50_2 =>
  rd Try.prog (bop Go.BinOp.lss 3 (Go.Operand.tmp 48) (Go.Operand.tmp 50) (env 9) v50_2) noHp fun v51_3 =>
  K ((((env.set 48 (env 9)).set 49 (env 1)).set 50 v50_2).set 51 v51_3) h
@[congr] theorem octroilaw12_JournalFull_r6_congr {env : Env} {h : Hp} {K : Env → Hp → Prop} : octroilaw12_JournalFull_r6 env h K = octroilaw12_JournalFull_r6 env h K := rfl

/-- more.go:17 -/
def octroilaw12_JournalFull_r7 (env : Env) (h : Hp) (K : Env → Hp → Prop) : Prop :=
  rd Try.prog (Instr.indexAt 22 (env 1) (env 9)) noHp fun v57_3 =>
  rd Try.prog (Instr.loadAt 25 v57_3) h fun v58_4 =>
  Ok Try.prog 11 #[(env 8), v58_4] h fun v59_5 h1 =>
  K ((((((env.set 54 (env 8)).set 55 (env 1)).set 56 (env 9)).set 57 v57_3).set 58 v58_4).set 59 v59_5) h1
@[congr] theorem octroilaw12_JournalFull_r7_congr {env : Env} {h : Hp} {K : Env → Hp → Prop} : octroilaw12_JournalFull_r7 env h K = octroilaw12_JournalFull_r7 env h K := rfl

/-- more.go:16 -/
def octroilaw12_JournalFull_r8 (env : Env) (h : Hp) (K : Env → Hp → Prop) : Prop :=
  rd Try.prog (bop Go.BinOp.add 3 (Go.Operand.tmp 52) (Go.Operand.const (Go.Value.int Go.IntKind.i64 1)) (env 9) (Go.Value.int Go.IntKind.i64 1)) noHp fun v53_1 =>
  K (((env.set 52 (env 9)).set 53 v53_1).set 9 v53_1) h
@[congr] theorem octroilaw12_JournalFull_r8_congr {env : Env} {h : Hp} {K : Env → Hp → Prop} : octroilaw12_JournalFull_r8 env h K = octroilaw12_JournalFull_r8 env h K := rfl

def octroilaw12_JournalFull_L0 : Den := (sq (sq (rg octroilaw12_JournalFull_r6) (cnd (Go.Operand.tmp 51) (ex .normal) (ex (.exit 0)))) (sq (blk 1 (rg octroilaw12_JournalFull_r7)) (rg octroilaw12_JournalFull_r8)))

/-- more.go:19 -/
def octroilaw12_JournalFull_r9 (env : Env) (h : Hp) (K : Env → Hp → Prop) : Prop :=
  Ok Try.prog 16 #[(env 8)] h fun v61_1 h1 =>
  K (((env.set 60 (env 8)).set 61 v61_1).set 10 v61_1) h1
@[congr] theorem octroilaw12_JournalFull_r9_congr {env : Env} {h : Hp} {K : Env → Hp → Prop} : octroilaw12_JournalFull_r9 env h K = octroilaw12_JournalFull_r9 env h K := rfl

/-- more.go:20 -/
def octroilaw12_JournalFull_r10 (env : Env) (h : Hp) (K : Env → Hp → Prop) : Prop :=
  Ok Try.prog 17 #[(env 8)] h fun v63_1 h1 =>
  K (((env.set 62 (env 8)).set 63 v63_1).set 11 v63_1) h1
@[congr] theorem octroilaw12_JournalFull_r10_congr {env : Env} {h : Hp} {K : Env → Hp → Prop} : octroilaw12_JournalFull_r10 env h K = octroilaw12_JournalFull_r10 env h K := rfl

/-- more.go:21 -/
def octroilaw12_JournalFull_r11 (env : Env) (h : Hp) (K : Env → Hp → Prop) : Prop :=
  rd Try.prog (Instr.loadAt 25 (env 5)) h fun v65_1 =>
  Ok Try.prog 11 #[(env 8), v65_1] h fun v66_2 h1 =>
  K ((((env.set 64 (env 8)).set 65 v65_1).set 66 v66_2).set 12 v66_2) h1
@[congr] theorem octroilaw12_JournalFull_r11_congr {env : Env} {h : Hp} {K : Env → Hp → Prop} : octroilaw12_JournalFull_r11 env h K = octroilaw12_JournalFull_r11 env h K := rfl

/-- more.go:22 -/
def octroilaw12_JournalFull_r12 (env : Env) (h : Hp) (K : Env → Hp → Prop) : Prop :=
  rd Try.prog (bop Go.BinOp.gtr 3 (Go.Operand.tmp 67) (Go.Operand.tmp 68) (env 10) (env 0)) noHp fun v69_2 =>
  gd (yb v69_2 == some false) (fun h k => k (env 12) h) h fun v71_4 h1 =>
  gd (yb v69_2 == some false) (fun h k => rd Try.prog (bop Go.BinOp.eql 29 (Go.Operand.tmp 71) (Go.Operand.const (Go.Value.int Go.IntKind.i64 4)) v71_4 (Go.Value.int Go.IntKind.i64 4)) noHp fun v => k v h) h1 fun v72_5 h2 =>
  gd (yb v69_2 == some false) (fun h k => k (env 10) h) h2 fun v73_6 h3 =>
  gd (yb v69_2 == some false) (fun h k => k (env 0) h) h3 fun v74_7 h4 =>
  gd (yb v69_2 == some false) (fun h k => rd Try.prog (bop Go.BinOp.eql 3 (Go.Operand.tmp 73) (Go.Operand.tmp 74) v73_6 v74_7) noHp fun v => k v h) h4 fun v75_8 h5 =>
  gd (yb v69_2 == some false) (fun h k => rd Try.prog (bop Go.BinOp.neq 4 (Go.Operand.tmp 72) (Go.Operand.tmp 75) v72_5 v75_8) noHp fun v => k v h) h5 fun v76_9 h6 =>
  rd Try.prog (pck v69_2 (Go.Value.bool true) v76_9) noHp fun v77_10 =>
  K (((((((((((env.set 67 (env 10)).set 68 (env 0)).set 69 v69_2).set 70 v69_2).set 71 v71_4).set 72 v72_5).set 73 v73_6).set 74 v74_7).set 75 v75_8).set 76 v76_9).set 77 v77_10) h6
@[congr] theorem octroilaw12_JournalFull_r12_congr {env : Env} {h : Hp} {K : Env → Hp → Prop} : octroilaw12_JournalFull_r12 env h K = octroilaw12_JournalFull_r12 env h K := rfl

/-- more.go:23 -/
def octroilaw12_JournalFull_r13 (env : Env) (h : Hp) (K : Env → Hp → Prop) : Prop :=
  K (env.set 6 (Go.Value.bool false)) h
@[congr] theorem octroilaw12_JournalFull_r13_congr {env : Env} {h : Hp} {K : Env → Hp → Prop} : octroilaw12_JournalFull_r13 env h K = octroilaw12_JournalFull_r13 env h K := rfl

/-- more.go:25 -/
def octroilaw12_JournalFull_r14 (env : Env) (h : Hp) (K : Env → Hp → Prop) : Prop :=
  rd Try.prog (bop Go.BinOp.neq 29 (Go.Operand.tmp 78) (Go.Operand.const (Go.Value.int Go.IntKind.i64 4)) (env 12) (Go.Value.int Go.IntKind.i64 4)) noHp fun v79_1 =>
  K ((env.set 78 (env 12)).set 79 v79_1) h
@[congr] theorem octroilaw12_JournalFull_r14_congr {env : Env} {h : Hp} {K : Env → Hp → Prop} : octroilaw12_JournalFull_r14 env h K = octroilaw12_JournalFull_r14 env h K := rfl

/-- more.go:26 -/
def octroilaw12_JournalFull_r15 (env : Env) (h : Hp) (K : Env → Hp → Prop) : Prop :=
  rd Try.prog (bop Go.BinOp.eql 29 (Go.Operand.tmp 80) (Go.Operand.const (Go.Value.int Go.IntKind.i64 0)) (env 12) (Go.Value.int Go.IntKind.i64 0)) noHp fun v81_1 =>
  K (((env.set 80 (env 12)).set 81 v81_1).set 6 v81_1) h
@[congr] theorem octroilaw12_JournalFull_r15_congr {env : Env} {h : Hp} {K : Env → Hp → Prop} : octroilaw12_JournalFull_r15 env h K = octroilaw12_JournalFull_r15 env h K := rfl

/-- more.go:28 -/
def octroilaw12_JournalFull_r16 (env : Env) (h : Hp) (K : Env → Hp → Prop) : Prop :=
  Ok Try.prog 17 #[(env 8)] h fun v83_1 h1 =>
  Ok Try.prog 18 #[v83_1, (env 11)] h1 fun v85_3 h2 =>
  K (((((env.set 82 (env 8)).set 83 v83_1).set 84 (env 11)).set 85 v85_3).set 13 v85_3) h2
@[congr] theorem octroilaw12_JournalFull_r16_congr {env : Env} {h : Hp} {K : Env → Hp → Prop} : octroilaw12_JournalFull_r16 env h K = octroilaw12_JournalFull_r16 env h K := rfl

/-- more.go:29 -/
def octroilaw12_JournalFull_r17 (env : Env) (h : Hp) (K : Env → Hp → Prop) : Prop :=
  Ok Try.prog 19 #[(env 8)] h fun v87_1 h1 =>
  K ((env.set 86 (env 8)).set 87 v87_1) h1
@[congr] theorem octroilaw12_JournalFull_r17_congr {env : Env} {h : Hp} {K : Env → Hp → Prop} : octroilaw12_JournalFull_r17 env h K = octroilaw12_JournalFull_r17 env h K := rfl

/-- more.go:30 -/
def octroilaw12_JournalFull_r18 (env : Env) (h : Hp) (K : Env → Hp → Prop) : Prop :=
  rd Try.prog (Instr.loadAt 25 (env 5)) h fun v89_1 =>
  Ok Try.prog 11 #[(env 8), v89_1] h fun v90_2 h1 =>
  K ((((env.set 88 (env 8)).set 89 v89_1).set 90 v90_2).set 14 v90_2) h1
@[congr] theorem octroilaw12_JournalFull_r18_congr {env : Env} {h : Hp} {K : Env → Hp → Prop} : octroilaw12_JournalFull_r18 env h K = octroilaw12_JournalFull_r18 env h K := rfl

/-- more.go:31 -/
def octroilaw12_JournalFull_r19 (env : Env) (h : Hp) (K : Env → Hp → Prop) : Prop :=
  gd (yb (env 13) == some true) (fun h k => k (env 14) h) h fun v93_2 h1 =>
  gd (yb (env 13) == some true) (fun h k => rd Try.prog (bop Go.BinOp.eql 29 (Go.Operand.tmp 93) (Go.Operand.const (Go.Value.int Go.IntKind.i64 0)) v93_2 (Go.Value.int Go.IntKind.i64 0)) noHp fun v => k v h) h1 fun v94_3 h2 =>
  gd (yb (env 13) == some true) (fun h k => k (env 11) h) h2 fun v95_4 h3 =>
  gd (yb (env 13) == some true) (fun h k => rd Try.prog (Builtin.len_ #[22] 3 #[v95_4]) h fun v => k v h) h3 fun v96_5 h4 =>
  gd (yb (env 13) == some true) (fun h k => k (env 0) h) h4 fun v97_6 h5 =>
  gd (yb (env 13) == some true) (fun h k => rd Try.prog (bop Go.BinOp.lss 3 (Go.Operand.tmp 96) (Go.Operand.tmp 97) v96_5 v97_6) noHp fun v => k v h) h5 fun v98_7 h6 =>
  gd (yb (env 13) == some true) (fun h k => rd Try.prog (bop Go.BinOp.eql 4 (Go.Operand.tmp 94) (Go.Operand.tmp 98) v94_3 v98_7) noHp fun v => k v h) h6 fun v99_8 h7 =>
  rd Try.prog (pck (env 13) v99_8 (Go.Value.bool false)) noHp fun v100_9 =>
  K (((((((((((env.set 91 (env 13)).set 92 (env 13)).set 93 v93_2).set 94 v94_3).set 95 v95_4).set 96 v96_5).set 97 v97_6).set 98 v98_7).set 99 v99_8).set 100 v100_9).set 6 v100_9) h7
@[congr] theorem octroilaw12_JournalFull_r19_congr {env : Env} {h : Hp} {K : Env → Hp → Prop} : octroilaw12_JournalFull_r19 env h K = octroilaw12_JournalFull_r19 env h K := rfl

def octroilaw12_JournalFull_D : Den := (sq (rg octroilaw12_JournalFull_r0) (sq (rg octroilaw12_JournalFull_r1) (sq (rg octroilaw12_JournalFull_r2) (sq (sq (rg octroilaw12_JournalFull_r3) (cnd (Go.Operand.tmp 42) (sq (rg octroilaw12_JournalFull_r4) (ex .ret)) (ex .normal))) (sq (sq (rg octroilaw12_JournalFull_r5) (blk 0 (lp octroilaw12_JournalFull_L0))) (sq (rg octroilaw12_JournalFull_r9) (sq (rg octroilaw12_JournalFull_r10) (sq (rg octroilaw12_JournalFull_r11) (sq (sq (rg octroilaw12_JournalFull_r12) (cnd (Go.Operand.tmp 77) (sq (rg octroilaw12_JournalFull_r13) (ex .ret)) (ex .normal))) (sq (sq (rg octroilaw12_JournalFull_r14) (cnd (Go.Operand.tmp 79) (sq (rg octroilaw12_JournalFull_r15) (ex .ret)) (ex .normal))) (sq (rg octroilaw12_JournalFull_r16) (sq (rg octroilaw12_JournalFull_r17) (sq (rg octroilaw12_JournalFull_r18) (sq (rg octroilaw12_JournalFull_r19) (ex .ret)))))))))))))))

theorem octroilaw12_JournalFull_eq : (den Try.prog 101 octroilaw12_JournalFull_code).1 = octroilaw12_JournalFull_D := by kernel_rfl

theorem octroilaw12_JournalFull_ok {args : Array Value} {h : Hp} {Q : Value → Hp → Prop} (hn : args.size ≤ 101) (D : octroilaw12_JournalFull_D (fin Try.prog [(Go.ResultVar.tmp 6)] Q) (env0 args) h) : Ok Try.prog 5 args h Q :=
  ok_of_den progIsOk Try.func5 (c := octroilaw12_JournalFull_code) (by kernel_rfl) hn (by show (den Try.prog 101 octroilaw12_JournalFull_code).1 _ _ _; rw [octroilaw12_JournalFull_eq]; exact D)

/-! ### octroi/octroilaw12.JournalLasts: function 6 -/
noncomputable def octroilaw12_JournalLasts_code : Code := match Try.f6.body with | some c => c | none => .skip

/-- law.go:64 -/
def octroilaw12_JournalLasts_r0 (env : Env) (h : Hp) (K : Env → Hp → Prop) : Prop :=
  K (env.set 6 (Go.Value.bool false)) h
@[congr] theorem octroilaw12_JournalLasts_r0_congr {env : Env} {h : Hp} {K : Env → Hp → Prop} : octroilaw12_JournalLasts_r0 env h K = octroilaw12_JournalLasts_r0 env h K := rfl

/-- law.go:65 -/
def octroilaw12_JournalLasts_r1 (env : Env) (h : Hp) (K : Env → Hp → Prop) : Prop :=
  Ok Try.prog 9 #[] h fun v15_0 h1 =>
  K ((env.set 15 v15_0).set 7 v15_0) h1
@[congr] theorem octroilaw12_JournalLasts_r1_congr {env : Env} {h : Hp} {K : Env → Hp → Prop} : octroilaw12_JournalLasts_r1 env h K = octroilaw12_JournalLasts_r1 env h K := rfl

/-- law.go:66 -/
def octroilaw12_JournalLasts_r2 (env : Env) (h : Hp) (K : Env → Hp → Prop) : Prop :=
  Ok Try.prog 10 #[(Go.Value.int Go.IntKind.i64 1000)] h fun v16_0 h1 =>
  K ((env.set 16 v16_0).set 8 v16_0) h1
@[congr] theorem octroilaw12_JournalLasts_r2_congr {env : Env} {h : Hp} {K : Env → Hp → Prop} : octroilaw12_JournalLasts_r2 env h K = octroilaw12_JournalLasts_r2 env h K := rfl

/-- law.go:67 -/
def octroilaw12_JournalLasts_r3 (env : Env) (h : Hp) (K : Env → Hp → Prop) : Prop :=
  rd Try.prog (Op.unary Go.UnOp.not (env 7)) noHp fun v18_1 =>
  gd (yb v18_1 == some false) (fun h k => k (env 8) h) h fun v20_3 h1 =>
  gd (yb v18_1 == some false) (fun h k => rd Try.prog (bop Go.BinOp.eql 27 (Go.Operand.tmp 20) (Go.Operand.const (Go.Value.pointer none)) v20_3 (Go.Value.pointer none)) noHp fun v => k v h) h1 fun v21_4 h2 =>
  rd Try.prog (pck v18_1 (Go.Value.bool true) v21_4) noHp fun v22_5 =>
  gd (yb v22_5 == some false) (fun h k => k (env 0) h) h2 fun v24_7 h3 =>
  gd (yb v22_5 == some false) (fun h k => rd Try.prog (Builtin.len_ #[22] 3 #[v24_7]) h fun v => k v h) h3 fun v25_8 h4 =>
  gd (yb v22_5 == some false) (fun h k => rd Try.prog (bop Go.BinOp.gtr 3 (Go.Operand.tmp 25) (Go.Operand.const (Go.Value.int Go.IntKind.i64 150)) v25_8 (Go.Value.int Go.IntKind.i64 150)) noHp fun v => k v h) h4 fun v26_9 h5 =>
  rd Try.prog (pck v22_5 (Go.Value.bool true) v26_9) noHp fun v27_10 =>
  gd (yb v27_10 == some false) (fun h k => k (env 1) h) h5 fun v29_12 h6 =>
  gd (yb v27_10 == some false) (fun h k => rd Try.prog (bop Go.BinOp.lss 3 (Go.Operand.tmp 29) (Go.Operand.const (Go.Value.int Go.IntKind.i64 0)) v29_12 (Go.Value.int Go.IntKind.i64 0)) noHp fun v => k v h) h6 fun v30_13 h7 =>
  rd Try.prog (pck v27_10 (Go.Value.bool true) v30_13) noHp fun v31_14 =>
  gd (yb v31_14 == some false) (fun h k => k (env 1) h) h7 fun v33_16 h8 =>
  gd (yb v31_14 == some false) (fun h k => k (env 0) h) h8 fun v34_17 h9 =>
  gd (yb v31_14 == some false) (fun h k => rd Try.prog (Builtin.len_ #[22] 3 #[v34_17]) h fun v => k v h) h9 fun v35_18 h10 =>
  gd (yb v31_14 == some false) (fun h k => rd Try.prog (bop Go.BinOp.gtr 3 (Go.Operand.tmp 33) (Go.Operand.tmp 35) v33_16 v35_18) noHp fun v => k v h) h10 fun v36_19 h11 =>
  rd Try.prog (pck v31_14 (Go.Value.bool true) v36_19) noHp fun v37_20 =>
  K (((((((((((((((((((((env.set 17 (env 7)).set 18 v18_1).set 19 v18_1).set 20 v20_3).set 21 v21_4).set 22 v22_5).set 23 v22_5).set 24 v24_7).set 25 v25_8).set 26 v26_9).set 27 v27_10).set 28 v27_10).set 29 v29_12).set 30 v30_13).set 31 v31_14).set 32 v31_14).set 33 v33_16).set 34 v34_17).set 35 v35_18).set 36 v36_19).set 37 v37_20) h11
@[congr] theorem octroilaw12_JournalLasts_r3_congr {env : Env} {h : Hp} {K : Env → Hp → Prop} : octroilaw12_JournalLasts_r3 env h K = octroilaw12_JournalLasts_r3 env h K := rfl

/-- law.go:68 -/
def octroilaw12_JournalLasts_r4 (env : Env) (h : Hp) (K : Env → Hp → Prop) : Prop :=
  gd (yb (env 7) == some true) (fun h k => k (env 8) h) h fun v40_2 h1 =>
  gd (yb (env 7) == some true) (fun h k => rd Try.prog (bop Go.BinOp.neq 27 (Go.Operand.tmp 40) (Go.Operand.const (Go.Value.pointer none)) v40_2 (Go.Value.pointer none)) noHp fun v => k v h) h1 fun v41_3 h2 =>
  rd Try.prog (pck (env 7) v41_3 (Go.Value.bool false)) noHp fun v42_4 =>
  K ((((((env.set 38 (env 7)).set 39 (env 7)).set 40 v40_2).set 41 v41_3).set 42 v42_4).set 6 v42_4) h2
@[congr] theorem octroilaw12_JournalLasts_r4_congr {env : Env} {h : Hp} {K : Env → Hp → Prop} : octroilaw12_JournalLasts_r4 env h K = octroilaw12_JournalLasts_r4 env h K := rfl

/-- law.go:70 -/
def octroilaw12_JournalLasts_r5 (env : Env) (h : Hp) (K : Env → Hp → Prop) : Prop :=
  K (env.set 9 (Go.Value.int Go.IntKind.i64 0)) h
@[congr] theorem octroilaw12_JournalLasts_r5_congr {env : Env} {h : Hp} {K : Env → Hp → Prop} : octroilaw12_JournalLasts_r5 env h K = octroilaw12_JournalLasts_r5 env h K := rfl

/-- law.go:70 -/
def octroilaw12_JournalLasts_r6 (env : Env) (h : Hp) (K : Env → Hp → Prop) : Prop :=
  rd Try.prog (Builtin.len_ #[22] 3 #[(env 0)]) h fun v45_2 =>
  rd Try.prog (bop Go.BinOp.lss 3 (Go.Operand.tmp 43) (Go.Operand.tmp 45) (env 9) v45_2) noHp fun v46_3 =>
  K ((((env.set 43 (env 9)).set 44 (env 0)).set 45 v45_2).set 46 v46_3) h
@[congr] theorem octroilaw12_JournalLasts_r6_congr {env : Env} {h : Hp} {K : Env → Hp → Prop} : octroilaw12_JournalLasts_r6 env h K = octroilaw12_JournalLasts_r6 env h K := rfl

/-- law.go:71 -/
def octroilaw12_JournalLasts_r7 (env : Env) (h : Hp) (K : Env → Hp → Prop) : Prop :=
  rd Try.prog (Instr.indexAt 22 (env 0) (env 9)) noHp fun v52_3 =>
  rd Try.prog (Instr.loadAt 25 v52_3) h fun v53_4 =>
  Ok Try.prog 11 #[(env 8), v53_4] h fun v54_5 h1 =>
  K (((((((env.set 49 (env 8)).set 50 (env 0)).set 51 (env 9)).set 52 v52_3).set 53 v53_4).set 54 v54_5).set 10 v54_5) h1
@[congr] theorem octroilaw12_JournalLasts_r7_congr {env : Env} {h : Hp} {K : Env → Hp → Prop} : octroilaw12_JournalLasts_r7 env h K = octroilaw12_JournalLasts_r7 env h K := rfl

/-- law.go:72 -/
def octroilaw12_JournalLasts_r8 (env : Env) (h : Hp) (K : Env → Hp → Prop) : Prop :=
  rd Try.prog (bop Go.BinOp.neq 29 (Go.Operand.tmp 55) (Go.Operand.const (Go.Value.int Go.IntKind.i64 0)) (env 10) (Go.Value.int Go.IntKind.i64 0)) noHp fun v56_1 =>
  K ((env.set 55 (env 10)).set 56 v56_1) h
@[congr] theorem octroilaw12_JournalLasts_r8_congr {env : Env} {h : Hp} {K : Env → Hp → Prop} : octroilaw12_JournalLasts_r8 env h K = octroilaw12_JournalLasts_r8 env h K := rfl

/-- law.go:73 -/
def octroilaw12_JournalLasts_r9 (env : Env) (h : Hp) (K : Env → Hp → Prop) : Prop :=
  rd Try.prog (bop Go.BinOp.eql 29 (Go.Operand.tmp 57) (Go.Operand.const (Go.Value.int Go.IntKind.i64 1)) (env 10) (Go.Value.int Go.IntKind.i64 1)) noHp fun v58_1 =>
  K (((env.set 57 (env 10)).set 58 v58_1).set 6 v58_1) h
@[congr] theorem octroilaw12_JournalLasts_r9_congr {env : Env} {h : Hp} {K : Env → Hp → Prop} : octroilaw12_JournalLasts_r9 env h K = octroilaw12_JournalLasts_r9 env h K := rfl

/-- law.go:75 -/
def octroilaw12_JournalLasts_r10 (env : Env) (h : Hp) (K : Env → Hp → Prop) : Prop :=
  rd Try.prog (bop Go.BinOp.add 3 (Go.Operand.tmp 59) (Go.Operand.const (Go.Value.int Go.IntKind.i64 1)) (env 9) (Go.Value.int Go.IntKind.i64 1)) noHp fun v60_1 =>
  rd Try.prog (bop Go.BinOp.eql 3 (Go.Operand.tmp 60) (Go.Operand.tmp 61) v60_1 (env 1)) noHp fun v62_3 =>
  K ((((env.set 59 (env 9)).set 60 v60_1).set 61 (env 1)).set 62 v62_3) h
@[congr] theorem octroilaw12_JournalLasts_r10_congr {env : Env} {h : Hp} {K : Env → Hp → Prop} : octroilaw12_JournalLasts_r10 env h K = octroilaw12_JournalLasts_r10 env h K := rfl

/-- law.go:76 -/
def octroilaw12_JournalLasts_r11 (env : Env) (h : Hp) (K : Env → Hp → Prop) : Prop :=
  Ok Try.prog 14 #[(env 8)] h fun v64_1 h1 =>
  K ((env.set 63 (env 8)).set 64 v64_1) h1
@[congr] theorem octroilaw12_JournalLasts_r11_congr {env : Env} {h : Hp} {K : Env → Hp → Prop} : octroilaw12_JournalLasts_r11 env h K = octroilaw12_JournalLasts_r11 env h K := rfl

/-- law.go:70 -/
def octroilaw12_JournalLasts_r12 (env : Env) (h : Hp) (K : Env → Hp → Prop) : Prop :=
  rd Try.prog (bop Go.BinOp.add 3 (Go.Operand.tmp 47) (Go.Operand.const (Go.Value.int Go.IntKind.i64 1)) (env 9) (Go.Value.int Go.IntKind.i64 1)) noHp fun v48_1 =>
  K (((env.set 47 (env 9)).set 48 v48_1).set 9 v48_1) h
@[congr] theorem octroilaw12_JournalLasts_r12_congr {env : Env} {h : Hp} {K : Env → Hp → Prop} : octroilaw12_JournalLasts_r12 env h K = octroilaw12_JournalLasts_r12 env h K := rfl

def octroilaw12_JournalLasts_L0 : Den := (sq (sq (rg octroilaw12_JournalLasts_r6) (cnd (Go.Operand.tmp 46) (ex .normal) (ex (.exit 0)))) (sq (blk 1 (sq (rg octroilaw12_JournalLasts_r7) (sq (sq (rg octroilaw12_JournalLasts_r8) (cnd (Go.Operand.tmp 56) (sq (rg octroilaw12_JournalLasts_r9) (ex .ret)) (ex .normal))) (sq (rg octroilaw12_JournalLasts_r10) (cnd (Go.Operand.tmp 62) (rg octroilaw12_JournalLasts_r11) (ex .normal)))))) (rg octroilaw12_JournalLasts_r12)))

/-- law.go:79 -/
def octroilaw12_JournalLasts_r13 (env : Env) (h : Hp) (K : Env → Hp → Prop) : Prop :=
  Ok Try.prog 15 #[(env 8), (env 2)] h fun v67_2 h1 =>
  K (((env.set 65 (env 8)).set 66 (env 2)).set 67 v67_2) h1
@[congr] theorem octroilaw12_JournalLasts_r13_congr {env : Env} {h : Hp} {K : Env → Hp → Prop} : octroilaw12_JournalLasts_r13 env h K = octroilaw12_JournalLasts_r13 env h K := rfl

/-- law.go:80 -/
def octroilaw12_JournalLasts_r14 (env : Env) (h : Hp) (K : Env → Hp → Prop) : Prop :=
  Ok Try.prog 16 #[(env 8)] h fun v69_1 h1 =>
  K (((env.set 68 (env 8)).set 69 v69_1).set 11 v69_1) h1
@[congr] theorem octroilaw12_JournalLasts_r14_congr {env : Env} {h : Hp} {K : Env → Hp → Prop} : octroilaw12_JournalLasts_r14 env h K = octroilaw12_JournalLasts_r14 env h K := rfl

/-- law.go:81 -/
def octroilaw12_JournalLasts_r15 (env : Env) (h : Hp) (K : Env → Hp → Prop) : Prop :=
  rd Try.prog (bop Go.BinOp.lss 3 (Go.Operand.tmp 70) (Go.Operand.tmp 71) (env 11) (env 1)) noHp fun v72_2 =>
  gd (yb v72_2 == some false) (fun h k => k (env 11) h) h fun v74_4 h1 =>
  gd (yb v72_2 == some false) (fun h k => k (env 0) h) h1 fun v75_5 h2 =>
  gd (yb v72_2 == some false) (fun h k => rd Try.prog (Builtin.len_ #[22] 3 #[v75_5]) h fun v => k v h) h2 fun v76_6 h3 =>
  gd (yb v72_2 == some false) (fun h k => rd Try.prog (bop Go.BinOp.gtr 3 (Go.Operand.tmp 74) (Go.Operand.tmp 76) v74_4 v76_6) noHp fun v => k v h) h3 fun v77_7 h4 =>
  rd Try.prog (pck v72_2 (Go.Value.bool true) v77_7) noHp fun v78_8 =>
  K (((((((((env.set 70 (env 11)).set 71 (env 1)).set 72 v72_2).set 73 v72_2).set 74 v74_4).set 75 v75_5).set 76 v76_6).set 77 v77_7).set 78 v78_8) h4
@[congr] theorem octroilaw12_JournalLasts_r15_congr {env : Env} {h : Hp} {K : Env → Hp → Prop} : octroilaw12_JournalLasts_r15 env h K = octroilaw12_JournalLasts_r15 env h K := rfl

/-- law.go:82 -/
def octroilaw12_JournalLasts_r16 (env : Env) (h : Hp) (K : Env → Hp → Prop) : Prop :=
  K (env.set 6 (Go.Value.bool false)) h
@[congr] theorem octroilaw12_JournalLasts_r16_congr {env : Env} {h : Hp} {K : Env → Hp → Prop} : octroilaw12_JournalLasts_r16 env h K = octroilaw12_JournalLasts_r16 env h K := rfl

/-- law.go:84 -/
def octroilaw12_JournalLasts_r17 (env : Env) (h : Hp) (K : Env → Hp → Prop) : Prop :=
  Ok Try.prog 10 #[(Go.Value.int Go.IntKind.i64 1000)] h fun v79_0 h1 =>
  K ((env.set 79 v79_0).set 12 v79_0) h1
@[congr] theorem octroilaw12_JournalLasts_r17_congr {env : Env} {h : Hp} {K : Env → Hp → Prop} : octroilaw12_JournalLasts_r17 env h K = octroilaw12_JournalLasts_r17 env h K := rfl

/-- law.go:85 -/
def octroilaw12_JournalLasts_r18 (env : Env) (h : Hp) (K : Env → Hp → Prop) : Prop :=
  rd Try.prog (bop Go.BinOp.eql 27 (Go.Operand.tmp 80) (Go.Operand.const (Go.Value.pointer none)) (env 12) (Go.Value.pointer none)) noHp fun v81_1 =>
  K ((env.set 80 (env 12)).set 81 v81_1) h
@[congr] theorem octroilaw12_JournalLasts_r18_congr {env : Env} {h : Hp} {K : Env → Hp → Prop} : octroilaw12_JournalLasts_r18 env h K = octroilaw12_JournalLasts_r18 env h K := rfl

/-- law.go:86 -/
def octroilaw12_JournalLasts_r19 (env : Env) (h : Hp) (K : Env → Hp → Prop) : Prop :=
  K (env.set 6 (Go.Value.bool false)) h
@[congr] theorem octroilaw12_JournalLasts_r19_congr {env : Env} {h : Hp} {K : Env → Hp → Prop} : octroilaw12_JournalLasts_r19 env h K = octroilaw12_JournalLasts_r19 env h K := rfl

/-- law.go:88 -/
def octroilaw12_JournalLasts_r20 (env : Env) (h : Hp) (K : Env → Hp → Prop) : Prop :=
  K (env.set 13 (Go.Value.int Go.IntKind.i64 0)) h
@[congr] theorem octroilaw12_JournalLasts_r20_congr {env : Env} {h : Hp} {K : Env → Hp → Prop} : octroilaw12_JournalLasts_r20 env h K = octroilaw12_JournalLasts_r20 env h K := rfl

/-- law.go:88 -/
def octroilaw12_JournalLasts_r21 (env : Env) (h : Hp) (K : Env → Hp → Prop) : Prop :=
  rd Try.prog (bop Go.BinOp.lss 3 (Go.Operand.tmp 82) (Go.Operand.tmp 83) (env 13) (env 11)) noHp fun v84_2 =>
  K (((env.set 82 (env 13)).set 83 (env 11)).set 84 v84_2) h
@[congr] theorem octroilaw12_JournalLasts_r21_congr {env : Env} {h : Hp} {K : Env → Hp → Prop} : octroilaw12_JournalLasts_r21 env h K = octroilaw12_JournalLasts_r21 env h K := rfl

/-- law.go:89 -/
def octroilaw12_JournalLasts_r22 (env : Env) (h : Hp) (K : Env → Hp → Prop) : Prop :=
  rd Try.prog (Instr.indexAt 22 (env 0) (env 13)) noHp fun v90_3 =>
  rd Try.prog (Instr.loadAt 25 v90_3) h fun v91_4 =>
  Ok Try.prog 11 #[(env 12), v91_4] h fun v92_5 h1 =>
  K ((((((env.set 87 (env 12)).set 88 (env 0)).set 89 (env 13)).set 90 v90_3).set 91 v91_4).set 92 v92_5) h1
@[congr] theorem octroilaw12_JournalLasts_r22_congr {env : Env} {h : Hp} {K : Env → Hp → Prop} : octroilaw12_JournalLasts_r22 env h K = octroilaw12_JournalLasts_r22 env h K := rfl

/-- law.go:88 -/
def octroilaw12_JournalLasts_r23 (env : Env) (h : Hp) (K : Env → Hp → Prop) : Prop :=
  rd Try.prog (bop Go.BinOp.add 3 (Go.Operand.tmp 85) (Go.Operand.const (Go.Value.int Go.IntKind.i64 1)) (env 13) (Go.Value.int Go.IntKind.i64 1)) noHp fun v86_1 =>
  K (((env.set 85 (env 13)).set 86 v86_1).set 13 v86_1) h
@[congr] theorem octroilaw12_JournalLasts_r23_congr {env : Env} {h : Hp} {K : Env → Hp → Prop} : octroilaw12_JournalLasts_r23 env h K = octroilaw12_JournalLasts_r23 env h K := rfl

def octroilaw12_JournalLasts_L1 : Den := (sq (sq (rg octroilaw12_JournalLasts_r21) (cnd (Go.Operand.tmp 84) (ex .normal) (ex (.exit 2)))) (sq (blk 3 (rg octroilaw12_JournalLasts_r22)) (rg octroilaw12_JournalLasts_r23)))

/-- law.go:91 -/
def octroilaw12_JournalLasts_r24 (env : Env) (h : Hp) (K : Env → Hp → Prop) : Prop :=
  Ok Try.prog 17 #[(env 8)] h fun v94_1 h1 =>
  Ok Try.prog 17 #[(env 12)] h1 fun v96_3 h2 =>
  Ok Try.prog 18 #[v94_1, v96_3] h2 fun v97_4 h3 =>
  K ((((((env.set 93 (env 8)).set 94 v94_1).set 95 (env 12)).set 96 v96_3).set 97 v97_4).set 14 v97_4) h3
@[congr] theorem octroilaw12_JournalLasts_r24_congr {env : Env} {h : Hp} {K : Env → Hp → Prop} : octroilaw12_JournalLasts_r24 env h K = octroilaw12_JournalLasts_r24 env h K := rfl

/-- law.go:92 (in any order) -/
def octroilaw12_JournalLasts_r25 (env : Env) (h : Hp) (K : Env → Hp → Prop) : Prop :=
  gd (yb (env 14) == some true) (fun h k => k (env 8) h) h fun v100_2 h1 =>
  gd (yb (env 14) == some true) (fun h k => k (env 12) h) h1 fun v103_3 h2 =>
  gd (yb (env 14) == some true) (fun h k => Ok Try.prog 13 #[v100_2] h k) h2 fun v101_4 h3 =>
  (True) ∧
  (gd (yb (env 14) == some true) (fun h k => arun Try.prog (convert 34 9 v101_4) h k) h3 fun v102_5 h4 =>
  (True) ∧
  gd (yb (env 14) == some true) (fun h k => Ok Try.prog 13 #[v103_3] h k) h4 fun v104_6 h5 =>
  (True) ∧
  gd (yb (env 14) == some true) (fun h k => arun Try.prog (convert 34 9 v104_6) h k) h5 fun v105_7 h6 =>
  (True) ∧
  gd (yb (env 14) == some true) (fun h k => rd Try.prog (bop Go.BinOp.eql 9 (Go.Operand.tmp 102) (Go.Operand.tmp 105) v102_5 v105_7) noHp fun v => k v h) h6 fun v106_8 h7 =>
  rd Try.prog (pck (env 14) v106_8 (Go.Value.bool false)) noHp fun v107_9 =>
  K (((((((((((env.set 98 (env 14)).set 99 (env 14)).set 100 v100_2).set 103 v103_3).set 101 v101_4).set 102 v102_5).set 104 v104_6).set 105 v105_7).set 106 v106_8).set 107 v107_9).set 6 v107_9) h7) ∧
(gd (yb (env 14) == some true) (fun h k => Ok Try.prog 13 #[v103_3] h k) h3 fun v104_11 h8 =>
  (True) ∧
  (gd (yb (env 14) == some true) (fun h k => arun Try.prog (convert 34 9 v101_4) h k) h8 fun v102_12 h9 =>
  (True) ∧
  gd (yb (env 14) == some true) (fun h k => arun Try.prog (convert 34 9 v104_11) h k) h9 fun v105_13 h10 =>
  (True) ∧
  gd (yb (env 14) == some true) (fun h k => rd Try.prog (bop Go.BinOp.eql 9 (Go.Operand.tmp 102) (Go.Operand.tmp 105) v102_12 v105_13) noHp fun v => k v h) h10 fun v106_14 h11 =>
  rd Try.prog (pck (env 14) v106_14 (Go.Value.bool false)) noHp fun v107_15 =>
  K (((((((((((env.set 98 (env 14)).set 99 (env 14)).set 100 v100_2).set 103 v103_3).set 101 v101_4).set 104 v104_11).set 102 v102_12).set 105 v105_13).set 106 v106_14).set 107 v107_15).set 6 v107_15) h11) ∧
(gd (yb (env 14) == some true) (fun h k => arun Try.prog (convert 34 9 v104_11) h k) h8 fun v105_17 h12 =>
  (True) ∧
  gd (yb (env 14) == some true) (fun h k => arun Try.prog (convert 34 9 v101_4) h k) h12 fun v102_18 h13 =>
  (True) ∧
  gd (yb (env 14) == some true) (fun h k => rd Try.prog (bop Go.BinOp.eql 9 (Go.Operand.tmp 102) (Go.Operand.tmp 105) v102_18 v105_17) noHp fun v => k v h) h13 fun v106_19 h14 =>
  rd Try.prog (pck (env 14) v106_19 (Go.Value.bool false)) noHp fun v107_20 =>
  K (((((((((((env.set 98 (env 14)).set 99 (env 14)).set 100 v100_2).set 103 v103_3).set 101 v101_4).set 104 v104_11).set 105 v105_17).set 102 v102_18).set 106 v106_19).set 107 v107_20).set 6 v107_20) h14))
@[congr] theorem octroilaw12_JournalLasts_r25_congr {env : Env} {h : Hp} {K : Env → Hp → Prop} : octroilaw12_JournalLasts_r25 env h K = octroilaw12_JournalLasts_r25 env h K := rfl

def octroilaw12_JournalLasts_D : Den := (sq (rg octroilaw12_JournalLasts_r0) (sq (rg octroilaw12_JournalLasts_r1) (sq (rg octroilaw12_JournalLasts_r2) (sq (sq (rg octroilaw12_JournalLasts_r3) (cnd (Go.Operand.tmp 37) (sq (rg octroilaw12_JournalLasts_r4) (ex .ret)) (ex .normal))) (sq (sq (rg octroilaw12_JournalLasts_r5) (blk 0 (lp octroilaw12_JournalLasts_L0))) (sq (rg octroilaw12_JournalLasts_r13) (sq (rg octroilaw12_JournalLasts_r14) (sq (sq (rg octroilaw12_JournalLasts_r15) (cnd (Go.Operand.tmp 78) (sq (rg octroilaw12_JournalLasts_r16) (ex .ret)) (ex .normal))) (sq (rg octroilaw12_JournalLasts_r17) (sq (sq (rg octroilaw12_JournalLasts_r18) (cnd (Go.Operand.tmp 81) (sq (rg octroilaw12_JournalLasts_r19) (ex .ret)) (ex .normal))) (sq (sq (rg octroilaw12_JournalLasts_r20) (blk 2 (lp octroilaw12_JournalLasts_L1))) (sq (rg octroilaw12_JournalLasts_r24) (sq (rg octroilaw12_JournalLasts_r25) (ex .ret))))))))))))))

theorem octroilaw12_JournalLasts_eq : (den Try.prog 108 octroilaw12_JournalLasts_code).1 = octroilaw12_JournalLasts_D := by kernel_rfl

theorem octroilaw12_JournalLasts_ok {args : Array Value} {h : Hp} {Q : Value → Hp → Prop} (hn : args.size ≤ 108) (D : octroilaw12_JournalLasts_D (fin Try.prog [(Go.ResultVar.tmp 6)] Q) (env0 args) h) : Ok Try.prog 6 args h Q :=
  ok_of_den progIsOk Try.func6 (c := octroilaw12_JournalLasts_code) (by kernel_rfl) hn (by show (den Try.prog 108 octroilaw12_JournalLasts_code).1 _ _ _; rw [octroilaw12_JournalLasts_eq]; exact D)

/-! ### octroi/octroilaw12.JournalDoes: function 7 -/
noncomputable def octroilaw12_JournalDoes_code : Code := match Try.f7.body with | some c => c | none => .skip

/-- law.go:31 -/
def octroilaw12_JournalDoes_r0 (env : Env) (h : Hp) (K : Env → Hp → Prop) : Prop :=
  K (env.set 4 (Go.Value.bool false)) h
@[congr] theorem octroilaw12_JournalDoes_r0_congr {env : Env} {h : Hp} {K : Env → Hp → Prop} : octroilaw12_JournalDoes_r0 env h K = octroilaw12_JournalDoes_r0 env h K := rfl

/-- law.go:32 -/
def octroilaw12_JournalDoes_r1 (env : Env) (h : Hp) (K : Env → Hp → Prop) : Prop :=
  Ok Try.prog 9 #[] h fun v15_0 h1 =>
  K ((env.set 15 v15_0).set 5 v15_0) h1
@[congr] theorem octroilaw12_JournalDoes_r1_congr {env : Env} {h : Hp} {K : Env → Hp → Prop} : octroilaw12_JournalDoes_r1 env h K = octroilaw12_JournalDoes_r1 env h K := rfl

/-- law.go:33 -/
def octroilaw12_JournalDoes_r2 (env : Env) (h : Hp) (K : Env → Hp → Prop) : Prop :=
  Ok Try.prog 10 #[(env 0)] h fun v17_1 h1 =>
  K (((env.set 16 (env 0)).set 17 v17_1).set 6 v17_1) h1
@[congr] theorem octroilaw12_JournalDoes_r2_congr {env : Env} {h : Hp} {K : Env → Hp → Prop} : octroilaw12_JournalDoes_r2 env h K = octroilaw12_JournalDoes_r2 env h K := rfl

/-- law.go:34 -/
def octroilaw12_JournalDoes_r3 (env : Env) (h : Hp) (K : Env → Hp → Prop) : Prop :=
  rd Try.prog (Op.unary Go.UnOp.not (env 5)) noHp fun v19_1 =>
  gd (yb v19_1 == some false) (fun h k => k (env 6) h) h fun v21_3 h1 =>
  gd (yb v19_1 == some false) (fun h k => rd Try.prog (bop Go.BinOp.eql 27 (Go.Operand.tmp 21) (Go.Operand.const (Go.Value.pointer none)) v21_3 (Go.Value.pointer none)) noHp fun v => k v h) h1 fun v22_4 h2 =>
  rd Try.prog (pck v19_1 (Go.Value.bool true) v22_4) noHp fun v23_5 =>
  gd (yb v23_5 == some false) (fun h k => k (env 1) h) h2 fun v25_7 h3 =>
  gd (yb v23_5 == some false) (fun h k => rd Try.prog (Builtin.len_ #[42] 3 #[v25_7]) h fun v => k v h) h3 fun v26_8 h4 =>
  gd (yb v23_5 == some false) (fun h k => rd Try.prog (bop Go.BinOp.gtr 3 (Go.Operand.tmp 26) (Go.Operand.const (Go.Value.int Go.IntKind.i64 150)) v26_8 (Go.Value.int Go.IntKind.i64 150)) noHp fun v => k v h) h4 fun v27_9 h5 =>
  rd Try.prog (pck v23_5 (Go.Value.bool true) v27_9) noHp fun v28_10 =>
  K (((((((((((env.set 18 (env 5)).set 19 v19_1).set 20 v19_1).set 21 v21_3).set 22 v22_4).set 23 v23_5).set 24 v23_5).set 25 v25_7).set 26 v26_8).set 27 v27_9).set 28 v28_10) h5
@[congr] theorem octroilaw12_JournalDoes_r3_congr {env : Env} {h : Hp} {K : Env → Hp → Prop} : octroilaw12_JournalDoes_r3 env h K = octroilaw12_JournalDoes_r3 env h K := rfl

/-- law.go:35 -/
def octroilaw12_JournalDoes_r4 (env : Env) (h : Hp) (K : Env → Hp → Prop) : Prop :=
  gd (yb (env 5) == some true) (fun h k => k (env 6) h) h fun v31_2 h1 =>
  gd (yb (env 5) == some true) (fun h k => rd Try.prog (bop Go.BinOp.neq 27 (Go.Operand.tmp 31) (Go.Operand.const (Go.Value.pointer none)) v31_2 (Go.Value.pointer none)) noHp fun v => k v h) h1 fun v32_3 h2 =>
  rd Try.prog (pck (env 5) v32_3 (Go.Value.bool false)) noHp fun v33_4 =>
  K ((((((env.set 29 (env 5)).set 30 (env 5)).set 31 v31_2).set 32 v32_3).set 33 v33_4).set 4 v33_4) h2
@[congr] theorem octroilaw12_JournalDoes_r4_congr {env : Env} {h : Hp} {K : Env → Hp → Prop} : octroilaw12_JournalDoes_r4 env h K = octroilaw12_JournalDoes_r4 env h K := rfl

/-- law.go:37 -/
def octroilaw12_JournalDoes_r5 (env : Env) (h : Hp) (K : Env → Hp → Prop) : Prop :=
  rd Try.prog (Instr.build 45 #[(0, (env 0))]) noHp fun v35_1 =>
  arun Try.prog (Instr.box 45 v35_1) h fun v36_2 h1 =>
  K ((((env.set 34 (env 0)).set 35 v35_1).set 36 v36_2).set 7 v36_2) h1
@[congr] theorem octroilaw12_JournalDoes_r5_congr {env : Env} {h : Hp} {K : Env → Hp → Prop} : octroilaw12_JournalDoes_r5 env h K = octroilaw12_JournalDoes_r5 env h K := rfl

/-- law.go:38 -/
def octroilaw12_JournalDoes_r6 (env : Env) (h : Hp) (K : Env → Hp → Prop) : Prop :=
  K (env.set 8 (Go.Value.int Go.IntKind.i64 0)) h
@[congr] theorem octroilaw12_JournalDoes_r6_congr {env : Env} {h : Hp} {K : Env → Hp → Prop} : octroilaw12_JournalDoes_r6 env h K = octroilaw12_JournalDoes_r6 env h K := rfl

/-- law.go:38 -/
def octroilaw12_JournalDoes_r7 (env : Env) (h : Hp) (K : Env → Hp → Prop) : Prop :=
  rd Try.prog (Builtin.len_ #[42] 3 #[(env 1)]) h fun v39_2 =>
  rd Try.prog (bop Go.BinOp.lss 3 (Go.Operand.tmp 37) (Go.Operand.tmp 39) (env 8) v39_2) noHp fun v40_3 =>
  K ((((env.set 37 (env 8)).set 38 (env 1)).set 39 v39_2).set 40 v40_3) h
@[congr] theorem octroilaw12_JournalDoes_r7_congr {env : Env} {h : Hp} {K : Env → Hp → Prop} : octroilaw12_JournalDoes_r7 env h K = octroilaw12_JournalDoes_r7 env h K := rfl

/-- law.go:39 -/
def octroilaw12_JournalDoes_r8 (env : Env) (h : Hp) (K : Env → Hp → Prop) : Prop :=
  K (env.set 9 (Go.Value.bool true)) h
@[congr] theorem octroilaw12_JournalDoes_r8_congr {env : Env} {h : Hp} {K : Env → Hp → Prop} : octroilaw12_JournalDoes_r8 env h K = octroilaw12_JournalDoes_r8 env h K := rfl

/-- law.go:40 -/
def octroilaw12_JournalDoes_r9 (env : Env) (h : Hp) (K : Env → Hp → Prop) : Prop :=
  rd Try.prog (Instr.indexAt 42 (env 1) (env 8)) noHp fun v45_2 =>
  rd Try.prog (Instr.fieldAt 47 v45_2 0) noHp fun v46_3 =>
  rd Try.prog (Instr.loadAt 3 v46_3) h fun v47_4 =>
  K (((((env.set 43 (env 1)).set 44 (env 8)).set 45 v45_2).set 46 v46_3).set 47 v47_4) h
@[congr] theorem octroilaw12_JournalDoes_r9_congr {env : Env} {h : Hp} {K : Env → Hp → Prop} : octroilaw12_JournalDoes_r9 env h K = octroilaw12_JournalDoes_r9 env h K := rfl

/-- law.go:41 -/
def octroilaw12_JournalDoes_r10 (env : Env) (h : Hp) (K : Env → Hp → Prop) : Prop :=
  rd Try.prog (bop Go.BinOp.eql 3 (Go.Operand.tmp 47) (Go.Operand.const (Go.Value.int Go.IntKind.i64 0)) (env 47) (Go.Value.int Go.IntKind.i64 0)) noHp fun v49_0 =>
  K ((env.set 49 v49_0).set 48 v49_0) h
@[congr] theorem octroilaw12_JournalDoes_r10_congr {env : Env} {h : Hp} {K : Env → Hp → Prop} : octroilaw12_JournalDoes_r10 env h K = octroilaw12_JournalDoes_r10 env h K := rfl

/-- law.go:42 (in any order) -/
def octroilaw12_JournalDoes_r11 (env : Env) (h : Hp) (K : Env → Hp → Prop) : Prop :=
  rd Try.prog (Instr.indexAt 42 (env 1) (env 8)) noHp fun v53_3 =>
  rd Try.prog (Instr.fieldAt 47 v53_3 2) noHp fun v54_4 =>
  rd Try.prog (Instr.loadAt 25 v54_4) h fun v55_5 =>
  rd Try.prog (Instr.indexAt 42 (env 1) (env 8)) noHp fun v60_9 =>
  rd Try.prog (Instr.fieldAt 47 v60_9 2) noHp fun v61_10 =>
  rd Try.prog (Instr.loadAt 25 v61_10) h fun v62_11 =>
  Ok Try.prog 11 #[(env 6), v55_5] h fun v56_12 h1 =>
  (rrun Try.prog (Instr.loadAt 25 v61_10) h1 = some v62_11 ∧ True) ∧
  Ok Try.prog 20 #[(env 7), v62_11] h1 fun v63_13 h2 =>
  (True) ∧
  rd Try.prog (bop Go.BinOp.eql 29 (Go.Operand.tmp 56) (Go.Operand.tmp 63) v56_12 v63_13) noHp fun v64_14 =>
  K ((((((((((((((((env.set 50 (env 6)).set 51 (env 1)).set 52 (env 8)).set 53 v53_3).set 54 v54_4).set 55 v55_5).set 57 (env 7)).set 58 (env 1)).set 59 (env 8)).set 60 v60_9).set 61 v61_10).set 62 v62_11).set 56 v56_12).set 63 v63_13).set 64 v64_14).set 9 v64_14) h2
@[congr] theorem octroilaw12_JournalDoes_r11_congr {env : Env} {h : Hp} {K : Env → Hp → Prop} : octroilaw12_JournalDoes_r11 env h K = octroilaw12_JournalDoes_r11 env h K := rfl

/-- law.go:43 -/
def octroilaw12_JournalDoes_r12 (env : Env) (h : Hp) (K : Env → Hp → Prop) : Prop :=
  rd Try.prog (bop Go.BinOp.eql 3 (Go.Operand.tmp 47) (Go.Operand.const (Go.Value.int Go.IntKind.i64 1)) (env 47) (Go.Value.int Go.IntKind.i64 1)) noHp fun v66_0 =>
  K ((env.set 66 v66_0).set 65 v66_0) h
@[congr] theorem octroilaw12_JournalDoes_r12_congr {env : Env} {h : Hp} {K : Env → Hp → Prop} : octroilaw12_JournalDoes_r12 env h K = octroilaw12_JournalDoes_r12 env h K := rfl

/-- law.go:44 -/
def octroilaw12_JournalDoes_r13 (env : Env) (h : Hp) (K : Env → Hp → Prop) : Prop :=
  Ok Try.prog 14 #[(env 6)] h fun v68_1 h1 =>
  K ((env.set 67 (env 6)).set 68 v68_1) h1
@[congr] theorem octroilaw12_JournalDoes_r13_congr {env : Env} {h : Hp} {K : Env → Hp → Prop} : octroilaw12_JournalDoes_r13 env h K = octroilaw12_JournalDoes_r13 env h K := rfl

/-- law.go:45 -/
def octroilaw12_JournalDoes_r14 (env : Env) (h : Hp) (K : Env → Hp → Prop) : Prop :=
  Ok Try.prog 21 #[(env 7)] h fun v70_1 h1 =>
  K ((env.set 69 (env 7)).set 70 v70_1) h1
@[congr] theorem octroilaw12_JournalDoes_r14_congr {env : Env} {h : Hp} {K : Env → Hp → Prop} : octroilaw12_JournalDoes_r14 env h K = octroilaw12_JournalDoes_r14 env h K := rfl

/-- law.go:46 -/
def octroilaw12_JournalDoes_r15 (env : Env) (h : Hp) (K : Env → Hp → Prop) : Prop :=
  rd Try.prog (bop Go.BinOp.eql 3 (Go.Operand.tmp 47) (Go.Operand.const (Go.Value.int Go.IntKind.i64 2)) (env 47) (Go.Value.int Go.IntKind.i64 2)) noHp fun v72_0 =>
  K ((env.set 72 v72_0).set 71 v72_0) h
@[congr] theorem octroilaw12_JournalDoes_r15_congr {env : Env} {h : Hp} {K : Env → Hp → Prop} : octroilaw12_JournalDoes_r15 env h K = octroilaw12_JournalDoes_r15 env h K := rfl

/-- law.go:47 -/
def octroilaw12_JournalDoes_r16 (env : Env) (h : Hp) (K : Env → Hp → Prop) : Prop :=
  rd Try.prog (Instr.indexAt 42 (env 1) (env 8)) noHp fun v76_3 =>
  rd Try.prog (Instr.fieldAt 47 v76_3 1) noHp fun v77_4 =>
  rd Try.prog (Instr.loadAt 3 v77_4) h fun v78_5 =>
  Ok Try.prog 15 #[(env 6), v78_5] h fun v79_6 h1 =>
  K (((((((env.set 73 (env 6)).set 74 (env 1)).set 75 (env 8)).set 76 v76_3).set 77 v77_4).set 78 v78_5).set 79 v79_6) h1
@[congr] theorem octroilaw12_JournalDoes_r16_congr {env : Env} {h : Hp} {K : Env → Hp → Prop} : octroilaw12_JournalDoes_r16 env h K = octroilaw12_JournalDoes_r16 env h K := rfl

/-- law.go:48 -/
def octroilaw12_JournalDoes_r17 (env : Env) (h : Hp) (K : Env → Hp → Prop) : Prop :=
  rd Try.prog (Instr.indexAt 42 (env 1) (env 8)) noHp fun v83_3 =>
  rd Try.prog (Instr.fieldAt 47 v83_3 1) noHp fun v84_4 =>
  rd Try.prog (Instr.loadAt 3 v84_4) h fun v85_5 =>
  Ok Try.prog 22 #[(env 7), v85_5] h fun v86_6 h1 =>
  K (((((((env.set 80 (env 7)).set 81 (env 1)).set 82 (env 8)).set 83 v83_3).set 84 v84_4).set 85 v85_5).set 86 v86_6) h1
@[congr] theorem octroilaw12_JournalDoes_r17_congr {env : Env} {h : Hp} {K : Env → Hp → Prop} : octroilaw12_JournalDoes_r17 env h K = octroilaw12_JournalDoes_r17 env h K := rfl

/-- law.go:49 -/
def octroilaw12_JournalDoes_r18 (env : Env) (h : Hp) (K : Env → Hp → Prop) : Prop :=
  rd Try.prog (bop Go.BinOp.eql 3 (Go.Operand.tmp 47) (Go.Operand.const (Go.Value.int Go.IntKind.i64 3)) (env 47) (Go.Value.int Go.IntKind.i64 3)) noHp fun v88_0 =>
  K ((env.set 88 v88_0).set 87 v88_0) h
@[congr] theorem octroilaw12_JournalDoes_r18_congr {env : Env} {h : Hp} {K : Env → Hp → Prop} : octroilaw12_JournalDoes_r18 env h K = octroilaw12_JournalDoes_r18 env h K := rfl

/-- law.go:50 -/
def octroilaw12_JournalDoes_r19 (env : Env) (h : Hp) (K : Env → Hp → Prop) : Prop :=
  Ok Try.prog 19 #[(env 6)] h fun v90_1 h1 =>
  K ((env.set 89 (env 6)).set 90 v90_1) h1
@[congr] theorem octroilaw12_JournalDoes_r19_congr {env : Env} {h : Hp} {K : Env → Hp → Prop} : octroilaw12_JournalDoes_r19 env h K = octroilaw12_JournalDoes_r19 env h K := rfl

/-- law.go:51 -/
def octroilaw12_JournalDoes_r20 (env : Env) (h : Hp) (K : Env → Hp → Prop) : Prop :=
  Ok Try.prog 23 #[(env 7)] h fun v92_1 h1 =>
  K ((env.set 91 (env 7)).set 92 v92_1) h1
@[congr] theorem octroilaw12_JournalDoes_r20_congr {env : Env} {h : Hp} {K : Env → Hp → Prop} : octroilaw12_JournalDoes_r20 env h K = octroilaw12_JournalDoes_r20 env h K := rfl

/-- law.go:53 (in any order) -/
def octroilaw12_JournalDoes_r21 (env : Env) (h : Hp) (K : Env → Hp → Prop) : Prop :=
  rd Try.prog (Instr.indexAt 42 (env 1) (env 8)) noHp fun v97_3 =>
  rd Try.prog (Instr.fieldAt 47 v97_3 2) noHp fun v98_4 =>
  rd Try.prog (Instr.fieldAt 25 v98_4 0) noHp fun v99_5 =>
  rd Try.prog (Instr.loadAt 3 v99_5) h fun v100_6 =>
  rd Try.prog (Instr.indexAt 42 (env 1) (env 8)) noHp fun v103_9 =>
  rd Try.prog (Instr.fieldAt 47 v103_9 2) noHp fun v104_10 =>
  rd Try.prog (Instr.fieldAt 25 v104_10 1) noHp fun v105_11 =>
  rd Try.prog (Instr.loadAt 23 v105_11) h fun v106_12 =>
  Ok Try.prog 12 #[(env 6), v100_6, v106_12] h fun v107_13 h1 =>
  (True) ∧
  rd Try.prog (Instr.extract v107_13 0) noHp fun v108_15 =>
  rd Try.prog (Instr.extract v107_13 1) noHp fun v109_16 =>
  K (((((((((((((((((((env.set 94 (env 6)).set 95 (env 1)).set 96 (env 8)).set 97 v97_3).set 98 v98_4).set 99 v99_5).set 100 v100_6).set 101 (env 1)).set 102 (env 8)).set 103 v103_9).set 104 v104_10).set 105 v105_11).set 106 v106_12).set 107 v107_13).set 93 v107_13).set 108 v108_15).set 109 v109_16).set 10 v108_15).set 11 v109_16) h1
@[congr] theorem octroilaw12_JournalDoes_r21_congr {env : Env} {h : Hp} {K : Env → Hp → Prop} : octroilaw12_JournalDoes_r21 env h K = octroilaw12_JournalDoes_r21 env h K := rfl

/-- law.go:54 (in any order) -/
def octroilaw12_JournalDoes_r22 (env : Env) (h : Hp) (K : Env → Hp → Prop) : Prop :=
  rd Try.prog (Instr.indexAt 42 (env 1) (env 8)) noHp fun v114_3 =>
  rd Try.prog (Instr.fieldAt 47 v114_3 2) noHp fun v115_4 =>
  rd Try.prog (Instr.fieldAt 25 v115_4 0) noHp fun v116_5 =>
  rd Try.prog (Instr.loadAt 3 v116_5) h fun v117_6 =>
  rd Try.prog (Instr.indexAt 42 (env 1) (env 8)) noHp fun v120_9 =>
  rd Try.prog (Instr.fieldAt 47 v120_9 2) noHp fun v121_10 =>
  rd Try.prog (Instr.fieldAt 25 v121_10 1) noHp fun v122_11 =>
  rd Try.prog (Instr.loadAt 23 v122_11) h fun v123_12 =>
  Ok Try.prog 24 #[(env 7), v117_6, v123_12] h fun v124_13 h1 =>
  (True) ∧
  rd Try.prog (Instr.extract v124_13 0) noHp fun v125_15 =>
  rd Try.prog (Instr.extract v124_13 1) noHp fun v126_16 =>
  K (((((((((((((((((((env.set 111 (env 7)).set 112 (env 1)).set 113 (env 8)).set 114 v114_3).set 115 v115_4).set 116 v116_5).set 117 v117_6).set 118 (env 1)).set 119 (env 8)).set 120 v120_9).set 121 v121_10).set 122 v122_11).set 123 v123_12).set 124 v124_13).set 110 v124_13).set 125 v125_15).set 126 v126_16).set 12 v125_15).set 13 v126_16) h1
@[congr] theorem octroilaw12_JournalDoes_r22_congr {env : Env} {h : Hp} {K : Env → Hp → Prop} : octroilaw12_JournalDoes_r22 env h K = octroilaw12_JournalDoes_r22 env h K := rfl

/-- law.go:55 -/
def octroilaw12_JournalDoes_r23 (env : Env) (h : Hp) (K : Env → Hp → Prop) : Prop :=
  Ok Try.prog 17 #[(env 6)] h fun v128_1 h1 =>
  Ok Try.prog 25 #[(env 7)] h1 fun v130_3 h2 =>
  Ok Try.prog 18 #[v128_1, v130_3] h2 fun v131_4 h3 =>
  K ((((((env.set 127 (env 6)).set 128 v128_1).set 129 (env 7)).set 130 v130_3).set 131 v131_4).set 14 v131_4) h3
@[congr] theorem octroilaw12_JournalDoes_r23_congr {env : Env} {h : Hp} {K : Env → Hp → Prop} : octroilaw12_JournalDoes_r23 env h K = octroilaw12_JournalDoes_r23 env h K := rfl

/-- law.go:56 (in any order) -/
def octroilaw12_JournalDoes_r24 (env : Env) (h : Hp) (K : Env → Hp → Prop) : Prop :=
  rd Try.prog (Op.unary Go.UnOp.not (env 9)) noHp fun v133_1 =>
  gd (yb v133_1 == some false) (fun h k => k (env 10) h) h fun v135_3 h1 =>
  gd (yb v133_1 == some false) (fun h k => k (env 12) h) h1 fun v136_4 h2 =>
  gd (yb v133_1 == some false) (fun h k => rd Try.prog (bop Go.BinOp.neq 23 (Go.Operand.tmp 135) (Go.Operand.tmp 136) v135_3 v136_4) noHp fun v => k v h) h2 fun v137_5 h3 =>
  rd Try.prog (pck v133_1 (Go.Value.bool true) v137_5) noHp fun v138_6 =>
  gd (yb v138_6 == some false) (fun h k => k (env 11) h) h3 fun v140_8 h4 =>
  gd (yb v138_6 == some false) (fun h k => k (env 13) h) h4 fun v141_9 h5 =>
  gd (yb v138_6 == some false) (fun h k => rd Try.prog (bop Go.BinOp.neq 4 (Go.Operand.tmp 140) (Go.Operand.tmp 141) v140_8 v141_9) noHp fun v => k v h) h5 fun v142_10 h6 =>
  rd Try.prog (pck v138_6 (Go.Value.bool true) v142_10) noHp fun v143_11 =>
  gd (yb v143_11 == some false) (fun h k => k (env 14) h) h6 fun v145_13 h7 =>
  gd (yb v143_11 == some false) (fun h k => rd Try.prog (Op.unary Go.UnOp.not v145_13) noHp fun v => k v h) h7 fun v146_14 h8 =>
  rd Try.prog (pck v143_11 (Go.Value.bool true) v146_14) noHp fun v147_15 =>
  gd (yb v147_15 == some false) (fun h k => k (env 6) h) h8 fun v149_17 h9 =>
  gd (yb v147_15 == some false) (fun h k => k (env 7) h) h9 fun v151_18 h10 =>
  gd (yb v147_15 == some false) (fun h k => nck v151_18 (k v151_18 h)) h10 fun v152_19 h11 =>
  gd (yb v147_15 == some false) (fun h k => rd Try.prog (Instr.fieldAt 45 v152_19 1) noHp fun v => k v h) h11 fun v153_20 h12 =>
  gd (yb v147_15 == some false) (fun h k => rd Try.prog (Instr.loadAt 22 v153_20) h fun v => k v h) h12 fun v154_21 h13 =>
  gd (yb v147_15 == some false) (fun h k => rd Try.prog (Builtin.len_ #[22] 3 #[v154_21]) h fun v => k v h) h13 fun v155_22 h14 =>
  gd (yb v147_15 == some false) (fun h k => Ok Try.prog 16 #[v149_17] h k) h14 fun v150_23 h15 =>
  (((yb v147_15 == some false) = true → rrun Try.prog (Builtin.len_ #[22] 3 #[v154_21]) h15 = some v155_22) ∧ ((yb v147_15 == some false) = true → rrun Try.prog (Instr.loadAt 22 v153_20) h15 = some v154_21) ∧ True) ∧
  gd (yb v147_15 == some false) (fun h k => rd Try.prog (bop Go.BinOp.neq 3 (Go.Operand.tmp 150) (Go.Operand.tmp 155) v150_23 v155_22) noHp fun v => k v h) h15 fun v156_24 h16 =>
  rd Try.prog (pck v147_15 (Go.Value.bool true) v156_24) noHp fun v157_25 =>
  gd (yb v157_25 == some false) (fun h k => k (env 6) h) h16 fun v159_27 h17 =>
  gd (yb v157_25 == some false) (fun h k => k (env 7) h) h17 fun v162_28 h18 =>
  gd (yb v157_25 == some false) (fun h k => Ok Try.prog 13 #[v159_27] h k) h18 fun v160_29 h19 =>
  (True) ∧
  (gd (yb v157_25 == some false) (fun h k => arun Try.prog (convert 34 9 v160_29) h k) h19 fun v161_30 h20 =>
  (True) ∧
  gd (yb v157_25 == some false) (fun h k => Ok Try.prog 26 #[v162_28] h k) h20 fun v163_31 h21 =>
  (True) ∧
  gd (yb v157_25 == some false) (fun h k => arun Try.prog (convert 34 9 v163_31) h k) h21 fun v164_32 h22 =>
  (True) ∧
  gd (yb v157_25 == some false) (fun h k => rd Try.prog (bop Go.BinOp.neq 9 (Go.Operand.tmp 161) (Go.Operand.tmp 164) v161_30 v164_32) noHp fun v => k v h) h22 fun v165_33 h23 =>
  rd Try.prog (pck v157_25 (Go.Value.bool true) v165_33) noHp fun v166_34 =>
  K (((((((((((((((((((((((((((((((((((env.set 132 (env 9)).set 133 v133_1).set 134 v133_1).set 135 v135_3).set 136 v136_4).set 137 v137_5).set 138 v138_6).set 139 v138_6).set 140 v140_8).set 141 v141_9).set 142 v142_10).set 143 v143_11).set 144 v143_11).set 145 v145_13).set 146 v146_14).set 147 v147_15).set 148 v147_15).set 149 v149_17).set 151 v151_18).set 152 v152_19).set 153 v153_20).set 154 v154_21).set 155 v155_22).set 150 v150_23).set 156 v156_24).set 157 v157_25).set 158 v157_25).set 159 v159_27).set 162 v162_28).set 160 v160_29).set 161 v161_30).set 163 v163_31).set 164 v164_32).set 165 v165_33).set 166 v166_34) h23) ∧
(gd (yb v157_25 == some false) (fun h k => Ok Try.prog 26 #[v162_28] h k) h19 fun v163_35 h24 =>
  (True) ∧
  (gd (yb v157_25 == some false) (fun h k => arun Try.prog (convert 34 9 v160_29) h k) h24 fun v161_36 h25 =>
  (True) ∧
  gd (yb v157_25 == some false) (fun h k => arun Try.prog (convert 34 9 v163_35) h k) h25 fun v164_37 h26 =>
  (True) ∧
  gd (yb v157_25 == some false) (fun h k => rd Try.prog (bop Go.BinOp.neq 9 (Go.Operand.tmp 161) (Go.Operand.tmp 164) v161_36 v164_37) noHp fun v => k v h) h26 fun v165_38 h27 =>
  rd Try.prog (pck v157_25 (Go.Value.bool true) v165_38) noHp fun v166_39 =>
  K (((((((((((((((((((((((((((((((((((env.set 132 (env 9)).set 133 v133_1).set 134 v133_1).set 135 v135_3).set 136 v136_4).set 137 v137_5).set 138 v138_6).set 139 v138_6).set 140 v140_8).set 141 v141_9).set 142 v142_10).set 143 v143_11).set 144 v143_11).set 145 v145_13).set 146 v146_14).set 147 v147_15).set 148 v147_15).set 149 v149_17).set 151 v151_18).set 152 v152_19).set 153 v153_20).set 154 v154_21).set 155 v155_22).set 150 v150_23).set 156 v156_24).set 157 v157_25).set 158 v157_25).set 159 v159_27).set 162 v162_28).set 160 v160_29).set 163 v163_35).set 161 v161_36).set 164 v164_37).set 165 v165_38).set 166 v166_39) h27) ∧
(gd (yb v157_25 == some false) (fun h k => arun Try.prog (convert 34 9 v163_35) h k) h24 fun v164_40 h28 =>
  (True) ∧
  gd (yb v157_25 == some false) (fun h k => arun Try.prog (convert 34 9 v160_29) h k) h28 fun v161_41 h29 =>
  (True) ∧
  gd (yb v157_25 == some false) (fun h k => rd Try.prog (bop Go.BinOp.neq 9 (Go.Operand.tmp 161) (Go.Operand.tmp 164) v161_41 v164_40) noHp fun v => k v h) h29 fun v165_42 h30 =>
  rd Try.prog (pck v157_25 (Go.Value.bool true) v165_42) noHp fun v166_43 =>
  K (((((((((((((((((((((((((((((((((((env.set 132 (env 9)).set 133 v133_1).set 134 v133_1).set 135 v135_3).set 136 v136_4).set 137 v137_5).set 138 v138_6).set 139 v138_6).set 140 v140_8).set 141 v141_9).set 142 v142_10).set 143 v143_11).set 144 v143_11).set 145 v145_13).set 146 v146_14).set 147 v147_15).set 148 v147_15).set 149 v149_17).set 151 v151_18).set 152 v152_19).set 153 v153_20).set 154 v154_21).set 155 v155_22).set 150 v150_23).set 156 v156_24).set 157 v157_25).set 158 v157_25).set 159 v159_27).set 162 v162_28).set 160 v160_29).set 163 v163_35).set 164 v164_40).set 161 v161_41).set 165 v165_42).set 166 v166_43) h30))
@[congr] theorem octroilaw12_JournalDoes_r24_congr {env : Env} {h : Hp} {K : Env → Hp → Prop} : octroilaw12_JournalDoes_r24 env h K = octroilaw12_JournalDoes_r24 env h K := rfl

/-- law.go:57 -/
def octroilaw12_JournalDoes_r25 (env : Env) (h : Hp) (K : Env → Hp → Prop) : Prop :=
  K (env.set 4 (Go.Value.bool false)) h
@[congr] theorem octroilaw12_JournalDoes_r25_congr {env : Env} {h : Hp} {K : Env → Hp → Prop} : octroilaw12_JournalDoes_r25 env h K = octroilaw12_JournalDoes_r25 env h K := rfl

/-- law.go:38 -/
def octroilaw12_JournalDoes_r26 (env : Env) (h : Hp) (K : Env → Hp → Prop) : Prop :=
  rd Try.prog (bop Go.BinOp.add 3 (Go.Operand.tmp 41) (Go.Operand.const (Go.Value.int Go.IntKind.i64 1)) (env 8) (Go.Value.int Go.IntKind.i64 1)) noHp fun v42_1 =>
  K (((env.set 41 (env 8)).set 42 v42_1).set 8 v42_1) h
@[congr] theorem octroilaw12_JournalDoes_r26_congr {env : Env} {h : Hp} {K : Env → Hp → Prop} : octroilaw12_JournalDoes_r26 env h K = octroilaw12_JournalDoes_r26 env h K := rfl

def octroilaw12_JournalDoes_L0 : Den := (sq (sq (rg octroilaw12_JournalDoes_r7) (cnd (Go.Operand.tmp 40) (ex .normal) (ex (.exit 0)))) (sq (blk 1 (sq (rg octroilaw12_JournalDoes_r8) (sq (sq (rg octroilaw12_JournalDoes_r9) (blk 2 (sq (rg octroilaw12_JournalDoes_r10) (cnd (Go.Operand.tmp 48) (rg octroilaw12_JournalDoes_r11) (sq (rg octroilaw12_JournalDoes_r12) (cnd (Go.Operand.tmp 65) (sq (rg octroilaw12_JournalDoes_r13) (rg octroilaw12_JournalDoes_r14)) (sq (rg octroilaw12_JournalDoes_r15) (cnd (Go.Operand.tmp 71) (sq (rg octroilaw12_JournalDoes_r16) (rg octroilaw12_JournalDoes_r17)) (sq (rg octroilaw12_JournalDoes_r18) (cnd (Go.Operand.tmp 87) (sq (rg octroilaw12_JournalDoes_r19) (rg octroilaw12_JournalDoes_r20)) (ex .normal))))))))))) (sq (rg octroilaw12_JournalDoes_r21) (sq (rg octroilaw12_JournalDoes_r22) (sq (rg octroilaw12_JournalDoes_r23) (sq (rg octroilaw12_JournalDoes_r24) (cnd (Go.Operand.tmp 166) (sq (rg octroilaw12_JournalDoes_r25) (ex .ret)) (ex .normal))))))))) (rg octroilaw12_JournalDoes_r26)))

/-- law.go:60 -/
def octroilaw12_JournalDoes_r27 (env : Env) (h : Hp) (K : Env → Hp → Prop) : Prop :=
  K (env.set 4 (Go.Value.bool true)) h
@[congr] theorem octroilaw12_JournalDoes_r27_congr {env : Env} {h : Hp} {K : Env → Hp → Prop} : octroilaw12_JournalDoes_r27 env h K = octroilaw12_JournalDoes_r27 env h K := rfl

def octroilaw12_JournalDoes_D : Den := (sq (rg octroilaw12_JournalDoes_r0) (sq (rg octroilaw12_JournalDoes_r1) (sq (rg octroilaw12_JournalDoes_r2) (sq (sq (rg octroilaw12_JournalDoes_r3) (cnd (Go.Operand.tmp 28) (sq (rg octroilaw12_JournalDoes_r4) (ex .ret)) (ex .normal))) (sq (rg octroilaw12_JournalDoes_r5) (sq (sq (rg octroilaw12_JournalDoes_r6) (blk 0 (lp octroilaw12_JournalDoes_L0))) (sq (rg octroilaw12_JournalDoes_r27) (ex .ret))))))))

theorem octroilaw12_JournalDoes_eq : (den Try.prog 167 octroilaw12_JournalDoes_code).1 = octroilaw12_JournalDoes_D := by kernel_rfl

theorem octroilaw12_JournalDoes_ok {args : Array Value} {h : Hp} {Q : Value → Hp → Prop} (hn : args.size ≤ 167) (D : octroilaw12_JournalDoes_D (fin Try.prog [(Go.ResultVar.tmp 4)] Q) (env0 args) h) : Ok Try.prog 7 args h Q :=
  ok_of_den progIsOk Try.func7 (c := octroilaw12_JournalDoes_code) (by kernel_rfl) hn (by show (den Try.prog 167 octroilaw12_JournalDoes_code).1 _ _ _; rw [octroilaw12_JournalDoes_eq]; exact D)

/-! ### octroi/octroilaw12.JournalPacks: function 8 -/
noncomputable def octroilaw12_JournalPacks_code : Code := match Try.f8.body with | some c => c | none => .skip

/-- law.go:96 -/
def octroilaw12_JournalPacks_r0 (env : Env) (h : Hp) (K : Env → Hp → Prop) : Prop :=
  K (env.set 4 (Go.Value.bool false)) h
@[congr] theorem octroilaw12_JournalPacks_r0_congr {env : Env} {h : Hp} {K : Env → Hp → Prop} : octroilaw12_JournalPacks_r0 env h K = octroilaw12_JournalPacks_r0 env h K := rfl

/-- law.go:97 -/
def octroilaw12_JournalPacks_r1 (env : Env) (h : Hp) (K : Env → Hp → Prop) : Prop :=
  Ok Try.prog 9 #[] h fun v13_0 h1 =>
  K ((env.set 13 v13_0).set 5 v13_0) h1
@[congr] theorem octroilaw12_JournalPacks_r1_congr {env : Env} {h : Hp} {K : Env → Hp → Prop} : octroilaw12_JournalPacks_r1 env h K = octroilaw12_JournalPacks_r1 env h K := rfl

/-- law.go:98 -/
def octroilaw12_JournalPacks_r2 (env : Env) (h : Hp) (K : Env → Hp → Prop) : Prop :=
  Ok Try.prog 10 #[(Go.Value.int Go.IntKind.i64 1000)] h fun v14_0 h1 =>
  K ((env.set 14 v14_0).set 6 v14_0) h1
@[congr] theorem octroilaw12_JournalPacks_r2_congr {env : Env} {h : Hp} {K : Env → Hp → Prop} : octroilaw12_JournalPacks_r2 env h K = octroilaw12_JournalPacks_r2 env h K := rfl

/-- law.go:99 -/
def octroilaw12_JournalPacks_r3 (env : Env) (h : Hp) (K : Env → Hp → Prop) : Prop :=
  rd Try.prog (Op.unary Go.UnOp.not (env 5)) noHp fun v16_1 =>
  gd (yb v16_1 == some false) (fun h k => k (env 6) h) h fun v18_3 h1 =>
  gd (yb v16_1 == some false) (fun h k => rd Try.prog (bop Go.BinOp.eql 27 (Go.Operand.tmp 18) (Go.Operand.const (Go.Value.pointer none)) v18_3 (Go.Value.pointer none)) noHp fun v => k v h) h1 fun v19_4 h2 =>
  rd Try.prog (pck v16_1 (Go.Value.bool true) v19_4) noHp fun v20_5 =>
  gd (yb v20_5 == some false) (fun h k => k (env 0) h) h2 fun v22_7 h3 =>
  gd (yb v20_5 == some false) (fun h k => rd Try.prog (Builtin.len_ #[22] 3 #[v22_7]) h fun v => k v h) h3 fun v23_8 h4 =>
  gd (yb v20_5 == some false) (fun h k => rd Try.prog (bop Go.BinOp.gtr 3 (Go.Operand.tmp 23) (Go.Operand.const (Go.Value.int Go.IntKind.i64 150)) v23_8 (Go.Value.int Go.IntKind.i64 150)) noHp fun v => k v h) h4 fun v24_9 h5 =>
  rd Try.prog (pck v20_5 (Go.Value.bool true) v24_9) noHp fun v25_10 =>
  K (((((((((((env.set 15 (env 5)).set 16 v16_1).set 17 v16_1).set 18 v18_3).set 19 v19_4).set 20 v20_5).set 21 v20_5).set 22 v22_7).set 23 v23_8).set 24 v24_9).set 25 v25_10) h5
@[congr] theorem octroilaw12_JournalPacks_r3_congr {env : Env} {h : Hp} {K : Env → Hp → Prop} : octroilaw12_JournalPacks_r3 env h K = octroilaw12_JournalPacks_r3 env h K := rfl

/-- law.go:100 -/
def octroilaw12_JournalPacks_r4 (env : Env) (h : Hp) (K : Env → Hp → Prop) : Prop :=
  gd (yb (env 5) == some true) (fun h k => k (env 6) h) h fun v28_2 h1 =>
  gd (yb (env 5) == some true) (fun h k => rd Try.prog (bop Go.BinOp.neq 27 (Go.Operand.tmp 28) (Go.Operand.const (Go.Value.pointer none)) v28_2 (Go.Value.pointer none)) noHp fun v => k v h) h1 fun v29_3 h2 =>
  rd Try.prog (pck (env 5) v29_3 (Go.Value.bool false)) noHp fun v30_4 =>
  K ((((((env.set 26 (env 5)).set 27 (env 5)).set 28 v28_2).set 29 v29_3).set 30 v30_4).set 4 v30_4) h2
@[congr] theorem octroilaw12_JournalPacks_r4_congr {env : Env} {h : Hp} {K : Env → Hp → Prop} : octroilaw12_JournalPacks_r4 env h K = octroilaw12_JournalPacks_r4 env h K := rfl

/-- law.go:102 -/
def octroilaw12_JournalPacks_r5 (env : Env) (h : Hp) (K : Env → Hp → Prop) : Prop :=
  K (env.set 7 (Go.Value.int Go.IntKind.i64 0)) h
@[congr] theorem octroilaw12_JournalPacks_r5_congr {env : Env} {h : Hp} {K : Env → Hp → Prop} : octroilaw12_JournalPacks_r5 env h K = octroilaw12_JournalPacks_r5 env h K := rfl

/-- law.go:102 -/
def octroilaw12_JournalPacks_r6 (env : Env) (h : Hp) (K : Env → Hp → Prop) : Prop :=
  rd Try.prog (Builtin.len_ #[22] 3 #[(env 0)]) h fun v33_2 =>
  rd Try.prog (bop Go.BinOp.lss 3 (Go.Operand.tmp 31) (Go.Operand.tmp 33) (env 7) v33_2) noHp fun v34_3 =>
  K ((((env.set 31 (env 7)).set 32 (env 0)).set 33 v33_2).set 34 v34_3) h
@[congr] theorem octroilaw12_JournalPacks_r6_congr {env : Env} {h : Hp} {K : Env → Hp → Prop} : octroilaw12_JournalPacks_r6 env h K = octroilaw12_JournalPacks_r6 env h K := rfl

/-- law.go:103 -/
def octroilaw12_JournalPacks_r7 (env : Env) (h : Hp) (K : Env → Hp → Prop) : Prop :=
  rd Try.prog (Instr.indexAt 22 (env 0) (env 7)) noHp fun v40_3 =>
  rd Try.prog (Instr.loadAt 25 v40_3) h fun v41_4 =>
  Ok Try.prog 11 #[(env 6), v41_4] h fun v42_5 h1 =>
  K ((((((env.set 37 (env 6)).set 38 (env 0)).set 39 (env 7)).set 40 v40_3).set 41 v41_4).set 42 v42_5) h1
@[congr] theorem octroilaw12_JournalPacks_r7_congr {env : Env} {h : Hp} {K : Env → Hp → Prop} : octroilaw12_JournalPacks_r7 env h K = octroilaw12_JournalPacks_r7 env h K := rfl

/-- law.go:102 -/
def octroilaw12_JournalPacks_r8 (env : Env) (h : Hp) (K : Env → Hp → Prop) : Prop :=
  rd Try.prog (bop Go.BinOp.add 3 (Go.Operand.tmp 35) (Go.Operand.const (Go.Value.int Go.IntKind.i64 1)) (env 7) (Go.Value.int Go.IntKind.i64 1)) noHp fun v36_1 =>
  K (((env.set 35 (env 7)).set 36 v36_1).set 7 v36_1) h
@[congr] theorem octroilaw12_JournalPacks_r8_congr {env : Env} {h : Hp} {K : Env → Hp → Prop} : octroilaw12_JournalPacks_r8 env h K = octroilaw12_JournalPacks_r8 env h K := rfl

def octroilaw12_JournalPacks_L0 : Den := (sq (sq (rg octroilaw12_JournalPacks_r6) (cnd (Go.Operand.tmp 34) (ex .normal) (ex (.exit 0)))) (sq (blk 1 (rg octroilaw12_JournalPacks_r7)) (rg octroilaw12_JournalPacks_r8)))

/-- law.go:105 -/
def octroilaw12_JournalPacks_r9 (env : Env) (h : Hp) (K : Env → Hp → Prop) : Prop :=
  Ok Try.prog 16 #[(env 6)] h fun v44_1 h1 =>
  K (((env.set 43 (env 6)).set 44 v44_1).set 8 v44_1) h1
@[congr] theorem octroilaw12_JournalPacks_r9_congr {env : Env} {h : Hp} {K : Env → Hp → Prop} : octroilaw12_JournalPacks_r9 env h K = octroilaw12_JournalPacks_r9 env h K := rfl

/-- law.go:106 -/
def octroilaw12_JournalPacks_r10 (env : Env) (h : Hp) (K : Env → Hp → Prop) : Prop :=
  Ok Try.prog 17 #[(env 6)] h fun v46_1 h1 =>
  K (((env.set 45 (env 6)).set 46 v46_1).set 9 v46_1) h1
@[congr] theorem octroilaw12_JournalPacks_r10_congr {env : Env} {h : Hp} {K : Env → Hp → Prop} : octroilaw12_JournalPacks_r10 env h K = octroilaw12_JournalPacks_r10 env h K := rfl

/-- law.go:107 -/
def octroilaw12_JournalPacks_r11 (env : Env) (h : Hp) (K : Env → Hp → Prop) : Prop :=
  Ok Try.prog 19 #[(env 6)] h fun v48_1 h1 =>
  K ((env.set 47 (env 6)).set 48 v48_1) h1
@[congr] theorem octroilaw12_JournalPacks_r11_congr {env : Env} {h : Hp} {K : Env → Hp → Prop} : octroilaw12_JournalPacks_r11 env h K = octroilaw12_JournalPacks_r11 env h K := rfl

/-- law.go:108 -/
def octroilaw12_JournalPacks_r12 (env : Env) (h : Hp) (K : Env → Hp → Prop) : Prop :=
  Ok Try.prog 16 #[(env 6)] h fun v50_1 h1 =>
  K (((env.set 49 (env 6)).set 50 v50_1).set 10 v50_1) h1
@[congr] theorem octroilaw12_JournalPacks_r12_congr {env : Env} {h : Hp} {K : Env → Hp → Prop} : octroilaw12_JournalPacks_r12 env h K = octroilaw12_JournalPacks_r12 env h K := rfl

/-- law.go:109 -/
def octroilaw12_JournalPacks_r13 (env : Env) (h : Hp) (K : Env → Hp → Prop) : Prop :=
  Ok Try.prog 15 #[(env 6), (env 1)] h fun v53_2 h1 =>
  K (((env.set 51 (env 6)).set 52 (env 1)).set 53 v53_2) h1
@[congr] theorem octroilaw12_JournalPacks_r13_congr {env : Env} {h : Hp} {K : Env → Hp → Prop} : octroilaw12_JournalPacks_r13 env h K = octroilaw12_JournalPacks_r13 env h K := rfl

/-- law.go:110 -/
def octroilaw12_JournalPacks_r14 (env : Env) (h : Hp) (K : Env → Hp → Prop) : Prop :=
  Ok Try.prog 13 #[(env 6)] h fun v55_1 h1 =>
  arun Try.prog (convert 34 9 v55_1) h1 fun v56_2 h2 =>
  K ((((env.set 54 (env 6)).set 55 v55_1).set 56 v56_2).set 11 v56_2) h2
@[congr] theorem octroilaw12_JournalPacks_r14_congr {env : Env} {h : Hp} {K : Env → Hp → Prop} : octroilaw12_JournalPacks_r14 env h K = octroilaw12_JournalPacks_r14 env h K := rfl

/-- law.go:111 -/
def octroilaw12_JournalPacks_r15 (env : Env) (h : Hp) (K : Env → Hp → Prop) : Prop :=
  Ok Try.prog 19 #[(env 6)] h fun v58_1 h1 =>
  K ((env.set 57 (env 6)).set 58 v58_1) h1
@[congr] theorem octroilaw12_JournalPacks_r15_congr {env : Env} {h : Hp} {K : Env → Hp → Prop} : octroilaw12_JournalPacks_r15 env h K = octroilaw12_JournalPacks_r15 env h K := rfl

/-- law.go:112 -/
def octroilaw12_JournalPacks_r16 (env : Env) (h : Hp) (K : Env → Hp → Prop) : Prop :=
  Ok Try.prog 17 #[(env 6)] h fun v60_1 h1 =>
  Ok Try.prog 18 #[v60_1, (env 9)] h1 fun v62_3 h2 =>
  K (((((env.set 59 (env 6)).set 60 v60_1).set 61 (env 9)).set 62 v62_3).set 12 v62_3) h2
@[congr] theorem octroilaw12_JournalPacks_r16_congr {env : Env} {h : Hp} {K : Env → Hp → Prop} : octroilaw12_JournalPacks_r16 env h K = octroilaw12_JournalPacks_r16 env h K := rfl

/-- law.go:113 -/
def octroilaw12_JournalPacks_r17 (env : Env) (h : Hp) (K : Env → Hp → Prop) : Prop :=
  gd (yb (env 12) == some true) (fun h k => k (env 10) h) h fun v65_2 h1 =>
  gd (yb (env 12) == some true) (fun h k => k (env 8) h) h1 fun v66_3 h2 =>
  gd (yb (env 12) == some true) (fun h k => rd Try.prog (bop Go.BinOp.leq 3 (Go.Operand.tmp 65) (Go.Operand.tmp 66) v65_2 v66_3) noHp fun v => k v h) h2 fun v67_4 h3 =>
  rd Try.prog (pck (env 12) v67_4 (Go.Value.bool false)) noHp fun v68_5 =>
  gd (yb v68_5 == some true) (fun h k => k (env 10) h) h3 fun v70_7 h4 =>
  gd (yb v68_5 == some true) (fun h k => k (env 9) h) h4 fun v71_8 h5 =>
  gd (yb v68_5 == some true) (fun h k => rd Try.prog (Builtin.len_ #[22] 3 #[v71_8]) h fun v => k v h) h5 fun v72_9 h6 =>
  gd (yb v68_5 == some true) (fun h k => rd Try.prog (bop Go.BinOp.eql 3 (Go.Operand.tmp 70) (Go.Operand.tmp 72) v70_7 v72_9) noHp fun v => k v h) h6 fun v73_10 h7 =>
  rd Try.prog (pck v68_5 v73_10 (Go.Value.bool false)) noHp fun v74_11 =>
  gd (yb v74_11 == some true) (fun h k => k (env 6) h) h7 fun v76_13 h8 =>
  gd (yb v74_11 == some true) (fun h k => Ok Try.prog 16 #[v76_13] h k) h8 fun v77_14 h9 =>
  gd (yb v74_11 == some true) (fun h k => k (env 10) h) h9 fun v78_15 h10 =>
  gd (yb v74_11 == some true) (fun h k => rd Try.prog (bop Go.BinOp.eql 3 (Go.Operand.tmp 77) (Go.Operand.tmp 78) v77_14 v78_15) noHp fun v => k v h) h10 fun v79_16 h11 =>
  rd Try.prog (pck v74_11 v79_16 (Go.Value.bool false)) noHp fun v80_17 =>
  gd (yb v80_17 == some true) (fun h k => k (env 6) h) h11 fun v82_19 h12 =>
  gd (yb v80_17 == some true) (fun h k => Ok Try.prog 13 #[v82_19] h k) h12 fun v83_20 h13 =>
  gd (yb v80_17 == some true) (fun h k => arun Try.prog (convert 34 9 v83_20) h k) h13 fun v84_21 h14 =>
  gd (yb v80_17 == some true) (fun h k => k (env 11) h) h14 fun v85_22 h15 =>
  gd (yb v80_17 == some true) (fun h k => rd Try.prog (bop Go.BinOp.eql 9 (Go.Operand.tmp 84) (Go.Operand.tmp 85) v84_21 v85_22) noHp fun v => k v h) h15 fun v86_23 h16 =>
  rd Try.prog (pck v80_17 v86_23 (Go.Value.bool false)) noHp fun v87_24 =>
  K ((((((((((((((((((((((((((env.set 63 (env 12)).set 64 (env 12)).set 65 v65_2).set 66 v66_3).set 67 v67_4).set 68 v68_5).set 69 v68_5).set 70 v70_7).set 71 v71_8).set 72 v72_9).set 73 v73_10).set 74 v74_11).set 75 v74_11).set 76 v76_13).set 77 v77_14).set 78 v78_15).set 79 v79_16).set 80 v80_17).set 81 v80_17).set 82 v82_19).set 83 v83_20).set 84 v84_21).set 85 v85_22).set 86 v86_23).set 87 v87_24).set 4 v87_24) h16
@[congr] theorem octroilaw12_JournalPacks_r17_congr {env : Env} {h : Hp} {K : Env → Hp → Prop} : octroilaw12_JournalPacks_r17 env h K = octroilaw12_JournalPacks_r17 env h K := rfl

def octroilaw12_JournalPacks_D : Den := (sq (rg octroilaw12_JournalPacks_r0) (sq (rg octroilaw12_JournalPacks_r1) (sq (rg octroilaw12_JournalPacks_r2) (sq (sq (rg octroilaw12_JournalPacks_r3) (cnd (Go.Operand.tmp 25) (sq (rg octroilaw12_JournalPacks_r4) (ex .ret)) (ex .normal))) (sq (sq (rg octroilaw12_JournalPacks_r5) (blk 0 (lp octroilaw12_JournalPacks_L0))) (sq (rg octroilaw12_JournalPacks_r9) (sq (rg octroilaw12_JournalPacks_r10) (sq (rg octroilaw12_JournalPacks_r11) (sq (rg octroilaw12_JournalPacks_r12) (sq (rg octroilaw12_JournalPacks_r13) (sq (rg octroilaw12_JournalPacks_r14) (sq (rg octroilaw12_JournalPacks_r15) (sq (rg octroilaw12_JournalPacks_r16) (sq (rg octroilaw12_JournalPacks_r17) (ex .ret)))))))))))))))

theorem octroilaw12_JournalPacks_eq : (den Try.prog 88 octroilaw12_JournalPacks_code).1 = octroilaw12_JournalPacks_D := by kernel_rfl

theorem octroilaw12_JournalPacks_ok {args : Array Value} {h : Hp} {Q : Value → Hp → Prop} (hn : args.size ≤ 88) (D : octroilaw12_JournalPacks_D (fin Try.prog [(Go.ResultVar.tmp 4)] Q) (env0 args) h) : Ok Try.prog 8 args h Q :=
  ok_of_den progIsOk Try.func8 (c := octroilaw12_JournalPacks_code) (by kernel_rfl) hn (by show (den Try.prog 88 octroilaw12_JournalPacks_code).1 _ _ _; rw [octroilaw12_JournalPacks_eq]; exact D)

/-! ### octroi/octroilaw12.awake: function 9 -/
noncomputable def octroilaw12_awake_code : Code := match Try.f9.body with | some c => c | none => .skip

/-- law.go:17 -/
def octroilaw12_awake_r0 (env : Env) (h : Hp) (K : Env → Hp → Prop) : Prop :=
  K (env.set 0 (Go.Value.bool false)) h
@[congr] theorem octroilaw12_awake_r0_congr {env : Env} {h : Hp} {K : Env → Hp → Prop} : octroilaw12_awake_r0 env h K = octroilaw12_awake_r0 env h K := rfl

/-- law.go:18 -/
def octroilaw12_awake_r1 (env : Env) (h : Hp) (K : Env → Hp → Prop) : Prop :=
  Ok Try.prog 10 #[(Go.Value.int Go.IntKind.i64 10)] h fun v5_0 h1 =>
  K ((env.set 5 v5_0).set 1 v5_0) h1
@[congr] theorem octroilaw12_awake_r1_congr {env : Env} {h : Hp} {K : Env → Hp → Prop} : octroilaw12_awake_r1 env h K = octroilaw12_awake_r1 env h K := rfl

/-- law.go:19 -/
def octroilaw12_awake_r2 (env : Env) (h : Hp) (K : Env → Hp → Prop) : Prop :=
  rd Try.prog (bop Go.BinOp.eql 27 (Go.Operand.tmp 6) (Go.Operand.const (Go.Value.pointer none)) (env 1) (Go.Value.pointer none)) noHp fun v7_1 =>
  K ((env.set 6 (env 1)).set 7 v7_1) h
@[congr] theorem octroilaw12_awake_r2_congr {env : Env} {h : Hp} {K : Env → Hp → Prop} : octroilaw12_awake_r2 env h K = octroilaw12_awake_r2 env h K := rfl

/-- law.go:20 -/
def octroilaw12_awake_r3 (env : Env) (h : Hp) (K : Env → Hp → Prop) : Prop :=
  K (env.set 0 (Go.Value.bool false)) h
@[congr] theorem octroilaw12_awake_r3_congr {env : Env} {h : Hp} {K : Env → Hp → Prop} : octroilaw12_awake_r3 env h K = octroilaw12_awake_r3 env h K := rfl

/-- law.go:22 -/
def octroilaw12_awake_r4 (env : Env) (h : Hp) (K : Env → Hp → Prop) : Prop :=
  rd Try.prog (Instr.build 25 #[(0, (Go.Value.int Go.IntKind.i64 1)), (1, (Go.Value.int Go.IntKind.u32 5)), (2, (Go.Value.int Go.IntKind.u32 7))]) noHp fun v9_1 =>
  Ok Try.prog 11 #[(env 1), v9_1] h fun v10_2 h1 =>
  K (((env.set 8 (env 1)).set 9 v9_1).set 10 v10_2) h1
@[congr] theorem octroilaw12_awake_r4_congr {env : Env} {h : Hp} {K : Env → Hp → Prop} : octroilaw12_awake_r4 env h K = octroilaw12_awake_r4 env h K := rfl

/-- law.go:23 -/
def octroilaw12_awake_r5 (env : Env) (h : Hp) (K : Env → Hp → Prop) : Prop :=
  Ok Try.prog 14 #[(env 1)] h fun v12_1 h1 =>
  K ((env.set 11 (env 1)).set 12 v12_1) h1
@[congr] theorem octroilaw12_awake_r5_congr {env : Env} {h : Hp} {K : Env → Hp → Prop} : octroilaw12_awake_r5 env h K = octroilaw12_awake_r5 env h K := rfl

/-- law.go:24 -/
def octroilaw12_awake_r6 (env : Env) (h : Hp) (K : Env → Hp → Prop) : Prop :=
  rd Try.prog (Instr.build 25 #[(0, (Go.Value.int Go.IntKind.i64 1)), (1, (Go.Value.int Go.IntKind.u32 5)), (2, (Go.Value.int Go.IntKind.u32 9))]) noHp fun v14_1 =>
  Ok Try.prog 11 #[(env 1), v14_1] h fun v15_2 h1 =>
  K ((((env.set 13 (env 1)).set 14 v14_1).set 15 v15_2).set 2 v15_2) h1
@[congr] theorem octroilaw12_awake_r6_congr {env : Env} {h : Hp} {K : Env → Hp → Prop} : octroilaw12_awake_r6 env h K = octroilaw12_awake_r6 env h K := rfl

/-- law.go:25 -/
def octroilaw12_awake_r7 (env : Env) (h : Hp) (K : Env → Hp → Prop) : Prop :=
  Ok Try.prog 15 #[(env 1), (Go.Value.int Go.IntKind.i64 11)] h fun v17_1 h1 =>
  K ((env.set 16 (env 1)).set 17 v17_1) h1
@[congr] theorem octroilaw12_awake_r7_congr {env : Env} {h : Hp} {K : Env → Hp → Prop} : octroilaw12_awake_r7 env h K = octroilaw12_awake_r7 env h K := rfl

/-- law.go:26 -/
def octroilaw12_awake_r8 (env : Env) (h : Hp) (K : Env → Hp → Prop) : Prop :=
  Ok Try.prog 12 #[(env 1), (Go.Value.int Go.IntKind.i64 1), (Go.Value.int Go.IntKind.u32 5)] h fun v20_1 h1 =>
  rd Try.prog (Instr.extract v20_1 0) noHp fun v21_3 =>
  rd Try.prog (Instr.extract v20_1 1) noHp fun v22_4 =>
  K (((((((env.set 19 (env 1)).set 20 v20_1).set 18 v20_1).set 21 v21_3).set 22 v22_4).set 3 v21_3).set 4 v22_4) h1
@[congr] theorem octroilaw12_awake_r8_congr {env : Env} {h : Hp} {K : Env → Hp → Prop} : octroilaw12_awake_r8 env h K = octroilaw12_awake_r8 env h K := rfl

/-- law.go:27 -/
def octroilaw12_awake_r9 (env : Env) (h : Hp) (K : Env → Hp → Prop) : Prop :=
  rd Try.prog (bop Go.BinOp.eql 29 (Go.Operand.tmp 23) (Go.Operand.const (Go.Value.int Go.IntKind.i64 0)) (env 2) (Go.Value.int Go.IntKind.i64 0)) noHp fun v24_1 =>
  gd (yb v24_1 == some true) (fun h k => k (env 3) h) h fun v26_3 h1 =>
  gd (yb v24_1 == some true) (fun h k => rd Try.prog (bop Go.BinOp.eql 23 (Go.Operand.tmp 26) (Go.Operand.const (Go.Value.int Go.IntKind.u32 7)) v26_3 (Go.Value.int Go.IntKind.u32 7)) noHp fun v => k v h) h1 fun v27_4 h2 =>
  rd Try.prog (pck v24_1 v27_4 (Go.Value.bool false)) noHp fun v28_5 =>
  gd (yb v28_5 == some true) (fun h k => k (env 4) h) h2 fun v30_7 h3 =>
  rd Try.prog (pck v28_5 v30_7 (Go.Value.bool false)) noHp fun v31_8 =>
  gd (yb v31_8 == some true) (fun h k => k (env 1) h) h3 fun v33_10 h4 =>
  gd (yb v31_8 == some true) (fun h k => Ok Try.prog 16 #[v33_10] h k) h4 fun v34_11 h5 =>
  gd (yb v31_8 == some true) (fun h k => rd Try.prog (bop Go.BinOp.eql 3 (Go.Operand.tmp 34) (Go.Operand.const (Go.Value.int Go.IntKind.i64 1)) v34_11 (Go.Value.int Go.IntKind.i64 1)) noHp fun v => k v h) h5 fun v35_12 h6 =>
  rd Try.prog (pck v31_8 v35_12 (Go.Value.bool false)) noHp fun v36_13 =>
  K (((((((((((((((env.set 23 (env 2)).set 24 v24_1).set 25 v24_1).set 26 v26_3).set 27 v27_4).set 28 v28_5).set 29 v28_5).set 30 v30_7).set 31 v31_8).set 32 v31_8).set 33 v33_10).set 34 v34_11).set 35 v35_12).set 36 v36_13).set 0 v36_13) h6
@[congr] theorem octroilaw12_awake_r9_congr {env : Env} {h : Hp} {K : Env → Hp → Prop} : octroilaw12_awake_r9 env h K = octroilaw12_awake_r9 env h K := rfl

def octroilaw12_awake_D : Den := (sq (rg octroilaw12_awake_r0) (sq (rg octroilaw12_awake_r1) (sq (sq (rg octroilaw12_awake_r2) (cnd (Go.Operand.tmp 7) (sq (rg octroilaw12_awake_r3) (ex .ret)) (ex .normal))) (sq (rg octroilaw12_awake_r4) (sq (rg octroilaw12_awake_r5) (sq (rg octroilaw12_awake_r6) (sq (rg octroilaw12_awake_r7) (sq (rg octroilaw12_awake_r8) (sq (rg octroilaw12_awake_r9) (ex .ret))))))))))

theorem octroilaw12_awake_eq : (den Try.prog 37 octroilaw12_awake_code).1 = octroilaw12_awake_D := by kernel_rfl

theorem octroilaw12_awake_ok {args : Array Value} {h : Hp} {Q : Value → Hp → Prop} (hn : args.size ≤ 37) (D : octroilaw12_awake_D (fin Try.prog [(Go.ResultVar.tmp 0)] Q) (env0 args) h) : Ok Try.prog 9 args h Q :=
  ok_of_den progIsOk Try.func9 (c := octroilaw12_awake_code) (by kernel_rfl) hn (by show (den Try.prog 37 octroilaw12_awake_code).1 _ _ _; rw [octroilaw12_awake_eq]; exact D)

/-! ### octroi/journal.New: function 10 -/
noncomputable def journal_New_code : Code := match Try.f10.body with | some c => c | none => .skip

/-- journal.go:35 -/
def journal_New_r0 (env : Env) (h : Hp) (K : Env → Hp → Prop) : Prop :=
  K (env.set 2 (Go.Value.pointer none)) h
@[congr] theorem journal_New_r0_congr {env : Env} {h : Hp} {K : Env → Hp → Prop} : journal_New_r0 env h K = journal_New_r0 env h K := rfl

/-- journal.go:35 -/
def journal_New_r1 (env : Env) (h : Hp) (K : Env → Hp → Prop) : Prop :=
  arun Try.prog (Instr.makeMap 50 none) h fun v4_1 h1 =>
  rd Try.prog (Instr.build 52 #[(0, (env 0)), (3, v4_1)]) noHp fun v5_2 =>
  arun Try.prog (Instr.box 52 v5_2) h1 fun v6_3 h2 =>
  K (((((env.set 3 (env 0)).set 4 v4_1).set 5 v5_2).set 6 v6_3).set 2 v6_3) h2
@[congr] theorem journal_New_r1_congr {env : Env} {h : Hp} {K : Env → Hp → Prop} : journal_New_r1 env h K = journal_New_r1 env h K := rfl

def journal_New_D : Den := (sq (rg journal_New_r0) (sq (rg journal_New_r1) (ex .ret)))

theorem journal_New_eq : (den Try.prog 7 journal_New_code).1 = journal_New_D := by kernel_rfl

theorem journal_New_ok {args : Array Value} {h : Hp} {Q : Value → Hp → Prop} (hn : args.size ≤ 7) (D : journal_New_D (fin Try.prog [(Go.ResultVar.tmp 2)] Q) (env0 args) h) : Ok Try.prog 10 args h Q :=
  ok_of_den progIsOk Try.func10 (c := journal_New_code) (by kernel_rfl) hn (by show (den Try.prog 7 journal_New_code).1 _ _ _; rw [journal_New_eq]; exact D)

/-! ### (*octroi/journal.Journal).Put: function 11 -/
noncomputable def journal_Journal_Put_code : Code := match Try.f11.body with | some c => c | none => .skip

/-- journal.go:51 -/
def journal_Journal_Put_r0 (env : Env) (h : Hp) (K : Env → Hp → Prop) : Prop :=
  arun Try.prog (Instr.box 25 (env 1)) h fun v3_0 h1 =>
  K ((env.set 3 v3_0).set 4 (Go.Value.int Go.IntKind.i64 0)) h1
@[congr] theorem journal_Journal_Put_r0_congr {env : Env} {h : Hp} {K : Env → Hp → Prop} : journal_Journal_Put_r0 env h K = journal_Journal_Put_r0 env h K := rfl

/-- journal.go:53 -/
def journal_Journal_Put_r1 (env : Env) (h : Hp) (K : Env → Hp → Prop) : Prop :=
  rd Try.prog (Instr.fieldAt 25 (env 3) 0) noHp fun v6_0 =>
  rd Try.prog (Instr.loadAt 3 v6_0) h fun v7_1 =>
  rd Try.prog (bop Go.BinOp.lss 3 (Go.Operand.tmp 7) (Go.Operand.const (Go.Value.int Go.IntKind.i64 0)) v7_1 (Go.Value.int Go.IntKind.i64 0)) noHp fun v8_2 =>
  gd (yb v8_2 == some false) (fun h k => rd Try.prog (Instr.fieldAt 25 (env 3) 0) noHp fun v => k v h) h fun v10_4 h1 =>
  gd (yb v8_2 == some false) (fun h k => rd Try.prog (Instr.loadAt 3 v10_4) h fun v => k v h) h1 fun v11_5 h2 =>
  gd (yb v8_2 == some false) (fun h k => rd Try.prog (bop Go.BinOp.gtr 3 (Go.Operand.tmp 11) (Go.Operand.const (Go.Value.int Go.IntKind.i64 255)) v11_5 (Go.Value.int Go.IntKind.i64 255)) noHp fun v => k v h) h2 fun v12_6 h3 =>
  rd Try.prog (pck v8_2 (Go.Value.bool true) v12_6) noHp fun v13_7 =>
  K (((((((((env.set 6 v6_0).set 7 v7_1).set 8 v8_2).set 9 v8_2).set 10 v10_4).set 11 v11_5).set 12 v12_6).set 13 v13_7).set 5 v13_7) h3
@[congr] theorem journal_Journal_Put_r1_congr {env : Env} {h : Hp} {K : Env → Hp → Prop} : journal_Journal_Put_r1 env h K = journal_Journal_Put_r1 env h K := rfl

/-- journal.go:54 -/
def journal_Journal_Put_r2 (env : Env) (h : Hp) (K : Env → Hp → Prop) : Prop :=
  K (env.set 4 (Go.Value.int Go.IntKind.i64 1)) h
@[congr] theorem journal_Journal_Put_r2_congr {env : Env} {h : Hp} {K : Env → Hp → Prop} : journal_Journal_Put_r2 env h K = journal_Journal_Put_r2 env h K := rfl

/-- journal.go:55 (in any order) -/
def journal_Journal_Put_r3 (env : Env) (h : Hp) (K : Env → Hp → Prop) : Prop :=
  nck (env 0) (
  rd Try.prog (Instr.fieldAt 52 (env 0) 0) noHp fun v19_3 =>
  rd Try.prog (Instr.loadAt 3 v19_3) h fun v20_4 =>
  Ok Try.prog 16 #[(env 0)] h fun v16_5 h1 =>
  (rrun Try.prog (Instr.loadAt 3 v19_3) h1 = some v20_4 ∧ True) ∧
  rd Try.prog (bop Go.BinOp.geq 3 (Go.Operand.tmp 16) (Go.Operand.tmp 20) v16_5 v20_4) noHp fun v21_6 =>
  K ((((((((env.set 15 (env 0)).set 17 (env 0)).set 18 (env 0)).set 19 v19_3).set 20 v20_4).set 16 v16_5).set 21 v21_6).set 14 v21_6) h1)
@[congr] theorem journal_Journal_Put_r3_congr {env : Env} {h : Hp} {K : Env → Hp → Prop} : journal_Journal_Put_r3 env h K = journal_Journal_Put_r3 env h K := rfl

/-- journal.go:56 -/
def journal_Journal_Put_r4 (env : Env) (h : Hp) (K : Env → Hp → Prop) : Prop :=
  K (env.set 4 (Go.Value.int Go.IntKind.i64 4)) h
@[congr] theorem journal_Journal_Put_r4_congr {env : Env} {h : Hp} {K : Env → Hp → Prop} : journal_Journal_Put_r4 env h K = journal_Journal_Put_r4 env h K := rfl

/-- journal.go:58 (in any order) -/
def journal_Journal_Put_r5 (env : Env) (h : Hp) (K : Env → Hp → Prop) : Prop :=
  nck (env 0) (
  rd Try.prog (Instr.fieldAt 52 (env 0) 2) noHp fun v25_3 =>
  rd Try.prog (Instr.loadAt 34 v25_3) h fun v26_4 =>
  rd Try.prog (Instr.loadAt 25 (env 3)) h fun v27_5 =>
  Ok Try.prog 27 #[v27_5] h fun v28_6 h1 =>
  (rrun Try.prog (Instr.loadAt 34 v25_3) h1 = some v26_4 ∧ True) ∧
  arun Try.prog (Builtin.append_ #[34, 34] 34 #[v26_4, v28_6]) h1 fun v29_7 h2 =>
  (True) ∧
  nck (env 0) (
  rd Try.prog (Instr.fieldAt 52 (env 0) 2) noHp fun v31_9 =>
  arun Try.prog (Instr.storeAt 34 v31_9 v29_7) h2 fun _ h3 =>
  (True) ∧
  K ((((((((((env.set 22 (env 0)).set 23 (env 0)).set 24 (env 0)).set 25 v25_3).set 26 v26_4).set 27 v27_5).set 28 v28_6).set 29 v29_7).set 30 (env 0)).set 31 v31_9) h3))
@[congr] theorem journal_Journal_Put_r5_congr {env : Env} {h : Hp} {K : Env → Hp → Prop} : journal_Journal_Put_r5 env h K = journal_Journal_Put_r5 env h K := rfl

/-- journal.go:59 (in any order) -/
def journal_Journal_Put_r6 (env : Env) (h : Hp) (K : Env → Hp → Prop) : Prop :=
  nck (env 0) (
  rd Try.prog (Instr.fieldAt 52 (env 0) 3) noHp fun v34_2 =>
  rd Try.prog (Instr.loadAt 50 v34_2) h fun v35_3 =>
  rd Try.prog (Instr.fieldAt 25 (env 3) 0) noHp fun v36_4 =>
  rd Try.prog (Instr.loadAt 3 v36_4) h fun v37_5 =>
  rd Try.prog (Instr.fieldAt 25 (env 3) 1) noHp fun v38_6 =>
  rd Try.prog (Instr.loadAt 23 v38_6) h fun v39_7 =>
  rd Try.prog (Instr.build 55 #[(0, v37_5), (1, v39_7)]) noHp fun v40_8 =>
  rd Try.prog (Instr.fieldAt 25 (env 3) 2) noHp fun v41_9 =>
  rd Try.prog (Instr.loadAt 23 v41_9) h fun v42_10 =>
  arun Try.prog (Instr.mapUpdate 50 v35_3 v40_8 v42_10) h fun _ h1 =>
  (True) ∧
  K (((((((((((env.set 32 (env 0)).set 33 (env 0)).set 34 v34_2).set 35 v35_3).set 36 v36_4).set 37 v37_5).set 38 v38_6).set 39 v39_7).set 40 v40_8).set 41 v41_9).set 42 v42_10) h1)
@[congr] theorem journal_Journal_Put_r6_congr {env : Env} {h : Hp} {K : Env → Hp → Prop} : journal_Journal_Put_r6 env h K = journal_Journal_Put_r6 env h K := rfl

/-- journal.go:60 -/
def journal_Journal_Put_r7 (env : Env) (h : Hp) (K : Env → Hp → Prop) : Prop :=
  K (env.set 4 (Go.Value.int Go.IntKind.i64 0)) h
@[congr] theorem journal_Journal_Put_r7_congr {env : Env} {h : Hp} {K : Env → Hp → Prop} : journal_Journal_Put_r7 env h K = journal_Journal_Put_r7 env h K := rfl

def journal_Journal_Put_D : Den := (sq (rg journal_Journal_Put_r0) (sq (blk 0 (sq (rg journal_Journal_Put_r1) (cnd (Go.Operand.tmp 5) (sq (rg journal_Journal_Put_r2) (ex .ret)) (sq (rg journal_Journal_Put_r3) (cnd (Go.Operand.tmp 14) (sq (rg journal_Journal_Put_r4) (ex .ret)) (ex .normal)))))) (sq (rg journal_Journal_Put_r5) (sq (rg journal_Journal_Put_r6) (sq (rg journal_Journal_Put_r7) (ex .ret))))))

theorem journal_Journal_Put_eq : (den Try.prog 43 journal_Journal_Put_code).1 = journal_Journal_Put_D := by kernel_rfl

theorem journal_Journal_Put_ok {args : Array Value} {h : Hp} {Q : Value → Hp → Prop} (hn : args.size ≤ 43) (D : journal_Journal_Put_D (fin Try.prog [(Go.ResultVar.tmp 4)] Q) (env0 args) h) : Ok Try.prog 11 args h Q :=
  ok_of_den progIsOk Try.func11 (c := journal_Journal_Put_code) (by kernel_rfl) hn (by show (den Try.prog 43 journal_Journal_Put_code).1 _ _ _; rw [journal_Journal_Put_eq]; exact D)

/-! ### (*octroi/journal.Journal).Get: function 12 -/
noncomputable def journal_Journal_Get_code : Code := match Try.f12.body with | some c => c | none => .skip

/-- journal.go:64 -/
def journal_Journal_Get_r0 (env : Env) (h : Hp) (K : Env → Hp → Prop) : Prop :=
  K ((env.set 6 (Go.Value.int Go.IntKind.u32 0)).set 7 (Go.Value.bool false)) h
@[congr] theorem journal_Journal_Get_r0_congr {env : Env} {h : Hp} {K : Env → Hp → Prop} : journal_Journal_Get_r0 env h K = journal_Journal_Get_r0 env h K := rfl

/-- journal.go:65 -/
def journal_Journal_Get_r1 (env : Env) (h : Hp) (K : Env → Hp → Prop) : Prop :=
  nck (env 0) (
  rd Try.prog (Instr.fieldAt 52 (env 0) 3) noHp fun v13_2 =>
  rd Try.prog (Instr.loadAt 50 v13_2) h fun v14_3 =>
  rd Try.prog (Instr.build 55 #[(0, (env 1)), (1, (env 2))]) noHp fun v17_6 =>
  rd Try.prog (Instr.lookup 50 v14_3 v17_6 true) h fun v18_7 =>
  rd Try.prog (Instr.extract v18_7 0) noHp fun v19_9 =>
  rd Try.prog (Instr.extract v18_7 1) noHp fun v20_10 =>
  K (((((((((((((env.set 11 (env 0)).set 12 (env 0)).set 13 v13_2).set 14 v14_3).set 15 (env 1)).set 16 (env 2)).set 17 v17_6).set 18 v18_7).set 10 v18_7).set 19 v19_9).set 20 v20_10).set 8 v19_9).set 9 v20_10) h)
@[congr] theorem journal_Journal_Get_r1_congr {env : Env} {h : Hp} {K : Env → Hp → Prop} : journal_Journal_Get_r1 env h K = journal_Journal_Get_r1 env h K := rfl

/-- journal.go:66 -/
def journal_Journal_Get_r2 (env : Env) (h : Hp) (K : Env → Hp → Prop) : Prop :=
  K ((((env.set 21 (env 8)).set 22 (env 9)).set 6 (env 8)).set 7 (env 9)) h
@[congr] theorem journal_Journal_Get_r2_congr {env : Env} {h : Hp} {K : Env → Hp → Prop} : journal_Journal_Get_r2 env h K = journal_Journal_Get_r2 env h K := rfl

def journal_Journal_Get_D : Den := (sq (rg journal_Journal_Get_r0) (sq (rg journal_Journal_Get_r1) (sq (rg journal_Journal_Get_r2) (ex .ret))))

theorem journal_Journal_Get_eq : (den Try.prog 23 journal_Journal_Get_code).1 = journal_Journal_Get_D := by kernel_rfl

theorem journal_Journal_Get_ok {args : Array Value} {h : Hp} {Q : Value → Hp → Prop} (hn : args.size ≤ 23) (D : journal_Journal_Get_D (fin Try.prog [(Go.ResultVar.tmp 6), (Go.ResultVar.tmp 7)] Q) (env0 args) h) : Ok Try.prog 12 args h Q :=
  ok_of_den progIsOk Try.func12 (c := journal_Journal_Get_code) (by kernel_rfl) hn (by show (den Try.prog 23 journal_Journal_Get_code).1 _ _ _; rw [journal_Journal_Get_eq]; exact D)

/-! ### (*octroi/journal.Journal).Bytes: function 13 -/
noncomputable def journal_Journal_Bytes_code : Code := match Try.f13.body with | some c => c | none => .skip

/-- journal.go:111 -/
def journal_Journal_Bytes_r0 (env : Env) (h : Hp) (K : Env → Hp → Prop) : Prop :=
  K (env.set 2 (Go.Value.slice none 0 0)) h
@[congr] theorem journal_Journal_Bytes_r0_congr {env : Env} {h : Hp} {K : Env → Hp → Prop} : journal_Journal_Bytes_r0 env h K = journal_Journal_Bytes_r0 env h K := rfl

/-- journal.go:111 -/
def journal_Journal_Bytes_r1 (env : Env) (h : Hp) (K : Env → Hp → Prop) : Prop :=
  nck (env 0) (
  rd Try.prog (Instr.fieldAt 52 (env 0) 2) noHp fun v5_2 =>
  rd Try.prog (Instr.loadAt 34 v5_2) h fun v6_3 =>
  Ok Try.prog 28 #[v6_3] h fun v7_4 h1 =>
  K ((((((env.set 3 (env 0)).set 4 (env 0)).set 5 v5_2).set 6 v6_3).set 7 v7_4).set 2 v7_4) h1)
@[congr] theorem journal_Journal_Bytes_r1_congr {env : Env} {h : Hp} {K : Env → Hp → Prop} : journal_Journal_Bytes_r1 env h K = journal_Journal_Bytes_r1 env h K := rfl

def journal_Journal_Bytes_D : Den := (sq (rg journal_Journal_Bytes_r0) (sq (rg journal_Journal_Bytes_r1) (ex .ret)))

theorem journal_Journal_Bytes_eq : (den Try.prog 8 journal_Journal_Bytes_code).1 = journal_Journal_Bytes_D := by kernel_rfl

theorem journal_Journal_Bytes_ok {args : Array Value} {h : Hp} {Q : Value → Hp → Prop} (hn : args.size ≤ 8) (D : journal_Journal_Bytes_D (fin Try.prog [(Go.ResultVar.tmp 2)] Q) (env0 args) h) : Ok Try.prog 13 args h Q :=
  ok_of_den progIsOk Try.func13 (c := journal_Journal_Bytes_code) (by kernel_rfl) hn (by show (den Try.prog 8 journal_Journal_Bytes_code).1 _ _ _; rw [journal_Journal_Bytes_eq]; exact D)

/-! ### (*octroi/journal.Journal).Sync: function 14 -/
noncomputable def journal_Journal_Sync_code : Code := match Try.f14.body with | some c => c | none => .skip

/-- journal.go:70 -/
def journal_Journal_Sync_r0 (env : Env) (h : Hp) (K : Env → Hp → Prop) : Prop :=
  nck (env 0) (
  rd Try.prog (Instr.fieldAt 52 (env 0) 2) noHp fun v5_3 =>
  rd Try.prog (Instr.loadAt 34 v5_3) h fun v6_4 =>
  rd Try.prog (Builtin.len_ #[34] 3 #[v6_4]) h fun v7_5 =>
  nck (env 0) (
  rd Try.prog (Instr.fieldAt 52 (env 0) 1) noHp fun v9_7 =>
  arun Try.prog (Instr.storeAt 3 v9_7 v7_5) h fun _ h1 =>
  K ((((((((env.set 2 (env 0)).set 3 (env 0)).set 4 (env 0)).set 5 v5_3).set 6 v6_4).set 7 v7_5).set 8 (env 0)).set 9 v9_7) h1))
@[congr] theorem journal_Journal_Sync_r0_congr {env : Env} {h : Hp} {K : Env → Hp → Prop} : journal_Journal_Sync_r0 env h K = journal_Journal_Sync_r0 env h K := rfl

def journal_Journal_Sync_D : Den := (rg journal_Journal_Sync_r0)

theorem journal_Journal_Sync_eq : (den Try.prog 10 journal_Journal_Sync_code).1 = journal_Journal_Sync_D := by kernel_rfl

theorem journal_Journal_Sync_ok {args : Array Value} {h : Hp} {Q : Value → Hp → Prop} (hn : args.size ≤ 10) (D : journal_Journal_Sync_D (fin Try.prog [] Q) (env0 args) h) : Ok Try.prog 14 args h Q :=
  ok_of_den progIsOk Try.func14 (c := journal_Journal_Sync_code) (by kernel_rfl) hn (by show (den Try.prog 10 journal_Journal_Sync_code).1 _ _ _; rw [journal_Journal_Sync_eq]; exact D)

/-! ### (*octroi/journal.Journal).Crash: function 15 -/
noncomputable def journal_Journal_Crash_code : Code := match Try.f15.body with | some c => c | none => .skip

/-- journal.go:74 (in any order) -/
def journal_Journal_Crash_r0 (env : Env) (h : Hp) (K : Env → Hp → Prop) : Prop :=
  nck (env 0) (
  rd Try.prog (Instr.fieldAt 52 (env 0) 2) noHp fun v9_3 =>
  rd Try.prog (Instr.loadAt 34 v9_3) h fun v10_4 =>
  nck (env 0) (
  rd Try.prog (Instr.fieldAt 52 (env 0) 1) noHp fun v13_7 =>
  rd Try.prog (Instr.loadAt 3 v13_7) h fun v14_8 =>
  rd Try.prog (Builtin.max_ #[3, 3] 3 #[(env 1), (Go.Value.int Go.IntKind.i64 0)]) h fun v16_10 =>
  nck (env 0) (
  rd Try.prog (Instr.fieldAt 52 (env 0) 2) noHp fun v19_13 =>
  rd Try.prog (Instr.loadAt 34 v19_13) h fun v20_14 =>
  rd Try.prog (Builtin.len_ #[34] 3 #[v20_14]) h fun v21_15 =>
  nck (env 0) (
  rd Try.prog (Instr.fieldAt 52 (env 0) 1) noHp fun v24_18 =>
  rd Try.prog (Instr.loadAt 3 v24_18) h fun v25_19 =>
  rd Try.prog (bop Go.BinOp.sub 3 (Go.Operand.tmp 21) (Go.Operand.tmp 25) v21_15 v25_19) noHp fun v26_20 =>
  rd Try.prog (bop Go.BinOp.add 3 (Go.Operand.tmp 26) (Go.Operand.const (Go.Value.int Go.IntKind.i64 1)) v26_20 (Go.Value.int Go.IntKind.i64 1)) noHp fun v27_21 =>
  rd Try.prog (bop Go.BinOp.rem 3 (Go.Operand.tmp 16) (Go.Operand.tmp 27) v16_10 v27_21) noHp fun v28_22 =>
  rd Try.prog (bop Go.BinOp.add 3 (Go.Operand.tmp 14) (Go.Operand.tmp 28) v14_8 v28_22) noHp fun v29_23 =>
  rd Try.prog (Instr.sliceAt 34 v10_4 none (some v29_23) none) noHp fun v30_24 =>
  nck (env 0) (
  rd Try.prog (Instr.fieldAt 52 (env 0) 2) noHp fun v32_26 =>
  arun Try.prog (Instr.storeAt 34 v32_26 v30_24) h fun _ h1 =>
  (True) ∧
  K (((((((((((((((((((((((((((env.set 6 (env 0)).set 7 (env 0)).set 8 (env 0)).set 9 v9_3).set 10 v10_4).set 11 (env 0)).set 12 (env 0)).set 13 v13_7).set 14 v14_8).set 15 (env 1)).set 16 v16_10).set 17 (env 0)).set 18 (env 0)).set 19 v19_13).set 20 v20_14).set 21 v21_15).set 22 (env 0)).set 23 (env 0)).set 24 v24_18).set 25 v25_19).set 26 v26_20).set 27 v27_21).set 28 v28_22).set 29 v29_23).set 30 v30_24).set 31 (env 0)).set 32 v32_26) h1)))))
@[congr] theorem journal_Journal_Crash_r0_congr {env : Env} {h : Hp} {K : Env → Hp → Prop} : journal_Journal_Crash_r0 env h K = journal_Journal_Crash_r0 env h K := rfl

/-- journal.go:75 (in any order) -/
def journal_Journal_Crash_r1 (env : Env) (h : Hp) (K : Env → Hp → Prop) : Prop :=
  nck (env 0) (
  rd Try.prog (Instr.fieldAt 52 (env 0) 2) noHp fun v36_3 =>
  rd Try.prog (Instr.loadAt 34 v36_3) h fun v37_4 =>
  nck (env 0) (
  rd Try.prog (Instr.fieldAt 52 (env 0) 2) noHp fun v40_7 =>
  rd Try.prog (Instr.loadAt 34 v40_7) h fun v41_8 =>
  rd Try.prog (Builtin.len_ #[34] 3 #[v41_8]) h fun v42_9 =>
  rd Try.prog (bop Go.BinOp.quo 3 (Go.Operand.tmp 42) (Go.Operand.const (Go.Value.int Go.IntKind.i64 12)) v42_9 (Go.Value.int Go.IntKind.i64 12)) noHp fun v43_10 =>
  rd Try.prog (bop Go.BinOp.mul 3 (Go.Operand.tmp 43) (Go.Operand.const (Go.Value.int Go.IntKind.i64 12)) v43_10 (Go.Value.int Go.IntKind.i64 12)) noHp fun v44_11 =>
  rd Try.prog (Instr.sliceAt 34 v37_4 none (some v44_11) none) noHp fun v45_12 =>
  nck (env 0) (
  rd Try.prog (Instr.fieldAt 52 (env 0) 2) noHp fun v47_14 =>
  arun Try.prog (Instr.storeAt 34 v47_14 v45_12) h fun _ h1 =>
  (True) ∧
  K (((((((((((((((env.set 33 (env 0)).set 34 (env 0)).set 35 (env 0)).set 36 v36_3).set 37 v37_4).set 38 (env 0)).set 39 (env 0)).set 40 v40_7).set 41 v41_8).set 42 v42_9).set 43 v43_10).set 44 v44_11).set 45 v45_12).set 46 (env 0)).set 47 v47_14) h1)))
@[congr] theorem journal_Journal_Crash_r1_congr {env : Env} {h : Hp} {K : Env → Hp → Prop} : journal_Journal_Crash_r1 env h K = journal_Journal_Crash_r1 env h K := rfl

/-- journal.go:76 -/
def journal_Journal_Crash_r2 (env : Env) (h : Hp) (K : Env → Hp → Prop) : Prop :=
  arun Try.prog (Instr.makeMap 50 none) h fun v49_1 h1 =>
  nck (env 0) (
  rd Try.prog (Instr.fieldAt 52 (env 0) 3) noHp fun v51_3 =>
  arun Try.prog (Instr.storeAt 50 v51_3 v49_1) h1 fun _ h2 =>
  K ((((env.set 48 (env 0)).set 49 v49_1).set 50 (env 0)).set 51 v51_3) h2)
@[congr] theorem journal_Journal_Crash_r2_congr {env : Env} {h : Hp} {K : Env → Hp → Prop} : journal_Journal_Crash_r2 env h K = journal_Journal_Crash_r2 env h K := rfl

/-- journal.go:77 -/
def journal_Journal_Crash_r3 (env : Env) (h : Hp) (K : Env → Hp → Prop) : Prop :=
  K (env.set 4 (Go.Value.int Go.IntKind.i64 0)) h
@[congr] theorem journal_Journal_Crash_r3_congr {env : Env} {h : Hp} {K : Env → Hp → Prop} : journal_Journal_Crash_r3 env h K = journal_Journal_Crash_r3 env h K := rfl

/-- journal.go:79 -/
def journal_Journal_Crash_r4 (env : Env) (h : Hp) (K : Env → Hp → Prop) : Prop :=
  nck (env 0) (
  rd Try.prog (Instr.fieldAt 52 (env 0) 2) noHp fun v55_3 =>
  rd Try.prog (Instr.loadAt 34 v55_3) h fun v56_4 =>
  rd Try.prog (Builtin.len_ #[34] 3 #[v56_4]) h fun v57_5 =>
  rd Try.prog (bop Go.BinOp.lss 3 (Go.Operand.tmp 52) (Go.Operand.tmp 57) (env 4) v57_5) noHp fun v58_6 =>
  K (((((((env.set 52 (env 4)).set 53 (env 0)).set 54 (env 0)).set 55 v55_3).set 56 v56_4).set 57 v57_5).set 58 v58_6) h)
@[congr] theorem journal_Journal_Crash_r4_congr {env : Env} {h : Hp} {K : Env → Hp → Prop} : journal_Journal_Crash_r4 env h K = journal_Journal_Crash_r4 env h K := rfl

/-- journal.go:80 -/
def journal_Journal_Crash_r5 (env : Env) (h : Hp) (K : Env → Hp → Prop) : Prop :=
  nck (env 0) (
  rd Try.prog (Instr.fieldAt 52 (env 0) 2) noHp fun v61_2 =>
  rd Try.prog (Instr.loadAt 34 v61_2) h fun v62_3 =>
  rd Try.prog (Instr.sliceAt 34 v62_3 (some (env 4)) none none) noHp fun v64_5 =>
  Ok Try.prog 29 #[v64_5] h fun v65_6 h1 =>
  arun Try.prog (Instr.alloc 25 true (Go.Value.tuple #[])) h1 fun v5_7 h2 =>
  arun Try.prog (Instr.storeAt 25 v5_7 v65_6) h2 fun _ h3 =>
  K ((((((((env.set 59 (env 0)).set 60 (env 0)).set 61 v61_2).set 62 v62_3).set 63 (env 4)).set 64 v64_5).set 65 v65_6).set 5 v5_7) h3)
@[congr] theorem journal_Journal_Crash_r5_congr {env : Env} {h : Hp} {K : Env → Hp → Prop} : journal_Journal_Crash_r5 env h K = journal_Journal_Crash_r5 env h K := rfl

/-- journal.go:81 (in any order) -/
def journal_Journal_Crash_r6 (env : Env) (h : Hp) (K : Env → Hp → Prop) : Prop :=
  nck (env 0) (
  rd Try.prog (Instr.fieldAt 52 (env 0) 3) noHp fun v68_2 =>
  rd Try.prog (Instr.loadAt 50 v68_2) h fun v69_3 =>
  rd Try.prog (Instr.fieldAt 25 (env 5) 0) noHp fun v70_4 =>
  rd Try.prog (Instr.loadAt 3 v70_4) h fun v71_5 =>
  rd Try.prog (Instr.fieldAt 25 (env 5) 1) noHp fun v72_6 =>
  rd Try.prog (Instr.loadAt 23 v72_6) h fun v73_7 =>
  rd Try.prog (Instr.build 55 #[(0, v71_5), (1, v73_7)]) noHp fun v74_8 =>
  rd Try.prog (Instr.fieldAt 25 (env 5) 2) noHp fun v75_9 =>
  rd Try.prog (Instr.loadAt 23 v75_9) h fun v76_10 =>
  arun Try.prog (Instr.mapUpdate 50 v69_3 v74_8 v76_10) h fun _ h1 =>
  (True) ∧
  K (((((((((((env.set 66 (env 0)).set 67 (env 0)).set 68 v68_2).set 69 v69_3).set 70 v70_4).set 71 v71_5).set 72 v72_6).set 73 v73_7).set 74 v74_8).set 75 v75_9).set 76 v76_10) h1)
@[congr] theorem journal_Journal_Crash_r6_congr {env : Env} {h : Hp} {K : Env → Hp → Prop} : journal_Journal_Crash_r6 env h K = journal_Journal_Crash_r6 env h K := rfl

/-- journal.go:82 -/
def journal_Journal_Crash_r7 (env : Env) (h : Hp) (K : Env → Hp → Prop) : Prop :=
  rd Try.prog (bop Go.BinOp.add 3 (Go.Operand.tmp 77) (Go.Operand.const (Go.Value.int Go.IntKind.i64 12)) (env 4) (Go.Value.int Go.IntKind.i64 12)) noHp fun v78_1 =>
  K (((env.set 77 (env 4)).set 78 v78_1).set 4 v78_1) h
@[congr] theorem journal_Journal_Crash_r7_congr {env : Env} {h : Hp} {K : Env → Hp → Prop} : journal_Journal_Crash_r7 env h K = journal_Journal_Crash_r7 env h K := rfl

/-- journal.go:85 -/
def journal_Journal_Crash_r8 (env : Env) (h : Hp) (K : Env → Hp → Prop) : Prop :=
  Ok Try.prog 14 #[(env 0)] h fun v80_1 h1 =>
  K ((env.set 79 (env 0)).set 80 v80_1) h1
@[congr] theorem journal_Journal_Crash_r8_congr {env : Env} {h : Hp} {K : Env → Hp → Prop} : journal_Journal_Crash_r8 env h K = journal_Journal_Crash_r8 env h K := rfl

def journal_Journal_Crash_S0 : Den := (sq (rg journal_Journal_Crash_r0) (sq (rg journal_Journal_Crash_r1) (sq (rg journal_Journal_Crash_r2) (sq (rg journal_Journal_Crash_r3) (sq (ex .normal) (sq (sq (rg journal_Journal_Crash_r4) (cnd (Go.Operand.tmp 58) (sq (rg journal_Journal_Crash_r5) (sq (rg journal_Journal_Crash_r6) (sq (rg journal_Journal_Crash_r7) (ex (.goto 0))))) (ex .normal))) (rg journal_Journal_Crash_r8)))))))

noncomputable def journal_Journal_Crash_S0_code : Code := subCode [0] journal_Journal_Crash_code

def journal_Journal_Crash_S0_at0 : Den := (sq (ex .normal) (sq (sq (rg journal_Journal_Crash_r4) (cnd (Go.Operand.tmp 58) (sq (rg journal_Journal_Crash_r5) (sq (rg journal_Journal_Crash_r6) (sq (rg journal_Journal_Crash_r7) (ex (.goto 0))))) (ex .normal))) (rg journal_Journal_Crash_r8)))

theorem journal_Journal_Crash_S0_lab0 : (den Try.prog 81 journal_Journal_Crash_S0_code).2 0 = some journal_Journal_Crash_S0_at0 := by kernel_rfl

def journal_Journal_Crash_D : Den := (scp journal_Journal_Crash_S0 (den Try.prog 81 journal_Journal_Crash_S0_code).2)

theorem journal_Journal_Crash_eq : (den Try.prog 81 journal_Journal_Crash_code).1 = journal_Journal_Crash_D := by kernel_rfl

theorem journal_Journal_Crash_ok {args : Array Value} {h : Hp} {Q : Value → Hp → Prop} (hn : args.size ≤ 81) (D : journal_Journal_Crash_D (fin Try.prog [] Q) (env0 args) h) : Ok Try.prog 15 args h Q :=
  ok_of_den progIsOk Try.func15 (c := journal_Journal_Crash_code) (by kernel_rfl) hn (by show (den Try.prog 81 journal_Journal_Crash_code).1 _ _ _; rw [journal_Journal_Crash_eq]; exact D)

/-! ### (*octroi/journal.Journal).Len: function 16 -/
noncomputable def journal_Journal_Len_code : Code := match Try.f16.body with | some c => c | none => .skip

/-- journal.go:108 -/
def journal_Journal_Len_r0 (env : Env) (h : Hp) (K : Env → Hp → Prop) : Prop :=
  K (env.set 2 (Go.Value.int Go.IntKind.i64 0)) h
@[congr] theorem journal_Journal_Len_r0_congr {env : Env} {h : Hp} {K : Env → Hp → Prop} : journal_Journal_Len_r0 env h K = journal_Journal_Len_r0 env h K := rfl

/-- journal.go:108 -/
def journal_Journal_Len_r1 (env : Env) (h : Hp) (K : Env → Hp → Prop) : Prop :=
  nck (env 0) (
  rd Try.prog (Instr.fieldAt 52 (env 0) 2) noHp fun v5_2 =>
  rd Try.prog (Instr.loadAt 34 v5_2) h fun v6_3 =>
  rd Try.prog (Builtin.len_ #[34] 3 #[v6_3]) h fun v7_4 =>
  rd Try.prog (bop Go.BinOp.quo 3 (Go.Operand.tmp 7) (Go.Operand.const (Go.Value.int Go.IntKind.i64 12)) v7_4 (Go.Value.int Go.IntKind.i64 12)) noHp fun v8_5 =>
  K (((((((env.set 3 (env 0)).set 4 (env 0)).set 5 v5_2).set 6 v6_3).set 7 v7_4).set 8 v8_5).set 2 v8_5) h)
@[congr] theorem journal_Journal_Len_r1_congr {env : Env} {h : Hp} {K : Env → Hp → Prop} : journal_Journal_Len_r1 env h K = journal_Journal_Len_r1 env h K := rfl

def journal_Journal_Len_D : Den := (sq (rg journal_Journal_Len_r0) (sq (rg journal_Journal_Len_r1) (ex .ret)))

theorem journal_Journal_Len_eq : (den Try.prog 9 journal_Journal_Len_code).1 = journal_Journal_Len_D := by kernel_rfl

theorem journal_Journal_Len_ok {args : Array Value} {h : Hp} {Q : Value → Hp → Prop} (hn : args.size ≤ 9) (D : journal_Journal_Len_D (fin Try.prog [(Go.ResultVar.tmp 2)] Q) (env0 args) h) : Ok Try.prog 16 args h Q :=
  ok_of_den progIsOk Try.func16 (c := journal_Journal_Len_code) (by kernel_rfl) hn (by show (den Try.prog 9 journal_Journal_Len_code).1 _ _ _; rw [journal_Journal_Len_eq]; exact D)

/-! ### (*octroi/journal.Journal).Facts: function 17 -/
noncomputable def journal_Journal_Facts_code : Code := match Try.f17.body with | some c => c | none => .skip

/-- journal.go:89 -/
def journal_Journal_Facts_r0 (env : Env) (h : Hp) (K : Env → Hp → Prop) : Prop :=
  K (env.set 2 (Go.Value.slice none 0 0)) h
@[congr] theorem journal_Journal_Facts_r0_congr {env : Env} {h : Hp} {K : Env → Hp → Prop} : journal_Journal_Facts_r0 env h K = journal_Journal_Facts_r0 env h K := rfl

/-- journal.go:90 -/
def journal_Journal_Facts_r1 (env : Env) (h : Hp) (K : Env → Hp → Prop) : Prop :=
  K (env.set 3 (Go.Value.slice none 0 0)) h
@[congr] theorem journal_Journal_Facts_r1_congr {env : Env} {h : Hp} {K : Env → Hp → Prop} : journal_Journal_Facts_r1 env h K = journal_Journal_Facts_r1 env h K := rfl

/-- journal.go:91 -/
def journal_Journal_Facts_r2 (env : Env) (h : Hp) (K : Env → Hp → Prop) : Prop :=
  nck (env 0) (
  rd Try.prog (Instr.fieldAt 52 (env 0) 3) noHp fun v8_2 =>
  rd Try.prog (Instr.loadAt 50 v8_2) h fun v9_3 =>
  Ok Try.prog 31 #[v9_3] h fun v10_4 h1 =>
  Ok Try.prog 30 #[v10_4, (Go.Value.func (Go.Fn.func 32) #[] #[])] h1 fun v11_5 h2 =>
  rd Try.prog (Builtin.len_ #[58] 3 #[v11_5]) h2 fun v12_6 =>
  K ((((((((env.set 6 (env 0)).set 7 (env 0)).set 8 v8_2).set 9 v9_3).set 10 v10_4).set 11 v11_5).set 12 v12_6).set 13 (Go.Value.int Go.IntKind.i64 0)) h2)
@[congr] theorem journal_Journal_Facts_r2_congr {env : Env} {h : Hp} {K : Env → Hp → Prop} : journal_Journal_Facts_r2 env h K = journal_Journal_Facts_r2 env h K := rfl

/-- journal.go:91 -/
def journal_Journal_Facts_r3 (env : Env) (h : Hp) (K : Env → Hp → Prop) : Prop :=
  rd Try.prog (bop Go.BinOp.lss 3 (Go.Operand.tmp 13) (Go.Operand.tmp 12) (env 13) (env 12)) noHp fun v14_0 =>
  K (env.set 14 v14_0) h
@[congr] theorem journal_Journal_Facts_r3_congr {env : Env} {h : Hp} {K : Env → Hp → Prop} : journal_Journal_Facts_r3 env h K = journal_Journal_Facts_r3 env h K := rfl

/-- journal.go:91 -/
def journal_Journal_Facts_r4 (env : Env) (h : Hp) (K : Env → Hp → Prop) : Prop :=
  rd Try.prog (Instr.indexAt 58 (env 11) (env 13)) noHp fun v15_0 =>
  rd Try.prog (Instr.loadAt 55 v15_0) h fun v16_1 =>
  arun Try.prog (Instr.alloc 55 true (Go.Value.tuple #[])) h fun v5_2 h1 =>
  arun Try.prog (Instr.storeAt 55 v5_2 v16_1) h1 fun _ h2 =>
  K (((env.set 15 v15_0).set 16 v16_1).set 5 v5_2) h2
@[congr] theorem journal_Journal_Facts_r4_congr {env : Env} {h : Hp} {K : Env → Hp → Prop} : journal_Journal_Facts_r4 env h K = journal_Journal_Facts_r4 env h K := rfl

/-- journal.go:92 (in any order) -/
def journal_Journal_Facts_r5 (env : Env) (h : Hp) (K : Env → Hp → Prop) : Prop :=
  rd Try.prog (Instr.fieldAt 55 (env 5) 0) noHp fun v18_1 =>
  rd Try.prog (Instr.loadAt 3 v18_1) h fun v19_2 =>
  rd Try.prog (Instr.fieldAt 55 (env 5) 1) noHp fun v20_3 =>
  rd Try.prog (Instr.loadAt 23 v20_3) h fun v21_4 =>
  nck (env 0) (
  rd Try.prog (Instr.fieldAt 52 (env 0) 3) noHp fun v24_7 =>
  rd Try.prog (Instr.loadAt 50 v24_7) h fun v25_8 =>
  rd Try.prog (Instr.loadAt 55 (env 5)) h fun v26_9 =>
  rd Try.prog (Instr.lookup 50 v25_8 v26_9 false) h fun v27_10 =>
  rd Try.prog (Instr.build 25 #[(0, v19_2), (1, v21_4), (2, v27_10)]) noHp fun v28_11 =>
  arun Try.prog (Instr.buildSlice 22 1 #[(0, v28_11)]) h fun v29_12 h1 =>
  (True) ∧
  arun Try.prog (Builtin.append_ #[22, 22] 22 #[(env 3), v29_12]) h1 fun v30_13 h2 =>
  (True) ∧
  K (((((((((((((((env.set 17 (env 3)).set 18 v18_1).set 19 v19_2).set 20 v20_3).set 21 v21_4).set 22 (env 0)).set 23 (env 0)).set 24 v24_7).set 25 v25_8).set 26 v26_9).set 27 v27_10).set 28 v28_11).set 29 v29_12).set 30 v30_13).set 3 v30_13) h2)
@[congr] theorem journal_Journal_Facts_r5_congr {env : Env} {h : Hp} {K : Env → Hp → Prop} : journal_Journal_Facts_r5 env h K = journal_Journal_Facts_r5 env h K := rfl

/-- journal.go:91 -/
def journal_Journal_Facts_r6 (env : Env) (h : Hp) (K : Env → Hp → Prop) : Prop :=
  rd Try.prog (bop Go.BinOp.add 3 (Go.Operand.tmp 13) (Go.Operand.const (Go.Value.int Go.IntKind.i64 1)) (env 13) (Go.Value.int Go.IntKind.i64 1)) noHp fun v31_0 =>
  K ((env.set 31 v31_0).set 13 v31_0) h
@[congr] theorem journal_Journal_Facts_r6_congr {env : Env} {h : Hp} {K : Env → Hp → Prop} : journal_Journal_Facts_r6 env h K = journal_Journal_Facts_r6 env h K := rfl

def journal_Journal_Facts_L0 : Den := (sq (rg journal_Journal_Facts_r3) (sq (cnd (Go.Operand.tmp 14) (ex .normal) (ex (.exit 0))) (sq (blk 1 (sq (rg journal_Journal_Facts_r4) (rg journal_Journal_Facts_r5))) (rg journal_Journal_Facts_r6))))

/-- journal.go:94 -/
def journal_Journal_Facts_r7 (env : Env) (h : Hp) (K : Env → Hp → Prop) : Prop :=
  K ((env.set 32 (env 3)).set 2 (env 3)) h
@[congr] theorem journal_Journal_Facts_r7_congr {env : Env} {h : Hp} {K : Env → Hp → Prop} : journal_Journal_Facts_r7 env h K = journal_Journal_Facts_r7 env h K := rfl

def journal_Journal_Facts_D : Den := (sq (rg journal_Journal_Facts_r0) (sq (rg journal_Journal_Facts_r1) (sq (sq (rg journal_Journal_Facts_r2) (blk 0 (lp journal_Journal_Facts_L0))) (sq (rg journal_Journal_Facts_r7) (ex .ret)))))

theorem journal_Journal_Facts_eq : (den Try.prog 33 journal_Journal_Facts_code).1 = journal_Journal_Facts_D := by kernel_rfl

theorem journal_Journal_Facts_ok {args : Array Value} {h : Hp} {Q : Value → Hp → Prop} (hn : args.size ≤ 33) (D : journal_Journal_Facts_D (fin Try.prog [(Go.ResultVar.tmp 2)] Q) (env0 args) h) : Ok Try.prog 17 args h Q :=
  ok_of_den progIsOk Try.func17 (c := journal_Journal_Facts_code) (by kernel_rfl) hn (by show (den Try.prog 33 journal_Journal_Facts_code).1 _ _ _; rw [journal_Journal_Facts_eq]; exact D)

/-! ### octroi/octroiref12.Same: function 18 -/
noncomputable def octroiref12_Same_code : Code := match Try.f18.body with | some c => c | none => .skip

/-- ref.go:91 -/
def octroiref12_Same_r0 (env : Env) (h : Hp) (K : Env → Hp → Prop) : Prop :=
  K (env.set 4 (Go.Value.bool false)) h
@[congr] theorem octroiref12_Same_r0_congr {env : Env} {h : Hp} {K : Env → Hp → Prop} : octroiref12_Same_r0 env h K = octroiref12_Same_r0 env h K := rfl

/-- ref.go:92 -/
def octroiref12_Same_r1 (env : Env) (h : Hp) (K : Env → Hp → Prop) : Prop :=
  rd Try.prog (Builtin.len_ #[22] 3 #[(env 0)]) h fun v7_1 =>
  rd Try.prog (Builtin.len_ #[22] 3 #[(env 1)]) h fun v9_3 =>
  rd Try.prog (bop Go.BinOp.neq 3 (Go.Operand.tmp 7) (Go.Operand.tmp 9) v7_1 v9_3) noHp fun v10_4 =>
  K (((((env.set 6 (env 0)).set 7 v7_1).set 8 (env 1)).set 9 v9_3).set 10 v10_4) h
@[congr] theorem octroiref12_Same_r1_congr {env : Env} {h : Hp} {K : Env → Hp → Prop} : octroiref12_Same_r1 env h K = octroiref12_Same_r1 env h K := rfl

/-- ref.go:93 -/
def octroiref12_Same_r2 (env : Env) (h : Hp) (K : Env → Hp → Prop) : Prop :=
  K (env.set 4 (Go.Value.bool false)) h
@[congr] theorem octroiref12_Same_r2_congr {env : Env} {h : Hp} {K : Env → Hp → Prop} : octroiref12_Same_r2 env h K = octroiref12_Same_r2 env h K := rfl

/-- ref.go:95 -/
def octroiref12_Same_r3 (env : Env) (h : Hp) (K : Env → Hp → Prop) : Prop :=
  K (env.set 5 (Go.Value.int Go.IntKind.i64 0)) h
@[congr] theorem octroiref12_Same_r3_congr {env : Env} {h : Hp} {K : Env → Hp → Prop} : octroiref12_Same_r3 env h K = octroiref12_Same_r3 env h K := rfl

/-- ref.go:95 -/
def octroiref12_Same_r4 (env : Env) (h : Hp) (K : Env → Hp → Prop) : Prop :=
  rd Try.prog (Builtin.len_ #[22] 3 #[(env 0)]) h fun v13_2 =>
  rd Try.prog (bop Go.BinOp.lss 3 (Go.Operand.tmp 11) (Go.Operand.tmp 13) (env 5) v13_2) noHp fun v14_3 =>
  K ((((env.set 11 (env 5)).set 12 (env 0)).set 13 v13_2).set 14 v14_3) h
@[congr] theorem octroiref12_Same_r4_congr {env : Env} {h : Hp} {K : Env → Hp → Prop} : octroiref12_Same_r4 env h K = octroiref12_Same_r4 env h K := rfl

/-- ref.go:96 (in any order) -/
def octroiref12_Same_r5 (env : Env) (h : Hp) (K : Env → Hp → Prop) : Prop :=
  rd Try.prog (Instr.indexAt 22 (env 0) (env 5)) noHp fun v19_2 =>
  rd Try.prog (Instr.loadAt 25 v19_2) h fun v20_3 =>
  rd Try.prog (Instr.indexAt 22 (env 1) (env 5)) noHp fun v23_6 =>
  rd Try.prog (Instr.loadAt 25 v23_6) h fun v24_7 =>
  rd Try.prog (bop Go.BinOp.neq 25 (Go.Operand.tmp 20) (Go.Operand.tmp 24) v20_3 v24_7) noHp fun v25_8 =>
  K (((((((((env.set 17 (env 0)).set 18 (env 5)).set 19 v19_2).set 20 v20_3).set 21 (env 1)).set 22 (env 5)).set 23 v23_6).set 24 v24_7).set 25 v25_8) h
@[congr] theorem octroiref12_Same_r5_congr {env : Env} {h : Hp} {K : Env → Hp → Prop} : octroiref12_Same_r5 env h K = octroiref12_Same_r5 env h K := rfl

/-- ref.go:97 -/
def octroiref12_Same_r6 (env : Env) (h : Hp) (K : Env → Hp → Prop) : Prop :=
  K (env.set 4 (Go.Value.bool false)) h
@[congr] theorem octroiref12_Same_r6_congr {env : Env} {h : Hp} {K : Env → Hp → Prop} : octroiref12_Same_r6 env h K = octroiref12_Same_r6 env h K := rfl

/-- ref.go:95 -/
def octroiref12_Same_r7 (env : Env) (h : Hp) (K : Env → Hp → Prop) : Prop :=
  rd Try.prog (bop Go.BinOp.add 3 (Go.Operand.tmp 15) (Go.Operand.const (Go.Value.int Go.IntKind.i64 1)) (env 5) (Go.Value.int Go.IntKind.i64 1)) noHp fun v16_1 =>
  K (((env.set 15 (env 5)).set 16 v16_1).set 5 v16_1) h
@[congr] theorem octroiref12_Same_r7_congr {env : Env} {h : Hp} {K : Env → Hp → Prop} : octroiref12_Same_r7 env h K = octroiref12_Same_r7 env h K := rfl

def octroiref12_Same_L0 : Den := (sq (sq (rg octroiref12_Same_r4) (cnd (Go.Operand.tmp 14) (ex .normal) (ex (.exit 0)))) (sq (blk 1 (sq (rg octroiref12_Same_r5) (cnd (Go.Operand.tmp 25) (sq (rg octroiref12_Same_r6) (ex .ret)) (ex .normal)))) (rg octroiref12_Same_r7)))

/-- ref.go:100 -/
def octroiref12_Same_r8 (env : Env) (h : Hp) (K : Env → Hp → Prop) : Prop :=
  K (env.set 4 (Go.Value.bool true)) h
@[congr] theorem octroiref12_Same_r8_congr {env : Env} {h : Hp} {K : Env → Hp → Prop} : octroiref12_Same_r8 env h K = octroiref12_Same_r8 env h K := rfl

def octroiref12_Same_D : Den := (sq (rg octroiref12_Same_r0) (sq (sq (rg octroiref12_Same_r1) (cnd (Go.Operand.tmp 10) (sq (rg octroiref12_Same_r2) (ex .ret)) (ex .normal))) (sq (sq (rg octroiref12_Same_r3) (blk 0 (lp octroiref12_Same_L0))) (sq (rg octroiref12_Same_r8) (ex .ret)))))

theorem octroiref12_Same_eq : (den Try.prog 26 octroiref12_Same_code).1 = octroiref12_Same_D := by kernel_rfl

theorem octroiref12_Same_ok {args : Array Value} {h : Hp} {Q : Value → Hp → Prop} (hn : args.size ≤ 26) (D : octroiref12_Same_D (fin Try.prog [(Go.ResultVar.tmp 4)] Q) (env0 args) h) : Ok Try.prog 18 args h Q :=
  ok_of_den progIsOk Try.func18 (c := octroiref12_Same_code) (by kernel_rfl) hn (by show (den Try.prog 26 octroiref12_Same_code).1 _ _ _; rw [octroiref12_Same_eq]; exact D)

end Go.Proofs.Ytjcecdjbllpmcaa
