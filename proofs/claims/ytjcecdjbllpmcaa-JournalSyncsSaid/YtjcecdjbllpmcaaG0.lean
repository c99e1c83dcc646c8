/- Printed by wip/kit/gen.py out of the translation: formulas of Go functions, and that they are these functions'. -/
import Derived.Test.YtjcecdjbllpmcaaM6
import Derived.Test.YtjcecdjbllpmcaaChecked
namespace Go.Proofs.Ytjcecdjbllpmcaa
open Go

set_option maxRecDepth 100000
set_option linter.unusedVariables false

theorem progIsOk : progOk Try.prog = true := by kernel_rfl

/-! ### octroi/octroilaw12.JournalLast: function 3 -/
noncomputable def octroilaw12_JournalLast_code : Code := match Try.f3.body with | some c => c | none => .skip

/-- law.go:117 -/
def octroilaw12_JournalLast_r0 (env : Env) (h : Hp) (K : Env → Hp → Prop) : Prop :=
  arun Try.prog (Instr.box 25 (env 1)) h fun v5_0 h1 =>
  K ((env.set 5 v5_0).set 8 (Go.Value.bool false)) h1
@[congr] theorem octroilaw12_JournalLast_r0_congr {env : Env} {h : Hp} {K : Env → Hp → Prop} : octroilaw12_JournalLast_r0 env h K = octroilaw12_JournalLast_r0 env h K := rfl

/-- law.go:118 -/
def octroilaw12_JournalLast_r1 (env : Env) (h : Hp) (K : Env → Hp → Prop) : Prop :=
  Ok Try.prog 9 #[] h fun v19_0 h1 =>
  K ((env.set 19 v19_0).set 9 v19_0) h1
@[congr] theorem octroilaw12_JournalLast_r1_congr {env : Env} {h : Hp} {K : Env → Hp → Prop} : octroilaw12_JournalLast_r1 env h K = octroilaw12_JournalLast_r1 env h K := rfl

/-- law.go:119 -/
def octroilaw12_JournalLast_r2 (env : Env) (h : Hp) (K : Env → Hp → Prop) : Prop :=
  Ok Try.prog 10 #[(Go.Value.int Go.IntKind.i64 1000)] h fun v20_0 h1 =>
  K ((env.set 20 v20_0).set 10 v20_0) h1
@[congr] theorem octroilaw12_JournalLast_r2_congr {env : Env} {h : Hp} {K : Env → Hp → Prop} : octroilaw12_JournalLast_r2 env h K = octroilaw12_JournalLast_r2 env h K := rfl

/-- law.go:120 -/
def octroilaw12_JournalLast_r3 (env : Env) (h : Hp) (K : Env → Hp → Prop) : Prop :=
  rd Try.prog (Op.unary Go.UnOp.not (env 9)) noHp fun v22_1 =>
  gd (yb v22_1 == some false) (fun h k => k (env 10) h) h fun v24_3 h1 =>
  gd (yb v22_1 == some false) (fun h k => rd Try.prog (bop Go.BinOp.eql 27 (Go.Operand.tmp 24) (Go.Operand.const (Go.Value.pointer none)) v24_3 (Go.Value.pointer none)) noHp fun v => k v h) h1 fun v25_4 h2 =>
  rd Try.prog (pck v22_1 (Go.Value.bool true) v25_4) noHp fun v26_5 =>
  gd (yb v26_5 == some false) (fun h k => k (env 0) h) h2 fun v28_7 h3 =>
  gd (yb v26_5 == some false) (fun h k => rd Try.prog (Builtin.len_ #[22] 3 #[v28_7]) h fun v => k v h) h3 fun v29_8 h4 =>
  gd (yb v26_5 == some false) (fun h k => rd Try.prog (bop Go.BinOp.gtr 3 (Go.Operand.tmp 29) (Go.Operand.const (Go.Value.int Go.IntKind.i64 150)) v29_8 (Go.Value.int Go.IntKind.i64 150)) noHp fun v => k v h) h4 fun v30_9 h5 =>
  rd Try.prog (pck v26_5 (Go.Value.bool true) v30_9) noHp fun v31_10 =>
  gd (yb v31_10 == some false) (fun h k => k (env 2) h) h5 fun v33_12 h6 =>
  gd (yb v31_10 == some false) (fun h k => rd Try.prog (Instr.fieldAt 25 (env 5) 0) noHp fun v => k v h) h6 fun v34_13 h7 =>
  gd (yb v31_10 == some false) (fun h k => rd Try.prog (Instr.loadAt 3 v34_13) h fun v => k v h) h7 fun v35_14 h8 =>
  gd (yb v31_10 == some false) (fun h k => rd Try.prog (bop Go.BinOp.eql 3 (Go.Operand.tmp 33) (Go.Operand.tmp 35) v33_12 v35_14) noHp fun v => k v h) h8 fun v36_15 h9 =>
  gd (yb v31_10 == some false) (fun h k => k v36_15 h) h9 fun v37_16 h10 =>
  gd (yb v37_16 == some true) (fun h k => k (env 3) h) h10 fun v38_17 h11 =>
  gd (yb v37_16 == some true) (fun h k => rd Try.prog (Instr.fieldAt 25 (env 5) 1) noHp fun v => k v h) h11 fun v39_18 h12 =>
  gd (yb v37_16 == some true) (fun h k => rd Try.prog (Instr.loadAt 23 v39_18) h fun v => k v h) h12 fun v40_19 h13 =>
  gd (yb v37_16 == some true) (fun h k => rd Try.prog (bop Go.BinOp.eql 23 (Go.Operand.tmp 38) (Go.Operand.tmp 40) v38_17 v40_19) noHp fun v => k v h) h13 fun v41_20 h14 =>
  gd (yb v31_10 == some false) (fun h k => rd Try.prog (pck v37_16 v41_20 (Go.Value.bool false)) noHp fun v => k v h) h14 fun v42_21 h15 =>
  rd Try.prog (pck v31_10 (Go.Value.bool true) v42_21) noHp fun v43_22 =>
  K (((((((((((((((((((((((env.set 21 (env 9)).set 22 v22_1).set 23 v22_1).set 24 v24_3).set 25 v25_4).set 26 v26_5).set 27 v26_5).set 28 v28_7).set 29 v29_8).set 30 v30_9).set 31 v31_10).set 32 v31_10).set 33 v33_12).set 34 v34_13).set 35 v35_14).set 36 v36_15).set 37 v37_16).set 38 v38_17).set 39 v39_18).set 40 v40_19).set 41 v41_20).set 42 v42_21).set 43 v43_22) h15
@[congr] theorem octroilaw12_JournalLast_r3_congr {env : Env} {h : Hp} {K : Env → Hp → Prop} : octroilaw12_JournalLast_r3 env h K = octroilaw12_JournalLast_r3 env h K := rfl

/-- law.go:121 -/
def octroilaw12_JournalLast_r4 (env : Env) (h : Hp) (K : Env → Hp → Prop) : Prop :=
  gd (yb (env 9) == some true) (fun h k => k (env 10) h) h fun v46_2 h1 =>
  gd (yb (env 9) == some true) (fun h k => rd Try.prog (bop Go.BinOp.neq 27 (Go.Operand.tmp 46) (Go.Operand.const (Go.Value.pointer none)) v46_2 (Go.Value.pointer none)) noHp fun v => k v h) h1 fun v47_3 h2 =>
  rd Try.prog (pck (env 9) v47_3 (Go.Value.bool false)) noHp fun v48_4 =>
  K ((((((env.set 44 (env 9)).set 45 (env 9)).set 46 v46_2).set 47 v47_3).set 48 v48_4).set 8 v48_4) h2
@[congr] theorem octroilaw12_JournalLast_r4_congr {env : Env} {h : Hp} {K : Env → Hp → Prop} : octroilaw12_JournalLast_r4 env h K = octroilaw12_JournalLast_r4 env h K := rfl

/-- law.go:123 -/
def octroilaw12_JournalLast_r5 (env : Env) (h : Hp) (K : Env → Hp → Prop) : Prop :=
  K (env.set 11 (Go.Value.int Go.IntKind.i64 0)) h
@[congr] theorem octroilaw12_JournalLast_r5_congr {env : Env} {h : Hp} {K : Env → Hp → Prop} : octroilaw12_JournalLast_r5 env h K = octroilaw12_JournalLast_r5 env h K := rfl

/-- law.go:123 -/
def octroilaw12_JournalLast_r6 (env : Env) (h : Hp) (K : Env → Hp → Prop) : Prop :=
  rd Try.prog (Builtin.len_ #[22] 3 #[(env 0)]) h fun v51_2 =>
  rd Try.prog (bop Go.BinOp.lss 3 (Go.Operand.tmp 49) (Go.Operand.tmp 51) (env 11) v51_2) noHp fun v52_3 =>
  K ((((env.set 49 (env 11)).set 50 (env 0)).set 51 v51_2).set 52 v52_3) h
@[congr] theorem octroilaw12_JournalLast_r6_congr {env : Env} {h : Hp} {K : Env → Hp → Prop} : octroilaw12_JournalLast_r6 env h K = octroilaw12_JournalLast_r6 env h K := rfl

/-- law.go:124 -/
def octroilaw12_JournalLast_r7 (env : Env) (h : Hp) (K : Env → Hp → Prop) : Prop :=
  rd Try.prog (Instr.indexAt 22 (env 0) (env 11)) noHp fun v58_3 =>
  rd Try.prog (Instr.loadAt 25 v58_3) h fun v59_4 =>
  Ok Try.prog 11 #[(env 10), v59_4] h fun v60_5 h1 =>
  K ((((((env.set 55 (env 10)).set 56 (env 0)).set 57 (env 11)).set 58 v58_3).set 59 v59_4).set 60 v60_5) h1
@[congr] theorem octroilaw12_JournalLast_r7_congr {env : Env} {h : Hp} {K : Env → Hp → Prop} : octroilaw12_JournalLast_r7 env h K = octroilaw12_JournalLast_r7 env h K := rfl

/-- law.go:123 -/
def octroilaw12_JournalLast_r8 (env : Env) (h : Hp) (K : Env → Hp → Prop) : Prop :=
  rd Try.prog (bop Go.BinOp.add 3 (Go.Operand.tmp 53) (Go.Operand.const (Go.Value.int Go.IntKind.i64 1)) (env 11) (Go.Value.int Go.IntKind.i64 1)) noHp fun v54_1 =>
  K (((env.set 53 (env 11)).set 54 v54_1).set 11 v54_1) h
@[congr] theorem octroilaw12_JournalLast_r8_congr {env : Env} {h : Hp} {K : Env → Hp → Prop} : octroilaw12_JournalLast_r8 env h K = octroilaw12_JournalLast_r8 env h K := rfl

def octroilaw12_JournalLast_L0 : Den := (sq (sq (rg octroilaw12_JournalLast_r6) (cnd (Go.Operand.tmp 52) (ex .normal) (ex (.exit 0)))) (sq (blk 1 (rg octroilaw12_JournalLast_r7)) (rg octroilaw12_JournalLast_r8)))

/-- law.go:126 -/
def octroilaw12_JournalLast_r9 (env : Env) (h : Hp) (K : Env → Hp → Prop) : Prop :=
  Ok Try.prog 12 #[(env 10), (env 2), (env 3)] h fun v65_3 h1 =>
  rd Try.prog (Instr.extract v65_3 0) noHp fun v66_5 =>
  rd Try.prog (Instr.extract v65_3 1) noHp fun v67_6 =>
  K (((((((((env.set 62 (env 10)).set 63 (env 2)).set 64 (env 3)).set 65 v65_3).set 61 v65_3).set 66 v66_5).set 67 v67_6).set 12 v66_5).set 13 v67_6) h1
@[congr] theorem octroilaw12_JournalLast_r9_congr {env : Env} {h : Hp} {K : Env → Hp → Prop} : octroilaw12_JournalLast_r9 env h K = octroilaw12_JournalLast_r9 env h K := rfl

/-- law.go:127 -/
def octroilaw12_JournalLast_r10 (env : Env) (h : Hp) (K : Env → Hp → Prop) : Prop :=
  rd Try.prog (Instr.loadAt 25 (env 5)) h fun v69_1 =>
  Ok Try.prog 11 #[(env 10), v69_1] h fun v70_2 h1 =>
  K ((((env.set 68 (env 10)).set 69 v69_1).set 70 v70_2).set 14 v70_2) h1
@[congr] theorem octroilaw12_JournalLast_r10_congr {env : Env} {h : Hp} {K : Env → Hp → Prop} : octroilaw12_JournalLast_r10 env h K = octroilaw12_JournalLast_r10 env h K := rfl

/-- law.go:128 -/
def octroilaw12_JournalLast_r11 (env : Env) (h : Hp) (K : Env → Hp → Prop) : Prop :=
  Ok Try.prog 12 #[(env 10), (env 2), (env 3)] h fun v75_3 h1 =>
  rd Try.prog (Instr.extract v75_3 0) noHp fun v76_5 =>
  rd Try.prog (Instr.extract v75_3 1) noHp fun v77_6 =>
  K (((((((((env.set 72 (env 10)).set 73 (env 2)).set 74 (env 3)).set 75 v75_3).set 71 v75_3).set 76 v76_5).set 77 v77_6).set 15 v76_5).set 16 v77_6) h1
@[congr] theorem octroilaw12_JournalLast_r11_congr {env : Env} {h : Hp} {K : Env → Hp → Prop} : octroilaw12_JournalLast_r11 env h K = octroilaw12_JournalLast_r11 env h K := rfl

/-- law.go:129 -/
def octroilaw12_JournalLast_r12 (env : Env) (h : Hp) (K : Env → Hp → Prop) : Prop :=
  rd Try.prog (Instr.fieldAt 25 (env 5) 0) noHp fun v80_1 =>
  rd Try.prog (Instr.loadAt 3 v80_1) h fun v81_2 =>
  rd Try.prog (Instr.fieldAt 25 (env 5) 1) noHp fun v82_3 =>
  rd Try.prog (Instr.loadAt 23 v82_3) h fun v83_4 =>
  Ok Try.prog 12 #[(env 10), v81_2, v83_4] h fun v84_5 h1 =>
  rd Try.prog (Instr.extract v84_5 0) noHp fun v85_7 =>
  rd Try.prog (Instr.extract v84_5 1) noHp fun v86_8 =>
  K (((((((((((env.set 79 (env 10)).set 80 v80_1).set 81 v81_2).set 82 v82_3).set 83 v83_4).set 84 v84_5).set 78 v84_5).set 85 v85_7).set 86 v86_8).set 17 v85_7).set 18 v86_8) h1
@[congr] theorem octroilaw12_JournalLast_r12_congr {env : Env} {h : Hp} {K : Env → Hp → Prop} : octroilaw12_JournalLast_r12 env h K = octroilaw12_JournalLast_r12 env h K := rfl

/-- law.go:130 -/
def octroilaw12_JournalLast_r13 (env : Env) (h : Hp) (K : Env → Hp → Prop) : Prop :=
  rd Try.prog (bop Go.BinOp.eql 23 (Go.Operand.tmp 87) (Go.Operand.tmp 88) (env 12) (env 15)) noHp fun v89_2 =>
  gd (yb v89_2 == some true) (fun h k => k (env 13) h) h fun v91_4 h1 =>
  gd (yb v89_2 == some true) (fun h k => k (env 16) h) h1 fun v92_5 h2 =>
  gd (yb v89_2 == some true) (fun h k => rd Try.prog (bop Go.BinOp.eql 4 (Go.Operand.tmp 91) (Go.Operand.tmp 92) v91_4 v92_5) noHp fun v => k v h) h2 fun v93_6 h3 =>
  rd Try.prog (pck v89_2 v93_6 (Go.Value.bool false)) noHp fun v94_7 =>
  gd (yb v94_7 == some true) (fun h k => k (env 14) h) h3 fun v96_9 h4 =>
  gd (yb v94_7 == some true) (fun h k => rd Try.prog (bop Go.BinOp.eql 29 (Go.Operand.tmp 96) (Go.Operand.const (Go.Value.int Go.IntKind.i64 0)) v96_9 (Go.Value.int Go.IntKind.i64 0)) noHp fun v => k v h) h4 fun v97_10 h5 =>
  gd (yb v94_7 == some true) (fun h k => k v97_10 h) h5 fun v98_11 h6 =>
  gd (yb v98_11 == some true) (fun h k => k (env 18) h) h6 fun v99_12 h7 =>
  gd (yb v94_7 == some true) (fun h k => rd Try.prog (pck v98_11 v99_12 (Go.Value.bool false)) noHp fun v => k v h) h7 fun v100_13 h8 =>
  gd (yb v94_7 == some true) (fun h k => k v100_13 h) h8 fun v101_14 h9 =>
  gd (yb v101_14 == some true) (fun h k => k (env 17) h) h9 fun v102_15 h10 =>
  gd (yb v101_14 == some true) (fun h k => rd Try.prog (Instr.fieldAt 25 (env 5) 2) noHp fun v => k v h) h10 fun v103_16 h11 =>
  gd (yb v101_14 == some true) (fun h k => rd Try.prog (Instr.loadAt 23 v103_16) h fun v => k v h) h11 fun v104_17 h12 =>
  gd (yb v101_14 == some true) (fun h k => rd Try.prog (bop Go.BinOp.eql 23 (Go.Operand.tmp 102) (Go.Operand.tmp 104) v102_15 v104_17) noHp fun v => k v h) h12 fun v105_18 h13 =>
  gd (yb v94_7 == some true) (fun h k => rd Try.prog (pck v101_14 v105_18 (Go.Value.bool false)) noHp fun v => k v h) h13 fun v106_19 h14 =>
  gd (yb v94_7 == some true) (fun h k => k v106_19 h) h14 fun v107_20 h15 =>
  gd (yb v107_20 == some false) (fun h k => k (env 14) h) h15 fun v108_21 h16 =>
  gd (yb v107_20 == some false) (fun h k => rd Try.prog (bop Go.BinOp.eql 29 (Go.Operand.tmp 108) (Go.Operand.const (Go.Value.int Go.IntKind.i64 1)) v108_21 (Go.Value.int Go.IntKind.i64 1)) noHp fun v => k v h) h16 fun v109_22 h17 =>
  gd (yb v107_20 == some false) (fun h k => k v109_22 h) h17 fun v110_23 h18 =>
  gd (yb v110_23 == some true) (fun h k => k (env 18) h) h18 fun v111_24 h19 =>
  gd (yb v110_23 == some true) (fun h k => rd Try.prog (Op.unary Go.UnOp.not v111_24) noHp fun v => k v h) h19 fun v112_25 h20 =>
  gd (yb v107_20 == some false) (fun h k => rd Try.prog (pck v110_23 v112_25 (Go.Value.bool false)) noHp fun v => k v h) h20 fun v113_26 h21 =>
  gd (yb v94_7 == some true) (fun h k => rd Try.prog (pck v107_20 (Go.Value.bool true) v113_26) noHp fun v => k v h) h21 fun v114_27 h22 =>
  rd Try.prog (pck v94_7 v114_27 (Go.Value.bool false)) noHp fun v115_28 =>
  K ((((((((((((((((((((((((((((((env.set 87 (env 12)).set 88 (env 15)).set 89 v89_2).set 90 v89_2).set 91 v91_4).set 92 v92_5).set 93 v93_6).set 94 v94_7).set 95 v94_7).set 96 v96_9).set 97 v97_10).set 98 v98_11).set 99 v99_12).set 100 v100_13).set 101 v101_14).set 102 v102_15).set 103 v103_16).set 104 v104_17).set 105 v105_18).set 106 v106_19).set 107 v107_20).set 108 v108_21).set 109 v109_22).set 110 v110_23).set 111 v111_24).set 112 v112_25).set 113 v113_26).set 114 v114_27).set 115 v115_28).set 8 v115_28) h22
@[congr] theorem octroilaw12_JournalLast_r13_congr {env : Env} {h : Hp} {K : Env → Hp → Prop} : octroilaw12_JournalLast_r13 env h K = octroilaw12_JournalLast_r13 env h K := rfl

def octroilaw12_JournalLast_D : Den := (sq (rg octroilaw12_JournalLast_r0) (sq (rg octroilaw12_JournalLast_r1) (sq (rg octroilaw12_JournalLast_r2) (sq (sq (rg octroilaw12_JournalLast_r3) (cnd (Go.Operand.tmp 43) (sq (rg octroilaw12_JournalLast_r4) (ex .ret)) (ex .normal))) (sq (sq (rg octroilaw12_JournalLast_r5) (blk 0 (lp octroilaw12_JournalLast_L0))) (sq (rg octroilaw12_JournalLast_r9) (sq (rg octroilaw12_JournalLast_r10) (sq (rg octroilaw12_JournalLast_r11) (sq (rg octroilaw12_JournalLast_r12) (sq (rg octroilaw12_JournalLast_r13) (ex .ret)))))))))))

theorem octroilaw12_JournalLast_eq : (den Try.prog 116 octroilaw12_JournalLast_code).1 = octroilaw12_JournalLast_D := by kernel_rfl

theorem octroilaw12_JournalLast_ok {args : Array Value} {h : Hp} {Q : Value → Hp → Prop} (hn : args.size ≤ 116) (D : octroilaw12_JournalLast_D (fin Try.prog [(Go.ResultVar.tmp 8)] Q) (env0 args) h) : Ok Try.prog 3 args h Q :=
  ok_of_den progIsOk Try.func3 (c := octroilaw12_JournalLast_code) (by kernel_rfl) hn (by show (den Try.prog 116 octroilaw12_JournalLast_code).1 _ _ _; rw [octroilaw12_JournalLast_eq]; exact D)

/-! ### octroi/octroilaw12.JournalSyncs: function 4 -/
noncomputable def octroilaw12_JournalSyncs_code : Code := match Try.f4.body with | some c => c | none => .skip

/-- more.go:35 -/
def octroilaw12_JournalSyncs_r0 (env : Env) (h : Hp) (K : Env → Hp → Prop) : Prop :=
  K (env.set 6 (Go.Value.bool false)) h
@[congr] theorem octroilaw12_JournalSyncs_r0_congr {env : Env} {h : Hp} {K : Env → Hp → Prop} : octroilaw12_JournalSyncs_r0 env h K = octroilaw12_JournalSyncs_r0 env h K := rfl

/-- more.go:36 -/
def octroilaw12_JournalSyncs_r1 (env : Env) (h : Hp) (K : Env → Hp → Prop) : Prop :=
  Ok Try.prog 9 #[] h fun v12_0 h1 =>
  K ((env.set 12 v12_0).set 7 v12_0) h1
@[congr] theorem octroilaw12_JournalSyncs_r1_congr {env : Env} {h : Hp} {K : Env → Hp → Prop} : octroilaw12_JournalSyncs_r1 env h K = octroilaw12_JournalSyncs_r1 env h K := rfl

/-- more.go:37 -/
def octroilaw12_JournalSyncs_r2 (env : Env) (h : Hp) (K : Env → Hp → Prop) : Prop :=
  Ok Try.prog 10 #[(Go.Value.int Go.IntKind.i64 1000)] h fun v13_0 h1 =>
  K ((env.set 13 v13_0).set 8 v13_0) h1
@[congr] theorem octroilaw12_JournalSyncs_r2_congr {env : Env} {h : Hp} {K : Env → Hp → Prop} : octroilaw12_JournalSyncs_r2 env h K = octroilaw12_JournalSyncs_r2 env h K := rfl

/-- more.go:38 -/
def octroilaw12_JournalSyncs_r3 (env : Env) (h : Hp) (K : Env → Hp → Prop) : Prop :=
  rd Try.prog (Op.unary Go.UnOp.not (env 7)) noHp fun v15_1 =>
  gd (yb v15_1 == some false) (fun h k => k (env 8) h) h fun v17_3 h1 =>
  gd (yb v15_1 == some false) (fun h k => rd Try.prog (bop Go.BinOp.eql 27 (Go.Operand.tmp 17) (Go.Operand.const (Go.Value.pointer none)) v17_3 (Go.Value.pointer none)) noHp fun v => k v h) h1 fun v18_4 h2 =>
  rd Try.prog (pck v15_1 (Go.Value.bool true) v18_4) noHp fun v19_5 =>
  gd (yb v19_5 == some false) (fun h k => k (env 0) h) h2 fun v21_7 h3 =>
  gd (yb v19_5 == some false) (fun h k => rd Try.prog (Builtin.len_ #[22] 3 #[v21_7]) h fun v => k v h) h3 fun v22_8 h4 =>
  gd (yb v19_5 == some false) (fun h k => rd Try.prog (bop Go.BinOp.gtr 3 (Go.Operand.tmp 22) (Go.Operand.const (Go.Value.int Go.IntKind.i64 150)) v22_8 (Go.Value.int Go.IntKind.i64 150)) noHp fun v => k v h) h4 fun v23_9 h5 =>
  rd Try.prog (pck v19_5 (Go.Value.bool true) v23_9) noHp fun v24_10 =>
  K (((((((((((env.set 14 (env 7)).set 15 v15_1).set 16 v15_1).set 17 v17_3).set 18 v18_4).set 19 v19_5).set 20 v19_5).set 21 v21_7).set 22 v22_8).set 23 v23_9).set 24 v24_10) h5
@[congr] theorem octroilaw12_JournalSyncs_r3_congr {env : Env} {h : Hp} {K : Env → Hp → Prop} : octroilaw12_JournalSyncs_r3 env h K = octroilaw12_JournalSyncs_r3 env h K := rfl

/-- more.go:39 -/
def octroilaw12_JournalSyncs_r4 (env : Env) (h : Hp) (K : Env → Hp → Prop) : Prop :=
  gd (yb (env 7) == some true) (fun h k => k (env 8) h) h fun v27_2 h1 =>
  gd (yb (env 7) == some true) (fun h k => rd Try.prog (bop Go.BinOp.neq 27 (Go.Operand.tmp 27) (Go.Operand.const (Go.Value.pointer none)) v27_2 (Go.Value.pointer none)) noHp fun v => k v h) h1 fun v28_3 h2 =>
  rd Try.prog (pck (env 7) v28_3 (Go.Value.bool false)) noHp fun v29_4 =>
  K ((((((env.set 25 (env 7)).set 26 (env 7)).set 27 v27_2).set 28 v28_3).set 29 v29_4).set 6 v29_4) h2
@[congr] theorem octroilaw12_JournalSyncs_r4_congr {env : Env} {h : Hp} {K : Env → Hp → Prop} : octroilaw12_JournalSyncs_r4 env h K = octroilaw12_JournalSyncs_r4 env h K := rfl

/-- more.go:41 -/
def octroilaw12_JournalSyncs_r5 (env : Env) (h : Hp) (K : Env → Hp → Prop) : Prop :=
  K (env.set 9 (Go.Value.int Go.IntKind.i64 0)) h
@[congr] theorem octroilaw12_JournalSyncs_r5_congr {env : Env} {h : Hp} {K : Env → Hp → Prop} : octroilaw12_JournalSyncs_r5 env h K = octroilaw12_JournalSyncs_r5 env h K := rfl

/-- more.go:41 -/
def octroilaw12_JournalSyncs_r6 (env : Env) (h : Hp) (K : Env → Hp → Prop) : Prop :=
  rd Try.prog (Builtin.len_ #[22] 3 #[(env 0)]) h fun v32_2 =>
  rd Try.prog (bop Go.BinOp.lss 3 (Go.Operand.tmp 30) (Go.Operand.tmp 32) (env 9) v32_2) noHp fun v33_3 =>
  K ((((env.set 30 (env 9)).set 31 (env 0)).set 32 v32_2).set 33 v33_3) h
@[congr] theorem octroilaw12_JournalSyncs_r6_congr {env : Env} {h : Hp} {K : Env → Hp → Prop} : octroilaw12_JournalSyncs_r6 env h K = octroilaw12_JournalSyncs_r6 env h K := rfl

/-- more.go:42 -/
def octroilaw12_JournalSyncs_r7 (env : Env) (h : Hp) (K : Env → Hp → Prop) : Prop :=
  rd Try.prog (Instr.indexAt 22 (env 0) (env 9)) noHp fun v39_3 =>
  rd Try.prog (Instr.loadAt 25 v39_3) h fun v40_4 =>
  Ok Try.prog 11 #[(env 8), v40_4] h fun v41_5 h1 =>
  K ((((((env.set 36 (env 8)).set 37 (env 0)).set 38 (env 9)).set 39 v39_3).set 40 v40_4).set 41 v41_5) h1
@[congr] theorem octroilaw12_JournalSyncs_r7_congr {env : Env} {h : Hp} {K : Env → Hp → Prop} : octroilaw12_JournalSyncs_r7 env h K = octroilaw12_JournalSyncs_r7 env h K := rfl

/-- more.go:41 -/
def octroilaw12_JournalSyncs_r8 (env : Env) (h : Hp) (K : Env → Hp → Prop) : Prop :=
  rd Try.prog (bop Go.BinOp.add 3 (Go.Operand.tmp 34) (Go.Operand.const (Go.Value.int Go.IntKind.i64 1)) (env 9) (Go.Value.int Go.IntKind.i64 1)) noHp fun v35_1 =>
  K (((env.set 34 (env 9)).set 35 v35_1).set 9 v35_1) h
@[congr] theorem octroilaw12_JournalSyncs_r8_congr {env : Env} {h : Hp} {K : Env → Hp → Prop} : octroilaw12_JournalSyncs_r8 env h K = octroilaw12_JournalSyncs_r8 env h K := rfl

def octroilaw12_JournalSyncs_L0 : Den := (sq (sq (rg octroilaw12_JournalSyncs_r6) (cnd (Go.Operand.tmp 33) (ex .normal) (ex (.exit 0)))) (sq (blk 1 (rg octroilaw12_JournalSyncs_r7)) (rg octroilaw12_JournalSyncs_r8)))

/-- more.go:44 -/
def octroilaw12_JournalSyncs_r9 (env : Env) (h : Hp) (K : Env → Hp → Prop) : Prop :=
  Ok Try.prog 13 #[(env 8)] h fun v43_1 h1 =>
  arun Try.prog (convert 34 9 v43_1) h1 fun v44_2 h2 =>
  K ((((env.set 42 (env 8)).set 43 v43_1).set 44 v44_2).set 10 v44_2) h2
@[congr] theorem octroilaw12_JournalSyncs_r9_congr {env : Env} {h : Hp} {K : Env → Hp → Prop} : octroilaw12_JournalSyncs_r9 env h K = octroilaw12_JournalSyncs_r9 env h K := rfl

/-- more.go:45 -/
def octroilaw12_JournalSyncs_r10 (env : Env) (h : Hp) (K : Env → Hp → Prop) : Prop :=
  Ok Try.prog 14 #[(env 8)] h fun v46_1 h1 =>
  K ((env.set 45 (env 8)).set 46 v46_1) h1
@[congr] theorem octroilaw12_JournalSyncs_r10_congr {env : Env} {h : Hp} {K : Env → Hp → Prop} : octroilaw12_JournalSyncs_r10 env h K = octroilaw12_JournalSyncs_r10 env h K := rfl

/-- more.go:46 -/
def octroilaw12_JournalSyncs_r11 (env : Env) (h : Hp) (K : Env → Hp → Prop) : Prop :=
  Ok Try.prog 15 #[(env 8), (env 1)] h fun v49_2 h1 =>
  K (((env.set 47 (env 8)).set 48 (env 1)).set 49 v49_2) h1
@[congr] theorem octroilaw12_JournalSyncs_r11_congr {env : Env} {h : Hp} {K : Env → Hp → Prop} : octroilaw12_JournalSyncs_r11 env h K = octroilaw12_JournalSyncs_r11 env h K := rfl

/-- more.go:47 -/
def octroilaw12_JournalSyncs_r12 (env : Env) (h : Hp) (K : Env → Hp → Prop) : Prop :=
  Ok Try.prog 13 #[(env 8)] h fun v51_1 h1 =>
  arun Try.prog (convert 34 9 v51_1) h1 fun v52_2 h2 =>
  K ((((env.set 50 (env 8)).set 51 v51_1).set 52 v52_2).set 11 v52_2) h2
@[congr] theorem octroilaw12_JournalSyncs_r12_congr {env : Env} {h : Hp} {K : Env → Hp → Prop} : octroilaw12_JournalSyncs_r12 env h K = octroilaw12_JournalSyncs_r12 env h K := rfl

/-- more.go:48 -/
def octroilaw12_JournalSyncs_r13 (env : Env) (h : Hp) (K : Env → Hp → Prop) : Prop :=
  Ok Try.prog 15 #[(env 8), (env 2)] h fun v55_2 h1 =>
  K (((env.set 53 (env 8)).set 54 (env 2)).set 55 v55_2) h1
@[congr] theorem octroilaw12_JournalSyncs_r13_congr {env : Env} {h : Hp} {K : Env → Hp → Prop} : octroilaw12_JournalSyncs_r13 env h K = octroilaw12_JournalSyncs_r13 env h K := rfl

/-- more.go:49 -/
def octroilaw12_JournalSyncs_r14 (env : Env) (h : Hp) (K : Env → Hp → Prop) : Prop :=
  rd Try.prog (bop Go.BinOp.eql 9 (Go.Operand.tmp 56) (Go.Operand.tmp 57) (env 11) (env 10)) noHp fun v58_2 =>
  gd (yb v58_2 == some true) (fun h k => k (env 8) h) h fun v60_4 h1 =>
  gd (yb v58_2 == some true) (fun h k => Ok Try.prog 13 #[v60_4] h k) h1 fun v61_5 h2 =>
  gd (yb v58_2 == some true) (fun h k => arun Try.prog (convert 34 9 v61_5) h k) h2 fun v62_6 h3 =>
  gd (yb v58_2 == some true) (fun h k => k (env 10) h) h3 fun v63_7 h4 =>
  gd (yb v58_2 == some true) (fun h k => rd Try.prog (bop Go.BinOp.eql 9 (Go.Operand.tmp 62) (Go.Operand.tmp 63) v62_6 v63_7) noHp fun v => k v h) h4 fun v64_8 h5 =>
  rd Try.prog (pck v58_2 v64_8 (Go.Value.bool false)) noHp fun v65_9 =>
  K (((((((((((env.set 56 (env 11)).set 57 (env 10)).set 58 v58_2).set 59 v58_2).set 60 v60_4).set 61 v61_5).set 62 v62_6).set 63 v63_7).set 64 v64_8).set 65 v65_9).set 6 v65_9) h5
@[congr] theorem octroilaw12_JournalSyncs_r14_congr {env : Env} {h : Hp} {K : Env → Hp → Prop} : octroilaw12_JournalSyncs_r14 env h K = octroilaw12_JournalSyncs_r14 env h K := rfl

def octroilaw12_JournalSyncs_D : Den := (sq (rg octroilaw12_JournalSyncs_r0) (sq (rg octroilaw12_JournalSyncs_r1) (sq (rg octroilaw12_JournalSyncs_r2) (sq (sq (rg octroilaw12_JournalSyncs_r3) (cnd (Go.Operand.tmp 24) (sq (rg octroilaw12_JournalSyncs_r4) (ex .ret)) (ex .normal))) (sq (sq (rg octroilaw12_JournalSyncs_r5) (blk 0 (lp octroilaw12_JournalSyncs_L0))) (sq (rg octroilaw12_JournalSyncs_r9) (sq (rg octroilaw12_JournalSyncs_r10) (sq (rg octroilaw12_JournalSyncs_r11) (sq (rg octroilaw12_JournalSyncs_r12) (sq (rg octroilaw12_JournalSyncs_r13) (sq (rg octroilaw12_JournalSyncs_r14) (ex .ret))))))))))))

theorem octroilaw12_JournalSyncs_eq : (den Try.prog 66 octroilaw12_JournalSyncs_code).1 = octroilaw12_JournalSyncs_D := by kernel_rfl

theorem octroilaw12_JournalSyncs_ok {args : Array Value} {h : Hp} {Q : Value → Hp → Prop} (hn : args.size ≤ 66) (D : octroilaw12_JournalSyncs_D (fin Try.prog [(Go.ResultVar.tmp 6)] Q) (env0 args) h) : Ok Try.prog 4 args h Q :=
  ok_of_den progIsOk Try.func4 (c := octroilaw12_JournalSyncs_code) (by kernel_rfl) hn (by show (den Try.prog 66 octroilaw12_JournalSyncs_code).1 _ _ _; rw [octroilaw12_JournalSyncs_eq]; exact D)

/-! ### octroi/octroilaw12.awake: function 9 -/
noncomputable def octroilaw12_awake_code : Code := match Try.f9.body with | some c => c | none => .skip

/-- law.go:17 -/
def octroilaw12_awake_r0 (env : Env) (h : Hp) (K : Env → Hp → Prop) : Prop :=
  K (env.set 0 (Go.Value.bool false)) h
@[congr] theorem octroilaw12_awake_r0_congr {env : Env} {h : Hp} {K : Env → Hp → Prop} : octroilaw12_awake_r0 env h K = octroilaw12_awake_r0 env h K := rfl

/-- law.go:18 -/
def octroilaw12_awake_r1 (env : Env) (h : Hp) (K : Env → Hp → Prop) : Prop :=
  Ok Try.prog 10 #[(Go.Value.int Go.IntKind.i64 10)] h fun v5_0 h1 =>
  K ((env.set 5 v5_0).set 1 v5_0) h1
@[congr] theorem octroilaw12_awake_r1_congr {env : Env} {h : Hp} {K : Env → Hp → Prop} : octroilaw12_awake_r1 env h K = octroilaw12_awake_r1 env h K := rfl

/-- law.go:19 -/
def octroilaw12_awake_r2 (env : Env) (h : Hp) (K : Env → Hp → Prop) : Prop :=
  rd Try.prog (bop Go.BinOp.eql 27 (Go.Operand.tmp 6) (Go.Operand.const (Go.Value.pointer none)) (env 1) (Go.Value.pointer none)) noHp fun v7_1 =>
  K ((env.set 6 (env 1)).set 7 v7_1) h
@[congr] theorem octroilaw12_awake_r2_congr {env : Env} {h : Hp} {K : Env → Hp → Prop} : octroilaw12_awake_r2 env h K = octroilaw12_awake_r2 env h K := rfl

/-- law.go:20 -/
def octroilaw12_awake_r3 (env : Env) (h : Hp) (K : Env → Hp → Prop) : Prop :=
  K (env.set 0 (Go.Value.bool false)) h
@[congr] theorem octroilaw12_awake_r3_congr {env : Env} {h : Hp} {K : Env → Hp → Prop} : octroilaw12_awake_r3 env h K = octroilaw12_awake_r3 env h K := rfl

/-- law.go:22 -/
def octroilaw12_awake_r4 (env : Env) (h : Hp) (K : Env → Hp → Prop) : Prop :=
  rd Try.prog (Instr.build 25 #[(0, (Go.Value.int Go.IntKind.i64 1)), (1, (Go.Value.int Go.IntKind.u32 5)), (2, (Go.Value.int Go.IntKind.u32 7))]) noHp fun v9_1 =>
  Ok Try.prog 11 #[(env 1), v9_1] h fun v10_2 h1 =>
  K (((env.set 8 (env 1)).set 9 v9_1).set 10 v10_2) h1
@[congr] theorem octroilaw12_awake_r4_congr {env : Env} {h : Hp} {K : Env → Hp → Prop} : octroilaw12_awake_r4 env h K = octroilaw12_awake_r4 env h K := rfl

/-- law.go:23 -/
def octroilaw12_awake_r5 (env : Env) (h : Hp) (K : Env → Hp → Prop) : Prop :=
  Ok Try.prog 14 #[(env 1)] h fun v12_1 h1 =>
  K ((env.set 11 (env 1)).set 12 v12_1) h1
@[congr] theorem octroilaw12_awake_r5_congr {env : Env} {h : Hp} {K : Env → Hp → Prop} : octroilaw12_awake_r5 env h K = octroilaw12_awake_r5 env h K := rfl

/-- law.go:24 -/
def octroilaw12_awake_r6 (env : Env) (h : Hp) (K : Env → Hp → Prop) : Prop :=
  rd Try.prog (Instr.build 25 #[(0, (Go.Value.int Go.IntKind.i64 1)), (1, (Go.Value.int Go.IntKind.u32 5)), (2, (Go.Value.int Go.IntKind.u32 9))]) noHp fun v14_1 =>
  Ok Try.prog 11 #[(env 1), v14_1] h fun v15_2 h1 =>
  K ((((env.set 13 (env 1)).set 14 v14_1).set 15 v15_2).set 2 v15_2) h1
@[congr] theorem octroilaw12_awake_r6_congr {env : Env} {h : Hp} {K : Env → Hp → Prop} : octroilaw12_awake_r6 env h K = octroilaw12_awake_r6 env h K := rfl

/-- law.go:25 -/
def octroilaw12_awake_r7 (env : Env) (h : Hp) (K : Env → Hp → Prop) : Prop :=
  Ok Try.prog 15 #[(env 1), (Go.Value.int Go.IntKind.i64 11)] h fun v17_1 h1 =>
  K ((env.set 16 (env 1)).set 17 v17_1) h1
@[congr] theorem octroilaw12_awake_r7_congr {env : Env} {h : Hp} {K : Env → Hp → Prop} : octroilaw12_awake_r7 env h K = octroilaw12_awake_r7 env h K := rfl

/-- law.go:26 -/
def octroilaw12_awake_r8 (env : Env) (h : Hp) (K : Env → Hp → Prop) : Prop :=
  Ok Try.prog 12 #[(env 1), (Go.Value.int Go.IntKind.i64 1), (Go.Value.int Go.IntKind.u32 5)] h fun v20_1 h1 =>
  rd Try.prog (Instr.extract v20_1 0) noHp fun v21_3 =>
  rd Try.prog (Instr.extract v20_1 1) noHp fun v22_4 =>
  K (((((((env.set 19 (env 1)).set 20 v20_1).set 18 v20_1).set 21 v21_3).set 22 v22_4).set 3 v21_3).set 4 v22_4) h1
@[congr] theorem octroilaw12_awake_r8_congr {env : Env} {h : Hp} {K : Env → Hp → Prop} : octroilaw12_awake_r8 env h K = octroilaw12_awake_r8 env h K := rfl

/-- law.go:27 -/
def octroilaw12_awake_r9 (env : Env) (h : Hp) (K : Env → Hp → Prop) : Prop :=
  rd Try.prog (bop Go.BinOp.eql 29 (Go.Operand.tmp 23) (Go.Operand.const (Go.Value.int Go.IntKind.i64 0)) (env 2) (Go.Value.int Go.IntKind.i64 0)) noHp fun v24_1 =>
  gd (yb v24_1 == some true) (fun h k => k (env 3) h) h fun v26_3 h1 =>
  gd (yb v24_1 == some true) (fun h k => rd Try.prog (bop Go.BinOp.eql 23 (Go.Operand.tmp 26) (Go.Operand.const (Go.Value.int Go.IntKind.u32 7)) v26_3 (Go.Value.int Go.IntKind.u32 7)) noHp fun v => k v h) h1 fun v27_4 h2 =>
  rd Try.prog (pck v24_1 v27_4 (Go.Value.bool false)) noHp fun v28_5 =>
  gd (yb v28_5 == some true) (fun h k => k (env 4) h) h2 fun v30_7 h3 =>
  rd Try.prog (pck v28_5 v30_7 (Go.Value.bool false)) noHp fun v31_8 =>
  gd (yb v31_8 == some true) (fun h k => k (env 1) h) h3 fun v33_10 h4 =>
  gd (yb v31_8 == some true) (fun h k => Ok Try.prog 16 #[v33_10] h k) h4 fun v34_11 h5 =>
  gd (yb v31_8 == some true) (fun h k => rd Try.prog (bop Go.BinOp.eql 3 (Go.Operand.tmp 34) (Go.Operand.const (Go.Value.int Go.IntKind.i64 1)) v34_11 (Go.Value.int Go.IntKind.i64 1)) noHp fun v => k v h) h5 fun v35_12 h6 =>
  rd Try.prog (pck v31_8 v35_12 (Go.Value.bool false)) noHp fun v36_13 =>
  K (((((((((((((((env.set 23 (env 2)).set 24 v24_1).set 25 v24_1).set 26 v26_3).set 27 v27_4).set 28 v28_5).set 29 v28_5).set 30 v30_7).set 31 v31_8).set 32 v31_8).set 33 v33_10).set 34 v34_11).set 35 v35_12).set 36 v36_13).set 0 v36_13) h6
@[congr] theorem octroilaw12_awake_r9_congr {env : Env} {h : Hp} {K : Env → Hp → Prop} : octroilaw12_awake_r9 env h K = octroilaw12_awake_r9 env h K := rfl

def octroilaw12_awake_D : Den := (sq (rg octroilaw12_awake_r0) (sq (rg octroilaw12_awake_r1) (sq (sq (rg octroilaw12_awake_r2) (cnd (Go.Operand.tmp 7) (sq (rg octroilaw12_awake_r3) (ex .ret)) (ex .normal))) (sq (rg octroilaw12_awake_r4) (sq (rg octroilaw12_awake_r5) (sq (rg octroilaw12_awake_r6) (sq (rg octroilaw12_awake_r7) (sq (rg octroilaw12_awake_r8) (sq (rg octroilaw12_awake_r9) (ex .ret))))))))))

theorem octroilaw12_awake_eq : (den Try.prog 37 octroilaw12_awake_code).1 = octroilaw12_awake_D := by kernel_rfl

theorem octroilaw12_awake_ok {args : Array Value} {h : Hp} {Q : Value → Hp → Prop} (hn : args.size ≤ 37) (D : octroilaw12_awake_D (fin Try.prog [(Go.ResultVar.tmp 0)] Q) (env0 args) h) : Ok Try.prog 9 args h Q :=
  ok_of_den progIsOk Try.func9 (c := octroilaw12_awake_code) (by kernel_rfl) hn (by show (den Try.prog 37 octroilaw12_awake_code).1 _ _ _; rw [octroilaw12_awake_eq]; exact D)

/-! ### octroi/journal.New: function 10 -/
noncomputable def journal_New_code : Code := match Try.f10.body with | some c => c | none => .skip

/-- journal.go:35 -/
def journal_New_r0 (env : Env) (h : Hp) (K : Env → Hp → Prop) : Prop :=
  K (env.set 2 (Go.Value.pointer none)) h
@[congr] theorem journal_New_r0_congr {env : Env} {h : Hp} {K : Env → Hp → Prop} : journal_New_r0 env h K = journal_New_r0 env h K := rfl

/-- journal.go:35 -/
def journal_New_r1 (env : Env) (h : Hp) (K : Env → Hp → Prop) : Prop :=
  arun Try.prog (Instr.makeMap 50 none) h fun v4_1 h1 =>
  rd Try.prog (Instr.build 52 #[(0, (env 0)), (3, v4_1)]) noHp fun v5_2 =>
  arun Try.prog (Instr.box 52 v5_2) h1 fun v6_3 h2 =>
  K (((((env.set 3 (env 0)).set 4 v4_1).set 5 v5_2).set 6 v6_3).set 2 v6_3) h2
@[congr] theorem journal_New_r1_congr {env : Env} {h : Hp} {K : Env → Hp → Prop} : journal_New_r1 env h K = journal_New_r1 env h K := rfl

def journal_New_D : Den := (sq (rg journal_New_r0) (sq (rg journal_New_r1) (ex .ret)))

theorem journal_New_eq : (den Try.prog 7 journal_New_code).1 = journal_New_D := by kernel_rfl

theorem journal_New_ok {args : Array Value} {h : Hp} {Q : Value → Hp → Prop} (hn : args.size ≤ 7) (D : journal_New_D (fin Try.prog [(Go.ResultVar.tmp 2)] Q) (env0 args) h) : Ok Try.prog 10 args h Q :=
  ok_of_den progIsOk Try.func10 (c := journal_New_code) (by kernel_rfl) hn (by show (den Try.prog 7 journal_New_code).1 _ _ _; rw [journal_New_eq]; exact D)

/-! ### (*octroi/journal.Journal).Put: function 11 -/
noncomputable def journal_Journal_Put_code : Code := match Try.f11.body with | some c => c | none => .skip

/-- journal.go:51 -/
def journal_Journal_Put_r0 (env : Env) (h : Hp) (K : Env → Hp → Prop) : Prop :=
  arun Try.prog (Instr.box 25 (env 1)) h fun v3_0 h1 =>
  K ((env.set 3 v3_0).set 4 (Go.Value.int Go.IntKind.i64 0)) h1
@[congr] theorem journal_Journal_Put_r0_congr {env : Env} {h : Hp} {K : Env → Hp → Prop} : journal_Journal_Put_r0 env h K = journal_Journal_Put_r0 env h K := rfl

/-- journal.go:53 -/
def journal_Journal_Put_r1 (env : Env) (h : Hp) (K : Env → Hp → Prop) : Prop :=
  rd Try.prog (Instr.fieldAt 25 (env 3) 0) noHp fun v6_0 =>
  rd Try.prog (Instr.loadAt 3 v6_0) h fun v7_1 =>
  rd Try.prog (bop Go.BinOp.lss 3 (Go.Operand.tmp 7) (Go.Operand.const (Go.Value.int Go.IntKind.i64 0)) v7_1 (Go.Value.int Go.IntKind.i64 0)) noHp fun v8_2 =>
  gd (yb v8_2 == some false) (fun h k => rd Try.prog (Instr.fieldAt 25 (env 3) 0) noHp fun v => k v h) h fun v10_4 h1 =>
  gd (yb v8_2 == some false) (fun h k => rd Try.prog (Instr.loadAt 3 v10_4) h fun v => k v h) h1 fun v11_5 h2 =>
  gd (yb v8_2 == some false) (fun h k => rd Try.prog (bop Go.BinOp.gtr 3 (Go.Operand.tmp 11) (Go.Operand.const (Go.Value.int Go.IntKind.i64 255)) v11_5 (Go.Value.int Go.IntKind.i64 255)) noHp fun v => k v h) h2 fun v12_6 h3 =>
  rd Try.prog (pck v8_2 (Go.Value.bool true) v12_6) noHp fun v13_7 =>
  K (((((((((env.set 6 v6_0).set 7 v7_1).set 8 v8_2).set 9 v8_2).set 10 v10_4).set 11 v11_5).set 12 v12_6).set 13 v13_7).set 5 v13_7) h3
@[congr] theorem journal_Journal_Put_r1_congr {env : Env} {h : Hp} {K : Env → Hp → Prop} : journal_Journal_Put_r1 env h K = journal_Journal_Put_r1 env h K := rfl

/-- journal.go:54 -/
def journal_Journal_Put_r2 (env : Env) (h : Hp) (K : Env → Hp → Prop) : Prop :=
  K (env.set 4 (Go.Value.int Go.IntKind.i64 1)) h
@[congr] theorem journal_Journal_Put_r2_congr {env : Env} {h : Hp} {K : Env → Hp → Prop} : journal_Journal_Put_r2 env h K = journal_Journal_Put_r2 env h K := rfl

/-- journal.go:55 (in any order) -/
def journal_Journal_Put_r3 (env : Env) (h : Hp) (K : Env → Hp → Prop) : Prop :=
  nck (env 0) (
  rd Try.prog (Instr.fieldAt 52 (env 0) 0) noHp fun v19_3 =>
  rd Try.prog (Instr.loadAt 3 v19_3) h fun v20_4 =>
  Ok Try.prog 16 #[(env 0)] h fun v16_5 h1 =>
  (rrun Try.prog (Instr.loadAt 3 v19_3) h1 = some v20_4 ∧ True) ∧
  rd Try.prog (bop Go.BinOp.geq 3 (Go.Operand.tmp 16) (Go.Operand.tmp 20) v16_5 v20_4) noHp fun v21_6 =>
  K ((((((((env.set 15 (env 0)).set 17 (env 0)).set 18 (env 0)).set 19 v19_3).set 20 v20_4).set 16 v16_5).set 21 v21_6).set 14 v21_6) h1)
@[congr] theorem journal_Journal_Put_r3_congr {env : Env} {h : Hp} {K : Env → Hp → Prop} : journal_Journal_Put_r3 env h K = journal_Journal_Put_r3 env h K := rfl

/-- journal.go:56 -/
def journal_Journal_Put_r4 (env : Env) (h : Hp) (K : Env → Hp → Prop) : Prop :=
  K (env.set 4 (Go.Value.int Go.IntKind.i64 4)) h
@[congr] theorem journal_Journal_Put_r4_congr {env : Env} {h : Hp} {K : Env → Hp → Prop} : journal_Journal_Put_r4 env h K = journal_Journal_Put_r4 env h K := rfl

/-- journal.go:58 (in any order) -/
def journal_Journal_Put_r5 (env : Env) (h : Hp) (K : Env → Hp → Prop) : Prop :=
  nck (env 0) (
  rd Try.prog (Instr.fieldAt 52 (env 0) 2) noHp fun v25_3 =>
  rd Try.prog (Instr.loadAt 34 v25_3) h fun v26_4 =>
  rd Try.prog (Instr.loadAt 25 (env 3)) h fun v27_5 =>
  Ok Try.prog 27 #[v27_5] h fun v28_6 h1 =>
  (rrun Try.prog (Instr.loadAt 34 v25_3) h1 = some v26_4 ∧ True) ∧
  arun Try.prog (Builtin.append_ #[34, 34] 34 #[v26_4, v28_6]) h1 fun v29_7 h2 =>
  (True) ∧
  nck (env 0) (
  rd Try.prog (Instr.fieldAt 52 (env 0) 2) noHp fun v31_9 =>
  arun Try.prog (Instr.storeAt 34 v31_9 v29_7) h2 fun _ h3 =>
  (True) ∧
  K ((((((((((env.set 22 (env 0)).set 23 (env 0)).set 24 (env 0)).set 25 v25_3).set 26 v26_4).set 27 v27_5).set 28 v28_6).set 29 v29_7).set 30 (env 0)).set 31 v31_9) h3))
@[congr] theorem journal_Journal_Put_r5_congr {env : Env} {h : Hp} {K : Env → Hp → Prop} : journal_Journal_Put_r5 env h K = journal_Journal_Put_r5 env h K := rfl

/-- journal.go:59 (in any order) -/
def journal_Journal_Put_r6 (env : Env) (h : Hp) (K : Env → Hp → Prop) : Prop :=
  nck (env 0) (
  rd Try.prog (Instr.fieldAt 52 (env 0) 3) noHp fun v34_2 =>
  rd Try.prog (Instr.loadAt 50 v34_2) h fun v35_3 =>
  rd Try.prog (Instr.fieldAt 25 (env 3) 0) noHp fun v36_4 =>
  rd Try.prog (Instr.loadAt 3 v36_4) h fun v37_5 =>
  rd Try.prog (Instr.fieldAt 25 (env 3) 1) noHp fun v38_6 =>
  rd Try.prog (Instr.loadAt 23 v38_6) h fun v39_7 =>
  rd Try.prog (Instr.build 55 #[(0, v37_5), (1, v39_7)]) noHp fun v40_8 =>
  rd Try.prog (Instr.fieldAt 25 (env 3) 2) noHp fun v41_9 =>
  rd Try.prog (Instr.loadAt 23 v41_9) h fun v42_10 =>
  arun Try.prog (Instr.mapUpdate 50 v35_3 v40_8 v42_10) h fun _ h1 =>
  (True) ∧
  K (((((((((((env.set 32 (env 0)).set 33 (env 0)).set 34 v34_2).set 35 v35_3).set 36 v36_4).set 37 v37_5).set 38 v38_6).set 39 v39_7).set 40 v40_8).set 41 v41_9).set 42 v42_10) h1)
@[congr] theorem journal_Journal_Put_r6_congr {env : Env} {h : Hp} {K : Env → Hp → Prop} : journal_Journal_Put_r6 env h K = journal_Journal_Put_r6 env h K := rfl

/-- journal.go:60 -/
def journal_Journal_Put_r7 (env : Env) (h : Hp) (K : Env → Hp → Prop) : Prop :=
  K (env.set 4 (Go.Value.int Go.IntKind.i64 0)) h
@[congr] theorem journal_Journal_Put_r7_congr {env : Env} {h : Hp} {K : Env → Hp → Prop} : journal_Journal_Put_r7 env h K = journal_Journal_Put_r7 env h K := rfl

def journal_Journal_Put_D : Den := (sq (rg journal_Journal_Put_r0) (sq (blk 0 (sq (rg journal_Journal_Put_r1) (cnd (Go.Operand.tmp 5) (sq (rg journal_Journal_Put_r2) (ex .ret)) (sq (rg journal_Journal_Put_r3) (cnd (Go.Operand.tmp 14) (sq (rg journal_Journal_Put_r4) (ex .ret)) (ex .normal)))))) (sq (rg journal_Journal_Put_r5) (sq (rg journal_Journal_Put_r6) (sq (rg journal_Journal_Put_r7) (ex .ret))))))

theorem journal_Journal_Put_eq : (den Try.prog 43 journal_Journal_Put_code).1 = journal_Journal_Put_D := by kernel_rfl

theorem journal_Journal_Put_ok {args : Array Value} {h : Hp} {Q : Value → Hp → Prop} (hn : args.size ≤ 43) (D : journal_Journal_Put_D (fin Try.prog [(Go.ResultVar.tmp 4)] Q) (env0 args) h) : Ok Try.prog 11 args h Q :=
  ok_of_den progIsOk Try.func11 (c := journal_Journal_Put_code) (by kernel_rfl) hn (by show (den Try.prog 43 journal_Journal_Put_code).1 _ _ _; rw [journal_Journal_Put_eq]; exact D)

/-! ### (*octroi/journal.Journal).Get: function 12 -/
noncomputable def journal_Journal_Get_code : Code := match Try.f12.body with | some c => c | none => .skip

/-- journal.go:64 -/
def journal_Journal_Get_r0 (env : Env) (h : Hp) (K : Env → Hp → Prop) : Prop :=
  K ((env.set 6 (Go.Value.int Go.IntKind.u32 0)).set 7 (Go.Value.bool false)) h
@[congr] theorem journal_Journal_Get_r0_congr {env : Env} {h : Hp} {K : Env → Hp → Prop} : journal_Journal_Get_r0 env h K = journal_Journal_Get_r0 env h K := rfl

/-- journal.go:65 -/
def journal_Journal_Get_r1 (env : Env) (h : Hp) (K : Env → Hp → Prop) : Prop :=
  nck (env 0) (
  rd Try.prog (Instr.fieldAt 52 (env 0) 3) noHp fun v13_2 =>
  rd Try.prog (Instr.loadAt 50 v13_2) h fun v14_3 =>
  rd Try.prog (Instr.build 55 #[(0, (env 1)), (1, (env 2))]) noHp fun v17_6 =>
  rd Try.prog (Instr.lookup 50 v14_3 v17_6 true) h fun v18_7 =>
  rd Try.prog (Instr.extract v18_7 0) noHp fun v19_9 =>
  rd Try.prog (Instr.extract v18_7 1) noHp fun v20_10 =>
  K (((((((((((((env.set 11 (env 0)).set 12 (env 0)).set 13 v13_2).set 14 v14_3).set 15 (env 1)).set 16 (env 2)).set 17 v17_6).set 18 v18_7).set 10 v18_7).set 19 v19_9).set 20 v20_10).set 8 v19_9).set 9 v20_10) h)
@[congr] theorem journal_Journal_Get_r1_congr {env : Env} {h : Hp} {K : Env → Hp → Prop} : journal_Journal_Get_r1 env h K = journal_Journal_Get_r1 env h K := rfl

/-- journal.go:66 -/
def journal_Journal_Get_r2 (env : Env) (h : Hp) (K : Env → Hp → Prop) : Prop :=
  K ((((env.set 21 (env 8)).set 22 (env 9)).set 6 (env 8)).set 7 (env 9)) h
@[congr] theorem journal_Journal_Get_r2_congr {env : Env} {h : Hp} {K : Env → Hp → Prop} : journal_Journal_Get_r2 env h K = journal_Journal_Get_r2 env h K := rfl

def journal_Journal_Get_D : Den := (sq (rg journal_Journal_Get_r0) (sq (rg journal_Journal_Get_r1) (sq (rg journal_Journal_Get_r2) (ex .ret))))

theorem journal_Journal_Get_eq : (den Try.prog 23 journal_Journal_Get_code).1 = journal_Journal_Get_D := by kernel_rfl

theorem journal_Journal_Get_ok {args : Array Value} {h : Hp} {Q : Value → Hp → Prop} (hn : args.size ≤ 23) (D : journal_Journal_Get_D (fin Try.prog [(Go.ResultVar.tmp 6), (Go.ResultVar.tmp 7)] Q) (env0 args) h) : Ok Try.prog 12 args h Q :=
  ok_of_den progIsOk Try.func12 (c := journal_Journal_Get_code) (by kernel_rfl) hn (by show (den Try.prog 23 journal_Journal_Get_code).1 _ _ _; rw [journal_Journal_Get_eq]; exact D)

/-! ### (*octroi/journal.Journal).Bytes: function 13 -/
noncomputable def journal_Journal_Bytes_code : Code := match Try.f13.body with | some c => c | none => .skip

/-- journal.go:111 -/
def journal_Journal_Bytes_r0 (env : Env) (h : Hp) (K : Env → Hp → Prop) : Prop :=
  K (env.set 2 (Go.Value.slice none 0 0)) h
@[congr] theorem journal_Journal_Bytes_r0_congr {env : Env} {h : Hp} {K : Env → Hp → Prop} : journal_Journal_Bytes_r0 env h K = journal_Journal_Bytes_r0 env h K := rfl

/-- journal.go:111 -/
def journal_Journal_Bytes_r1 (env : Env) (h : Hp) (K : Env → Hp → Prop) : Prop :=
  nck (env 0) (
  rd Try.prog (Instr.fieldAt 52 (env 0) 2) noHp fun v5_2 =>
  rd Try.prog (Instr.loadAt 34 v5_2) h fun v6_3 =>
  Ok Try.prog 28 #[v6_3] h fun v7_4 h1 =>
  K ((((((env.set 3 (env 0)).set 4 (env 0)).set 5 v5_2).set 6 v6_3).set 7 v7_4).set 2 v7_4) h1)
@[congr] theorem journal_Journal_Bytes_r1_congr {env : Env} {h : Hp} {K : Env → Hp → Prop} : journal_Journal_Bytes_r1 env h K = journal_Journal_Bytes_r1 env h K := rfl

def journal_Journal_Bytes_D : Den := (sq (rg journal_Journal_Bytes_r0) (sq (rg journal_Journal_Bytes_r1) (ex .ret)))

theorem journal_Journal_Bytes_eq : (den Try.prog 8 journal_Journal_Bytes_code).1 = journal_Journal_Bytes_D := by kernel_rfl

theorem journal_Journal_Bytes_ok {args : Array Value} {h : Hp} {Q : Value → Hp → Prop} (hn : args.size ≤ 8) (D : journal_Journal_Bytes_D (fin Try.prog [(Go.ResultVar.tmp 2)] Q) (env0 args) h) : Ok Try.prog 13 args h Q :=
  ok_of_den progIsOk Try.func13 (c := journal_Journal_Bytes_code) (by kernel_rfl) hn (by show (den Try.prog 8 journal_Journal_Bytes_code).1 _ _ _; rw [journal_Journal_Bytes_eq]; exact D)

/-! ### (*octroi/journal.Journal).Sync: function 14 -/
noncomputable def journal_Journal_Sync_code : Code := match Try.f14.body with | some c => c | none => .skip

/-- journal.go:70 -/
def journal_Journal_Sync_r0 (env : Env) (h : Hp) (K : Env → Hp → Prop) : Prop :=
  nck (env 0) (
  rd Try.prog (Instr.fieldAt 52 (env 0) 2) noHp fun v5_3 =>
  rd Try.prog (Instr.loadAt 34 v5_3) h fun v6_4 =>
  rd Try.prog (Builtin.len_ #[34] 3 #[v6_4]) h fun v7_5 =>
  nck (env 0) (
  rd Try.prog (Instr.fieldAt 52 (env 0) 1) noHp fun v9_7 =>
  arun Try.prog (Instr.storeAt 3 v9_7 v7_5) h fun _ h1 =>
  K ((((((((env.set 2 (env 0)).set 3 (env 0)).set 4 (env 0)).set 5 v5_3).set 6 v6_4).set 7 v7_5).set 8 (env 0)).set 9 v9_7) h1))
@[congr] theorem journal_Journal_Sync_r0_congr {env : Env} {h : Hp} {K : Env → Hp → Prop} : journal_Journal_Sync_r0 env h K = journal_Journal_Sync_r0 env h K := rfl

def journal_Journal_Sync_D : Den := (rg journal_Journal_Sync_r0)

theorem journal_Journal_Sync_eq : (den Try.prog 10 journal_Journal_Sync_code).1 = journal_Journal_Sync_D := by kernel_rfl

theorem journal_Journal_Sync_ok {args : Array Value} {h : Hp} {Q : Value → Hp → Prop} (hn : args.size ≤ 10) (D : journal_Journal_Sync_D (fin Try.prog [] Q) (env0 args) h) : Ok Try.prog 14 args h Q :=
  ok_of_den progIsOk Try.func14 (c := journal_Journal_Sync_code) (by kernel_rfl) hn (by show (den Try.prog 10 journal_Journal_Sync_code).1 _ _ _; rw [journal_Journal_Sync_eq]; exact D)

/-! ### (*octroi/journal.Journal).Crash: function 15 -/
noncomputable def journal_Journal_Crash_code : Code := match Try.f15.body with | some c => c | none => .skip

/-- journal.go:74 (in any order) -/
def journal_Journal_Crash_r0 (env : Env) (h : Hp) (K : Env → Hp → Prop) : Prop :=
  nck (env 0) (
  rd Try.prog (Instr.fieldAt 52 (env 0) 2) noHp fun v9_3 =>
  rd Try.prog (Instr.loadAt 34 v9_3) h fun v10_4 =>
  nck (env 0) (
  rd Try.prog (Instr.fieldAt 52 (env 0) 1) noHp fun v13_7 =>
  rd Try.prog (Instr.loadAt 3 v13_7) h fun v14_8 =>
  rd Try.prog (Builtin.max_ #[3, 3] 3 #[(env 1), (Go.Value.int Go.IntKind.i64 0)]) h fun v16_10 =>
  nck (env 0) (
  rd Try.prog (Instr.fieldAt 52 (env 0) 2) noHp fun v19_13 =>
  rd Try.prog (Instr.loadAt 34 v19_13) h fun v20_14 =>
  rd Try.prog (Builtin.len_ #[34] 3 #[v20_14]) h fun v21_15 =>
  nck (env 0) (
  rd Try.prog (Instr.fieldAt 52 (env 0) 1) noHp fun v24_18 =>
  rd Try.prog (Instr.loadAt 3 v24_18) h fun v25_19 =>
  rd Try.prog (bop Go.BinOp.sub 3 (Go.Operand.tmp 21) (Go.Operand.tmp 25) v21_15 v25_19) noHp fun v26_20 =>
  rd Try.prog (bop Go.BinOp.add 3 (Go.Operand.tmp 26) (Go.Operand.const (Go.Value.int Go.IntKind.i64 1)) v26_20 (Go.Value.int Go.IntKind.i64 1)) noHp fun v27_21 =>
  rd Try.prog (bop Go.BinOp.rem 3 (Go.Operand.tmp 16) (Go.Operand.tmp 27) v16_10 v27_21) noHp fun v28_22 =>
  rd Try.prog (bop Go.BinOp.add 3 (Go.Operand.tmp 14) (Go.Operand.tmp 28) v14_8 v28_22) noHp fun v29_23 =>
  rd Try.prog (Instr.sliceAt 34 v10_4 none (some v29_23) none) noHp fun v30_24 =>
  nck (env 0) (
  rd Try.prog (Instr.fieldAt 52 (env 0) 2) noHp fun v32_26 =>
  arun Try.prog (Instr.storeAt 34 v32_26 v30_24) h fun _ h1 =>
  (True) ∧
  K (((((((((((((((((((((((((((env.set 6 (env 0)).set 7 (env 0)).set 8 (env 0)).set 9 v9_3).set 10 v10_4).set 11 (env 0)).set 12 (env 0)).set 13 v13_7).set 14 v14_8).set 15 (env 1)).set 16 v16_10).set 17 (env 0)).set 18 (env 0)).set 19 v19_13).set 20 v20_14).set 21 v21_15).set 22 (env 0)).set 23 (env 0)).set 24 v24_18).set 25 v25_19).set 26 v26_20).set 27 v27_21).set 28 v28_22).set 29 v29_23).set 30 v30_24).set 31 (env 0)).set 32 v32_26) h1)))))
@[congr] theorem journal_Journal_Crash_r0_congr {env : Env} {h : Hp} {K : Env → Hp → Prop} : journal_Journal_Crash_r0 env h K = journal_Journal_Crash_r0 env h K := rfl

/-- journal.go:75 (in any order) -/
def journal_Journal_Crash_r1 (env : Env) (h : Hp) (K : Env → Hp → Prop) : Prop :=
  nck (env 0) (
  rd Try.prog (Instr.fieldAt 52 (env 0) 2) noHp fun v36_3 =>
  rd Try.prog (Instr.loadAt 34 v36_3) h fun v37_4 =>
  nck (env 0) (
  rd Try.prog (Instr.fieldAt 52 (env 0) 2) noHp fun v40_7 =>
  rd Try.prog (Instr.loadAt 34 v40_7) h fun v41_8 =>
  rd Try.prog (Builtin.len_ #[34] 3 #[v41_8]) h fun v42_9 =>
  rd Try.prog (bop Go.BinOp.quo 3 (Go.Operand.tmp 42) (Go.Operand.const (Go.Value.int Go.IntKind.i64 12)) v42_9 (Go.Value.int Go.IntKind.i64 12)) noHp fun v43_10 =>
  rd Try.prog (bop Go.BinOp.mul 3 (Go.Operand.tmp 43) (Go.Operand.const (Go.Value.int Go.IntKind.i64 12)) v43_10 (Go.Value.int Go.IntKind.i64 12)) noHp fun v44_11 =>
  rd Try.prog (Instr.sliceAt 34 v37_4 none (some v44_11) none) noHp fun v45_12 =>
  nck (env 0) (
  rd Try.prog (Instr.fieldAt 52 (env 0) 2) noHp fun v47_14 =>
  arun Try.prog (Instr.storeAt 34 v47_14 v45_12) h fun _ h1 =>
  (True) ∧
  K (((((((((((((((env.set 33 (env 0)).set 34 (env 0)).set 35 (env 0)).set 36 v36_3).set 37 v37_4).set 38 (env 0)).set 39 (env 0)).set 40 v40_7).set 41 v41_8).set 42 v42_9).set 43 v43_10).set 44 v44_11).set 45 v45_12).set 46 (env 0)).set 47 v47_14) h1)))
@[congr] theorem journal_Journal_Crash_r1_congr {env : Env} {h : Hp} {K : Env → Hp → Prop} : journal_Journal_Crash_r1 env h K = journal_Journal_Crash_r1 env h K := rfl

/-- journal.go:76 -/
def journal_Journal_Crash_r2 (env : Env) (h : Hp) (K : Env → Hp → Prop) : Prop :=
  arun Try.prog (Instr.makeMap 50 none) h fun v49_1 h1 =>
  nck (env 0) (
  rd Try.prog (Instr.fieldAt 52 (env 0) 3) noHp fun v51_3 =>
  arun Try.prog (Instr.storeAt 50 v51_3 v49_1) h1 fun _ h2 =>
  K ((((env.set 48 (env 0)).set 49 v49_1).set 50 (env 0)).set 51 v51_3) h2)
@[congr] theorem journal_Journal_Crash_r2_congr {env : Env} {h : Hp} {K : Env → Hp → Prop} : journal_Journal_Crash_r2 env h K = journal_Journal_Crash_r2 env h K := rfl

/-- journal.go:77 -/
def journal_Journal_Crash_r3 (env : Env) (h : Hp) (K : Env → Hp → Prop) : Prop :=
  K (env.set 4 (Go.Value.int Go.IntKind.i64 0)) h
@[congr] theorem journal_Journal_Crash_r3_congr {env : Env} {h : Hp} {K : Env → Hp → Prop} : journal_Journal_Crash_r3 env h K = journal_Journal_Crash_r3 env h K := rfl

/-- journal.go:79 -/
def journal_Journal_Crash_r4 (env : Env) (h : Hp) (K : Env → Hp → Prop) : Prop :=
  nck (env 0) (
  rd Try.prog (Instr.fieldAt 52 (env 0) 2) noHp fun v55_3 =>
  rd Try.prog (Instr.loadAt 34 v55_3) h fun v56_4 =>
  rd Try.prog (Builtin.len_ #[34] 3 #[v56_4]) h fun v57_5 =>
  rd Try.prog (bop Go.BinOp.lss 3 (Go.Operand.tmp 52) (Go.Operand.tmp 57) (env 4) v57_5) noHp fun v58_6 =>
  K (((((((env.set 52 (env 4)).set 53 (env 0)).set 54 (env 0)).set 55 v55_3).set 56 v56_4).set 57 v57_5).set 58 v58_6) h)
@[congr] theorem journal_Journal_Crash_r4_congr {env : Env} {h : Hp} {K : Env → Hp → Prop} : journal_Journal_Crash_r4 env h K = journal_Journal_Crash_r4 env h K := rfl

/-- journal.go:80 -/
def journal_Journal_Crash_r5 (env : Env) (h : Hp) (K : Env → Hp → Prop) : Prop :=
  nck (env 0) (
  rd Try.prog (Instr.fieldAt 52 (env 0) 2) noHp fun v61_2 =>
  rd Try.prog (Instr.loadAt 34 v61_2) h fun v62_3 =>
  rd Try.prog (Instr.sliceAt 34 v62_3 (some (env 4)) none none) noHp fun v64_5 =>
  Ok Try.prog 29 #[v64_5] h fun v65_6 h1 =>
  arun Try.prog (Instr.alloc 25 true (Go.Value.tuple #[])) h1 fun v5_7 h2 =>
  arun Try.prog (Instr.storeAt 25 v5_7 v65_6) h2 fun _ h3 =>
  K ((((((((env.set 59 (env 0)).set 60 (env 0)).set 61 v61_2).set 62 v62_3).set 63 (env 4)).set 64 v64_5).set 65 v65_6).set 5 v5_7) h3)
@[congr] theorem journal_Journal_Crash_r5_congr {env : Env} {h : Hp} {K : Env → Hp → Prop} : journal_Journal_Crash_r5 env h K = journal_Journal_Crash_r5 env h K := rfl

/-- journal.go:81 (in any order) -/
def journal_Journal_Crash_r6 (env : Env) (h : Hp) (K : Env → Hp → Prop) : Prop :=
  nck (env 0) (
  rd Try.prog (Instr.fieldAt 52 (env 0) 3) noHp fun v68_2 =>
  rd Try.prog (Instr.loadAt 50 v68_2) h fun v69_3 =>
  rd Try.prog (Instr.fieldAt 25 (env 5) 0) noHp fun v70_4 =>
  rd Try.prog (Instr.loadAt 3 v70_4) h fun v71_5 =>
  rd Try.prog (Instr.fieldAt 25 (env 5) 1) noHp fun v72_6 =>
  rd Try.prog (Instr.loadAt 23 v72_6) h fun v73_7 =>
  rd Try.prog (Instr.build 55 #[(0, v71_5), (1, v73_7)]) noHp fun v74_8 =>
  rd Try.prog (Instr.fieldAt 25 (env 5) 2) noHp fun v75_9 =>
  rd Try.prog (Instr.loadAt 23 v75_9) h fun v76_10 =>
  arun Try.prog (Instr.mapUpdate 50 v69_3 v74_8 v76_10) h fun _ h1 =>
  (True) ∧
  K (((((((((((env.set 66 (env 0)).set 67 (env 0)).set 68 v68_2).set 69 v69_3).set 70 v70_4).set 71 v71_5).set 72 v72_6).set 73 v73_7).set 74 v74_8).set 75 v75_9).set 76 v76_10) h1)
@[congr] theorem journal_Journal_Crash_r6_congr {env : Env} {h : Hp} {K : Env → Hp → Prop} : journal_Journal_Crash_r6 env h K = journal_Journal_Crash_r6 env h K := rfl

/-- journal.go:82 -/
def journal_Journal_Crash_r7 (env : Env) (h : Hp) (K : Env → Hp → Prop) : Prop :=
  rd Try.prog (bop Go.BinOp.add 3 (Go.Operand.tmp 77) (Go.Operand.const (Go.Value.int Go.IntKind.i64 12)) (env 4) (Go.Value.int Go.IntKind.i64 12)) noHp fun v78_1 =>
  K (((env.set 77 (env 4)).set 78 v78_1).set 4 v78_1) h
@[congr] theorem journal_Journal_Crash_r7_congr {env : Env} {h : Hp} {K : Env → Hp → Prop} : journal_Journal_Crash_r7 env h K = journal_Journal_Crash_r7 env h K := rfl

/-- journal.go:85 -/
def journal_Journal_Crash_r8 (env : Env) (h : Hp) (K : Env → Hp → Prop) : Prop :=
  Ok Try.prog 14 #[(env 0)] h fun v80_1 h1 =>
  K ((env.set 79 (env 0)).set 80 v80_1) h1
@[congr] theorem journal_Journal_Crash_r8_congr {env : Env} {h : Hp} {K : Env → Hp → Prop} : journal_Journal_Crash_r8 env h K = journal_Journal_Crash_r8 env h K := rfl

def journal_Journal_Crash_S0 : Den := (sq (rg journal_Journal_Crash_r0) (sq (rg journal_Journal_Crash_r1) (sq (rg journal_Journal_Crash_r2) (sq (rg journal_Journal_Crash_r3) (sq (ex .normal) (sq (sq (rg journal_Journal_Crash_r4) (cnd (Go.Operand.tmp 58) (sq (rg journal_Journal_Crash_r5) (sq (rg journal_Journal_Crash_r6) (sq (rg journal_Journal_Crash_r7) (ex (.goto 0))))) (ex .normal))) (rg journal_Journal_Crash_r8)))))))

noncomputable def journal_Journal_Crash_S0_code : Code := subCode [0] journal_Journal_Crash_code

def journal_Journal_Crash_S0_at0 : Den := (sq (ex .normal) (sq (sq (rg journal_Journal_Crash_r4) (cnd (Go.Operand.tmp 58) (sq (rg journal_Journal_Crash_r5) (sq (rg journal_Journal_Crash_r6) (sq (rg journal_Journal_Crash_r7) (ex (.goto 0))))) (ex .normal))) (rg journal_Journal_Crash_r8)))

theorem journal_Journal_Crash_S0_lab0 : (den Try.prog 81 journal_Journal_Crash_S0_code).2 0 = some journal_Journal_Crash_S0_at0 := by kernel_rfl

def journal_Journal_Crash_D : Den := (scp journal_Journal_Crash_S0 (den Try.prog 81 journal_Journal_Crash_S0_code).2)

theorem journal_Journal_Crash_eq : (den Try.prog 81 journal_Journal_Crash_code).1 = journal_Journal_Crash_D := by kernel_rfl

theorem journal_Journal_Crash_ok {args : Array Value} {h : Hp} {Q : Value → Hp → Prop} (hn : args.size ≤ 81) (D : journal_Journal_Crash_D (fin Try.prog [] Q) (env0 args) h) : Ok Try.prog 15 args h Q :=
  ok_of_den progIsOk Try.func15 (c := journal_Journal_Crash_code) (by kernel_rfl) hn (by show (den Try.prog 81 journal_Journal_Crash_code).1 _ _ _; rw [journal_Journal_Crash_eq]; exact D)

/-! ### (*octroi/journal.Journal).Len: function 16 -/
noncomputable def journal_Journal_Len_code : Code := match Try.f16.body with | some c => c | none => .skip

/-- journal.go:108 -/
def journal_Journal_Len_r0 (env : Env) (h : Hp) (K : Env → Hp → Prop) : Prop :=
  K (env.set 2 (Go.Value.int Go.IntKind.i64 0)) h
@[congr] theorem journal_Journal_Len_r0_congr {env : Env} {h : Hp} {K : Env → Hp → Prop} : journal_Journal_Len_r0 env h K = journal_Journal_Len_r0 env h K := rfl

/-- journal.go:108 -/
def journal_Journal_Len_r1 (env : Env) (h : Hp) (K : Env → Hp → Prop) : Prop :=
  nck (env 0) (
  rd Try.prog (Instr.fieldAt 52 (env 0) 2) noHp fun v5_2 =>
  rd Try.prog (Instr.loadAt 34 v5_2) h fun v6_3 =>
  rd Try.prog (Builtin.len_ #[34] 3 #[v6_3]) h fun v7_4 =>
  rd Try.prog (bop Go.BinOp.quo 3 (Go.Operand.tmp 7) (Go.Operand.const (Go.Value.int Go.IntKind.i64 12)) v7_4 (Go.Value.int Go.IntKind.i64 12)) noHp fun v8_5 =>
  K (((((((env.set 3 (env 0)).set 4 (env 0)).set 5 v5_2).set 6 v6_3).set 7 v7_4).set 8 v8_5).set 2 v8_5) h)
@[congr] theorem journal_Journal_Len_r1_congr {env : Env} {h : Hp} {K : Env → Hp → Prop} : journal_Journal_Len_r1 env h K = journal_Journal_Len_r1 env h K := rfl

def journal_Journal_Len_D : Den := (sq (rg journal_Journal_Len_r0) (sq (rg journal_Journal_Len_r1) (ex .ret)))

theorem journal_Journal_Len_eq : (den Try.prog 9 journal_Journal_Len_code).1 = journal_Journal_Len_D := by kernel_rfl

theorem journal_Journal_Len_ok {args : Array Value} {h : Hp} {Q : Value → Hp → Prop} (hn : args.size ≤ 9) (D : journal_Journal_Len_D (fin Try.prog [(Go.ResultVar.tmp 2)] Q) (env0 args) h) : Ok Try.prog 16 args h Q :=
  ok_of_den progIsOk Try.func16 (c := journal_Journal_Len_code) (by kernel_rfl) hn (by show (den Try.prog 9 journal_Journal_Len_code).1 _ _ _; rw [journal_Journal_Len_eq]; exact D)

/-! ### octroi/journal.put: function 27 -/
noncomputable def journal_put_code : Code := match Try.f27.body with | some c => c | none => .skip

/-- journal.go:38 -/
def journal_put_r0 (env : Env) (h : Hp) (K : Env → Hp → Prop) : Prop :=
  arun Try.prog (Instr.box 25 (env 0)) h fun v1_0 h1 =>
  K ((env.set 1 v1_0).set 2 (Go.Value.slice none 0 0)) h1
@[congr] theorem journal_put_r0_congr {env : Env} {h : Hp} {K : Env → Hp → Prop} : journal_put_r0 env h K = journal_put_r0 env h K := rfl

/-- journal.go:39 (in any order) -/
def journal_put_r1 (env : Env) (h : Hp) (K : Env → Hp → Prop) : Prop :=
  rd Try.prog (Instr.fieldAt 25 (env 1) 0) noHp fun v3_0 =>
  rd Try.prog (Instr.loadAt 3 v3_0) h fun v4_1 =>
  rd Try.prog (convert 3 5 v4_1) noHp fun v5_2 =>
  rd Try.prog (Instr.fieldAt 25 (env 1) 1) noHp fun v7_3 =>
  rd Try.prog (Instr.loadAt 23 v7_3) h fun v8_4 =>
  rd Try.prog (Instr.fieldAt 25 (env 1) 2) noHp fun v10_5 =>
  rd Try.prog (Instr.loadAt 23 v10_5) h fun v11_6 =>
  (arun Try.prog (Instr.buildSlice 34 4 #[(0, v5_2), (1, (Go.Value.int Go.IntKind.u8 0)), (2, (Go.Value.int Go.IntKind.u8 0)), (3, (Go.Value.int Go.IntKind.u8 0))]) h fun v6_7 h1 =>
  (rrun Try.prog (Instr.loadAt 23 v10_5) h1 = some v11_6 ∧ rrun Try.prog (Instr.loadAt 23 v7_3) h1 = some v8_4 ∧ True) ∧
  Ok Try.prog 35 #[v8_4] h1 fun v9_8 h2 =>
  (rrun Try.prog (Instr.loadAt 23 v10_5) h2 = some v11_6 ∧ True) ∧
  Ok Try.prog 35 #[v11_6] h2 fun v12_9 h3 =>
  (True) ∧
  arun Try.prog (Instr.buildSlice 74 3 #[(0, v6_7), (1, v9_8), (2, v12_9)]) h3 fun v13_10 h4 =>
  (True) ∧
  Ok Try.prog 34 #[v13_10] h4 fun v14_11 h5 =>
  (True) ∧
  K (((((((((((((env.set 3 v3_0).set 4 v4_1).set 5 v5_2).set 7 v7_3).set 8 v8_4).set 10 v10_5).set 11 v11_6).set 6 v6_7).set 9 v9_8).set 12 v12_9).set 13 v13_10).set 14 v14_11).set 2 v14_11) h5) ∧
(Ok Try.prog 35 #[v8_4] h fun v9_13 h6 =>
  (rrun Try.prog (Instr.loadAt 23 v10_5) h6 = some v11_6 ∧ rrun Try.prog (Instr.loadAt 3 v3_0) h6 = some v4_1 ∧ True) ∧
  (arun Try.prog (Instr.buildSlice 34 4 #[(0, v5_2), (1, (Go.Value.int Go.IntKind.u8 0)), (2, (Go.Value.int Go.IntKind.u8 0)), (3, (Go.Value.int Go.IntKind.u8 0))]) h6 fun v6_14 h7 =>
  (rrun Try.prog (Instr.loadAt 23 v10_5) h7 = some v11_6 ∧ True) ∧
  Ok Try.prog 35 #[v11_6] h7 fun v12_15 h8 =>
  (True) ∧
  arun Try.prog (Instr.buildSlice 74 3 #[(0, v6_14), (1, v9_13), (2, v12_15)]) h8 fun v13_16 h9 =>
  (True) ∧
  Ok Try.prog 34 #[v13_16] h9 fun v14_17 h10 =>
  (True) ∧
  K (((((((((((((env.set 3 v3_0).set 4 v4_1).set 5 v5_2).set 7 v7_3).set 8 v8_4).set 10 v10_5).set 11 v11_6).set 9 v9_13).set 6 v6_14).set 12 v12_15).set 13 v13_16).set 14 v14_17).set 2 v14_17) h10) ∧
(Ok Try.prog 35 #[v11_6] h6 fun v12_19 h11 =>
  (rrun Try.prog (Instr.loadAt 3 v3_0) h11 = some v4_1 ∧ True) ∧
  arun Try.prog (Instr.buildSlice 34 4 #[(0, v5_2), (1, (Go.Value.int Go.IntKind.u8 0)), (2, (Go.Value.int Go.IntKind.u8 0)), (3, (Go.Value.int Go.IntKind.u8 0))]) h11 fun v6_20 h12 =>
  (True) ∧
  arun Try.prog (Instr.buildSlice 74 3 #[(0, v6_20), (1, v9_13), (2, v12_19)]) h12 fun v13_21 h13 =>
  (True) ∧
  Ok Try.prog 34 #[v13_21] h13 fun v14_22 h14 =>
  (True) ∧
  K (((((((((((((env.set 3 v3_0).set 4 v4_1).set 5 v5_2).set 7 v7_3).set 8 v8_4).set 10 v10_5).set 11 v11_6).set 9 v9_13).set 12 v12_19).set 6 v6_20).set 13 v13_21).set 14 v14_22).set 2 v14_22) h14))
@[congr] theorem journal_put_r1_congr {env : Env} {h : Hp} {K : Env → Hp → Prop} : journal_put_r1 env h K = journal_put_r1 env h K := rfl

def journal_put_D : Den := (sq (rg journal_put_r0) (sq (rg journal_put_r1) (ex .ret)))

theorem journal_put_eq : (den Try.prog 15 journal_put_code).1 = journal_put_D := by kernel_rfl

theorem journal_put_ok {args : Array Value} {h : Hp} {Q : Value → Hp → Prop} (hn : args.size ≤ 15) (D : journal_put_D (fin Try.prog [(Go.ResultVar.tmp 2)] Q) (env0 args) h) : Ok Try.prog 27 args h Q :=
  ok_of_den progIsOk Try.func27 (c := journal_put_code) (by kernel_rfl) hn (by show (den Try.prog 15 journal_put_code).1 _ _ _; rw [journal_put_eq]; exact D)

/-! ### slices.Clone[[]byte,byte]: function 28 -/
noncomputable def slices_Clone_byte_byte_code : Code := match Try.f28.body with | some c => c | none => .skip

/-- slices.go:355 -/
def slices_Clone_byte_byte_r0 (env : Env) (h : Hp) (K : Env → Hp → Prop) : Prop :=
  K (env.set 2 (Go.Value.slice none 0 0)) h
@[congr] theorem slices_Clone_byte_byte_r0_congr {env : Env} {h : Hp} {K : Env → Hp → Prop} : slices_Clone_byte_byte_r0 env h K = slices_Clone_byte_byte_r0 env h K := rfl

/-- slices.go:357 -/
def slices_Clone_byte_byte_r1 (env : Env) (h : Hp) (K : Env → Hp → Prop) : Prop :=
  rd Try.prog (bop Go.BinOp.eql 34 (Go.Operand.tmp 3) (Go.Operand.const (Go.Value.slice none 0 0)) (env 0) (Go.Value.slice none 0 0)) noHp fun v4_1 =>
  K ((env.set 3 (env 0)).set 4 v4_1) h
@[congr] theorem slices_Clone_byte_byte_r1_congr {env : Env} {h : Hp} {K : Env → Hp → Prop} : slices_Clone_byte_byte_r1 env h K = slices_Clone_byte_byte_r1 env h K := rfl

/-- slices.go:358 -/
def slices_Clone_byte_byte_r2 (env : Env) (h : Hp) (K : Env → Hp → Prop) : Prop :=
  K (env.set 2 (Go.Value.slice none 0 0)) h
@[congr] theorem slices_Clone_byte_byte_r2_congr {env : Env} {h : Hp} {K : Env → Hp → Prop} : slices_Clone_byte_byte_r2 env h K = slices_Clone_byte_byte_r2 env h K := rfl

/-- slices.go:362 -/
def slices_Clone_byte_byte_r3 (env : Env) (h : Hp) (K : Env → Hp → Prop) : Prop :=
  arun Try.prog (Instr.buildSlice 34 0 #[]) h fun v5_0 h1 =>
  arun Try.prog (Builtin.append_ #[34, 34] 34 #[v5_0, (env 0)]) h1 fun v7_2 h2 =>
  K ((((env.set 5 v5_0).set 6 (env 0)).set 7 v7_2).set 2 v7_2) h2
@[congr] theorem slices_Clone_byte_byte_r3_congr {env : Env} {h : Hp} {K : Env → Hp → Prop} : slices_Clone_byte_byte_r3 env h K = slices_Clone_byte_byte_r3 env h K := rfl

def slices_Clone_byte_byte_D : Den := (sq (rg slices_Clone_byte_byte_r0) (sq (sq (rg slices_Clone_byte_byte_r1) (cnd (Go.Operand.tmp 4) (sq (rg slices_Clone_byte_byte_r2) (ex .ret)) (ex .normal))) (sq (rg slices_Clone_byte_byte_r3) (ex .ret))))

theorem slices_Clone_byte_byte_eq : (den Try.prog 8 slices_Clone_byte_byte_code).1 = slices_Clone_byte_byte_D := by kernel_rfl

theorem slices_Clone_byte_byte_ok {args : Array Value} {h : Hp} {Q : Value → Hp → Prop} (hn : args.size ≤ 8) (D : slices_Clone_byte_byte_D (fin Try.prog [(Go.ResultVar.tmp 2)] Q) (env0 args) h) : Ok Try.prog 28 args h Q :=
  ok_of_den progIsOk Try.func28 (c := slices_Clone_byte_byte_code) (by kernel_rfl) hn (by show (den Try.prog 8 slices_Clone_byte_byte_code).1 _ _ _; rw [slices_Clone_byte_byte_eq]; exact D)

/-! ### octroi/journal.get: function 29 -/
noncomputable def journal_get_code : Code := match Try.f29.body with | some c => c | none => .skip

/-- journal.go:43 -/
def journal_get_r0 (env : Env) (h : Hp) (K : Env → Hp → Prop) : Prop :=
  arun Try.prog (Instr.alloc 25 true (Go.Value.tuple #[])) h fun v2_0 h1 =>
  K (env.set 2 v2_0) h1
@[congr] theorem journal_get_r0_congr {env : Env} {h : Hp} {K : Env → Hp → Prop} : journal_get_r0 env h K = journal_get_r0 env h K := rfl

/-- journal.go:44 -/
def journal_get_r1 (env : Env) (h : Hp) (K : Env → Hp → Prop) : Prop :=
  rd Try.prog (Instr.indexAt 34 (env 0) (Go.Value.int Go.IntKind.i64 0)) noHp fun v5_1 =>
  rd Try.prog (Instr.loadAt 5 v5_1) h fun v6_2 =>
  rd Try.prog (convert 5 3 v6_2) noHp fun v7_3 =>
  rd Try.prog (Instr.build 25 #[(0, v7_3)]) noHp fun v8_4 =>
  arun Try.prog (Instr.alloc 25 true (Go.Value.tuple #[])) h fun v3_5 h1 =>
  arun Try.prog (Instr.storeAt 25 v3_5 v8_4) h1 fun _ h2 =>
  K ((((((env.set 4 (env 0)).set 5 v5_1).set 6 v6_2).set 7 v7_3).set 8 v8_4).set 3 v3_5) h2
@[congr] theorem journal_get_r1_congr {env : Env} {h : Hp} {K : Env → Hp → Prop} : journal_get_r1 env h K = journal_get_r1 env h K := rfl

/-- journal.go:45 -/
def journal_get_r2 (env : Env) (h : Hp) (K : Env → Hp → Prop) : Prop :=
  Ok Try.prog 36 #[(env 0), (Go.Value.int Go.IntKind.i64 4)] h fun v11_1 h1 =>
  rd Try.prog (Instr.extract v11_1 0) noHp fun v12_3 =>
  rd Try.prog (Instr.extract v11_1 1) noHp fun v13_4 =>
  rd Try.prog (Instr.fieldAt 25 (env 3) 1) noHp fun v14_5 =>
  arun Try.prog (Instr.storeAt 23 v14_5 v12_3) h1 fun _ h2 =>
  K ((((((env.set 10 (env 0)).set 11 v11_1).set 9 v11_1).set 12 v12_3).set 13 v13_4).set 14 v14_5) h2
@[congr] theorem journal_get_r2_congr {env : Env} {h : Hp} {K : Env → Hp → Prop} : journal_get_r2 env h K = journal_get_r2 env h K := rfl

/-- journal.go:46 -/
def journal_get_r3 (env : Env) (h : Hp) (K : Env → Hp → Prop) : Prop :=
  Ok Try.prog 36 #[(env 0), (Go.Value.int Go.IntKind.i64 8)] h fun v17_1 h1 =>
  rd Try.prog (Instr.extract v17_1 0) noHp fun v18_3 =>
  rd Try.prog (Instr.extract v17_1 1) noHp fun v19_4 =>
  rd Try.prog (Instr.fieldAt 25 (env 3) 2) noHp fun v20_5 =>
  arun Try.prog (Instr.storeAt 23 v20_5 v18_3) h1 fun _ h2 =>
  K ((((((env.set 16 (env 0)).set 17 v17_1).set 15 v17_1).set 18 v18_3).set 19 v19_4).set 20 v20_5) h2
@[congr] theorem journal_get_r3_congr {env : Env} {h : Hp} {K : Env → Hp → Prop} : journal_get_r3 env h K = journal_get_r3 env h K := rfl

/-- journal.go:47 -/
def journal_get_r4 (env : Env) (h : Hp) (K : Env → Hp → Prop) : Prop :=
  rd Try.prog (Instr.loadAt 25 (env 3)) h fun v21_0 =>
  arun Try.prog (Instr.storeAt 25 (env 2) v21_0) h fun _ h1 =>
  K (env.set 21 v21_0) h1
@[congr] theorem journal_get_r4_congr {env : Env} {h : Hp} {K : Env → Hp → Prop} : journal_get_r4 env h K = journal_get_r4 env h K := rfl

def journal_get_D : Den := (sq (rg journal_get_r0) (sq (rg journal_get_r1) (sq (rg journal_get_r2) (sq (rg journal_get_r3) (sq (rg journal_get_r4) (ex .ret))))))

theorem journal_get_eq : (den Try.prog 22 journal_get_code).1 = journal_get_D := by kernel_rfl

theorem journal_get_ok {args : Array Value} {h : Hp} {Q : Value → Hp → Prop} (hn : args.size ≤ 22) (D : journal_get_D (fin Try.prog [(Go.ResultVar.cell 2 25)] Q) (env0 args) h) : Ok Try.prog 29 args h Q :=
  ok_of_den progIsOk Try.func29 (c := journal_get_code) (by kernel_rfl) hn (by show (den Try.prog 22 journal_get_code).1 _ _ _; rw [journal_get_eq]; exact D)

/-! ### slices.Concat[[]byte,byte]: function 34 -/
noncomputable def slices_Concat_byte_byte_code : Code := match Try.f34.body with | some c => c | none => .skip

/-- slices.go:491 -/
def slices_Concat_byte_byte_r0 (env : Env) (h : Hp) (K : Env → Hp → Prop) : Prop :=
  K (env.set 2 (Go.Value.slice none 0 0)) h
@[congr] theorem slices_Concat_byte_byte_r0_congr {env : Env} {h : Hp} {K : Env → Hp → Prop} : slices_Concat_byte_byte_r0 env h K = slices_Concat_byte_byte_r0 env h K := rfl

/-- slices.go:492 -/
def slices_Concat_byte_byte_r1 (env : Env) (h : Hp) (K : Env → Hp → Prop) : Prop :=
  K (env.set 3 (Go.Value.int Go.IntKind.i64 0)) h
@[congr] theorem slices_Concat_byte_byte_r1_congr {env : Env} {h : Hp} {K : Env → Hp → Prop} : slices_Concat_byte_byte_r1 env h K = slices_Concat_byte_byte_r1 env h K := rfl

/-- slices.go:493 -/
def slices_Concat_byte_byte_r2 (env : Env) (h : Hp) (K : Env → Hp → Prop) : Prop :=
  rd Try.prog (Builtin.len_ #[74] 3 #[(env 0)]) h fun v10_1 =>
  K (((env.set 9 (env 0)).set 10 v10_1).set 11 (Go.Value.int Go.IntKind.i64 0)) h
@[congr] theorem slices_Concat_byte_byte_r2_congr {env : Env} {h : Hp} {K : Env → Hp → Prop} : slices_Concat_byte_byte_r2 env h K = slices_Concat_byte_byte_r2 env h K := rfl

/-- slices.go:493 -/
def slices_Concat_byte_byte_r3 (env : Env) (h : Hp) (K : Env → Hp → Prop) : Prop :=
  rd Try.prog (bop Go.BinOp.lss 3 (Go.Operand.tmp 11) (Go.Operand.tmp 10) (env 11) (env 10)) noHp fun v12_0 =>
  K (env.set 12 v12_0) h
@[congr] theorem slices_Concat_byte_byte_r3_congr {env : Env} {h : Hp} {K : Env → Hp → Prop} : slices_Concat_byte_byte_r3 env h K = slices_Concat_byte_byte_r3 env h K := rfl

/-- slices.go:493 -/
def slices_Concat_byte_byte_r4 (env : Env) (h : Hp) (K : Env → Hp → Prop) : Prop :=
  rd Try.prog (Instr.indexAt 74 (env 9) (env 11)) noHp fun v13_0 =>
  rd Try.prog (Instr.loadAt 34 v13_0) h fun v14_1 =>
  K (((env.set 13 v13_0).set 14 v14_1).set 5 v14_1) h
@[congr] theorem slices_Concat_byte_byte_r4_congr {env : Env} {h : Hp} {K : Env → Hp → Prop} : slices_Concat_byte_byte_r4 env h K = slices_Concat_byte_byte_r4 env h K := rfl

/-- slices.go:494 -/
def slices_Concat_byte_byte_r5 (env : Env) (h : Hp) (K : Env → Hp → Prop) : Prop :=
  rd Try.prog (Builtin.len_ #[34] 3 #[(env 5)]) h fun v17_2 =>
  rd Try.prog (bop Go.BinOp.add 3 (Go.Operand.tmp 15) (Go.Operand.tmp 17) (env 3) v17_2) noHp fun v18_3 =>
  K (((((env.set 15 (env 3)).set 16 (env 5)).set 17 v17_2).set 18 v18_3).set 3 v18_3) h
@[congr] theorem slices_Concat_byte_byte_r5_congr {env : Env} {h : Hp} {K : Env → Hp → Prop} : slices_Concat_byte_byte_r5 env h K = slices_Concat_byte_byte_r5 env h K := rfl

/-- slices.go:495 -/
def slices_Concat_byte_byte_r6 (env : Env) (h : Hp) (K : Env → Hp → Prop) : Prop :=
  rd Try.prog (bop Go.BinOp.lss 3 (Go.Operand.tmp 19) (Go.Operand.const (Go.Value.int Go.IntKind.i64 0)) (env 3) (Go.Value.int Go.IntKind.i64 0)) noHp fun v20_1 =>
  K ((env.set 19 (env 3)).set 20 v20_1) h
@[congr] theorem slices_Concat_byte_byte_r6_congr {env : Env} {h : Hp} {K : Env → Hp → Prop} : slices_Concat_byte_byte_r6 env h K = slices_Concat_byte_byte_r6 env h K := rfl

/-- slices.go:496 -/
def slices_Concat_byte_byte_r7 (env : Env) (h : Hp) (K : Env → Hp → Prop) : Prop :=
  rd Try.prog (Instr.makeInterface 9 (Go.Value.string (ByteArray.mk #[108, 101, 110, 32, 111, 117, 116, 32, 111, 102, 32, 114, 97, 110, 103, 101]))) noHp fun v21_0 =>
  False
@[congr] theorem slices_Concat_byte_byte_r7_congr {env : Env} {h : Hp} {K : Env → Hp → Prop} : slices_Concat_byte_byte_r7 env h K = slices_Concat_byte_byte_r7 env h K := rfl

/-- slices.go:493 -/
def slices_Concat_byte_byte_r8 (env : Env) (h : Hp) (K : Env → Hp → Prop) : Prop :=
  rd Try.prog (bop Go.BinOp.add 3 (Go.Operand.tmp 11) (Go.Operand.const (Go.Value.int Go.IntKind.i64 1)) (env 11) (Go.Value.int Go.IntKind.i64 1)) noHp fun v22_0 =>
  K ((env.set 22 v22_0).set 11 v22_0) h
@[congr] theorem slices_Concat_byte_byte_r8_congr {env : Env} {h : Hp} {K : Env → Hp → Prop} : slices_Concat_byte_byte_r8 env h K = slices_Concat_byte_byte_r8 env h K := rfl

def slices_Concat_byte_byte_L0 : Den := (sq (rg slices_Concat_byte_byte_r3) (sq (cnd (Go.Operand.tmp 12) (ex .normal) (ex (.exit 0))) (sq (blk 1 (sq (rg slices_Concat_byte_byte_r4) (sq (rg slices_Concat_byte_byte_r5) (sq (rg slices_Concat_byte_byte_r6) (cnd (Go.Operand.tmp 20) (rg slices_Concat_byte_byte_r7) (ex .normal)))))) (rg slices_Concat_byte_byte_r8))))

/-- slices.go:502 -/
def slices_Concat_byte_byte_r9 (env : Env) (h : Hp) (K : Env → Hp → Prop) : Prop :=
  Ok Try.prog 43 #[(Go.Value.slice none 0 0), (env 3)] h fun v24_1 h1 =>
  K (((env.set 23 (env 3)).set 24 v24_1).set 6 v24_1) h1
@[congr] theorem slices_Concat_byte_byte_r9_congr {env : Env} {h : Hp} {K : Env → Hp → Prop} : slices_Concat_byte_byte_r9 env h K = slices_Concat_byte_byte_r9 env h K := rfl

/-- slices.go:503 -/
def slices_Concat_byte_byte_r10 (env : Env) (h : Hp) (K : Env → Hp → Prop) : Prop :=
  rd Try.prog (Builtin.len_ #[74] 3 #[(env 0)]) h fun v26_1 =>
  K (((env.set 25 (env 0)).set 26 v26_1).set 27 (Go.Value.int Go.IntKind.i64 0)) h
@[congr] theorem slices_Concat_byte_byte_r10_congr {env : Env} {h : Hp} {K : Env → Hp → Prop} : slices_Concat_byte_byte_r10 env h K = slices_Concat_byte_byte_r10 env h K := rfl

/-- slices.go:503 -/
def slices_Concat_byte_byte_r11 (env : Env) (h : Hp) (K : Env → Hp → Prop) : Prop :=
  rd Try.prog (bop Go.BinOp.lss 3 (Go.Operand.tmp 27) (Go.Operand.tmp 26) (env 27) (env 26)) noHp fun v28_0 =>
  K (env.set 28 v28_0) h
@[congr] theorem slices_Concat_byte_byte_r11_congr {env : Env} {h : Hp} {K : Env → Hp → Prop} : slices_Concat_byte_byte_r11 env h K = slices_Concat_byte_byte_r11 env h K := rfl

/-- slices.go:503 -/
def slices_Concat_byte_byte_r12 (env : Env) (h : Hp) (K : Env → Hp → Prop) : Prop :=
  rd Try.prog (Instr.indexAt 74 (env 25) (env 27)) noHp fun v29_0 =>
  rd Try.prog (Instr.loadAt 34 v29_0) h fun v30_1 =>
  K (((env.set 29 v29_0).set 30 v30_1).set 8 v30_1) h
@[congr] theorem slices_Concat_byte_byte_r12_congr {env : Env} {h : Hp} {K : Env → Hp → Prop} : slices_Concat_byte_byte_r12 env h K = slices_Concat_byte_byte_r12 env h K := rfl

/-- slices.go:504 -/
def slices_Concat_byte_byte_r13 (env : Env) (h : Hp) (K : Env → Hp → Prop) : Prop :=
  arun Try.prog (Builtin.append_ #[34, 34] 34 #[(env 6), (env 8)]) h fun v33_2 h1 =>
  K ((((env.set 31 (env 6)).set 32 (env 8)).set 33 v33_2).set 6 v33_2) h1
@[congr] theorem slices_Concat_byte_byte_r13_congr {env : Env} {h : Hp} {K : Env → Hp → Prop} : slices_Concat_byte_byte_r13 env h K = slices_Concat_byte_byte_r13 env h K := rfl

/-- slices.go:503 -/
def slices_Concat_byte_byte_r14 (env : Env) (h : Hp) (K : Env → Hp → Prop) : Prop :=
  rd Try.prog (bop Go.BinOp.add 3 (Go.Operand.tmp 27) (Go.Operand.const (Go.Value.int Go.IntKind.i64 1)) (env 27) (Go.Value.int Go.IntKind.i64 1)) noHp fun v34_0 =>
  K ((env.set 34 v34_0).set 27 v34_0) h
@[congr] theorem slices_Concat_byte_byte_r14_congr {env : Env} {h : Hp} {K : Env → Hp → Prop} : slices_Concat_byte_byte_r14 env h K = slices_Concat_byte_byte_r14 env h K := rfl

def slices_Concat_byte_byte_L1 : Den := (sq (rg slices_Concat_byte_byte_r11) (sq (cnd (Go.Operand.tmp 28) (ex .normal) (ex (.exit 2))) (sq (blk 3 (sq (rg slices_Concat_byte_byte_r12) (rg slices_Concat_byte_byte_r13))) (rg slices_Concat_byte_byte_r14))))

/-- slices.go:506 -/
def slices_Concat_byte_byte_r15 (env : Env) (h : Hp) (K : Env → Hp → Prop) : Prop :=
  K ((env.set 35 (env 6)).set 2 (env 6)) h
@[congr] theorem slices_Concat_byte_byte_r15_congr {env : Env} {h : Hp} {K : Env → Hp → Prop} : slices_Concat_byte_byte_r15 env h K = slices_Concat_byte_byte_r15 env h K := rfl

def slices_Concat_byte_byte_D : Den := (sq (rg slices_Concat_byte_byte_r0) (sq (rg slices_Concat_byte_byte_r1) (sq (sq (rg slices_Concat_byte_byte_r2) (blk 0 (lp slices_Concat_byte_byte_L0))) (sq (rg slices_Concat_byte_byte_r9) (sq (sq (rg slices_Concat_byte_byte_r10) (blk 2 (lp slices_Concat_byte_byte_L1))) (sq (rg slices_Concat_byte_byte_r15) (ex .ret)))))))

theorem slices_Concat_byte_byte_eq : (den Try.prog 36 slices_Concat_byte_byte_code).1 = slices_Concat_byte_byte_D := by kernel_rfl

theorem slices_Concat_byte_byte_ok {args : Array Value} {h : Hp} {Q : Value → Hp → Prop} (hn : args.size ≤ 36) (D : slices_Concat_byte_byte_D (fin Try.prog [(Go.ResultVar.tmp 2)] Q) (env0 args) h) : Ok Try.prog 34 args h Q :=
  ok_of_den progIsOk Try.func34 (c := slices_Concat_byte_byte_code) (by kernel_rfl) hn (by show (den Try.prog 36 slices_Concat_byte_byte_code).1 _ _ _; rw [slices_Concat_byte_byte_eq]; exact D)

/-! ### octroi/num.Put32: function 35 -/
noncomputable def num_Put32_code : Code := match Try.f35.body with | some c => c | none => .skip

/-- num.go:23 -/
def num_Put32_r0 (env : Env) (h : Hp) (K : Env → Hp → Prop) : Prop :=
  K (env.set 2 (Go.Value.slice none 0 0)) h
@[congr] theorem num_Put32_r0_congr {env : Env} {h : Hp} {K : Env → Hp → Prop} : num_Put32_r0 env h K = num_Put32_r0 env h K := rfl

/-- num.go:23 -/
def num_Put32_r1 (env : Env) (h : Hp) (K : Env → Hp → Prop) : Prop :=
  Ok Try.prog 44 #[(env 0), (Go.Value.int Go.IntKind.i64 4)] h fun v4_1 h1 =>
  K (((env.set 3 (env 0)).set 4 v4_1).set 2 v4_1) h1
@[congr] theorem num_Put32_r1_congr {env : Env} {h : Hp} {K : Env → Hp → Prop} : num_Put32_r1 env h K = num_Put32_r1 env h K := rfl

def num_Put32_D : Den := (sq (rg num_Put32_r0) (sq (rg num_Put32_r1) (ex .ret)))

theorem num_Put32_eq : (den Try.prog 5 num_Put32_code).1 = num_Put32_D := by kernel_rfl

theorem num_Put32_ok {args : Array Value} {h : Hp} {Q : Value → Hp → Prop} (hn : args.size ≤ 5) (D : num_Put32_D (fin Try.prog [(Go.ResultVar.tmp 2)] Q) (env0 args) h) : Ok Try.prog 35 args h Q :=
  ok_of_den progIsOk Try.func35 (c := num_Put32_code) (by kernel_rfl) hn (by show (den Try.prog 5 num_Put32_code).1 _ _ _; rw [num_Put32_eq]; exact D)

/-! ### octroi/num.Get32: function 36 -/
noncomputable def num_Get32_code : Code := match Try.f36.body with | some c => c | none => .skip

/-- num.go:43 -/
def num_Get32_r0 (env : Env) (h : Hp) (K : Env → Hp → Prop) : Prop :=
  K ((env.set 4 (Go.Value.int Go.IntKind.u32 0)).set 5 (Go.Value.bool false)) h
@[congr] theorem num_Get32_r0_congr {env : Env} {h : Hp} {K : Env → Hp → Prop} : num_Get32_r0 env h K = num_Get32_r0 env h K := rfl

/-- num.go:43 -/
def num_Get32_r1 (env : Env) (h : Hp) (K : Env → Hp → Prop) : Prop :=
  Ok Try.prog 45 #[(env 0), (env 1), (Go.Value.int Go.IntKind.i64 4)] h fun v8_2 h1 =>
  rd Try.prog (Instr.extract v8_2 0) noHp fun v9_3 =>
  rd Try.prog (Instr.extract v8_2 1) noHp fun v10_4 =>
  K (((((((env.set 6 (env 0)).set 7 (env 1)).set 8 v8_2).set 9 v9_3).set 10 v10_4).set 4 v9_3).set 5 v10_4) h1
@[congr] theorem num_Get32_r1_congr {env : Env} {h : Hp} {K : Env → Hp → Prop} : num_Get32_r1 env h K = num_Get32_r1 env h K := rfl

def num_Get32_D : Den := (sq (rg num_Get32_r0) (sq (rg num_Get32_r1) (ex .ret)))

theorem num_Get32_eq : (den Try.prog 11 num_Get32_code).1 = num_Get32_D := by kernel_rfl

theorem num_Get32_ok {args : Array Value} {h : Hp} {Q : Value → Hp → Prop} (hn : args.size ≤ 11) (D : num_Get32_D (fin Try.prog [(Go.ResultVar.tmp 4), (Go.ResultVar.tmp 5)] Q) (env0 args) h) : Ok Try.prog 36 args h Q :=
  ok_of_den progIsOk Try.func36 (c := num_Get32_code) (by kernel_rfl) hn (by show (den Try.prog 11 num_Get32_code).1 _ _ _; rw [num_Get32_eq]; exact D)

/-! ### slices.Grow[[]byte,byte]: function 43 -/
noncomputable def slices_Grow_byte_byte_code : Code := match Try.f43.body with | some c => c | none => .skip

/-- slices.go:422 -/
def slices_Grow_byte_byte_r0 (env : Env) (h : Hp) (K : Env → Hp → Prop) : Prop :=
  K (env.set 4 (Go.Value.slice none 0 0)) h
@[congr] theorem slices_Grow_byte_byte_r0_congr {env : Env} {h : Hp} {K : Env → Hp → Prop} : slices_Grow_byte_byte_r0 env h K = slices_Grow_byte_byte_r0 env h K := rfl

/-- slices.go:423 -/
def slices_Grow_byte_byte_r1 (env : Env) (h : Hp) (K : Env → Hp → Prop) : Prop :=
  rd Try.prog (bop Go.BinOp.lss 3 (Go.Operand.tmp 5) (Go.Operand.const (Go.Value.int Go.IntKind.i64 0)) (env 1) (Go.Value.int Go.IntKind.i64 0)) noHp fun v6_1 =>
  K ((env.set 5 (env 1)).set 6 v6_1) h
@[congr] theorem slices_Grow_byte_byte_r1_congr {env : Env} {h : Hp} {K : Env → Hp → Prop} : slices_Grow_byte_byte_r1 env h K = slices_Grow_byte_byte_r1 env h K := rfl

/-- slices.go:424 -/
def slices_Grow_byte_byte_r2 (env : Env) (h : Hp) (K : Env → Hp → Prop) : Prop :=
  rd Try.prog (Instr.makeInterface 9 (Go.Value.string (ByteArray.mk #[99, 97, 110, 110, 111, 116, 32, 98, 101, 32, 110, 101, 103, 97, 116, 105, 118, 101]))) noHp fun v7_0 =>
  False
@[congr] theorem slices_Grow_byte_byte_r2_congr {env : Env} {h : Hp} {K : Env → Hp → Prop} : slices_Grow_byte_byte_r2 env h K = slices_Grow_byte_byte_r2 env h K := rfl

/-- slices.go:426 -/
def slices_Grow_byte_byte_r3 (env : Env) (h : Hp) (K : Env → Hp → Prop) : Prop :=
  rd Try.prog (Builtin.cap_ #[34] 3 #[(env 0)]) h fun v10_2 =>
  rd Try.prog (Builtin.len_ #[34] 3 #[(env 0)]) h fun v12_4 =>
  rd Try.prog (bop Go.BinOp.sub 3 (Go.Operand.tmp 10) (Go.Operand.tmp 12) v10_2 v12_4) noHp fun v13_5 =>
  rd Try.prog (bop Go.BinOp.sub 3 (Go.Operand.tmp 8) (Go.Operand.tmp 13) (env 1) v13_5) noHp fun v14_6 =>
  K ((((((((env.set 8 (env 1)).set 9 (env 0)).set 10 v10_2).set 11 (env 0)).set 12 v12_4).set 13 v13_5).set 14 v14_6).set 1 v14_6) h
@[congr] theorem slices_Grow_byte_byte_r3_congr {env : Env} {h : Hp} {K : Env → Hp → Prop} : slices_Grow_byte_byte_r3 env h K = slices_Grow_byte_byte_r3 env h K := rfl

/-- slices.go:426 -/
def slices_Grow_byte_byte_r4 (env : Env) (h : Hp) (K : Env → Hp → Prop) : Prop :=
  rd Try.prog (bop Go.BinOp.gtr 3 (Go.Operand.tmp 15) (Go.Operand.const (Go.Value.int Go.IntKind.i64 0)) (env 1) (Go.Value.int Go.IntKind.i64 0)) noHp fun v16_1 =>
  K ((env.set 15 (env 1)).set 16 v16_1) h
@[congr] theorem slices_Grow_byte_byte_r4_congr {env : Env} {h : Hp} {K : Env → Hp → Prop} : slices_Grow_byte_byte_r4 env h K = slices_Grow_byte_byte_r4 env h K := rfl

/-- slices.go:428 -/
def slices_Grow_byte_byte_r5 (env : Env) (h : Hp) (K : Env → Hp → Prop) : Prop :=
  rd Try.prog (Builtin.cap_ #[34] 3 #[(env 0)]) h fun v19_2 =>
  rd Try.prog (Instr.sliceAt 34 (env 0) none (some v19_2) none) noHp fun v20_3 =>
  arun Try.prog (Builtin.append_ #[34, 3] 34 #[v20_3, (env 1)]) h fun v22_5 h1 =>
  rd Try.prog (Builtin.len_ #[34] 3 #[(env 0)]) h1 fun v24_7 =>
  rd Try.prog (Instr.sliceAt 34 v22_5 none (some v24_7) none) noHp fun v25_8 =>
  K ((((((((((env.set 17 (env 0)).set 18 (env 0)).set 19 v19_2).set 20 v20_3).set 21 (env 1)).set 22 v22_5).set 23 (env 0)).set 24 v24_7).set 25 v25_8).set 0 v25_8) h1
@[congr] theorem slices_Grow_byte_byte_r5_congr {env : Env} {h : Hp} {K : Env → Hp → Prop} : slices_Grow_byte_byte_r5 env h K = slices_Grow_byte_byte_r5 env h K := rfl

/-- slices.go:430 -/
def slices_Grow_byte_byte_r6 (env : Env) (h : Hp) (K : Env → Hp → Prop) : Prop :=
  K ((env.set 26 (env 0)).set 4 (env 0)) h
@[congr] theorem slices_Grow_byte_byte_r6_congr {env : Env} {h : Hp} {K : Env → Hp → Prop} : slices_Grow_byte_byte_r6 env h K = slices_Grow_byte_byte_r6 env h K := rfl

def slices_Grow_byte_byte_D : Den := (sq (rg slices_Grow_byte_byte_r0) (sq (sq (rg slices_Grow_byte_byte_r1) (cnd (Go.Operand.tmp 6) (rg slices_Grow_byte_byte_r2) (ex .normal))) (sq (sq (rg slices_Grow_byte_byte_r3) (sq (rg slices_Grow_byte_byte_r4) (cnd (Go.Operand.tmp 16) (rg slices_Grow_byte_byte_r5) (ex .normal)))) (sq (rg slices_Grow_byte_byte_r6) (ex .ret)))))

theorem slices_Grow_byte_byte_eq : (den Try.prog 27 slices_Grow_byte_byte_code).1 = slices_Grow_byte_byte_D := by kernel_rfl

theorem slices_Grow_byte_byte_ok {args : Array Value} {h : Hp} {Q : Value → Hp → Prop} (hn : args.size ≤ 27) (D : slices_Grow_byte_byte_D (fin Try.prog [(Go.ResultVar.tmp 4)] Q) (env0 args) h) : Ok Try.prog 43 args h Q :=
  ok_of_den progIsOk Try.func43 (c := slices_Grow_byte_byte_code) (by kernel_rfl) hn (by show (den Try.prog 27 slices_Grow_byte_byte_code).1 _ _ _; rw [slices_Grow_byte_byte_eq]; exact D)

/-! ### octroi/num.put: function 44 -/
noncomputable def num_put_code : Code := match Try.f44.body with | some c => c | none => .skip

/-- num.go:11 -/
def num_put_r0 (env : Env) (h : Hp) (K : Env → Hp → Prop) : Prop :=
  K (env.set 4 (Go.Value.slice none 0 0)) h
@[congr] theorem num_put_r0_congr {env : Env} {h : Hp} {K : Env → Hp → Prop} : num_put_r0 env h K = num_put_r0 env h K := rfl

/-- num.go:12 -/
def num_put_r1 (env : Env) (h : Hp) (K : Env → Hp → Prop) : Prop :=
  arun Try.prog (Instr.makeSlice 34 (env 1) (env 1)) h fun v8_1 h1 =>
  K (((env.set 7 (env 1)).set 8 v8_1).set 5 v8_1) h1
@[congr] theorem num_put_r1_congr {env : Env} {h : Hp} {K : Env → Hp → Prop} : num_put_r1 env h K = num_put_r1 env h K := rfl

/-- num.go:13 -/
def num_put_r2 (env : Env) (h : Hp) (K : Env → Hp → Prop) : Prop :=
  K ((env.set 9 (env 1)).set 10 (Go.Value.int Go.IntKind.i64 0)) h
@[congr] theorem num_put_r2_congr {env : Env} {h : Hp} {K : Env → Hp → Prop} : num_put_r2 env h K = num_put_r2 env h K := rfl

/-- num.go:13 -/
def num_put_r3 (env : Env) (h : Hp) (K : Env → Hp → Prop) : Prop :=
  rd Try.prog (bop Go.BinOp.lss 3 (Go.Operand.tmp 10) (Go.Operand.tmp 9) (env 10) (env 9)) noHp fun v11_0 =>
  K (env.set 11 v11_0) h
@[congr] theorem num_put_r3_congr {env : Env} {h : Hp} {K : Env → Hp → Prop} : num_put_r3 env h K = num_put_r3 env h K := rfl

/-- num.go:13 -/
def num_put_r4 (env : Env) (h : Hp) (K : Env → Hp → Prop) : Prop :=
  K ((env.set 12 (env 10)).set 6 (env 10)) h
@[congr] theorem num_put_r4_congr {env : Env} {h : Hp} {K : Env → Hp → Prop} : num_put_r4 env h K = num_put_r4 env h K := rfl

/-- num.go:14 -/
def num_put_r5 (env : Env) (h : Hp) (K : Env → Hp → Prop) : Prop :=
  rd Try.prog (bop Go.BinOp.sub 3 (Go.Operand.tmp 14) (Go.Operand.const (Go.Value.int Go.IntKind.i64 1)) (env 1) (Go.Value.int Go.IntKind.i64 1)) noHp fun v15_2 =>
  rd Try.prog (bop Go.BinOp.sub 3 (Go.Operand.tmp 15) (Go.Operand.tmp 16) v15_2 (env 6)) noHp fun v17_4 =>
  rd Try.prog (bop Go.BinOp.mul 3 (Go.Operand.const (Go.Value.int Go.IntKind.i64 8)) (Go.Operand.tmp 19) (Go.Value.int Go.IntKind.i64 8) (env 6)) noHp fun v20_7 =>
  rd Try.prog (bop Go.BinOp.shr 23 (Go.Operand.tmp 18) (Go.Operand.tmp 20) (env 0) v20_7) noHp fun v21_8 =>
  rd Try.prog (convert 23 5 v21_8) noHp fun v22_9 =>
  rd Try.prog (Instr.indexAt 34 (env 5) v17_4) noHp fun v23_10 =>
  arun Try.prog (Instr.storeAt 5 v23_10 v22_9) h fun _ h1 =>
  K (((((((((((env.set 13 (env 5)).set 14 (env 1)).set 15 v15_2).set 16 (env 6)).set 17 v17_4).set 18 (env 0)).set 19 (env 6)).set 20 v20_7).set 21 v21_8).set 22 v22_9).set 23 v23_10) h1
@[congr] theorem num_put_r5_congr {env : Env} {h : Hp} {K : Env → Hp → Prop} : num_put_r5 env h K = num_put_r5 env h K := rfl

/-- num.go:13 -/
def num_put_r6 (env : Env) (h : Hp) (K : Env → Hp → Prop) : Prop :=
  rd Try.prog (bop Go.BinOp.add 3 (Go.Operand.tmp 10) (Go.Operand.const (Go.Value.int Go.IntKind.i64 1)) (env 10) (Go.Value.int Go.IntKind.i64 1)) noHp fun v24_0 =>
  K ((env.set 24 v24_0).set 10 v24_0) h
@[congr] theorem num_put_r6_congr {env : Env} {h : Hp} {K : Env → Hp → Prop} : num_put_r6 env h K = num_put_r6 env h K := rfl

def num_put_L0 : Den := (sq (rg num_put_r3) (sq (cnd (Go.Operand.tmp 11) (ex .normal) (ex (.exit 0))) (sq (blk 1 (sq (rg num_put_r4) (rg num_put_r5))) (rg num_put_r6))))

/-- num.go:16 -/
def num_put_r7 (env : Env) (h : Hp) (K : Env → Hp → Prop) : Prop :=
  K ((env.set 25 (env 5)).set 4 (env 5)) h
@[congr] theorem num_put_r7_congr {env : Env} {h : Hp} {K : Env → Hp → Prop} : num_put_r7 env h K = num_put_r7 env h K := rfl

def num_put_D : Den := (sq (rg num_put_r0) (sq (rg num_put_r1) (sq (sq (rg num_put_r2) (blk 0 (lp num_put_L0))) (sq (rg num_put_r7) (ex .ret)))))

theorem num_put_eq : (den Try.prog 26 num_put_code).1 = num_put_D := by kernel_rfl

theorem num_put_ok {args : Array Value} {h : Hp} {Q : Value → Hp → Prop} (hn : args.size ≤ 26) (D : num_put_D (fin Try.prog [(Go.ResultVar.tmp 4)] Q) (env0 args) h) : Ok Try.prog 44 args h Q :=
  ok_of_den progIsOk Try.func44 (c := num_put_code) (by kernel_rfl) hn (by show (den Try.prog 26 num_put_code).1 _ _ _; rw [num_put_eq]; exact D)

/-! ### octroi/num.get: function 45 -/
noncomputable def num_get_code : Code := match Try.f45.body with | some c => c | none => .skip

/-- num.go:26 -/
def num_get_r0 (env : Env) (h : Hp) (K : Env → Hp → Prop) : Prop :=
  K ((env.set 6 (Go.Value.int Go.IntKind.u32 0)).set 7 (Go.Value.bool false)) h
@[congr] theorem num_get_r0_congr {env : Env} {h : Hp} {K : Env → Hp → Prop} : num_get_r0 env h K = num_get_r0 env h K := rfl

/-- num.go:27 -/
def num_get_r1 (env : Env) (h : Hp) (K : Env → Hp → Prop) : Prop :=
  rd Try.prog (bop Go.BinOp.lss 3 (Go.Operand.tmp 10) (Go.Operand.const (Go.Value.int Go.IntKind.i64 0)) (env 1) (Go.Value.int Go.IntKind.i64 0)) noHp fun v11_1 =>
  gd (yb v11_1 == some false) (fun h k => k (env 1) h) h fun v13_3 h1 =>
  gd (yb v11_1 == some false) (fun h k => k (env 0) h) h1 fun v14_4 h2 =>
  gd (yb v11_1 == some false) (fun h k => rd Try.prog (Builtin.len_ #[34] 3 #[v14_4]) h fun v => k v h) h2 fun v15_5 h3 =>
  gd (yb v11_1 == some false) (fun h k => k (env 2) h) h3 fun v16_6 h4 =>
  gd (yb v11_1 == some false) (fun h k => rd Try.prog (bop Go.BinOp.sub 3 (Go.Operand.tmp 15) (Go.Operand.tmp 16) v15_5 v16_6) noHp fun v => k v h) h4 fun v17_7 h5 =>
  gd (yb v11_1 == some false) (fun h k => rd Try.prog (bop Go.BinOp.gtr 3 (Go.Operand.tmp 13) (Go.Operand.tmp 17) v13_3 v17_7) noHp fun v => k v h) h5 fun v18_8 h6 =>
  rd Try.prog (pck v11_1 (Go.Value.bool true) v18_8) noHp fun v19_9 =>
  K ((((((((((env.set 10 (env 1)).set 11 v11_1).set 12 v11_1).set 13 v13_3).set 14 v14_4).set 15 v15_5).set 16 v16_6).set 17 v17_7).set 18 v18_8).set 19 v19_9) h6
@[congr] theorem num_get_r1_congr {env : Env} {h : Hp} {K : Env → Hp → Prop} : num_get_r1 env h K = num_get_r1 env h K := rfl

/-- num.go:28 -/
def num_get_r2 (env : Env) (h : Hp) (K : Env → Hp → Prop) : Prop :=
  K ((env.set 6 (Go.Value.int Go.IntKind.u32 0)).set 7 (Go.Value.bool false)) h
@[congr] theorem num_get_r2_congr {env : Env} {h : Hp} {K : Env → Hp → Prop} : num_get_r2 env h K = num_get_r2 env h K := rfl

/-- num.go:30 -/
def num_get_r3 (env : Env) (h : Hp) (K : Env → Hp → Prop) : Prop :=
  rd Try.prog (bop Go.BinOp.add 3 (Go.Operand.tmp 22) (Go.Operand.tmp 23) (env 1) (env 2)) noHp fun v24_4 =>
  rd Try.prog (Instr.sliceAt 34 (env 0) (some (env 1)) (some v24_4) none) noHp fun v25_5 =>
  rd Try.prog (Builtin.len_ #[34] 3 #[v25_5]) h fun v26_6 =>
  K ((((((((env.set 20 (env 0)).set 21 (env 1)).set 22 (env 1)).set 23 (env 2)).set 24 v24_4).set 25 v25_5).set 26 v26_6).set 27 (Go.Value.int Go.IntKind.i64 0)) h
@[congr] theorem num_get_r3_congr {env : Env} {h : Hp} {K : Env → Hp → Prop} : num_get_r3 env h K = num_get_r3 env h K := rfl

/-- num.go:30 -/
def num_get_r4 (env : Env) (h : Hp) (K : Env → Hp → Prop) : Prop :=
  rd Try.prog (bop Go.BinOp.lss 3 (Go.Operand.tmp 27) (Go.Operand.tmp 26) (env 27) (env 26)) noHp fun v28_0 =>
  K (env.set 28 v28_0) h
@[congr] theorem num_get_r4_congr {env : Env} {h : Hp} {K : Env → Hp → Prop} : num_get_r4 env h K = num_get_r4 env h K := rfl

/-- num.go:30 -/
def num_get_r5 (env : Env) (h : Hp) (K : Env → Hp → Prop) : Prop :=
  rd Try.prog (Instr.indexAt 34 (env 25) (env 27)) noHp fun v29_0 =>
  rd Try.prog (Instr.loadAt 5 v29_0) h fun v30_1 =>
  K (((env.set 29 v29_0).set 30 v30_1).set 9 v30_1) h
@[congr] theorem num_get_r5_congr {env : Env} {h : Hp} {K : Env → Hp → Prop} : num_get_r5 env h K = num_get_r5 env h K := rfl

/-- num.go:31 -/
def num_get_r6 (env : Env) (h : Hp) (K : Env → Hp → Prop) : Prop :=
  rd Try.prog (bop Go.BinOp.shl 23 (Go.Operand.tmp 31) (Go.Operand.const (Go.Value.int Go.IntKind.u64 8)) (env 6) (Go.Value.int Go.IntKind.u64 8)) noHp fun v32_1 =>
  rd Try.prog (convert 5 23 (env 9)) noHp fun v34_3 =>
  rd Try.prog (bop Go.BinOp.or 23 (Go.Operand.tmp 32) (Go.Operand.tmp 34) v32_1 v34_3) noHp fun v35_4 =>
  K ((((((env.set 31 (env 6)).set 32 v32_1).set 33 (env 9)).set 34 v34_3).set 35 v35_4).set 6 v35_4) h
@[congr] theorem num_get_r6_congr {env : Env} {h : Hp} {K : Env → Hp → Prop} : num_get_r6 env h K = num_get_r6 env h K := rfl

/-- num.go:30 -/
def num_get_r7 (env : Env) (h : Hp) (K : Env → Hp → Prop) : Prop :=
  rd Try.prog (bop Go.BinOp.add 3 (Go.Operand.tmp 27) (Go.Operand.const (Go.Value.int Go.IntKind.i64 1)) (env 27) (Go.Value.int Go.IntKind.i64 1)) noHp fun v36_0 =>
  K ((env.set 36 v36_0).set 27 v36_0) h
@[congr] theorem num_get_r7_congr {env : Env} {h : Hp} {K : Env → Hp → Prop} : num_get_r7 env h K = num_get_r7 env h K := rfl

def num_get_L0 : Den := (sq (rg num_get_r4) (sq (cnd (Go.Operand.tmp 28) (ex .normal) (ex (.exit 0))) (sq (blk 1 (sq (rg num_get_r5) (rg num_get_r6))) (rg num_get_r7))))

/-- num.go:33 -/
def num_get_r8 (env : Env) (h : Hp) (K : Env → Hp → Prop) : Prop :=
  K (((env.set 37 (env 6)).set 6 (env 6)).set 7 (Go.Value.bool true)) h
@[congr] theorem num_get_r8_congr {env : Env} {h : Hp} {K : Env → Hp → Prop} : num_get_r8 env h K = num_get_r8 env h K := rfl

def num_get_D : Den := (sq (rg num_get_r0) (sq (sq (rg num_get_r1) (cnd (Go.Operand.tmp 19) (sq (rg num_get_r2) (ex .ret)) (ex .normal))) (sq (sq (rg num_get_r3) (blk 0 (lp num_get_L0))) (sq (rg num_get_r8) (ex .ret)))))

theorem num_get_eq : (den Try.prog 38 num_get_code).1 = num_get_D := by kernel_rfl

theorem num_get_ok {args : Array Value} {h : Hp} {Q : Value → Hp → Prop} (hn : args.size ≤ 38) (D : num_get_D (fin Try.prog [(Go.ResultVar.tmp 6), (Go.ResultVar.tmp 7)] Q) (env0 args) h) : Ok Try.prog 45 args h Q :=
  ok_of_den progIsOk Try.func45 (c := num_get_code) (by kernel_rfl) hn (by show (den Try.prog 38 num_get_code).1 _ _ _; rw [num_get_eq]; exact D)

end Go.Proofs.Ytjcecdjbllpmcaa
