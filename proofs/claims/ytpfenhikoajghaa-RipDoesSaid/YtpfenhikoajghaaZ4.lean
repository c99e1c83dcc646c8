/- Printed by wip/kit/gen.py out of the translation: formulas of Go functions, and that they are these functions'. -/
import Derived.Test.YtpfenhikoajghaaZ3

set_option linter.unusedSimpArgs false
set_option linter.unusedVariables false

namespace Go.Proofs.Ytpfenhikoajghaa
open Go

set_option maxRecDepth 100000
set_option linter.unusedVariables false

/-! ### (*octroi/octroiref16.Rip).Hear: function 35 -/
noncomputable def octroiref16_Rip_Hear_code : Code := match Try.f35.body with | some c => c | none => .skip

/-- ref.go:139 -/
def octroiref16_Rip_Hear_r0 (env : Env) (h : Hp) (K : Env → Hp → Prop) : Prop :=
  arun Try.prog (Instr.box 33 (env 3)) h fun v8_0 h1 =>
  K (((env.set 8 v8_0).set 10 (Go.Value.bool false)).set 11 (Go.Value.int Go.IntKind.i64 0)) h1
@[congr] theorem octroiref16_Rip_Hear_r0_congr {env : Env} {h : Hp} {K : Env → Hp → Prop} : octroiref16_Rip_Hear_r0 env h K = octroiref16_Rip_Hear_r0 env h K := rfl

/-- ref.go:140 -/
def octroiref16_Rip_Hear_r1 (env : Env) (h : Hp) (K : Env → Hp → Prop) : Prop :=
  rd Try.prog (Instr.fieldAt 33 (env 8) 0) noHp fun v17_0 =>
  rd Try.prog (Instr.loadAt 24 v17_0) h fun v18_1 =>
  Ok Try.prog 46 #[v18_1] h fun v19_2 h1 =>
  K ((((env.set 17 v17_0).set 18 v18_1).set 19 v19_2).set 12 v19_2) h1
@[congr] theorem octroiref16_Rip_Hear_r1_congr {env : Env} {h : Hp} {K : Env → Hp → Prop} : octroiref16_Rip_Hear_r1 env h K = octroiref16_Rip_Hear_r1 env h K := rfl

/-- ref.go:141 -/
def octroiref16_Rip_Hear_r2 (env : Env) (h : Hp) (K : Env → Hp → Prop) : Prop :=
  rd Try.prog (bop Go.BinOp.lss 3 (Go.Operand.tmp 20) (Go.Operand.const (Go.Value.int Go.IntKind.i64 1)) (env 1) (Go.Value.int Go.IntKind.i64 1)) noHp fun v21_1 =>
  gd (yb v21_1 == some false) (fun h k => k (env 1) h) h fun v23_3 h1 =>
  gd (yb v21_1 == some false) (fun h k => rd Try.prog (bop Go.BinOp.gtr 3 (Go.Operand.tmp 23) (Go.Operand.const (Go.Value.int Go.IntKind.i64 32)) v23_3 (Go.Value.int Go.IntKind.i64 32)) noHp fun v => k v h) h1 fun v24_4 h2 =>
  rd Try.prog (pck v21_1 (Go.Value.bool true) v24_4) noHp fun v25_5 =>
  gd (yb v25_5 == some false) (fun h k => k (env 2) h) h2 fun v27_7 h3 =>
  gd (yb v25_5 == some false) (fun h k => rd Try.prog (bop Go.BinOp.lss 3 (Go.Operand.tmp 27) (Go.Operand.const (Go.Value.int Go.IntKind.i64 1)) v27_7 (Go.Value.int Go.IntKind.i64 1)) noHp fun v => k v h) h3 fun v28_8 h4 =>
  rd Try.prog (pck v25_5 (Go.Value.bool true) v28_8) noHp fun v29_9 =>
  gd (yb v29_9 == some false) (fun h k => k (env 2) h) h4 fun v31_11 h5 =>
  gd (yb v29_9 == some false) (fun h k => rd Try.prog (bop Go.BinOp.gtr 3 (Go.Operand.tmp 31) (Go.Operand.const (Go.Value.int Go.IntKind.i64 16)) v31_11 (Go.Value.int Go.IntKind.i64 16)) noHp fun v => k v h) h5 fun v32_12 h6 =>
  rd Try.prog (pck v29_9 (Go.Value.bool true) v32_12) noHp fun v33_13 =>
  gd (yb v33_13 == some false) (fun h k => k (env 12) h) h6 fun v35_15 h7 =>
  gd (yb v33_13 == some false) (fun h k => rd Try.prog (Op.unary Go.UnOp.not v35_15) noHp fun v => k v h) h7 fun v36_16 h8 =>
  rd Try.prog (pck v33_13 (Go.Value.bool true) v36_16) noHp fun v37_17 =>
  gd (yb v37_17 == some false) (fun h k => rd Try.prog (Instr.fieldAt 33 (env 8) 3) noHp fun v => k v h) h8 fun v39_19 h9 =>
  gd (yb v37_17 == some false) (fun h k => rd Try.prog (Instr.loadAt 3 v39_19) h fun v => k v h) h9 fun v40_20 h10 =>
  gd (yb v37_17 == some false) (fun h k => rd Try.prog (bop Go.BinOp.lss 3 (Go.Operand.tmp 40) (Go.Operand.const (Go.Value.int Go.IntKind.i64 1)) v40_20 (Go.Value.int Go.IntKind.i64 1)) noHp fun v => k v h) h10 fun v41_21 h11 =>
  rd Try.prog (pck v37_17 (Go.Value.bool true) v41_21) noHp fun v42_22 =>
  gd (yb v42_22 == some false) (fun h k => rd Try.prog (Instr.fieldAt 33 (env 8) 3) noHp fun v => k v h) h11 fun v44_24 h12 =>
  gd (yb v42_22 == some false) (fun h k => rd Try.prog (Instr.loadAt 3 v44_24) h fun v => k v h) h12 fun v45_25 h13 =>
  gd (yb v42_22 == some false) (fun h k => rd Try.prog (bop Go.BinOp.gtr 3 (Go.Operand.tmp 45) (Go.Operand.const (Go.Value.int Go.IntKind.i64 16)) v45_25 (Go.Value.int Go.IntKind.i64 16)) noHp fun v => k v h) h13 fun v46_26 h14 =>
  rd Try.prog (pck v42_22 (Go.Value.bool true) v46_26) noHp fun v47_27 =>
  K ((((((((((((((((((((((((((((env.set 20 (env 1)).set 21 v21_1).set 22 v21_1).set 23 v23_3).set 24 v24_4).set 25 v25_5).set 26 v25_5).set 27 v27_7).set 28 v28_8).set 29 v29_9).set 30 v29_9).set 31 v31_11).set 32 v32_12).set 33 v33_13).set 34 v33_13).set 35 v35_15).set 36 v36_16).set 37 v37_17).set 38 v37_17).set 39 v39_19).set 40 v40_20).set 41 v41_21).set 42 v42_22).set 43 v42_22).set 44 v44_24).set 45 v45_25).set 46 v46_26).set 47 v47_27) h14
@[congr] theorem octroiref16_Rip_Hear_r2_congr {env : Env} {h : Hp} {K : Env → Hp → Prop} : octroiref16_Rip_Hear_r2 env h K = octroiref16_Rip_Hear_r2 env h K := rfl

/-- ref.go:142 -/
def octroiref16_Rip_Hear_r3 (env : Env) (h : Hp) (K : Env → Hp → Prop) : Prop :=
  K ((env.set 10 (Go.Value.bool false)).set 11 (Go.Value.int Go.IntKind.i64 1)) h
@[congr] theorem octroiref16_Rip_Hear_r3_congr {env : Env} {h : Hp} {K : Env → Hp → Prop} : octroiref16_Rip_Hear_r3 env h K = octroiref16_Rip_Hear_r3 env h K := rfl

/-- ref.go:144 (in any order) -/
def octroiref16_Rip_Hear_r4 (env : Env) (h : Hp) (K : Env → Hp → Prop) : Prop :=
  rd Try.prog (Instr.fieldAt 33 (env 8) 1) noHp fun v48_0 =>
  rd Try.prog (Instr.loadAt 31 v48_0) h fun v49_1 =>
  nck (env 0) (
  rd Try.prog (Instr.fieldAt 56 (env 0) 0) noHp fun v52_4 =>
  rd Try.prog (Instr.loadAt 3 v52_4) h fun v53_5 =>
  Ok Try.prog 47 #[v49_1, v53_5] h fun v54_6 h1 =>
  (True) ∧
  K ((((((((env.set 48 v48_0).set 49 v49_1).set 50 (env 0)).set 51 (env 0)).set 52 v52_4).set 53 v53_5).set 54 v54_6).set 13 v54_6) h1)
@[congr] theorem octroiref16_Rip_Hear_r4_congr {env : Env} {h : Hp} {K : Env → Hp → Prop} : octroiref16_Rip_Hear_r4 env h K = octroiref16_Rip_Hear_r4 env h K := rfl

/-- ref.go:145 -/
def octroiref16_Rip_Hear_r5 (env : Env) (h : Hp) (K : Env → Hp → Prop) : Prop :=
  K (env.set 55 (env 13)) h
@[congr] theorem octroiref16_Rip_Hear_r5_congr {env : Env} {h : Hp} {K : Env → Hp → Prop} : octroiref16_Rip_Hear_r5 env h K = octroiref16_Rip_Hear_r5 env h K := rfl

/-- ref.go:146 -/
def octroiref16_Rip_Hear_r6 (env : Env) (h : Hp) (K : Env → Hp → Prop) : Prop :=
  K ((env.set 10 (Go.Value.bool false)).set 11 (Go.Value.int Go.IntKind.i64 6)) h
@[congr] theorem octroiref16_Rip_Hear_r6_congr {env : Env} {h : Hp} {K : Env → Hp → Prop} : octroiref16_Rip_Hear_r6 env h K = octroiref16_Rip_Hear_r6 env h K := rfl

/-- ref.go:148 -/
def octroiref16_Rip_Hear_r7 (env : Env) (h : Hp) (K : Env → Hp → Prop) : Prop :=
  rd Try.prog (Instr.fieldAt 33 (env 8) 3) noHp fun v56_0 =>
  rd Try.prog (Instr.loadAt 3 v56_0) h fun v57_1 =>
  Ok Try.prog 51 #[v57_1, (env 2), (Go.Value.int Go.IntKind.i64 16)] h fun v59_3 h1 =>
  K (((((env.set 56 v56_0).set 57 v57_1).set 58 (env 2)).set 59 v59_3).set 14 v59_3) h1
@[congr] theorem octroiref16_Rip_Hear_r7_congr {env : Env} {h : Hp} {K : Env → Hp → Prop} : octroiref16_Rip_Hear_r7 env h K = octroiref16_Rip_Hear_r7 env h K := rfl

/-- ref.go:149 -/
def octroiref16_Rip_Hear_r8 (env : Env) (h : Hp) (K : Env → Hp → Prop) : Prop :=
  rd Try.prog (Instr.fieldAt 33 (env 8) 0) noHp fun v61_1 =>
  rd Try.prog (Instr.loadAt 24 v61_1) h fun v62_2 =>
  Ok Try.prog 48 #[(env 0), v62_2] h fun v63_3 h1 =>
  K (((((env.set 60 (env 0)).set 61 v61_1).set 62 v62_2).set 63 v63_3).set 15 v63_3) h1
@[congr] theorem octroiref16_Rip_Hear_r8_congr {env : Env} {h : Hp} {K : Env → Hp → Prop} : octroiref16_Rip_Hear_r8 env h K = octroiref16_Rip_Hear_r8 env h K := rfl

/-- ref.go:150 -/
def octroiref16_Rip_Hear_r9 (env : Env) (h : Hp) (K : Env → Hp → Prop) : Prop :=
  rd Try.prog (bop Go.BinOp.geq 3 (Go.Operand.tmp 64) (Go.Operand.const (Go.Value.int Go.IntKind.i64 0)) (env 15) (Go.Value.int Go.IntKind.i64 0)) noHp fun v65_1 =>
  K ((env.set 64 (env 15)).set 65 v65_1) h
@[congr] theorem octroiref16_Rip_Hear_r9_congr {env : Env} {h : Hp} {K : Env → Hp → Prop} : octroiref16_Rip_Hear_r9 env h K = octroiref16_Rip_Hear_r9 env h K := rfl

/-- ref.go:151 -/
def octroiref16_Rip_Hear_r10 (env : Env) (h : Hp) (K : Env → Hp → Prop) : Prop :=
  rd Try.prog (Instr.fieldAt 33 (env 8) 1) noHp fun v70_4 =>
  rd Try.prog (Instr.loadAt 31 v70_4) h fun v71_5 =>
  Ok Try.prog 52 #[(env 0), (env 15), (env 1), (env 14), v71_5, (env 4)] h fun v73_7 h1 =>
  K (((((((((env.set 66 (env 0)).set 67 (env 15)).set 68 (env 1)).set 69 (env 14)).set 70 v70_4).set 71 v71_5).set 72 (env 4)).set 73 v73_7).set 16 v73_7) h1
@[congr] theorem octroiref16_Rip_Hear_r10_congr {env : Env} {h : Hp} {K : Env → Hp → Prop} : octroiref16_Rip_Hear_r10 env h K = octroiref16_Rip_Hear_r10 env h K := rfl

/-- ref.go:152 -/
def octroiref16_Rip_Hear_r11 (env : Env) (h : Hp) (K : Env → Hp → Prop) : Prop :=
  K (((env.set 74 (env 16)).set 10 (env 16)).set 11 (Go.Value.int Go.IntKind.i64 0)) h
@[congr] theorem octroiref16_Rip_Hear_r11_congr {env : Env} {h : Hp} {K : Env → Hp → Prop} : octroiref16_Rip_Hear_r11 env h K = octroiref16_Rip_Hear_r11 env h K := rfl

/-- ref.go:154 -/
def octroiref16_Rip_Hear_r12 (env : Env) (h : Hp) (K : Env → Hp → Prop) : Prop :=
  rd Try.prog (bop Go.BinOp.eql 3 (Go.Operand.tmp 75) (Go.Operand.const (Go.Value.int Go.IntKind.i64 16)) (env 14) (Go.Value.int Go.IntKind.i64 16)) noHp fun v76_1 =>
  K ((env.set 75 (env 14)).set 76 v76_1) h
@[congr] theorem octroiref16_Rip_Hear_r12_congr {env : Env} {h : Hp} {K : Env → Hp → Prop} : octroiref16_Rip_Hear_r12 env h K = octroiref16_Rip_Hear_r12 env h K := rfl

/-- ref.go:155 -/
def octroiref16_Rip_Hear_r13 (env : Env) (h : Hp) (K : Env → Hp → Prop) : Prop :=
  K ((env.set 10 (Go.Value.bool false)).set 11 (Go.Value.int Go.IntKind.i64 0)) h
@[congr] theorem octroiref16_Rip_Hear_r13_congr {env : Env} {h : Hp} {K : Env → Hp → Prop} : octroiref16_Rip_Hear_r13 env h K = octroiref16_Rip_Hear_r13 env h K := rfl

/-- ref.go:157 (in any order) -/
def octroiref16_Rip_Hear_r14 (env : Env) (h : Hp) (K : Env → Hp → Prop) : Prop :=
  nck (env 0) (
  rd Try.prog (Instr.fieldAt 56 (env 0) 2) noHp fun v79_2 =>
  rd Try.prog (Instr.loadAt 54 v79_2) h fun v80_3 =>
  rd Try.prog (Builtin.len_ #[54] 3 #[v80_3]) h fun v81_4 =>
  nck (env 0) (
  rd Try.prog (Instr.fieldAt 56 (env 0) 1) noHp fun v84_7 =>
  rd Try.prog (Instr.loadAt 3 v84_7) h fun v85_8 =>
  rd Try.prog (bop Go.BinOp.geq 3 (Go.Operand.tmp 81) (Go.Operand.tmp 85) v81_4 v85_8) noHp fun v86_9 =>
  K ((((((((((env.set 77 (env 0)).set 78 (env 0)).set 79 v79_2).set 80 v80_3).set 81 v81_4).set 82 (env 0)).set 83 (env 0)).set 84 v84_7).set 85 v85_8).set 86 v86_9) h))
@[congr] theorem octroiref16_Rip_Hear_r14_congr {env : Env} {h : Hp} {K : Env → Hp → Prop} : octroiref16_Rip_Hear_r14 env h K = octroiref16_Rip_Hear_r14 env h K := rfl

/-- ref.go:158 -/
def octroiref16_Rip_Hear_r15 (env : Env) (h : Hp) (K : Env → Hp → Prop) : Prop :=
  K ((env.set 10 (Go.Value.bool false)).set 11 (Go.Value.int Go.IntKind.i64 4)) h
@[congr] theorem octroiref16_Rip_Hear_r15_congr {env : Env} {h : Hp} {K : Env → Hp → Prop} : octroiref16_Rip_Hear_r15 env h K = octroiref16_Rip_Hear_r15 env h K := rfl

/-- ref.go:160 -/
def octroiref16_Rip_Hear_r16 (env : Env) (h : Hp) (K : Env → Hp → Prop) : Prop :=
  rd Try.prog (Instr.fieldAt 33 (env 8) 0) noHp fun v88_1 =>
  rd Try.prog (Instr.loadAt 24 v88_1) h fun v89_2 =>
  rd Try.prog (Instr.fieldAt 33 (env 8) 1) noHp fun v91_4 =>
  rd Try.prog (Instr.loadAt 31 v91_4) h fun v92_5 =>
  rd Try.prog (bop Go.BinOp.add 3 (Go.Operand.tmp 94) (Go.Operand.const (Go.Value.int Go.IntKind.i64 180)) (env 4) (Go.Value.int Go.IntKind.i64 180)) noHp fun v95_8 =>
  rd Try.prog (Instr.build 78 #[(0, v89_2), (1, (env 14)), (2, v92_5), (3, (env 1)), (4, v95_8)]) noHp fun v96_9 =>
  Ok Try.prog 49 #[(env 0), v96_9] h fun v97_10 h1 =>
  K (((((((((((env.set 87 (env 0)).set 88 v88_1).set 89 v89_2).set 90 (env 14)).set 91 v91_4).set 92 v92_5).set 93 (env 1)).set 94 (env 4)).set 95 v95_8).set 96 v96_9).set 97 v97_10) h1
@[congr] theorem octroiref16_Rip_Hear_r16_congr {env : Env} {h : Hp} {K : Env → Hp → Prop} : octroiref16_Rip_Hear_r16 env h K = octroiref16_Rip_Hear_r16 env h K := rfl

/-- ref.go:161 -/
def octroiref16_Rip_Hear_r17 (env : Env) (h : Hp) (K : Env → Hp → Prop) : Prop :=
  K ((env.set 10 (Go.Value.bool true)).set 11 (Go.Value.int Go.IntKind.i64 0)) h
@[congr] theorem octroiref16_Rip_Hear_r17_congr {env : Env} {h : Hp} {K : Env → Hp → Prop} : octroiref16_Rip_Hear_r17 env h K = octroiref16_Rip_Hear_r17 env h K := rfl

def octroiref16_Rip_Hear_D : Den := (sq (rg octroiref16_Rip_Hear_r0) (sq (rg octroiref16_Rip_Hear_r1) (sq (sq (rg octroiref16_Rip_Hear_r2) (cnd (Go.Operand.tmp 47) (sq (rg octroiref16_Rip_Hear_r3) (ex .ret)) (ex .normal))) (sq (rg octroiref16_Rip_Hear_r4) (sq (sq (rg octroiref16_Rip_Hear_r5) (cnd (Go.Operand.tmp 55) (sq (rg octroiref16_Rip_Hear_r6) (ex .ret)) (ex .normal))) (sq (rg octroiref16_Rip_Hear_r7) (sq (rg octroiref16_Rip_Hear_r8) (sq (sq (rg octroiref16_Rip_Hear_r9) (cnd (Go.Operand.tmp 65) (sq (rg octroiref16_Rip_Hear_r10) (sq (rg octroiref16_Rip_Hear_r11) (ex .ret))) (ex .normal))) (sq (sq (rg octroiref16_Rip_Hear_r12) (cnd (Go.Operand.tmp 76) (sq (rg octroiref16_Rip_Hear_r13) (ex .ret)) (ex .normal))) (sq (sq (rg octroiref16_Rip_Hear_r14) (cnd (Go.Operand.tmp 86) (sq (rg octroiref16_Rip_Hear_r15) (ex .ret)) (ex .normal))) (sq (rg octroiref16_Rip_Hear_r16) (sq (rg octroiref16_Rip_Hear_r17) (ex .ret)))))))))))))

theorem octroiref16_Rip_Hear_eq : (den Try.prog 98 octroiref16_Rip_Hear_code).1 = octroiref16_Rip_Hear_D := by kernel_rfl

theorem octroiref16_Rip_Hear_ok {args : Array Value} {h : Hp} {Q : Value → Hp → Prop} (hn : args.size ≤ 98) (D : octroiref16_Rip_Hear_D (fin Try.prog [(Go.ResultVar.tmp 10), (Go.ResultVar.tmp 11)] Q) (env0 args) h) : Ok Try.prog 35 args h Q :=
  ok_of_den progIsOk Try.func35 (c := octroiref16_Rip_Hear_code) (by kernel_rfl) hn (by show (den Try.prog 98 octroiref16_Rip_Hear_code).1 _ _ _; rw [octroiref16_Rip_Hear_eq]; exact D)

/-! ### (*octroi/octroiref16.Rip).Tick: function 36 -/
noncomputable def octroiref16_Rip_Tick_code : Code := match Try.f36.body with | some c => c | none => .skip

/-- ref.go:165 -/
def octroiref16_Rip_Tick_r0 (env : Env) (h : Hp) (K : Env → Hp → Prop) : Prop :=
  K (env.set 4 (Go.Value.bool false)) h
@[congr] theorem octroiref16_Rip_Tick_r0_congr {env : Env} {h : Hp} {K : Env → Hp → Prop} : octroiref16_Rip_Tick_r0 env h K = octroiref16_Rip_Tick_r0 env h K := rfl

/-- ref.go:166 -/
def octroiref16_Rip_Tick_r1 (env : Env) (h : Hp) (K : Env → Hp → Prop) : Prop :=
  K (env.set 5 (Go.Value.slice none 0 0)) h
@[congr] theorem octroiref16_Rip_Tick_r1_congr {env : Env} {h : Hp} {K : Env → Hp → Prop} : octroiref16_Rip_Tick_r1 env h K = octroiref16_Rip_Tick_r1 env h K := rfl

/-- ref.go:167 -/
def octroiref16_Rip_Tick_r2 (env : Env) (h : Hp) (K : Env → Hp → Prop) : Prop :=
  K (env.set 6 (Go.Value.bool false)) h
@[congr] theorem octroiref16_Rip_Tick_r2_congr {env : Env} {h : Hp} {K : Env → Hp → Prop} : octroiref16_Rip_Tick_r2 env h K = octroiref16_Rip_Tick_r2 env h K := rfl

/-- ref.go:168 -/
def octroiref16_Rip_Tick_r3 (env : Env) (h : Hp) (K : Env → Hp → Prop) : Prop :=
  K (env.set 7 (Go.Value.int Go.IntKind.i64 0)) h
@[congr] theorem octroiref16_Rip_Tick_r3_congr {env : Env} {h : Hp} {K : Env → Hp → Prop} : octroiref16_Rip_Tick_r3 env h K = octroiref16_Rip_Tick_r3 env h K := rfl

/-- ref.go:168 -/
def octroiref16_Rip_Tick_r4 (env : Env) (h : Hp) (K : Env → Hp → Prop) : Prop :=
  nck (env 0) (
  rd Try.prog (Instr.fieldAt 56 (env 0) 2) noHp fun v13_3 =>
  rd Try.prog (Instr.loadAt 54 v13_3) h fun v14_4 =>
  rd Try.prog (Builtin.len_ #[54] 3 #[v14_4]) h fun v15_5 =>
  rd Try.prog (bop Go.BinOp.lss 3 (Go.Operand.tmp 10) (Go.Operand.tmp 15) (env 7) v15_5) noHp fun v16_6 =>
  K (((((((env.set 10 (env 7)).set 11 (env 0)).set 12 (env 0)).set 13 v13_3).set 14 v14_4).set 15 v15_5).set 16 v16_6) h)
@[congr] theorem octroiref16_Rip_Tick_r4_congr {env : Env} {h : Hp} {K : Env → Hp → Prop} : octroiref16_Rip_Tick_r4 env h K = octroiref16_Rip_Tick_r4 env h K := rfl

/-- ref.go:169 -/
def octroiref16_Rip_Tick_r5 (env : Env) (h : Hp) (K : Env → Hp → Prop) : Prop :=
  nck (env 0) (
  rd Try.prog (Instr.fieldAt 56 (env 0) 2) noHp fun v21_2 =>
  rd Try.prog (Instr.loadAt 54 v21_2) h fun v22_3 =>
  rd Try.prog (Instr.indexAt 54 v22_3 (env 7)) noHp fun v24_5 =>
  rd Try.prog (Instr.loadAt 78 v24_5) h fun v25_6 =>
  arun Try.prog (Instr.alloc 78 true (Go.Value.tuple #[])) h fun v8_7 h1 =>
  arun Try.prog (Instr.storeAt 78 v8_7 v25_6) h1 fun _ h2 =>
  K ((((((((env.set 19 (env 0)).set 20 (env 0)).set 21 v21_2).set 22 v22_3).set 23 (env 7)).set 24 v24_5).set 25 v25_6).set 8 v8_7) h2)
@[congr] theorem octroiref16_Rip_Tick_r5_congr {env : Env} {h : Hp} {K : Env → Hp → Prop} : octroiref16_Rip_Tick_r5 env h K = octroiref16_Rip_Tick_r5 env h K := rfl

/-- ref.go:170 -/
def octroiref16_Rip_Tick_r6 (env : Env) (h : Hp) (K : Env → Hp → Prop) : Prop :=
  rd Try.prog (Instr.fieldAt 78 (env 8) 3) noHp fun v26_0 =>
  rd Try.prog (Instr.loadAt 3 v26_0) h fun v27_1 =>
  rd Try.prog (bop Go.BinOp.eql 3 (Go.Operand.tmp 27) (Go.Operand.const (Go.Value.int Go.IntKind.i64 0)) v27_1 (Go.Value.int Go.IntKind.i64 0)) noHp fun v28_2 =>
  gd (yb v28_2 == some true) (fun h k => rd Try.prog (Instr.fieldAt 78 (env 8) 1) noHp fun v => k v h) h fun v30_4 h1 =>
  gd (yb v28_2 == some true) (fun h k => rd Try.prog (Instr.loadAt 3 v30_4) h fun v => k v h) h1 fun v31_5 h2 =>
  gd (yb v28_2 == some true) (fun h k => rd Try.prog (bop Go.BinOp.lss 3 (Go.Operand.tmp 31) (Go.Operand.const (Go.Value.int Go.IntKind.i64 16)) v31_5 (Go.Value.int Go.IntKind.i64 16)) noHp fun v => k v h) h2 fun v32_6 h3 =>
  rd Try.prog (pck v28_2 v32_6 (Go.Value.bool false)) noHp fun v33_7 =>
  K (((((((((env.set 26 v26_0).set 27 v27_1).set 28 v28_2).set 29 v28_2).set 30 v30_4).set 31 v31_5).set 32 v32_6).set 33 v33_7).set 9 v33_7) h3
@[congr] theorem octroiref16_Rip_Tick_r6_congr {env : Env} {h : Hp} {K : Env → Hp → Prop} : octroiref16_Rip_Tick_r6 env h K = octroiref16_Rip_Tick_r6 env h K := rfl

/-- ref.go:171 -/
def octroiref16_Rip_Tick_r7 (env : Env) (h : Hp) (K : Env → Hp → Prop) : Prop :=
  gd (yb (env 9) == some false) (fun h k => rd Try.prog (Instr.fieldAt 78 (env 8) 4) noHp fun v => k v h) h fun v36_2 h1 =>
  gd (yb (env 9) == some false) (fun h k => rd Try.prog (Instr.loadAt 3 v36_2) h fun v => k v h) h1 fun v37_3 h2 =>
  gd (yb (env 9) == some false) (fun h k => k (env 1) h) h2 fun v38_4 h3 =>
  gd (yb (env 9) == some false) (fun h k => rd Try.prog (bop Go.BinOp.gtr 3 (Go.Operand.tmp 37) (Go.Operand.tmp 38) v37_3 v38_4) noHp fun v => k v h) h3 fun v39_5 h4 =>
  rd Try.prog (pck (env 9) (Go.Value.bool true) v39_5) noHp fun v40_6 =>
  K (((((((env.set 34 (env 9)).set 35 (env 9)).set 36 v36_2).set 37 v37_3).set 38 v38_4).set 39 v39_5).set 40 v40_6) h4
@[congr] theorem octroiref16_Rip_Tick_r7_congr {env : Env} {h : Hp} {K : Env → Hp → Prop} : octroiref16_Rip_Tick_r7 env h K = octroiref16_Rip_Tick_r7 env h K := rfl

/-- ref.go:172 -/
def octroiref16_Rip_Tick_r8 (env : Env) (h : Hp) (K : Env → Hp → Prop) : Prop :=
  rd Try.prog (Instr.loadAt 78 (env 8)) h fun v42_1 =>
  arun Try.prog (Instr.buildSlice 54 1 #[(0, v42_1)]) h fun v43_2 h1 =>
  arun Try.prog (Builtin.append_ #[54, 54] 54 #[(env 5), v43_2]) h1 fun v44_3 h2 =>
  K (((((env.set 41 (env 5)).set 42 v42_1).set 43 v43_2).set 44 v44_3).set 5 v44_3) h2
@[congr] theorem octroiref16_Rip_Tick_r8_congr {env : Env} {h : Hp} {K : Env → Hp → Prop} : octroiref16_Rip_Tick_r8 env h K = octroiref16_Rip_Tick_r8 env h K := rfl

/-- ref.go:175 -/
def octroiref16_Rip_Tick_r9 (env : Env) (h : Hp) (K : Env → Hp → Prop) : Prop :=
  K (env.set 6 (Go.Value.bool true)) h
@[congr] theorem octroiref16_Rip_Tick_r9_congr {env : Env} {h : Hp} {K : Env → Hp → Prop} : octroiref16_Rip_Tick_r9 env h K = octroiref16_Rip_Tick_r9 env h K := rfl

/-- ref.go:176 -/
def octroiref16_Rip_Tick_r10 (env : Env) (h : Hp) (K : Env → Hp → Prop) : Prop :=
  rd Try.prog (Instr.fieldAt 78 (env 8) 1) noHp fun v45_0 =>
  rd Try.prog (Instr.loadAt 3 v45_0) h fun v46_1 =>
  rd Try.prog (bop Go.BinOp.lss 3 (Go.Operand.tmp 46) (Go.Operand.const (Go.Value.int Go.IntKind.i64 16)) v46_1 (Go.Value.int Go.IntKind.i64 16)) noHp fun v47_2 =>
  K (((env.set 45 v45_0).set 46 v46_1).set 47 v47_2) h
@[congr] theorem octroiref16_Rip_Tick_r10_congr {env : Env} {h : Hp} {K : Env → Hp → Prop} : octroiref16_Rip_Tick_r10 env h K = octroiref16_Rip_Tick_r10 env h K := rfl

/-- ref.go:177 -/
def octroiref16_Rip_Tick_r11 (env : Env) (h : Hp) (K : Env → Hp → Prop) : Prop :=
  rd Try.prog (Instr.fieldAt 78 (env 8) 1) noHp fun v48_0 =>
  arun Try.prog (Instr.storeAt 3 v48_0 (Go.Value.int Go.IntKind.i64 16)) h fun _ h1 =>
  K (env.set 48 v48_0) h1
@[congr] theorem octroiref16_Rip_Tick_r11_congr {env : Env} {h : Hp} {K : Env → Hp → Prop} : octroiref16_Rip_Tick_r11 env h K = octroiref16_Rip_Tick_r11 env h K := rfl

/-- ref.go:178 -/
def octroiref16_Rip_Tick_r12 (env : Env) (h : Hp) (K : Env → Hp → Prop) : Prop :=
  rd Try.prog (bop Go.BinOp.add 3 (Go.Operand.tmp 49) (Go.Operand.const (Go.Value.int Go.IntKind.i64 120)) (env 1) (Go.Value.int Go.IntKind.i64 120)) noHp fun v50_1 =>
  rd Try.prog (Instr.fieldAt 78 (env 8) 4) noHp fun v51_2 =>
  arun Try.prog (Instr.storeAt 3 v51_2 v50_1) h fun _ h1 =>
  K (((env.set 49 (env 1)).set 50 v50_1).set 51 v51_2) h1
@[congr] theorem octroiref16_Rip_Tick_r12_congr {env : Env} {h : Hp} {K : Env → Hp → Prop} : octroiref16_Rip_Tick_r12 env h K = octroiref16_Rip_Tick_r12 env h K := rfl

/-- ref.go:179 -/
def octroiref16_Rip_Tick_r13 (env : Env) (h : Hp) (K : Env → Hp → Prop) : Prop :=
  rd Try.prog (Instr.loadAt 78 (env 8)) h fun v53_1 =>
  arun Try.prog (Instr.buildSlice 54 1 #[(0, v53_1)]) h fun v54_2 h1 =>
  arun Try.prog (Builtin.append_ #[54, 54] 54 #[(env 5), v54_2]) h1 fun v55_3 h2 =>
  K (((((env.set 52 (env 5)).set 53 v53_1).set 54 v54_2).set 55 v55_3).set 5 v55_3) h2
@[congr] theorem octroiref16_Rip_Tick_r13_congr {env : Env} {h : Hp} {K : Env → Hp → Prop} : octroiref16_Rip_Tick_r13 env h K = octroiref16_Rip_Tick_r13 env h K := rfl

/-- ref.go:168 -/
def octroiref16_Rip_Tick_r14 (env : Env) (h : Hp) (K : Env → Hp → Prop) : Prop :=
  rd Try.prog (bop Go.BinOp.add 3 (Go.Operand.tmp 17) (Go.Operand.const (Go.Value.int Go.IntKind.i64 1)) (env 7) (Go.Value.int Go.IntKind.i64 1)) noHp fun v18_1 =>
  K (((env.set 17 (env 7)).set 18 v18_1).set 7 v18_1) h
@[congr] theorem octroiref16_Rip_Tick_r14_congr {env : Env} {h : Hp} {K : Env → Hp → Prop} : octroiref16_Rip_Tick_r14 env h K = octroiref16_Rip_Tick_r14 env h K := rfl

def octroiref16_Rip_Tick_L0 : Den := (sq (sq (rg octroiref16_Rip_Tick_r4) (cnd (Go.Operand.tmp 16) (ex .normal) (ex (.exit 0)))) (sq (blk 1 (sq (rg octroiref16_Rip_Tick_r5) (sq (rg octroiref16_Rip_Tick_r6) (sq (sq (rg octroiref16_Rip_Tick_r7) (cnd (Go.Operand.tmp 40) (sq (rg octroiref16_Rip_Tick_r8) (ex (.exit 1))) (ex .normal))) (sq (rg octroiref16_Rip_Tick_r9) (sq (rg octroiref16_Rip_Tick_r10) (cnd (Go.Operand.tmp 47) (sq (rg octroiref16_Rip_Tick_r11) (sq (rg octroiref16_Rip_Tick_r12) (rg octroiref16_Rip_Tick_r13))) (ex .normal)))))))) (rg octroiref16_Rip_Tick_r14)))

/-- ref.go:182 -/
def octroiref16_Rip_Tick_r15 (env : Env) (h : Hp) (K : Env → Hp → Prop) : Prop :=
  nck (env 0) (
  rd Try.prog (Instr.fieldAt 56 (env 0) 2) noHp fun v59_3 =>
  arun Try.prog (Instr.storeAt 54 v59_3 (env 5)) h fun _ h1 =>
  K ((((env.set 56 (env 0)).set 57 (env 5)).set 58 (env 0)).set 59 v59_3) h1)
@[congr] theorem octroiref16_Rip_Tick_r15_congr {env : Env} {h : Hp} {K : Env → Hp → Prop} : octroiref16_Rip_Tick_r15 env h K = octroiref16_Rip_Tick_r15 env h K := rfl

/-- ref.go:183 -/
def octroiref16_Rip_Tick_r16 (env : Env) (h : Hp) (K : Env → Hp → Prop) : Prop :=
  K ((env.set 60 (env 6)).set 4 (env 6)) h
@[congr] theorem octroiref16_Rip_Tick_r16_congr {env : Env} {h : Hp} {K : Env → Hp → Prop} : octroiref16_Rip_Tick_r16 env h K = octroiref16_Rip_Tick_r16 env h K := rfl

def octroiref16_Rip_Tick_D : Den := (sq (rg octroiref16_Rip_Tick_r0) (sq (rg octroiref16_Rip_Tick_r1) (sq (rg octroiref16_Rip_Tick_r2) (sq (sq (rg octroiref16_Rip_Tick_r3) (blk 0 (lp octroiref16_Rip_Tick_L0))) (sq (rg octroiref16_Rip_Tick_r15) (sq (rg octroiref16_Rip_Tick_r16) (ex .ret)))))))

theorem octroiref16_Rip_Tick_eq : (den Try.prog 61 octroiref16_Rip_Tick_code).1 = octroiref16_Rip_Tick_D := by kernel_rfl

theorem octroiref16_Rip_Tick_ok {args : Array Value} {h : Hp} {Q : Value → Hp → Prop} (hn : args.size ≤ 61) (D : octroiref16_Rip_Tick_D (fin Try.prog [(Go.ResultVar.tmp 4)] Q) (env0 args) h) : Ok Try.prog 36 args h Q :=
  ok_of_den progIsOk Try.func36 (c := octroiref16_Rip_Tick_code) (by kernel_rfl) hn (by show (den Try.prog 61 octroiref16_Rip_Tick_code).1 _ _ _; rw [octroiref16_Rip_Tick_eq]; exact D)

/-! ### (*octroi/octroiref16.Rip).Lose: function 37 -/
noncomputable def octroiref16_Rip_Lose_code : Code := match Try.f37.body with | some c => c | none => .skip

/-- ref.go:187 -/
def octroiref16_Rip_Lose_r0 (env : Env) (h : Hp) (K : Env → Hp → Prop) : Prop :=
  K (env.set 6 (Go.Value.bool false)) h
@[congr] theorem octroiref16_Rip_Lose_r0_congr {env : Env} {h : Hp} {K : Env → Hp → Prop} : octroiref16_Rip_Lose_r0 env h K = octroiref16_Rip_Lose_r0 env h K := rfl

/-- ref.go:188 -/
def octroiref16_Rip_Lose_r1 (env : Env) (h : Hp) (K : Env → Hp → Prop) : Prop :=
  K (env.set 7 (Go.Value.bool false)) h
@[congr] theorem octroiref16_Rip_Lose_r1_congr {env : Env} {h : Hp} {K : Env → Hp → Prop} : octroiref16_Rip_Lose_r1 env h K = octroiref16_Rip_Lose_r1 env h K := rfl

/-- ref.go:189 -/
def octroiref16_Rip_Lose_r2 (env : Env) (h : Hp) (K : Env → Hp → Prop) : Prop :=
  K (env.set 8 (Go.Value.int Go.IntKind.i64 0)) h
@[congr] theorem octroiref16_Rip_Lose_r2_congr {env : Env} {h : Hp} {K : Env → Hp → Prop} : octroiref16_Rip_Lose_r2 env h K = octroiref16_Rip_Lose_r2 env h K := rfl

/-- ref.go:189 -/
def octroiref16_Rip_Lose_r3 (env : Env) (h : Hp) (K : Env → Hp → Prop) : Prop :=
  nck (env 0) (
  rd Try.prog (Instr.fieldAt 56 (env 0) 2) noHp fun v12_3 =>
  rd Try.prog (Instr.loadAt 54 v12_3) h fun v13_4 =>
  rd Try.prog (Builtin.len_ #[54] 3 #[v13_4]) h fun v14_5 =>
  rd Try.prog (bop Go.BinOp.lss 3 (Go.Operand.tmp 9) (Go.Operand.tmp 14) (env 8) v14_5) noHp fun v15_6 =>
  K (((((((env.set 9 (env 8)).set 10 (env 0)).set 11 (env 0)).set 12 v12_3).set 13 v13_4).set 14 v14_5).set 15 v15_6) h)
@[congr] theorem octroiref16_Rip_Lose_r3_congr {env : Env} {h : Hp} {K : Env → Hp → Prop} : octroiref16_Rip_Lose_r3 env h K = octroiref16_Rip_Lose_r3 env h K := rfl

/-- ref.go:190 -/
def octroiref16_Rip_Lose_r4 (env : Env) (h : Hp) (K : Env → Hp → Prop) : Prop :=
  rd Try.prog (bop Go.BinOp.geq 3 (Go.Operand.tmp 18) (Go.Operand.const (Go.Value.int Go.IntKind.i64 1)) (env 1) (Go.Value.int Go.IntKind.i64 1)) noHp fun v19_1 =>
  gd (yb v19_1 == some true) (fun h k => k (env 0) h) h fun v21_3 h1 =>
  gd (yb v19_1 == some true) (fun h k => nck v21_3 (k v21_3 h)) h1 fun v22_4 h2 =>
  gd (yb v19_1 == some true) (fun h k => rd Try.prog (Instr.fieldAt 56 v22_4 2) noHp fun v => k v h) h2 fun v23_5 h3 =>
  gd (yb v19_1 == some true) (fun h k => rd Try.prog (Instr.loadAt 54 v23_5) h fun v => k v h) h3 fun v24_6 h4 =>
  gd (yb v19_1 == some true) (fun h k => k (env 8) h) h4 fun v25_7 h5 =>
  gd (yb v19_1 == some true) (fun h k => rd Try.prog (Instr.indexAt 54 v24_6 v25_7) noHp fun v => k v h) h5 fun v26_8 h6 =>
  gd (yb v19_1 == some true) (fun h k => rd Try.prog (Instr.fieldAt 78 v26_8 3) noHp fun v => k v h) h6 fun v27_9 h7 =>
  gd (yb v19_1 == some true) (fun h k => rd Try.prog (Instr.loadAt 3 v27_9) h fun v => k v h) h7 fun v28_10 h8 =>
  gd (yb v19_1 == some true) (fun h k => k (env 1) h) h8 fun v29_11 h9 =>
  gd (yb v19_1 == some true) (fun h k => rd Try.prog (bop Go.BinOp.eql 3 (Go.Operand.tmp 28) (Go.Operand.tmp 29) v28_10 v29_11) noHp fun v => k v h) h9 fun v30_12 h10 =>
  rd Try.prog (pck v19_1 v30_12 (Go.Value.bool false)) noHp fun v31_13 =>
  gd (yb v31_13 == some true) (fun h k => k (env 0) h) h10 fun v33_15 h11 =>
  gd (yb v31_13 == some true) (fun h k => nck v33_15 (k v33_15 h)) h11 fun v34_16 h12 =>
  gd (yb v31_13 == some true) (fun h k => rd Try.prog (Instr.fieldAt 56 v34_16 2) noHp fun v => k v h) h12 fun v35_17 h13 =>
  gd (yb v31_13 == some true) (fun h k => rd Try.prog (Instr.loadAt 54 v35_17) h fun v => k v h) h13 fun v36_18 h14 =>
  gd (yb v31_13 == some true) (fun h k => k (env 8) h) h14 fun v37_19 h15 =>
  gd (yb v31_13 == some true) (fun h k => rd Try.prog (Instr.indexAt 54 v36_18 v37_19) noHp fun v => k v h) h15 fun v38_20 h16 =>
  gd (yb v31_13 == some true) (fun h k => rd Try.prog (Instr.fieldAt 78 v38_20 1) noHp fun v => k v h) h16 fun v39_21 h17 =>
  gd (yb v31_13 == some true) (fun h k => rd Try.prog (Instr.loadAt 3 v39_21) h fun v => k v h) h17 fun v40_22 h18 =>
  gd (yb v31_13 == some true) (fun h k => rd Try.prog (bop Go.BinOp.lss 3 (Go.Operand.tmp 40) (Go.Operand.const (Go.Value.int Go.IntKind.i64 16)) v40_22 (Go.Value.int Go.IntKind.i64 16)) noHp fun v => k v h) h18 fun v41_23 h19 =>
  rd Try.prog (pck v31_13 v41_23 (Go.Value.bool false)) noHp fun v42_24 =>
  K (((((((((((((((((((((((((env.set 18 (env 1)).set 19 v19_1).set 20 v19_1).set 21 v21_3).set 22 v22_4).set 23 v23_5).set 24 v24_6).set 25 v25_7).set 26 v26_8).set 27 v27_9).set 28 v28_10).set 29 v29_11).set 30 v30_12).set 31 v31_13).set 32 v31_13).set 33 v33_15).set 34 v34_16).set 35 v35_17).set 36 v36_18).set 37 v37_19).set 38 v38_20).set 39 v39_21).set 40 v40_22).set 41 v41_23).set 42 v42_24) h19
@[congr] theorem octroiref16_Rip_Lose_r4_congr {env : Env} {h : Hp} {K : Env → Hp → Prop} : octroiref16_Rip_Lose_r4 env h K = octroiref16_Rip_Lose_r4 env h K := rfl

/-- ref.go:191 -/
def octroiref16_Rip_Lose_r5 (env : Env) (h : Hp) (K : Env → Hp → Prop) : Prop :=
  Ok Try.prog 50 #[(env 0), (env 8), (env 2)] h fun v46_3 h1 =>
  K ((((env.set 43 (env 0)).set 44 (env 8)).set 45 (env 2)).set 46 v46_3) h1
@[congr] theorem octroiref16_Rip_Lose_r5_congr {env : Env} {h : Hp} {K : Env → Hp → Prop} : octroiref16_Rip_Lose_r5 env h K = octroiref16_Rip_Lose_r5 env h K := rfl

/-- ref.go:192 -/
def octroiref16_Rip_Lose_r6 (env : Env) (h : Hp) (K : Env → Hp → Prop) : Prop :=
  K (env.set 7 (Go.Value.bool true)) h
@[congr] theorem octroiref16_Rip_Lose_r6_congr {env : Env} {h : Hp} {K : Env → Hp → Prop} : octroiref16_Rip_Lose_r6 env h K = octroiref16_Rip_Lose_r6 env h K := rfl

/-- ref.go:189 -/
def octroiref16_Rip_Lose_r7 (env : Env) (h : Hp) (K : Env → Hp → Prop) : Prop :=
  rd Try.prog (bop Go.BinOp.add 3 (Go.Operand.tmp 16) (Go.Operand.const (Go.Value.int Go.IntKind.i64 1)) (env 8) (Go.Value.int Go.IntKind.i64 1)) noHp fun v17_1 =>
  K (((env.set 16 (env 8)).set 17 v17_1).set 8 v17_1) h
@[congr] theorem octroiref16_Rip_Lose_r7_congr {env : Env} {h : Hp} {K : Env → Hp → Prop} : octroiref16_Rip_Lose_r7 env h K = octroiref16_Rip_Lose_r7 env h K := rfl

def octroiref16_Rip_Lose_L0 : Den := (sq (sq (rg octroiref16_Rip_Lose_r3) (cnd (Go.Operand.tmp 15) (ex .normal) (ex (.exit 0)))) (sq (blk 1 (sq (rg octroiref16_Rip_Lose_r4) (cnd (Go.Operand.tmp 42) (sq (rg octroiref16_Rip_Lose_r5) (rg octroiref16_Rip_Lose_r6)) (ex .normal)))) (rg octroiref16_Rip_Lose_r7)))

/-- ref.go:195 -/
def octroiref16_Rip_Lose_r8 (env : Env) (h : Hp) (K : Env → Hp → Prop) : Prop :=
  K ((env.set 47 (env 7)).set 6 (env 7)) h
@[congr] theorem octroiref16_Rip_Lose_r8_congr {env : Env} {h : Hp} {K : Env → Hp → Prop} : octroiref16_Rip_Lose_r8 env h K = octroiref16_Rip_Lose_r8 env h K := rfl

def octroiref16_Rip_Lose_D : Den := (sq (rg octroiref16_Rip_Lose_r0) (sq (rg octroiref16_Rip_Lose_r1) (sq (sq (rg octroiref16_Rip_Lose_r2) (blk 0 (lp octroiref16_Rip_Lose_L0))) (sq (rg octroiref16_Rip_Lose_r8) (ex .ret)))))

theorem octroiref16_Rip_Lose_eq : (den Try.prog 48 octroiref16_Rip_Lose_code).1 = octroiref16_Rip_Lose_D := by kernel_rfl

theorem octroiref16_Rip_Lose_ok {args : Array Value} {h : Hp} {Q : Value → Hp → Prop} (hn : args.size ≤ 48) (D : octroiref16_Rip_Lose_D (fin Try.prog [(Go.ResultVar.tmp 6)] Q) (env0 args) h) : Ok Try.prog 37 args h Q :=
  ok_of_den progIsOk Try.func37 (c := octroiref16_Rip_Lose_code) (by kernel_rfl) hn (by show (den Try.prog 48 octroiref16_Rip_Lose_code).1 _ _ _; rw [octroiref16_Rip_Lose_eq]; exact D)

/-! ### octroi/tags.may: function 38 -/
noncomputable def tags_may_code : Code := match Try.f38.body with | some c => c | none => .skip

/-- tags.go:7 -/
def tags_may_r0 (env : Env) (h : Hp) (K : Env → Hp → Prop) : Prop :=
  K (env.set 2 (Go.Value.bool false)) h
@[congr] theorem tags_may_r0_congr {env : Env} {h : Hp} {K : Env → Hp → Prop} : tags_may_r0 env h K = tags_may_r0 env h K := rfl

/-- tags.go:7 -/
def tags_may_r1 (env : Env) (h : Hp) (K : Env → Hp → Prop) : Prop :=
  rd Try.prog (bop Go.BinOp.geq 3 (Go.Operand.tmp 3) (Go.Operand.const (Go.Value.int Go.IntKind.i64 0)) (env 0) (Go.Value.int Go.IntKind.i64 0)) noHp fun v4_1 =>
  gd (yb v4_1 == some true) (fun h k => k (env 0) h) h fun v6_3 h1 =>
  gd (yb v4_1 == some true) (fun h k => rd Try.prog (bop Go.BinOp.lss 3 (Go.Operand.tmp 6) (Go.Operand.const (Go.Value.int Go.IntKind.i64 16)) v6_3 (Go.Value.int Go.IntKind.i64 16)) noHp fun v => k v h) h1 fun v7_4 h2 =>
  rd Try.prog (pck v4_1 v7_4 (Go.Value.bool false)) noHp fun v8_5 =>
  K (((((((env.set 3 (env 0)).set 4 v4_1).set 5 v4_1).set 6 v6_3).set 7 v7_4).set 8 v8_5).set 2 v8_5) h2
@[congr] theorem tags_may_r1_congr {env : Env} {h : Hp} {K : Env → Hp → Prop} : tags_may_r1 env h K = tags_may_r1 env h K := rfl

def tags_may_D : Den := (sq (rg tags_may_r0) (sq (rg tags_may_r1) (ex .ret)))

theorem tags_may_eq : (den Try.prog 9 tags_may_code).1 = tags_may_D := by kernel_rfl

theorem tags_may_ok {args : Array Value} {h : Hp} {Q : Value → Hp → Prop} (hn : args.size ≤ 9) (D : tags_may_D (fin Try.prog [(Go.ResultVar.tmp 2)] Q) (env0 args) h) : Ok Try.prog 38 args h Q :=
  ok_of_den progIsOk Try.func38 (c := tags_may_code) (by kernel_rfl) hn (by show (den Try.prog 9 tags_may_code).1 _ _ _; rw [tags_may_eq]; exact D)

/-! ### (*octroi/rip.route).spoil: function 39 -/
noncomputable def rip_route_spoil_code : Code := match Try.f39.body with | some c => c | none => .skip

/-- rip.go:31 -/
def rip_route_spoil_r0 (env : Env) (h : Hp) (K : Env → Hp → Prop) : Prop :=
  rd Try.prog (bop Go.BinOp.add 3 (Go.Operand.tmp 6) (Go.Operand.const (Go.Value.int Go.IntKind.i64 120)) (env 1) (Go.Value.int Go.IntKind.i64 120)) noHp fun v7_3 =>
  nck (env 0) (
  rd Try.prog (Instr.fieldAt 73 (env 0) 0) noHp fun v9_5 =>
  arun Try.prog (Instr.storeAt 3 v9_5 (Go.Value.int Go.IntKind.i64 16)) h fun _ h1 =>
  nck (env 0) (
  rd Try.prog (Instr.fieldAt 73 (env 0) 2) noHp fun v11_8 =>
  arun Try.prog (Instr.storeAt 3 v11_8 v7_3) h1 fun _ h2 =>
  K ((((((((env.set 4 (env 0)).set 5 (env 0)).set 6 (env 1)).set 7 v7_3).set 8 (env 0)).set 9 v9_5).set 10 (env 0)).set 11 v11_8) h2))
@[congr] theorem rip_route_spoil_r0_congr {env : Env} {h : Hp} {K : Env → Hp → Prop} : rip_route_spoil_r0 env h K = rip_route_spoil_r0 env h K := rfl

def rip_route_spoil_D : Den := (rg rip_route_spoil_r0)

theorem rip_route_spoil_eq : (den Try.prog 12 rip_route_spoil_code).1 = rip_route_spoil_D := by kernel_rfl

theorem rip_route_spoil_ok {args : Array Value} {h : Hp} {Q : Value → Hp → Prop} (hn : args.size ≤ 12) (D : rip_route_spoil_D (fin Try.prog [] Q) (env0 args) h) : Ok Try.prog 39 args h Q :=
  ok_of_den progIsOk Try.func39 (c := rip_route_spoil_code) (by kernel_rfl) hn (by show (den Try.prog 12 rip_route_spoil_code).1 _ _ _; rw [rip_route_spoil_eq]; exact D)

/-! ### octroi/prefix.Mask: function 40 -/
noncomputable def prefix_Mask_code : Code := match Try.f40.body with | some c => c | none => .skip

/-- prefix.go:19 -/
def prefix_Mask_r0 (env : Env) (h : Hp) (K : Env → Hp → Prop) : Prop :=
  K (env.set 2 (Go.Value.int Go.IntKind.u32 0)) h
@[congr] theorem prefix_Mask_r0_congr {env : Env} {h : Hp} {K : Env → Hp → Prop} : prefix_Mask_r0 env h K = prefix_Mask_r0 env h K := rfl

/-- prefix.go:19 -/
def prefix_Mask_r1 (env : Env) (h : Hp) (K : Env → Hp → Prop) : Prop :=
  rd Try.prog (Builtin.min_ #[3, 3] 3 #[(env 0), (Go.Value.int Go.IntKind.i64 32)]) h fun v4_1 =>
  rd Try.prog (Builtin.max_ #[3, 3] 3 #[(Go.Value.int Go.IntKind.i64 0), v4_1]) h fun v5_2 =>
  rd Try.prog (bop Go.BinOp.sub 3 (Go.Operand.const (Go.Value.int Go.IntKind.i64 32)) (Go.Operand.tmp 5) (Go.Value.int Go.IntKind.i64 32) v5_2) noHp fun v6_3 =>
  rd Try.prog (bop Go.BinOp.shl 22 (Go.Operand.const (Go.Value.int Go.IntKind.u32 4294967295)) (Go.Operand.tmp 6) (Go.Value.int Go.IntKind.u32 4294967295) v6_3) noHp fun v7_4 =>
  K ((((((env.set 3 (env 0)).set 4 v4_1).set 5 v5_2).set 6 v6_3).set 7 v7_4).set 2 v7_4) h
@[congr] theorem prefix_Mask_r1_congr {env : Env} {h : Hp} {K : Env → Hp → Prop} : prefix_Mask_r1 env h K = prefix_Mask_r1 env h K := rfl

def prefix_Mask_D : Den := (sq (rg prefix_Mask_r0) (sq (rg prefix_Mask_r1) (ex .ret)))

theorem prefix_Mask_eq : (den Try.prog 8 prefix_Mask_code).1 = prefix_Mask_D := by kernel_rfl

theorem prefix_Mask_ok {args : Array Value} {h : Hp} {Q : Value → Hp → Prop} (hn : args.size ≤ 8) (D : prefix_Mask_D (fin Try.prog [(Go.ResultVar.tmp 2)] Q) (env0 args) h) : Ok Try.prog 40 args h Q :=
  ok_of_den progIsOk Try.func40 (c := prefix_Mask_code) (by kernel_rfl) hn (by show (den Try.prog 8 prefix_Mask_code).1 _ _ _; rw [prefix_Mask_eq]; exact D)

/-! ### octroi/num.Add: function 41 -/
noncomputable def num_Add_code : Code := match Try.f41.body with | some c => c | none => .skip

/-- num.go:46 -/
def num_Add_r0 (env : Env) (h : Hp) (K : Env → Hp → Prop) : Prop :=
  K (env.set 6 (Go.Value.int Go.IntKind.i64 0)) h
@[congr] theorem num_Add_r0_congr {env : Env} {h : Hp} {K : Env → Hp → Prop} : num_Add_r0 env h K = num_Add_r0 env h K := rfl

/-- num.go:47 -/
def num_Add_r1 (env : Env) (h : Hp) (K : Env → Hp → Prop) : Prop :=
  rd Try.prog (Builtin.max_ #[3, 3] 3 #[(env 0), (Go.Value.int Go.IntKind.i64 0)]) h fun v8_1 =>
  rd Try.prog (Builtin.max_ #[3, 3] 3 #[(env 1), (Go.Value.int Go.IntKind.i64 0)]) h fun v10_3 =>
  rd Try.prog (Builtin.max_ #[3, 3] 3 #[(env 2), (Go.Value.int Go.IntKind.i64 0)]) h fun v12_5 =>
  K (((((((((env.set 7 (env 0)).set 8 v8_1).set 9 (env 1)).set 10 v10_3).set 11 (env 2)).set 12 v12_5).set 0 v8_1).set 1 v10_3).set 2 v12_5) h
@[congr] theorem num_Add_r1_congr {env : Env} {h : Hp} {K : Env → Hp → Prop} : num_Add_r1 env h K = num_Add_r1 env h K := rfl

/-- num.go:48 -/
def num_Add_r2 (env : Env) (h : Hp) (K : Env → Hp → Prop) : Prop :=
  rd Try.prog (Builtin.min_ #[3, 3] 3 #[(env 0), (env 2)]) h fun v15_2 =>
  rd Try.prog (Builtin.min_ #[3, 3] 3 #[(env 0), (env 2)]) h fun v20_7 =>
  rd Try.prog (bop Go.BinOp.sub 3 (Go.Operand.tmp 17) (Go.Operand.tmp 20) (env 2) v20_7) noHp fun v21_8 =>
  rd Try.prog (Builtin.min_ #[3, 3] 3 #[(env 1), v21_8]) h fun v22_9 =>
  rd Try.prog (bop Go.BinOp.add 3 (Go.Operand.tmp 15) (Go.Operand.tmp 22) v15_2 v22_9) noHp fun v23_10 =>
  K ((((((((((((env.set 13 (env 0)).set 14 (env 2)).set 15 v15_2).set 16 (env 1)).set 17 (env 2)).set 18 (env 0)).set 19 (env 2)).set 20 v20_7).set 21 v21_8).set 22 v22_9).set 23 v23_10).set 6 v23_10) h
@[congr] theorem num_Add_r2_congr {env : Env} {h : Hp} {K : Env → Hp → Prop} : num_Add_r2 env h K = num_Add_r2 env h K := rfl

def num_Add_D : Den := (sq (rg num_Add_r0) (sq (rg num_Add_r1) (sq (rg num_Add_r2) (ex .ret))))

theorem num_Add_eq : (den Try.prog 24 num_Add_code).1 = num_Add_D := by kernel_rfl

theorem num_Add_ok {args : Array Value} {h : Hp} {Q : Value → Hp → Prop} (hn : args.size ≤ 24) (D : num_Add_D (fin Try.prog [(Go.ResultVar.tmp 6)] Q) (env0 args) h) : Ok Try.prog 41 args h Q :=
  ok_of_den progIsOk Try.func41 (c := num_Add_code) (by kernel_rfl) hn (by show (den Try.prog 24 num_Add_code).1 _ _ _; rw [num_Add_eq]; exact D)

/-! ### slices.SortedFunc[octroi/api.Prefix]: function 42 -/
noncomputable def slices_SortedFunc_api_Prefix_code : Code := match Try.f42.body with | some c => c | none => .skip

/-- iter.go:75 -/
def slices_SortedFunc_api_Prefix_r0 (env : Env) (h : Hp) (K : Env → Hp → Prop) : Prop :=
  K (env.set 4 (Go.Value.slice none 0 0)) h
@[congr] theorem slices_SortedFunc_api_Prefix_r0_congr {env : Env} {h : Hp} {K : Env → Hp → Prop} : slices_SortedFunc_api_Prefix_r0 env h K = slices_SortedFunc_api_Prefix_r0 env h K := rfl

/-- iter.go:76 -/
def slices_SortedFunc_api_Prefix_r1 (env : Env) (h : Hp) (K : Env → Hp → Prop) : Prop :=
  Ok Try.prog 53 #[(env 0)] h fun v7_1 h1 =>
  K (((env.set 6 (env 0)).set 7 v7_1).set 5 v7_1) h1
@[congr] theorem slices_SortedFunc_api_Prefix_r1_congr {env : Env} {h : Hp} {K : Env → Hp → Prop} : slices_SortedFunc_api_Prefix_r1 env h K = slices_SortedFunc_api_Prefix_r1 env h K := rfl

/-- iter.go:77 -/
def slices_SortedFunc_api_Prefix_r2 (env : Env) (h : Hp) (K : Env → Hp → Prop) : Prop :=
  Ok Try.prog 54 #[(env 5), (env 1)] h fun v10_2 h1 =>
  K (((env.set 8 (env 5)).set 9 (env 1)).set 10 v10_2) h1
@[congr] theorem slices_SortedFunc_api_Prefix_r2_congr {env : Env} {h : Hp} {K : Env → Hp → Prop} : slices_SortedFunc_api_Prefix_r2 env h K = slices_SortedFunc_api_Prefix_r2 env h K := rfl

/-- iter.go:78 -/
def slices_SortedFunc_api_Prefix_r3 (env : Env) (h : Hp) (K : Env → Hp → Prop) : Prop :=
  K ((env.set 11 (env 5)).set 4 (env 5)) h
@[congr] theorem slices_SortedFunc_api_Prefix_r3_congr {env : Env} {h : Hp} {K : Env → Hp → Prop} : slices_SortedFunc_api_Prefix_r3 env h K = slices_SortedFunc_api_Prefix_r3 env h K := rfl

def slices_SortedFunc_api_Prefix_D : Den := (sq (rg slices_SortedFunc_api_Prefix_r0) (sq (rg slices_SortedFunc_api_Prefix_r1) (sq (rg slices_SortedFunc_api_Prefix_r2) (sq (rg slices_SortedFunc_api_Prefix_r3) (ex .ret)))))

theorem slices_SortedFunc_api_Prefix_eq : (den Try.prog 12 slices_SortedFunc_api_Prefix_code).1 = slices_SortedFunc_api_Prefix_D := by kernel_rfl

theorem slices_SortedFunc_api_Prefix_ok {args : Array Value} {h : Hp} {Q : Value → Hp → Prop} (hn : args.size ≤ 12) (D : slices_SortedFunc_api_Prefix_D (fin Try.prog [(Go.ResultVar.tmp 4)] Q) (env0 args) h) : Ok Try.prog 42 args h Q :=
  ok_of_den progIsOk Try.func42 (c := slices_SortedFunc_api_Prefix_code) (by kernel_rfl) hn (by show (den Try.prog 12 slices_SortedFunc_api_Prefix_code).1 _ _ _; rw [slices_SortedFunc_api_Prefix_eq]; exact D)

/-! ### maps.Keys[map[octroi/api.Prefix]*octroi/rip.route,octroi/api.Prefix,*octroi/rip.route]: function 43 -/
noncomputable def maps_Keys_map_api_Prefix_rip_route_api_Prefix_rip_route_code : Code := match Try.f43.body with | some c => c | none => .skip

/-- iter.go:25 -/
def maps_Keys_map_api_Prefix_rip_route_api_Prefix_rip_route_r0 (env : Env) (h : Hp) (K : Env → Hp → Prop) : Prop :=
  arun Try.prog (Instr.box 65 (env 0)) h fun v1_0 h1 =>
  K ((env.set 1 v1_0).set 2 Go.Value.nilFunc) h1
@[congr] theorem maps_Keys_map_api_Prefix_rip_route_api_Prefix_rip_route_r0_congr {env : Env} {h : Hp} {K : Env → Hp → Prop} : maps_Keys_map_api_Prefix_rip_route_api_Prefix_rip_route_r0 env h K = maps_Keys_map_api_Prefix_rip_route_api_Prefix_rip_route_r0 env h K := rfl

/-- iter.go:26 -/
def maps_Keys_map_api_Prefix_rip_route_api_Prefix_rip_route_r1 (env : Env) (h : Hp) (K : Env → Hp → Prop) : Prop :=
  rd Try.prog (Instr.makeFunc (Go.Fn.func 55) #[] #[(env 1)]) noHp fun v3_0 =>
  K ((env.set 3 v3_0).set 2 v3_0) h
@[congr] theorem maps_Keys_map_api_Prefix_rip_route_api_Prefix_rip_route_r1_congr {env : Env} {h : Hp} {K : Env → Hp → Prop} : maps_Keys_map_api_Prefix_rip_route_api_Prefix_rip_route_r1 env h K = maps_Keys_map_api_Prefix_rip_route_api_Prefix_rip_route_r1 env h K := rfl

def maps_Keys_map_api_Prefix_rip_route_api_Prefix_rip_route_D : Den := (sq (rg maps_Keys_map_api_Prefix_rip_route_api_Prefix_rip_route_r0) (sq (rg maps_Keys_map_api_Prefix_rip_route_api_Prefix_rip_route_r1) (ex .ret)))

theorem maps_Keys_map_api_Prefix_rip_route_api_Prefix_rip_route_eq : (den Try.prog 4 maps_Keys_map_api_Prefix_rip_route_api_Prefix_rip_route_code).1 = maps_Keys_map_api_Prefix_rip_route_api_Prefix_rip_route_D := by kernel_rfl

theorem maps_Keys_map_api_Prefix_rip_route_api_Prefix_rip_route_ok {args : Array Value} {h : Hp} {Q : Value → Hp → Prop} (hn : args.size ≤ 4) (D : maps_Keys_map_api_Prefix_rip_route_api_Prefix_rip_route_D (fin Try.prog [(Go.ResultVar.tmp 2)] Q) (env0 args) h) : Ok Try.prog 43 args h Q :=
  ok_of_den progIsOk Try.func43 (c := maps_Keys_map_api_Prefix_rip_route_api_Prefix_rip_route_code) (by kernel_rfl) hn (by show (den Try.prog 4 maps_Keys_map_api_Prefix_rip_route_api_Prefix_rip_route_code).1 _ _ _; rw [maps_Keys_map_api_Prefix_rip_route_api_Prefix_rip_route_eq]; exact D)

/-! ### (*octroi/rip.Rip).order$1: function 44 -/
noncomputable def rip_Rip_order_1_code : Code := match Try.f44.body with | some c => c | none => .skip

/-- rip.go:46 -/
def rip_Rip_order_1_r0 (env : Env) (h : Hp) (K : Env → Hp → Prop) : Prop :=
  arun Try.prog (Instr.box 24 (env 0)) h fun v2_0 h1 =>
  arun Try.prog (Instr.box 24 (env 1)) h1 fun v3_1 h2 =>
  K (((env.set 2 v2_0).set 3 v3_1).set 4 (Go.Value.int Go.IntKind.i64 0)) h2
@[congr] theorem rip_Rip_order_1_r0_congr {env : Env} {h : Hp} {K : Env → Hp → Prop} : rip_Rip_order_1_r0 env h K = rip_Rip_order_1_r0 env h K := rfl

/-- rip.go:48 -/
def rip_Rip_order_1_r1 (env : Env) (h : Hp) (K : Env → Hp → Prop) : Prop :=
  rd Try.prog (Instr.loadAt 24 (env 2)) h fun v6_0 =>
  rd Try.prog (Instr.loadAt 24 (env 3)) h fun v7_1 =>
  Ok Try.prog 45 #[v6_0, v7_1] h fun v8_2 h1 =>
  K ((((env.set 6 v6_0).set 7 v7_1).set 8 v8_2).set 5 v8_2) h1
@[congr] theorem rip_Rip_order_1_r1_congr {env : Env} {h : Hp} {K : Env → Hp → Prop} : rip_Rip_order_1_r1 env h K = rip_Rip_order_1_r1 env h K := rfl

/-- rip.go:49 -/
def rip_Rip_order_1_r2 (env : Env) (h : Hp) (K : Env → Hp → Prop) : Prop :=
  K (env.set 4 (Go.Value.int Go.IntKind.i64 (-1))) h
@[congr] theorem rip_Rip_order_1_r2_congr {env : Env} {h : Hp} {K : Env → Hp → Prop} : rip_Rip_order_1_r2 env h K = rip_Rip_order_1_r2 env h K := rfl

/-- rip.go:50 -/
def rip_Rip_order_1_r3 (env : Env) (h : Hp) (K : Env → Hp → Prop) : Prop :=
  rd Try.prog (Instr.loadAt 24 (env 2)) h fun v10_0 =>
  rd Try.prog (Instr.loadAt 24 (env 3)) h fun v11_1 =>
  rd Try.prog (bop Go.BinOp.eql 24 (Go.Operand.tmp 10) (Go.Operand.tmp 11) v10_0 v11_1) noHp fun v12_2 =>
  K ((((env.set 10 v10_0).set 11 v11_1).set 12 v12_2).set 9 v12_2) h
@[congr] theorem rip_Rip_order_1_r3_congr {env : Env} {h : Hp} {K : Env → Hp → Prop} : rip_Rip_order_1_r3 env h K = rip_Rip_order_1_r3 env h K := rfl

/-- rip.go:51 -/
def rip_Rip_order_1_r4 (env : Env) (h : Hp) (K : Env → Hp → Prop) : Prop :=
  K (env.set 4 (Go.Value.int Go.IntKind.i64 0)) h
@[congr] theorem rip_Rip_order_1_r4_congr {env : Env} {h : Hp} {K : Env → Hp → Prop} : rip_Rip_order_1_r4 env h K = rip_Rip_order_1_r4 env h K := rfl

/-- rip.go:53 -/
def rip_Rip_order_1_r5 (env : Env) (h : Hp) (K : Env → Hp → Prop) : Prop :=
  K (env.set 4 (Go.Value.int Go.IntKind.i64 1)) h
@[congr] theorem rip_Rip_order_1_r5_congr {env : Env} {h : Hp} {K : Env → Hp → Prop} : rip_Rip_order_1_r5 env h K = rip_Rip_order_1_r5 env h K := rfl

def rip_Rip_order_1_D : Den := (sq (rg rip_Rip_order_1_r0) (sq (blk 0 (sq (rg rip_Rip_order_1_r1) (cnd (Go.Operand.tmp 5) (sq (rg rip_Rip_order_1_r2) (ex .ret)) (sq (rg rip_Rip_order_1_r3) (cnd (Go.Operand.tmp 9) (sq (rg rip_Rip_order_1_r4) (ex .ret)) (ex .normal)))))) (sq (rg rip_Rip_order_1_r5) (ex .ret))))

theorem rip_Rip_order_1_eq : (den Try.prog 13 rip_Rip_order_1_code).1 = rip_Rip_order_1_D := by kernel_rfl

theorem rip_Rip_order_1_ok {args : Array Value} {h : Hp} {Q : Value → Hp → Prop} (hn : args.size ≤ 13) (D : rip_Rip_order_1_D (fin Try.prog [(Go.ResultVar.tmp 4)] Q) (env0 args) h) : Ok Try.prog 44 args h Q :=
  ok_of_den progIsOk Try.func44 (c := rip_Rip_order_1_code) (by kernel_rfl) hn (by show (den Try.prog 13 rip_Rip_order_1_code).1 _ _ _; rw [rip_Rip_order_1_eq]; exact D)

/-! ### octroi/prefix.Less: function 45 -/
noncomputable def prefix_Less_code : Code := match Try.f45.body with | some c => c | none => .skip

/-- prefix.go:48 -/
def prefix_Less_r0 (env : Env) (h : Hp) (K : Env → Hp → Prop) : Prop :=
  arun Try.prog (Instr.box 24 (env 0)) h fun v2_0 h1 =>
  arun Try.prog (Instr.box 24 (env 1)) h1 fun v3_1 h2 =>
  K (((env.set 2 v2_0).set 3 v3_1).set 4 (Go.Value.bool false)) h2
@[congr] theorem prefix_Less_r0_congr {env : Env} {h : Hp} {K : Env → Hp → Prop} : prefix_Less_r0 env h K = prefix_Less_r0 env h K := rfl

/-- prefix.go:49 -/
def prefix_Less_r1 (env : Env) (h : Hp) (K : Env → Hp → Prop) : Prop :=
  rd Try.prog (Instr.fieldAt 24 (env 2) 0) noHp fun v5_0 =>
  rd Try.prog (Instr.loadAt 22 v5_0) h fun v6_1 =>
  rd Try.prog (Instr.fieldAt 24 (env 3) 0) noHp fun v7_2 =>
  rd Try.prog (Instr.loadAt 22 v7_2) h fun v8_3 =>
  rd Try.prog (bop Go.BinOp.neq 22 (Go.Operand.tmp 6) (Go.Operand.tmp 8) v6_1 v8_3) noHp fun v9_4 =>
  K (((((env.set 5 v5_0).set 6 v6_1).set 7 v7_2).set 8 v8_3).set 9 v9_4) h
@[congr] theorem prefix_Less_r1_congr {env : Env} {h : Hp} {K : Env → Hp → Prop} : prefix_Less_r1 env h K = prefix_Less_r1 env h K := rfl

/-- prefix.go:50 -/
def prefix_Less_r2 (env : Env) (h : Hp) (K : Env → Hp → Prop) : Prop :=
  rd Try.prog (Instr.fieldAt 24 (env 2) 0) noHp fun v10_0 =>
  rd Try.prog (Instr.loadAt 22 v10_0) h fun v11_1 =>
  rd Try.prog (Instr.fieldAt 24 (env 3) 0) noHp fun v12_2 =>
  rd Try.prog (Instr.loadAt 22 v12_2) h fun v13_3 =>
  rd Try.prog (bop Go.BinOp.lss 22 (Go.Operand.tmp 11) (Go.Operand.tmp 13) v11_1 v13_3) noHp fun v14_4 =>
  K ((((((env.set 10 v10_0).set 11 v11_1).set 12 v12_2).set 13 v13_3).set 14 v14_4).set 4 v14_4) h
@[congr] theorem prefix_Less_r2_congr {env : Env} {h : Hp} {K : Env → Hp → Prop} : prefix_Less_r2 env h K = prefix_Less_r2 env h K := rfl

/-- prefix.go:52 -/
def prefix_Less_r3 (env : Env) (h : Hp) (K : Env → Hp → Prop) : Prop :=
  rd Try.prog (Instr.fieldAt 24 (env 2) 1) noHp fun v15_0 =>
  rd Try.prog (Instr.loadAt 3 v15_0) h fun v16_1 =>
  rd Try.prog (Instr.fieldAt 24 (env 3) 1) noHp fun v17_2 =>
  rd Try.prog (Instr.loadAt 3 v17_2) h fun v18_3 =>
  rd Try.prog (bop Go.BinOp.lss 3 (Go.Operand.tmp 16) (Go.Operand.tmp 18) v16_1 v18_3) noHp fun v19_4 =>
  K ((((((env.set 15 v15_0).set 16 v16_1).set 17 v17_2).set 18 v18_3).set 19 v19_4).set 4 v19_4) h
@[congr] theorem prefix_Less_r3_congr {env : Env} {h : Hp} {K : Env → Hp → Prop} : prefix_Less_r3 env h K = prefix_Less_r3 env h K := rfl

def prefix_Less_D : Den := (sq (rg prefix_Less_r0) (sq (sq (rg prefix_Less_r1) (cnd (Go.Operand.tmp 9) (sq (rg prefix_Less_r2) (ex .ret)) (ex .normal))) (sq (rg prefix_Less_r3) (ex .ret))))

theorem prefix_Less_eq : (den Try.prog 20 prefix_Less_code).1 = prefix_Less_D := by kernel_rfl

theorem prefix_Less_ok {args : Array Value} {h : Hp} {Q : Value → Hp → Prop} (hn : args.size ≤ 20) (D : prefix_Less_D (fin Try.prog [(Go.ResultVar.tmp 4)] Q) (env0 args) h) : Ok Try.prog 45 args h Q :=
  ok_of_den progIsOk Try.func45 (c := prefix_Less_code) (by kernel_rfl) hn (by show (den Try.prog 20 prefix_Less_code).1 _ _ _; rw [prefix_Less_eq]; exact D)

/-! ### octroi/octroiref02.May: function 46 -/
noncomputable def octroiref02_May_code : Code := match Try.f46.body with | some c => c | none => .skip

/-- ref.go:36 -/
def octroiref02_May_r0 (env : Env) (h : Hp) (K : Env → Hp → Prop) : Prop :=
  arun Try.prog (Instr.box 24 (env 0)) h fun v1_0 h1 =>
  K ((env.set 1 v1_0).set 2 (Go.Value.bool false)) h1
@[congr] theorem octroiref02_May_r0_congr {env : Env} {h : Hp} {K : Env → Hp → Prop} : octroiref02_May_r0 env h K = octroiref02_May_r0 env h K := rfl

/-- ref.go:37 (in any order) -/
def octroiref02_May_r1 (env : Env) (h : Hp) (K : Env → Hp → Prop) : Prop :=
  rd Try.prog (Instr.fieldAt 24 (env 1) 1) noHp fun v3_0 =>
  rd Try.prog (Instr.loadAt 3 v3_0) h fun v4_1 =>
  rd Try.prog (bop Go.BinOp.geq 3 (Go.Operand.tmp 4) (Go.Operand.const (Go.Value.int Go.IntKind.i64 0)) v4_1 (Go.Value.int Go.IntKind.i64 0)) noHp fun v5_2 =>
  gd (yb v5_2 == some true) (fun h k => rd Try.prog (Instr.fieldAt 24 (env 1) 1) noHp fun v => k v h) h fun v7_4 h1 =>
  gd (yb v5_2 == some true) (fun h k => rd Try.prog (Instr.loadAt 3 v7_4) h fun v => k v h) h1 fun v8_5 h2 =>
  gd (yb v5_2 == some true) (fun h k => rd Try.prog (bop Go.BinOp.leq 3 (Go.Operand.tmp 8) (Go.Operand.const (Go.Value.int Go.IntKind.i64 32)) v8_5 (Go.Value.int Go.IntKind.i64 32)) noHp fun v => k v h) h2 fun v9_6 h3 =>
  rd Try.prog (pck v5_2 v9_6 (Go.Value.bool false)) noHp fun v10_7 =>
  gd (yb v10_7 == some true) (fun h k => rd Try.prog (Instr.fieldAt 24 (env 1) 0) noHp fun v => k v h) h3 fun v12_9 h4 =>
  gd (yb v10_7 == some true) (fun h k => rd Try.prog (Instr.loadAt 22 v12_9) h fun v => k v h) h4 fun v13_10 h5 =>
  gd (yb v10_7 == some true) (fun h k => rd Try.prog (Instr.fieldAt 24 (env 1) 1) noHp fun v => k v h) h5 fun v14_11 h6 =>
  gd (yb v10_7 == some true) (fun h k => rd Try.prog (Instr.loadAt 3 v14_11) h fun v => k v h) h6 fun v15_12 h7 =>
  gd (yb v10_7 == some true) (fun h k => rd Try.prog (Instr.fieldAt 24 (env 1) 0) noHp fun v => k v h) h7 fun v18_13 h8 =>
  gd (yb v10_7 == some true) (fun h k => rd Try.prog (Instr.loadAt 22 v18_13) h fun v => k v h) h8 fun v19_14 h9 =>
  gd (yb v10_7 == some true) (fun h k => Ok Try.prog 56 #[v15_12] h k) h9 fun v16_15 h10 =>
  (((yb v10_7 == some true) = true → rrun Try.prog (Instr.loadAt 22 v18_13) h10 = some v19_14) ∧ ((yb v10_7 == some true) = true → rrun Try.prog (Instr.loadAt 22 v12_9) h10 = some v13_10) ∧ True) ∧
  gd (yb v10_7 == some true) (fun h k => rd Try.prog (bop Go.BinOp.and 22 (Go.Operand.tmp 13) (Go.Operand.tmp 16) v13_10 v16_15) noHp fun v => k v h) h10 fun v17_16 h11 =>
  gd (yb v10_7 == some true) (fun h k => rd Try.prog (bop Go.BinOp.eql 22 (Go.Operand.tmp 17) (Go.Operand.tmp 19) v17_16 v19_14) noHp fun v => k v h) h11 fun v20_17 h12 =>
  rd Try.prog (pck v10_7 v20_17 (Go.Value.bool false)) noHp fun v21_18 =>
  K ((((((((((((((((((((env.set 3 v3_0).set 4 v4_1).set 5 v5_2).set 6 v5_2).set 7 v7_4).set 8 v8_5).set 9 v9_6).set 10 v10_7).set 11 v10_7).set 12 v12_9).set 13 v13_10).set 14 v14_11).set 15 v15_12).set 18 v18_13).set 19 v19_14).set 16 v16_15).set 17 v17_16).set 20 v20_17).set 21 v21_18).set 2 v21_18) h12
@[congr] theorem octroiref02_May_r1_congr {env : Env} {h : Hp} {K : Env → Hp → Prop} : octroiref02_May_r1 env h K = octroiref02_May_r1 env h K := rfl

def octroiref02_May_D : Den := (sq (rg octroiref02_May_r0) (sq (rg octroiref02_May_r1) (ex .ret)))

theorem octroiref02_May_eq : (den Try.prog 22 octroiref02_May_code).1 = octroiref02_May_D := by kernel_rfl

theorem octroiref02_May_ok {args : Array Value} {h : Hp} {Q : Value → Hp → Prop} (hn : args.size ≤ 22) (D : octroiref02_May_D (fin Try.prog [(Go.ResultVar.tmp 2)] Q) (env0 args) h) : Ok Try.prog 46 args h Q :=
  ok_of_den progIsOk Try.func46 (c := octroiref02_May_code) (by kernel_rfl) hn (by show (den Try.prog 22 octroiref02_May_code).1 _ _ _; rw [octroiref02_May_eq]; exact D)

/-! ### octroi/octroiref03.Has: function 47 -/
noncomputable def octroiref03_Has_code : Code := match Try.f47.body with | some c => c | none => .skip

/-- ref.go:19 -/
def octroiref03_Has_r0 (env : Env) (h : Hp) (K : Env → Hp → Prop) : Prop :=
  K (env.set 4 (Go.Value.bool false)) h
@[congr] theorem octroiref03_Has_r0_congr {env : Env} {h : Hp} {K : Env → Hp → Prop} : octroiref03_Has_r0 env h K = octroiref03_Has_r0 env h K := rfl

/-- ref.go:20 -/
def octroiref03_Has_r1 (env : Env) (h : Hp) (K : Env → Hp → Prop) : Prop :=
  Ok Try.prog 57 #[(env 1)] h fun v7_1 h1 =>
  K (((env.set 6 (env 1)).set 7 v7_1).set 5 v7_1) h1
@[congr] theorem octroiref03_Has_r1_congr {env : Env} {h : Hp} {K : Env → Hp → Prop} : octroiref03_Has_r1 env h K = octroiref03_Has_r1 env h K := rfl

/-- ref.go:21 -/
def octroiref03_Has_r2 (env : Env) (h : Hp) (K : Env → Hp → Prop) : Prop :=
  gd (yb (env 5) == some true) (fun h k => k (env 0) h) h fun v10_2 h1 =>
  gd (yb (env 5) == some true) (fun h k => rd Try.prog (convert 31 3 v10_2) noHp fun v => k v h) h1 fun v11_3 h2 =>
  gd (yb (env 5) == some true) (fun h k => k (env 1) h) h2 fun v12_4 h3 =>
  gd (yb (env 5) == some true) (fun h k => Ok Try.prog 58 #[v12_4] h k) h3 fun v13_5 h4 =>
  gd (yb (env 5) == some true) (fun h k => rd Try.prog (bop Go.BinOp.quo 3 (Go.Operand.tmp 11) (Go.Operand.tmp 13) v11_3 v13_5) noHp fun v => k v h) h4 fun v14_6 h5 =>
  gd (yb (env 5) == some true) (fun h k => rd Try.prog (bop Go.BinOp.rem 3 (Go.Operand.tmp 14) (Go.Operand.const (Go.Value.int Go.IntKind.i64 2)) v14_6 (Go.Value.int Go.IntKind.i64 2)) noHp fun v => k v h) h5 fun v15_7 h6 =>
  gd (yb (env 5) == some true) (fun h k => rd Try.prog (bop Go.BinOp.eql 3 (Go.Operand.tmp 15) (Go.Operand.const (Go.Value.int Go.IntKind.i64 1)) v15_7 (Go.Value.int Go.IntKind.i64 1)) noHp fun v => k v h) h6 fun v16_8 h7 =>
  rd Try.prog (pck (env 5) v16_8 (Go.Value.bool false)) noHp fun v17_9 =>
  K (((((((((((env.set 8 (env 5)).set 9 (env 5)).set 10 v10_2).set 11 v11_3).set 12 v12_4).set 13 v13_5).set 14 v14_6).set 15 v15_7).set 16 v16_8).set 17 v17_9).set 4 v17_9) h7
@[congr] theorem octroiref03_Has_r2_congr {env : Env} {h : Hp} {K : Env → Hp → Prop} : octroiref03_Has_r2 env h K = octroiref03_Has_r2 env h K := rfl

def octroiref03_Has_D : Den := (sq (rg octroiref03_Has_r0) (sq (rg octroiref03_Has_r1) (sq (rg octroiref03_Has_r2) (ex .ret))))

theorem octroiref03_Has_eq : (den Try.prog 18 octroiref03_Has_code).1 = octroiref03_Has_D := by kernel_rfl

theorem octroiref03_Has_ok {args : Array Value} {h : Hp} {Q : Value → Hp → Prop} (hn : args.size ≤ 18) (D : octroiref03_Has_D (fin Try.prog [(Go.ResultVar.tmp 4)] Q) (env0 args) h) : Ok Try.prog 47 args h Q :=
  ok_of_den progIsOk Try.func47 (c := octroiref03_Has_code) (by kernel_rfl) hn (by show (den Try.prog 18 octroiref03_Has_code).1 _ _ _; rw [octroiref03_Has_eq]; exact D)

/-! ### (*octroi/octroiref16.Rip).at: function 48 -/
noncomputable def octroiref16_Rip_at_code : Code := match Try.f48.body with | some c => c | none => .skip

/-- ref.go:36 -/
def octroiref16_Rip_at_r0 (env : Env) (h : Hp) (K : Env → Hp → Prop) : Prop :=
  arun Try.prog (Instr.box 24 (env 1)) h fun v3_0 h1 =>
  K ((env.set 3 v3_0).set 4 (Go.Value.int Go.IntKind.i64 0)) h1
@[congr] theorem octroiref16_Rip_at_r0_congr {env : Env} {h : Hp} {K : Env → Hp → Prop} : octroiref16_Rip_at_r0 env h K = octroiref16_Rip_at_r0 env h K := rfl

/-- ref.go:37 -/
def octroiref16_Rip_at_r1 (env : Env) (h : Hp) (K : Env → Hp → Prop) : Prop :=
  K (env.set 5 (Go.Value.int Go.IntKind.i64 0)) h
@[congr] theorem octroiref16_Rip_at_r1_congr {env : Env} {h : Hp} {K : Env → Hp → Prop} : octroiref16_Rip_at_r1 env h K = octroiref16_Rip_at_r1 env h K := rfl

/-- ref.go:37 -/
def octroiref16_Rip_at_r2 (env : Env) (h : Hp) (K : Env → Hp → Prop) : Prop :=
  nck (env 0) (
  rd Try.prog (Instr.fieldAt 56 (env 0) 2) noHp fun v9_3 =>
  rd Try.prog (Instr.loadAt 54 v9_3) h fun v10_4 =>
  rd Try.prog (Builtin.len_ #[54] 3 #[v10_4]) h fun v11_5 =>
  rd Try.prog (bop Go.BinOp.lss 3 (Go.Operand.tmp 6) (Go.Operand.tmp 11) (env 5) v11_5) noHp fun v12_6 =>
  K (((((((env.set 6 (env 5)).set 7 (env 0)).set 8 (env 0)).set 9 v9_3).set 10 v10_4).set 11 v11_5).set 12 v12_6) h)
@[congr] theorem octroiref16_Rip_at_r2_congr {env : Env} {h : Hp} {K : Env → Hp → Prop} : octroiref16_Rip_at_r2 env h K = octroiref16_Rip_at_r2 env h K := rfl

/-- ref.go:38 (in any order) -/
def octroiref16_Rip_at_r3 (env : Env) (h : Hp) (K : Env → Hp → Prop) : Prop :=
  nck (env 0) (
  rd Try.prog (Instr.fieldAt 56 (env 0) 2) noHp fun v17_2 =>
  rd Try.prog (Instr.loadAt 54 v17_2) h fun v18_3 =>
  rd Try.prog (Instr.indexAt 54 v18_3 (env 5)) noHp fun v20_5 =>
  rd Try.prog (Instr.fieldAt 78 v20_5 0) noHp fun v21_6 =>
  rd Try.prog (Instr.loadAt 24 v21_6) h fun v22_7 =>
  rd Try.prog (Instr.loadAt 24 (env 3)) h fun v23_8 =>
  rd Try.prog (bop Go.BinOp.eql 24 (Go.Operand.tmp 22) (Go.Operand.tmp 23) v22_7 v23_8) noHp fun v24_9 =>
  K ((((((((((env.set 15 (env 0)).set 16 (env 0)).set 17 v17_2).set 18 v18_3).set 19 (env 5)).set 20 v20_5).set 21 v21_6).set 22 v22_7).set 23 v23_8).set 24 v24_9) h)
@[congr] theorem octroiref16_Rip_at_r3_congr {env : Env} {h : Hp} {K : Env → Hp → Prop} : octroiref16_Rip_at_r3 env h K = octroiref16_Rip_at_r3 env h K := rfl

/-- ref.go:39 -/
def octroiref16_Rip_at_r4 (env : Env) (h : Hp) (K : Env → Hp → Prop) : Prop :=
  K ((env.set 25 (env 5)).set 4 (env 5)) h
@[congr] theorem octroiref16_Rip_at_r4_congr {env : Env} {h : Hp} {K : Env → Hp → Prop} : octroiref16_Rip_at_r4 env h K = octroiref16_Rip_at_r4 env h K := rfl

/-- ref.go:37 -/
def octroiref16_Rip_at_r5 (env : Env) (h : Hp) (K : Env → Hp → Prop) : Prop :=
  rd Try.prog (bop Go.BinOp.add 3 (Go.Operand.tmp 13) (Go.Operand.const (Go.Value.int Go.IntKind.i64 1)) (env 5) (Go.Value.int Go.IntKind.i64 1)) noHp fun v14_1 =>
  K (((env.set 13 (env 5)).set 14 v14_1).set 5 v14_1) h
@[congr] theorem octroiref16_Rip_at_r5_congr {env : Env} {h : Hp} {K : Env → Hp → Prop} : octroiref16_Rip_at_r5 env h K = octroiref16_Rip_at_r5 env h K := rfl

def octroiref16_Rip_at_L0 : Den := (sq (sq (rg octroiref16_Rip_at_r2) (cnd (Go.Operand.tmp 12) (ex .normal) (ex (.exit 0)))) (sq (blk 1 (sq (rg octroiref16_Rip_at_r3) (cnd (Go.Operand.tmp 24) (sq (rg octroiref16_Rip_at_r4) (ex .ret)) (ex .normal)))) (rg octroiref16_Rip_at_r5)))

/-- ref.go:42 -/
def octroiref16_Rip_at_r6 (env : Env) (h : Hp) (K : Env → Hp → Prop) : Prop :=
  K (env.set 4 (Go.Value.int Go.IntKind.i64 (-1))) h
@[congr] theorem octroiref16_Rip_at_r6_congr {env : Env} {h : Hp} {K : Env → Hp → Prop} : octroiref16_Rip_at_r6 env h K = octroiref16_Rip_at_r6 env h K := rfl

def octroiref16_Rip_at_D : Den := (sq (rg octroiref16_Rip_at_r0) (sq (sq (rg octroiref16_Rip_at_r1) (blk 0 (lp octroiref16_Rip_at_L0))) (sq (rg octroiref16_Rip_at_r6) (ex .ret))))

theorem octroiref16_Rip_at_eq : (den Try.prog 26 octroiref16_Rip_at_code).1 = octroiref16_Rip_at_D := by kernel_rfl

theorem octroiref16_Rip_at_ok {args : Array Value} {h : Hp} {Q : Value → Hp → Prop} (hn : args.size ≤ 26) (D : octroiref16_Rip_at_D (fin Try.prog [(Go.ResultVar.tmp 4)] Q) (env0 args) h) : Ok Try.prog 48 args h Q :=
  ok_of_den progIsOk Try.func48 (c := octroiref16_Rip_at_code) (by kernel_rfl) hn (by show (den Try.prog 26 octroiref16_Rip_at_code).1 _ _ _; rw [octroiref16_Rip_at_eq]; exact D)

/-! ### (*octroi/octroiref16.Rip).put: function 49 -/
noncomputable def octroiref16_Rip_put_code : Code := match Try.f49.body with | some c => c | none => .skip

/-- ref.go:46 -/
def octroiref16_Rip_put_r0 (env : Env) (h : Hp) (K : Env → Hp → Prop) : Prop :=
  arun Try.prog (Instr.box 78 (env 1)) h fun v3_0 h1 =>
  K (env.set 3 v3_0) h1
@[congr] theorem octroiref16_Rip_put_r0_congr {env : Env} {h : Hp} {K : Env → Hp → Prop} : octroiref16_Rip_put_r0 env h K = octroiref16_Rip_put_r0 env h K := rfl

/-- ref.go:47 -/
def octroiref16_Rip_put_r1 (env : Env) (h : Hp) (K : Env → Hp → Prop) : Prop :=
  K (env.set 4 (Go.Value.slice none 0 0)) h
@[congr] theorem octroiref16_Rip_put_r1_congr {env : Env} {h : Hp} {K : Env → Hp → Prop} : octroiref16_Rip_put_r1 env h K = octroiref16_Rip_put_r1 env h K := rfl

/-- ref.go:48 -/
def octroiref16_Rip_put_r2 (env : Env) (h : Hp) (K : Env → Hp → Prop) : Prop :=
  K (env.set 5 (Go.Value.bool false)) h
@[congr] theorem octroiref16_Rip_put_r2_congr {env : Env} {h : Hp} {K : Env → Hp → Prop} : octroiref16_Rip_put_r2 env h K = octroiref16_Rip_put_r2 env h K := rfl

/-- ref.go:49 -/
def octroiref16_Rip_put_r3 (env : Env) (h : Hp) (K : Env → Hp → Prop) : Prop :=
  K (env.set 6 (Go.Value.int Go.IntKind.i64 0)) h
@[congr] theorem octroiref16_Rip_put_r3_congr {env : Env} {h : Hp} {K : Env → Hp → Prop} : octroiref16_Rip_put_r3 env h K = octroiref16_Rip_put_r3 env h K := rfl

/-- ref.go:49 -/
def octroiref16_Rip_put_r4 (env : Env) (h : Hp) (K : Env → Hp → Prop) : Prop :=
  nck (env 0) (
  rd Try.prog (Instr.fieldAt 56 (env 0) 2) noHp fun v11_3 =>
  rd Try.prog (Instr.loadAt 54 v11_3) h fun v12_4 =>
  rd Try.prog (Builtin.len_ #[54] 3 #[v12_4]) h fun v13_5 =>
  rd Try.prog (bop Go.BinOp.lss 3 (Go.Operand.tmp 8) (Go.Operand.tmp 13) (env 6) v13_5) noHp fun v14_6 =>
  K (((((((env.set 8 (env 6)).set 9 (env 0)).set 10 (env 0)).set 11 v11_3).set 12 v12_4).set 13 v13_5).set 14 v14_6) h)
@[congr] theorem octroiref16_Rip_put_r4_congr {env : Env} {h : Hp} {K : Env → Hp → Prop} : octroiref16_Rip_put_r4 env h K = octroiref16_Rip_put_r4 env h K := rfl

/-- ref.go:50 (in any order) -/
def octroiref16_Rip_put_r5 (env : Env) (h : Hp) (K : Env → Hp → Prop) : Prop :=
  rd Try.prog (Instr.fieldAt 78 (env 3) 0) noHp fun v17_0 =>
  rd Try.prog (Instr.loadAt 24 v17_0) h fun v18_1 =>
  nck (env 0) (
  rd Try.prog (Instr.fieldAt 56 (env 0) 2) noHp fun v21_4 =>
  rd Try.prog (Instr.loadAt 54 v21_4) h fun v22_5 =>
  rd Try.prog (Instr.indexAt 54 v22_5 (env 6)) noHp fun v24_7 =>
  rd Try.prog (Instr.fieldAt 78 v24_7 0) noHp fun v25_8 =>
  rd Try.prog (Instr.loadAt 24 v25_8) h fun v26_9 =>
  Ok Try.prog 59 #[v18_1, v26_9] h fun v27_10 h1 =>
  (True) ∧
  K ((((((((((((env.set 17 v17_0).set 18 v18_1).set 19 (env 0)).set 20 (env 0)).set 21 v21_4).set 22 v22_5).set 23 (env 6)).set 24 v24_7).set 25 v25_8).set 26 v26_9).set 27 v27_10).set 7 v27_10) h1)
@[congr] theorem octroiref16_Rip_put_r5_congr {env : Env} {h : Hp} {K : Env → Hp → Prop} : octroiref16_Rip_put_r5 env h K = octroiref16_Rip_put_r5 env h K := rfl

/-- ref.go:51 -/
def octroiref16_Rip_put_r6 (env : Env) (h : Hp) (K : Env → Hp → Prop) : Prop :=
  rd Try.prog (Op.unary Go.UnOp.not (env 5)) noHp fun v29_1 =>
  gd (yb v29_1 == some true) (fun h k => k (env 7) h) h fun v31_3 h1 =>
  rd Try.prog (pck v29_1 v31_3 (Go.Value.bool false)) noHp fun v32_4 =>
  K (((((env.set 28 (env 5)).set 29 v29_1).set 30 v29_1).set 31 v31_3).set 32 v32_4) h1
@[congr] theorem octroiref16_Rip_put_r6_congr {env : Env} {h : Hp} {K : Env → Hp → Prop} : octroiref16_Rip_put_r6 env h K = octroiref16_Rip_put_r6 env h K := rfl

/-- ref.go:52 -/
def octroiref16_Rip_put_r7 (env : Env) (h : Hp) (K : Env → Hp → Prop) : Prop :=
  rd Try.prog (Instr.loadAt 78 (env 3)) h fun v34_1 =>
  arun Try.prog (Instr.buildSlice 54 1 #[(0, v34_1)]) h fun v35_2 h1 =>
  arun Try.prog (Builtin.append_ #[54, 54] 54 #[(env 4), v35_2]) h1 fun v36_3 h2 =>
  K (((((env.set 33 (env 4)).set 34 v34_1).set 35 v35_2).set 36 v36_3).set 4 v36_3) h2
@[congr] theorem octroiref16_Rip_put_r7_congr {env : Env} {h : Hp} {K : Env → Hp → Prop} : octroiref16_Rip_put_r7 env h K = octroiref16_Rip_put_r7 env h K := rfl

/-- ref.go:53 -/
def octroiref16_Rip_put_r8 (env : Env) (h : Hp) (K : Env → Hp → Prop) : Prop :=
  K (env.set 5 (Go.Value.bool true)) h
@[congr] theorem octroiref16_Rip_put_r8_congr {env : Env} {h : Hp} {K : Env → Hp → Prop} : octroiref16_Rip_put_r8 env h K = octroiref16_Rip_put_r8 env h K := rfl

/-- ref.go:55 -/
def octroiref16_Rip_put_r9 (env : Env) (h : Hp) (K : Env → Hp → Prop) : Prop :=
  nck (env 0) (
  rd Try.prog (Instr.fieldAt 56 (env 0) 2) noHp fun v40_3 =>
  rd Try.prog (Instr.loadAt 54 v40_3) h fun v41_4 =>
  rd Try.prog (Instr.indexAt 54 v41_4 (env 6)) noHp fun v43_6 =>
  rd Try.prog (Instr.loadAt 78 v43_6) h fun v44_7 =>
  arun Try.prog (Instr.buildSlice 54 1 #[(0, v44_7)]) h fun v45_8 h1 =>
  arun Try.prog (Builtin.append_ #[54, 54] 54 #[(env 4), v45_8]) h1 fun v46_9 h2 =>
  K (((((((((((env.set 37 (env 4)).set 38 (env 0)).set 39 (env 0)).set 40 v40_3).set 41 v41_4).set 42 (env 6)).set 43 v43_6).set 44 v44_7).set 45 v45_8).set 46 v46_9).set 4 v46_9) h2)
@[congr] theorem octroiref16_Rip_put_r9_congr {env : Env} {h : Hp} {K : Env → Hp → Prop} : octroiref16_Rip_put_r9 env h K = octroiref16_Rip_put_r9 env h K := rfl

/-- ref.go:49 -/
def octroiref16_Rip_put_r10 (env : Env) (h : Hp) (K : Env → Hp → Prop) : Prop :=
  rd Try.prog (bop Go.BinOp.add 3 (Go.Operand.tmp 15) (Go.Operand.const (Go.Value.int Go.IntKind.i64 1)) (env 6) (Go.Value.int Go.IntKind.i64 1)) noHp fun v16_1 =>
  K (((env.set 15 (env 6)).set 16 v16_1).set 6 v16_1) h
@[congr] theorem octroiref16_Rip_put_r10_congr {env : Env} {h : Hp} {K : Env → Hp → Prop} : octroiref16_Rip_put_r10 env h K = octroiref16_Rip_put_r10 env h K := rfl

def octroiref16_Rip_put_L0 : Den := (sq (sq (rg octroiref16_Rip_put_r4) (cnd (Go.Operand.tmp 14) (ex .normal) (ex (.exit 0)))) (sq (blk 1 (sq (rg octroiref16_Rip_put_r5) (sq (sq (rg octroiref16_Rip_put_r6) (cnd (Go.Operand.tmp 32) (sq (rg octroiref16_Rip_put_r7) (rg octroiref16_Rip_put_r8)) (ex .normal))) (rg octroiref16_Rip_put_r9)))) (rg octroiref16_Rip_put_r10)))

/-- ref.go:57 -/
def octroiref16_Rip_put_r11 (env : Env) (h : Hp) (K : Env → Hp → Prop) : Prop :=
  rd Try.prog (Op.unary Go.UnOp.not (env 5)) noHp fun v48_1 =>
  K ((env.set 47 (env 5)).set 48 v48_1) h
@[congr] theorem octroiref16_Rip_put_r11_congr {env : Env} {h : Hp} {K : Env → Hp → Prop} : octroiref16_Rip_put_r11 env h K = octroiref16_Rip_put_r11 env h K := rfl

/-- ref.go:58 -/
def octroiref16_Rip_put_r12 (env : Env) (h : Hp) (K : Env → Hp → Prop) : Prop :=
  rd Try.prog (Instr.loadAt 78 (env 3)) h fun v50_1 =>
  arun Try.prog (Instr.buildSlice 54 1 #[(0, v50_1)]) h fun v51_2 h1 =>
  arun Try.prog (Builtin.append_ #[54, 54] 54 #[(env 4), v51_2]) h1 fun v52_3 h2 =>
  K (((((env.set 49 (env 4)).set 50 v50_1).set 51 v51_2).set 52 v52_3).set 4 v52_3) h2
@[congr] theorem octroiref16_Rip_put_r12_congr {env : Env} {h : Hp} {K : Env → Hp → Prop} : octroiref16_Rip_put_r12 env h K = octroiref16_Rip_put_r12 env h K := rfl

/-- ref.go:60 -/
def octroiref16_Rip_put_r13 (env : Env) (h : Hp) (K : Env → Hp → Prop) : Prop :=
  nck (env 0) (
  rd Try.prog (Instr.fieldAt 56 (env 0) 2) noHp fun v56_3 =>
  arun Try.prog (Instr.storeAt 54 v56_3 (env 4)) h fun _ h1 =>
  K ((((env.set 53 (env 0)).set 54 (env 4)).set 55 (env 0)).set 56 v56_3) h1)
@[congr] theorem octroiref16_Rip_put_r13_congr {env : Env} {h : Hp} {K : Env → Hp → Prop} : octroiref16_Rip_put_r13 env h K = octroiref16_Rip_put_r13 env h K := rfl

def octroiref16_Rip_put_D : Den := (sq (rg octroiref16_Rip_put_r0) (sq (rg octroiref16_Rip_put_r1) (sq (rg octroiref16_Rip_put_r2) (sq (sq (rg octroiref16_Rip_put_r3) (blk 0 (lp octroiref16_Rip_put_L0))) (sq (sq (rg octroiref16_Rip_put_r11) (cnd (Go.Operand.tmp 48) (rg octroiref16_Rip_put_r12) (ex .normal))) (rg octroiref16_Rip_put_r13))))))

theorem octroiref16_Rip_put_eq : (den Try.prog 57 octroiref16_Rip_put_code).1 = octroiref16_Rip_put_D := by kernel_rfl

theorem octroiref16_Rip_put_ok {args : Array Value} {h : Hp} {Q : Value → Hp → Prop} (hn : args.size ≤ 57) (D : octroiref16_Rip_put_D (fin Try.prog [] Q) (env0 args) h) : Ok Try.prog 49 args h Q :=
  ok_of_den progIsOk Try.func49 (c := octroiref16_Rip_put_code) (by kernel_rfl) hn (by show (den Try.prog 57 octroiref16_Rip_put_code).1 _ _ _; rw [octroiref16_Rip_put_eq]; exact D)

/-! ### (*octroi/octroiref16.Rip).garbage: function 50 -/
noncomputable def octroiref16_Rip_garbage_code : Code := match Try.f50.body with | some c => c | none => .skip

/-- ref.go:100 -/
def octroiref16_Rip_garbage_r0 (env : Env) (h : Hp) (K : Env → Hp → Prop) : Prop :=
  nck (env 0) (
  rd Try.prog (Instr.fieldAt 56 (env 0) 2) noHp fun v8_2 =>
  rd Try.prog (Instr.loadAt 54 v8_2) h fun v9_3 =>
  rd Try.prog (Instr.indexAt 54 v9_3 (env 1)) noHp fun v11_5 =>
  rd Try.prog (Instr.fieldAt 78 v11_5 1) noHp fun v12_6 =>
  arun Try.prog (Instr.storeAt 3 v12_6 (Go.Value.int Go.IntKind.i64 16)) h fun _ h1 =>
  K (((((((env.set 6 (env 0)).set 7 (env 0)).set 8 v8_2).set 9 v9_3).set 10 (env 1)).set 11 v11_5).set 12 v12_6) h1)
@[congr] theorem octroiref16_Rip_garbage_r0_congr {env : Env} {h : Hp} {K : Env → Hp → Prop} : octroiref16_Rip_garbage_r0 env h K = octroiref16_Rip_garbage_r0 env h K := rfl

/-- ref.go:101 -/
def octroiref16_Rip_garbage_r1 (env : Env) (h : Hp) (K : Env → Hp → Prop) : Prop :=
  nck (env 0) (
  rd Try.prog (Instr.fieldAt 56 (env 0) 2) noHp fun v15_2 =>
  rd Try.prog (Instr.loadAt 54 v15_2) h fun v16_3 =>
  rd Try.prog (bop Go.BinOp.add 3 (Go.Operand.tmp 18) (Go.Operand.const (Go.Value.int Go.IntKind.i64 120)) (env 2) (Go.Value.int Go.IntKind.i64 120)) noHp fun v19_6 =>
  rd Try.prog (Instr.indexAt 54 v16_3 (env 1)) noHp fun v20_7 =>
  rd Try.prog (Instr.fieldAt 78 v20_7 4) noHp fun v21_8 =>
  arun Try.prog (Instr.storeAt 3 v21_8 v19_6) h fun _ h1 =>
  K (((((((((env.set 13 (env 0)).set 14 (env 0)).set 15 v15_2).set 16 v16_3).set 17 (env 1)).set 18 (env 2)).set 19 v19_6).set 20 v20_7).set 21 v21_8) h1)
@[congr] theorem octroiref16_Rip_garbage_r1_congr {env : Env} {h : Hp} {K : Env → Hp → Prop} : octroiref16_Rip_garbage_r1 env h K = octroiref16_Rip_garbage_r1 env h K := rfl

def octroiref16_Rip_garbage_D : Den := (sq (rg octroiref16_Rip_garbage_r0) (rg octroiref16_Rip_garbage_r1))

theorem octroiref16_Rip_garbage_eq : (den Try.prog 22 octroiref16_Rip_garbage_code).1 = octroiref16_Rip_garbage_D := by kernel_rfl

theorem octroiref16_Rip_garbage_ok {args : Array Value} {h : Hp} {Q : Value → Hp → Prop} (hn : args.size ≤ 22) (D : octroiref16_Rip_garbage_D (fin Try.prog [] Q) (env0 args) h) : Ok Try.prog 50 args h Q :=
  ok_of_den progIsOk Try.func50 (c := octroiref16_Rip_garbage_code) (by kernel_rfl) hn (by show (den Try.prog 22 octroiref16_Rip_garbage_code).1 _ _ _; rw [octroiref16_Rip_garbage_eq]; exact D)

/-! ### octroi/octroiref01.Add: function 51 -/
noncomputable def octroiref01_Add_code : Code := match Try.f51.body with | some c => c | none => .skip

/-- ref.go:27 -/
def octroiref01_Add_r0 (env : Env) (h : Hp) (K : Env → Hp → Prop) : Prop :=
  K (env.set 6 (Go.Value.int Go.IntKind.i64 0)) h
@[congr] theorem octroiref01_Add_r0_congr {env : Env} {h : Hp} {K : Env → Hp → Prop} : octroiref01_Add_r0 env h K = octroiref01_Add_r0 env h K := rfl

/-- ref.go:28 -/
def octroiref01_Add_r1 (env : Env) (h : Hp) (K : Env → Hp → Prop) : Prop :=
  rd Try.prog (bop Go.BinOp.lss 3 (Go.Operand.tmp 7) (Go.Operand.const (Go.Value.int Go.IntKind.i64 0)) (env 0) (Go.Value.int Go.IntKind.i64 0)) noHp fun v8_1 =>
  K ((env.set 7 (env 0)).set 8 v8_1) h
@[congr] theorem octroiref01_Add_r1_congr {env : Env} {h : Hp} {K : Env → Hp → Prop} : octroiref01_Add_r1 env h K = octroiref01_Add_r1 env h K := rfl

/-- ref.go:29 -/
def octroiref01_Add_r2 (env : Env) (h : Hp) (K : Env → Hp → Prop) : Prop :=
  K (env.set 0 (Go.Value.int Go.IntKind.i64 0)) h
@[congr] theorem octroiref01_Add_r2_congr {env : Env} {h : Hp} {K : Env → Hp → Prop} : octroiref01_Add_r2 env h K = octroiref01_Add_r2 env h K := rfl

/-- ref.go:31 -/
def octroiref01_Add_r3 (env : Env) (h : Hp) (K : Env → Hp → Prop) : Prop :=
  rd Try.prog (bop Go.BinOp.lss 3 (Go.Operand.tmp 9) (Go.Operand.const (Go.Value.int Go.IntKind.i64 0)) (env 1) (Go.Value.int Go.IntKind.i64 0)) noHp fun v10_1 =>
  K ((env.set 9 (env 1)).set 10 v10_1) h
@[congr] theorem octroiref01_Add_r3_congr {env : Env} {h : Hp} {K : Env → Hp → Prop} : octroiref01_Add_r3 env h K = octroiref01_Add_r3 env h K := rfl

/-- ref.go:32 -/
def octroiref01_Add_r4 (env : Env) (h : Hp) (K : Env → Hp → Prop) : Prop :=
  K (env.set 1 (Go.Value.int Go.IntKind.i64 0)) h
@[congr] theorem octroiref01_Add_r4_congr {env : Env} {h : Hp} {K : Env → Hp → Prop} : octroiref01_Add_r4 env h K = octroiref01_Add_r4 env h K := rfl

/-- ref.go:34 -/
def octroiref01_Add_r5 (env : Env) (h : Hp) (K : Env → Hp → Prop) : Prop :=
  rd Try.prog (bop Go.BinOp.lss 3 (Go.Operand.tmp 11) (Go.Operand.const (Go.Value.int Go.IntKind.i64 0)) (env 2) (Go.Value.int Go.IntKind.i64 0)) noHp fun v12_1 =>
  K ((env.set 11 (env 2)).set 12 v12_1) h
@[congr] theorem octroiref01_Add_r5_congr {env : Env} {h : Hp} {K : Env → Hp → Prop} : octroiref01_Add_r5 env h K = octroiref01_Add_r5 env h K := rfl

/-- ref.go:35 -/
def octroiref01_Add_r6 (env : Env) (h : Hp) (K : Env → Hp → Prop) : Prop :=
  K (env.set 2 (Go.Value.int Go.IntKind.i64 0)) h
@[congr] theorem octroiref01_Add_r6_congr {env : Env} {h : Hp} {K : Env → Hp → Prop} : octroiref01_Add_r6 env h K = octroiref01_Add_r6 env h K := rfl

/-- ref.go:37 -/
def octroiref01_Add_r7 (env : Env) (h : Hp) (K : Env → Hp → Prop) : Prop :=
  rd Try.prog (bop Go.BinOp.gtr 3 (Go.Operand.tmp 13) (Go.Operand.tmp 14) (env 0) (env 2)) noHp fun v15_2 =>
  gd (yb v15_2 == some false) (fun h k => k (env 1) h) h fun v17_4 h1 =>
  gd (yb v15_2 == some false) (fun h k => k (env 2) h) h1 fun v18_5 h2 =>
  gd (yb v15_2 == some false) (fun h k => k (env 0) h) h2 fun v19_6 h3 =>
  gd (yb v15_2 == some false) (fun h k => rd Try.prog (bop Go.BinOp.sub 3 (Go.Operand.tmp 18) (Go.Operand.tmp 19) v18_5 v19_6) noHp fun v => k v h) h3 fun v20_7 h4 =>
  gd (yb v15_2 == some false) (fun h k => rd Try.prog (bop Go.BinOp.gtr 3 (Go.Operand.tmp 17) (Go.Operand.tmp 20) v17_4 v20_7) noHp fun v => k v h) h4 fun v21_8 h5 =>
  rd Try.prog (pck v15_2 (Go.Value.bool true) v21_8) noHp fun v22_9 =>
  K ((((((((((env.set 13 (env 0)).set 14 (env 2)).set 15 v15_2).set 16 v15_2).set 17 v17_4).set 18 v18_5).set 19 v19_6).set 20 v20_7).set 21 v21_8).set 22 v22_9) h5
@[congr] theorem octroiref01_Add_r7_congr {env : Env} {h : Hp} {K : Env → Hp → Prop} : octroiref01_Add_r7 env h K = octroiref01_Add_r7 env h K := rfl

/-- ref.go:38 -/
def octroiref01_Add_r8 (env : Env) (h : Hp) (K : Env → Hp → Prop) : Prop :=
  K ((env.set 23 (env 2)).set 6 (env 2)) h
@[congr] theorem octroiref01_Add_r8_congr {env : Env} {h : Hp} {K : Env → Hp → Prop} : octroiref01_Add_r8 env h K = octroiref01_Add_r8 env h K := rfl

/-- ref.go:40 -/
def octroiref01_Add_r9 (env : Env) (h : Hp) (K : Env → Hp → Prop) : Prop :=
  rd Try.prog (bop Go.BinOp.add 3 (Go.Operand.tmp 24) (Go.Operand.tmp 25) (env 0) (env 1)) noHp fun v26_2 =>
  K ((((env.set 24 (env 0)).set 25 (env 1)).set 26 v26_2).set 6 v26_2) h
@[congr] theorem octroiref01_Add_r9_congr {env : Env} {h : Hp} {K : Env → Hp → Prop} : octroiref01_Add_r9 env h K = octroiref01_Add_r9 env h K := rfl

def octroiref01_Add_D : Den := (sq (rg octroiref01_Add_r0) (sq (sq (rg octroiref01_Add_r1) (cnd (Go.Operand.tmp 8) (rg octroiref01_Add_r2) (ex .normal))) (sq (sq (rg octroiref01_Add_r3) (cnd (Go.Operand.tmp 10) (rg octroiref01_Add_r4) (ex .normal))) (sq (sq (rg octroiref01_Add_r5) (cnd (Go.Operand.tmp 12) (rg octroiref01_Add_r6) (ex .normal))) (sq (sq (rg octroiref01_Add_r7) (cnd (Go.Operand.tmp 22) (sq (rg octroiref01_Add_r8) (ex .ret)) (ex .normal))) (sq (rg octroiref01_Add_r9) (ex .ret)))))))

theorem octroiref01_Add_eq : (den Try.prog 27 octroiref01_Add_code).1 = octroiref01_Add_D := by kernel_rfl

theorem octroiref01_Add_ok {args : Array Value} {h : Hp} {Q : Value → Hp → Prop} (hn : args.size ≤ 27) (D : octroiref01_Add_D (fin Try.prog [(Go.ResultVar.tmp 6)] Q) (env0 args) h) : Ok Try.prog 51 args h Q :=
  ok_of_den progIsOk Try.func51 (c := octroiref01_Add_code) (by kernel_rfl) hn (by show (den Try.prog 27 octroiref01_Add_code).1 _ _ _; rw [octroiref01_Add_eq]; exact D)

/-! ### (*octroi/octroiref16.Rip).known: function 52 -/
noncomputable def octroiref16_Rip_known_code : Code := match Try.f52.body with | some c => c | none => .skip

/-- ref.go:115 -/
def octroiref16_Rip_known_r0 (env : Env) (h : Hp) (K : Env → Hp → Prop) : Prop :=
  K (env.set 12 (Go.Value.bool false)) h
@[congr] theorem octroiref16_Rip_known_r0_congr {env : Env} {h : Hp} {K : Env → Hp → Prop} : octroiref16_Rip_known_r0 env h K = octroiref16_Rip_known_r0 env h K := rfl

/-- ref.go:116 -/
def octroiref16_Rip_known_r1 (env : Env) (h : Hp) (K : Env → Hp → Prop) : Prop :=
  nck (env 0) (
  rd Try.prog (Instr.fieldAt 56 (env 0) 2) noHp fun v17_2 =>
  rd Try.prog (Instr.loadAt 54 v17_2) h fun v18_3 =>
  rd Try.prog (Instr.indexAt 54 v18_3 (env 1)) noHp fun v20_5 =>
  rd Try.prog (Instr.loadAt 78 v20_5) h fun v21_6 =>
  arun Try.prog (Instr.alloc 78 true (Go.Value.tuple #[])) h fun v13_7 h1 =>
  arun Try.prog (Instr.storeAt 78 v13_7 v21_6) h1 fun _ h2 =>
  K ((((((((env.set 15 (env 0)).set 16 (env 0)).set 17 v17_2).set 18 v18_3).set 19 (env 1)).set 20 v20_5).set 21 v21_6).set 13 v13_7) h2)
@[congr] theorem octroiref16_Rip_known_r1_congr {env : Env} {h : Hp} {K : Env → Hp → Prop} : octroiref16_Rip_known_r1 env h K = octroiref16_Rip_known_r1 env h K := rfl

/-- ref.go:117 -/
def octroiref16_Rip_known_r2 (env : Env) (h : Hp) (K : Env → Hp → Prop) : Prop :=
  rd Try.prog (Instr.fieldAt 78 (env 13) 1) noHp fun v22_0 =>
  rd Try.prog (Instr.loadAt 3 v22_0) h fun v23_1 =>
  rd Try.prog (bop Go.BinOp.lss 3 (Go.Operand.tmp 23) (Go.Operand.const (Go.Value.int Go.IntKind.i64 16)) v23_1 (Go.Value.int Go.IntKind.i64 16)) noHp fun v24_2 =>
  K ((((env.set 22 v22_0).set 23 v23_1).set 24 v24_2).set 14 v24_2) h
@[congr] theorem octroiref16_Rip_known_r2_congr {env : Env} {h : Hp} {K : Env → Hp → Prop} : octroiref16_Rip_known_r2 env h K = octroiref16_Rip_known_r2 env h K := rfl

/-- ref.go:118 -/
def octroiref16_Rip_known_r3 (env : Env) (h : Hp) (K : Env → Hp → Prop) : Prop :=
  gd (yb (env 14) == some true) (fun h k => rd Try.prog (Instr.fieldAt 78 (env 13) 3) noHp fun v => k v h) h fun v27_2 h1 =>
  gd (yb (env 14) == some true) (fun h k => rd Try.prog (Instr.loadAt 3 v27_2) h fun v => k v h) h1 fun v28_3 h2 =>
  gd (yb (env 14) == some true) (fun h k => rd Try.prog (bop Go.BinOp.eql 3 (Go.Operand.tmp 28) (Go.Operand.const (Go.Value.int Go.IntKind.i64 0)) v28_3 (Go.Value.int Go.IntKind.i64 0)) noHp fun v => k v h) h2 fun v29_4 h3 =>
  rd Try.prog (pck (env 14) v29_4 (Go.Value.bool false)) noHp fun v30_5 =>
  K ((((((env.set 25 (env 14)).set 26 (env 14)).set 27 v27_2).set 28 v28_3).set 29 v29_4).set 30 v30_5) h3
@[congr] theorem octroiref16_Rip_known_r3_congr {env : Env} {h : Hp} {K : Env → Hp → Prop} : octroiref16_Rip_known_r3 env h K = octroiref16_Rip_known_r3 env h K := rfl

/-- ref.go:119 -/
def octroiref16_Rip_known_r4 (env : Env) (h : Hp) (K : Env → Hp → Prop) : Prop :=
  K (env.set 12 (Go.Value.bool false)) h
@[congr] theorem octroiref16_Rip_known_r4_congr {env : Env} {h : Hp} {K : Env → Hp → Prop} : octroiref16_Rip_known_r4 env h K = octroiref16_Rip_known_r4 env h K := rfl

/-- ref.go:121 -/
def octroiref16_Rip_known_r5 (env : Env) (h : Hp) (K : Env → Hp → Prop) : Prop :=
  gd (yb (env 14) == some true) (fun h k => rd Try.prog (Instr.fieldAt 78 (env 13) 3) noHp fun v => k v h) h fun v33_2 h1 =>
  gd (yb (env 14) == some true) (fun h k => rd Try.prog (Instr.loadAt 3 v33_2) h fun v => k v h) h1 fun v34_3 h2 =>
  gd (yb (env 14) == some true) (fun h k => k (env 2) h) h2 fun v35_4 h3 =>
  gd (yb (env 14) == some true) (fun h k => rd Try.prog (bop Go.BinOp.eql 3 (Go.Operand.tmp 34) (Go.Operand.tmp 35) v34_3 v35_4) noHp fun v => k v h) h3 fun v36_5 h4 =>
  rd Try.prog (pck (env 14) v36_5 (Go.Value.bool false)) noHp fun v37_6 =>
  K (((((((env.set 31 (env 14)).set 32 (env 14)).set 33 v33_2).set 34 v34_3).set 35 v35_4).set 36 v36_5).set 37 v37_6) h4
@[congr] theorem octroiref16_Rip_known_r5_congr {env : Env} {h : Hp} {K : Env → Hp → Prop} : octroiref16_Rip_known_r5 env h K = octroiref16_Rip_known_r5 env h K := rfl

/-- ref.go:122 -/
def octroiref16_Rip_known_r6 (env : Env) (h : Hp) (K : Env → Hp → Prop) : Prop :=
  rd Try.prog (bop Go.BinOp.eql 3 (Go.Operand.tmp 38) (Go.Operand.const (Go.Value.int Go.IntKind.i64 16)) (env 3) (Go.Value.int Go.IntKind.i64 16)) noHp fun v39_1 =>
  K ((env.set 38 (env 3)).set 39 v39_1) h
@[congr] theorem octroiref16_Rip_known_r6_congr {env : Env} {h : Hp} {K : Env → Hp → Prop} : octroiref16_Rip_known_r6 env h K = octroiref16_Rip_known_r6 env h K := rfl

/-- ref.go:123 -/
def octroiref16_Rip_known_r7 (env : Env) (h : Hp) (K : Env → Hp → Prop) : Prop :=
  Ok Try.prog 50 #[(env 0), (env 1), (env 5)] h fun v43_3 h1 =>
  K ((((env.set 40 (env 0)).set 41 (env 1)).set 42 (env 5)).set 43 v43_3) h1
@[congr] theorem octroiref16_Rip_known_r7_congr {env : Env} {h : Hp} {K : Env → Hp → Prop} : octroiref16_Rip_known_r7 env h K = octroiref16_Rip_known_r7 env h K := rfl

/-- ref.go:124 -/
def octroiref16_Rip_known_r8 (env : Env) (h : Hp) (K : Env → Hp → Prop) : Prop :=
  K (env.set 12 (Go.Value.bool true)) h
@[congr] theorem octroiref16_Rip_known_r8_congr {env : Env} {h : Hp} {K : Env → Hp → Prop} : octroiref16_Rip_known_r8 env h K = octroiref16_Rip_known_r8 env h K := rfl

/-- ref.go:126 -/
def octroiref16_Rip_known_r9 (env : Env) (h : Hp) (K : Env → Hp → Prop) : Prop :=
  nck (env 0) (
  rd Try.prog (Instr.fieldAt 56 (env 0) 2) noHp fun v46_2 =>
  rd Try.prog (Instr.loadAt 54 v46_2) h fun v47_3 =>
  rd Try.prog (bop Go.BinOp.add 3 (Go.Operand.tmp 49) (Go.Operand.const (Go.Value.int Go.IntKind.i64 180)) (env 5) (Go.Value.int Go.IntKind.i64 180)) noHp fun v50_6 =>
  rd Try.prog (Instr.indexAt 54 v47_3 (env 1)) noHp fun v51_7 =>
  rd Try.prog (Instr.fieldAt 78 v51_7 4) noHp fun v52_8 =>
  arun Try.prog (Instr.storeAt 3 v52_8 v50_6) h fun _ h1 =>
  K (((((((((env.set 44 (env 0)).set 45 (env 0)).set 46 v46_2).set 47 v47_3).set 48 (env 1)).set 49 (env 5)).set 50 v50_6).set 51 v51_7).set 52 v52_8) h1)
@[congr] theorem octroiref16_Rip_known_r9_congr {env : Env} {h : Hp} {K : Env → Hp → Prop} : octroiref16_Rip_known_r9 env h K = octroiref16_Rip_known_r9 env h K := rfl

/-- ref.go:127 -/
def octroiref16_Rip_known_r10 (env : Env) (h : Hp) (K : Env → Hp → Prop) : Prop :=
  nck (env 0) (
  rd Try.prog (Instr.fieldAt 56 (env 0) 2) noHp fun v55_2 =>
  rd Try.prog (Instr.loadAt 54 v55_2) h fun v56_3 =>
  rd Try.prog (Instr.indexAt 54 v56_3 (env 1)) noHp fun v59_6 =>
  rd Try.prog (Instr.fieldAt 78 v59_6 1) noHp fun v60_7 =>
  arun Try.prog (Instr.storeAt 3 v60_7 (env 3)) h fun _ h1 =>
  K ((((((((env.set 53 (env 0)).set 54 (env 0)).set 55 v55_2).set 56 v56_3).set 57 (env 1)).set 58 (env 3)).set 59 v59_6).set 60 v60_7) h1)
@[congr] theorem octroiref16_Rip_known_r10_congr {env : Env} {h : Hp} {K : Env → Hp → Prop} : octroiref16_Rip_known_r10 env h K = octroiref16_Rip_known_r10 env h K := rfl

/-- ref.go:128 -/
def octroiref16_Rip_known_r11 (env : Env) (h : Hp) (K : Env → Hp → Prop) : Prop :=
  nck (env 0) (
  rd Try.prog (Instr.fieldAt 56 (env 0) 2) noHp fun v63_2 =>
  rd Try.prog (Instr.loadAt 54 v63_2) h fun v64_3 =>
  rd Try.prog (Instr.indexAt 54 v64_3 (env 1)) noHp fun v67_6 =>
  rd Try.prog (Instr.fieldAt 78 v67_6 2) noHp fun v68_7 =>
  arun Try.prog (Instr.storeAt 31 v68_7 (env 4)) h fun _ h1 =>
  K ((((((((env.set 61 (env 0)).set 62 (env 0)).set 63 v63_2).set 64 v64_3).set 65 (env 1)).set 66 (env 4)).set 67 v67_6).set 68 v68_7) h1)
@[congr] theorem octroiref16_Rip_known_r11_congr {env : Env} {h : Hp} {K : Env → Hp → Prop} : octroiref16_Rip_known_r11 env h K = octroiref16_Rip_known_r11 env h K := rfl

/-- ref.go:129 -/
def octroiref16_Rip_known_r12 (env : Env) (h : Hp) (K : Env → Hp → Prop) : Prop :=
  rd Try.prog (Instr.fieldAt 78 (env 13) 1) noHp fun v70_1 =>
  rd Try.prog (Instr.loadAt 3 v70_1) h fun v71_2 =>
  rd Try.prog (bop Go.BinOp.neq 3 (Go.Operand.tmp 69) (Go.Operand.tmp 71) (env 3) v71_2) noHp fun v72_3 =>
  gd (yb v72_3 == some false) (fun h k => k (env 4) h) h fun v74_5 h1 =>
  gd (yb v72_3 == some false) (fun h k => rd Try.prog (Instr.fieldAt 78 (env 13) 2) noHp fun v => k v h) h1 fun v75_6 h2 =>
  gd (yb v72_3 == some false) (fun h k => rd Try.prog (Instr.loadAt 31 v75_6) h fun v => k v h) h2 fun v76_7 h3 =>
  gd (yb v72_3 == some false) (fun h k => rd Try.prog (bop Go.BinOp.neq 31 (Go.Operand.tmp 74) (Go.Operand.tmp 76) v74_5 v76_7) noHp fun v => k v h) h3 fun v77_8 h4 =>
  rd Try.prog (pck v72_3 (Go.Value.bool true) v77_8) noHp fun v78_9 =>
  K (((((((((((env.set 69 (env 3)).set 70 v70_1).set 71 v71_2).set 72 v72_3).set 73 v72_3).set 74 v74_5).set 75 v75_6).set 76 v76_7).set 77 v77_8).set 78 v78_9).set 12 v78_9) h4
@[congr] theorem octroiref16_Rip_known_r12_congr {env : Env} {h : Hp} {K : Env → Hp → Prop} : octroiref16_Rip_known_r12 env h K = octroiref16_Rip_known_r12 env h K := rfl

/-- ref.go:131 -/
def octroiref16_Rip_known_r13 (env : Env) (h : Hp) (K : Env → Hp → Prop) : Prop :=
  rd Try.prog (Instr.fieldAt 78 (env 13) 1) noHp fun v80_1 =>
  rd Try.prog (Instr.loadAt 3 v80_1) h fun v81_2 =>
  rd Try.prog (bop Go.BinOp.geq 3 (Go.Operand.tmp 79) (Go.Operand.tmp 81) (env 3) v81_2) noHp fun v82_3 =>
  K ((((env.set 79 (env 3)).set 80 v80_1).set 81 v81_2).set 82 v82_3) h
@[congr] theorem octroiref16_Rip_known_r13_congr {env : Env} {h : Hp} {K : Env → Hp → Prop} : octroiref16_Rip_known_r13 env h K = octroiref16_Rip_known_r13 env h K := rfl

/-- ref.go:132 -/
def octroiref16_Rip_known_r14 (env : Env) (h : Hp) (K : Env → Hp → Prop) : Prop :=
  K (env.set 12 (Go.Value.bool false)) h
@[congr] theorem octroiref16_Rip_known_r14_congr {env : Env} {h : Hp} {K : Env → Hp → Prop} : octroiref16_Rip_known_r14 env h K = octroiref16_Rip_known_r14 env h K := rfl

/-- ref.go:134 (in any order) -/
def octroiref16_Rip_known_r15 (env : Env) (h : Hp) (K : Env → Hp → Prop) : Prop :=
  nck (env 0) (
  rd Try.prog (Instr.fieldAt 56 (env 0) 2) noHp fun v85_2 =>
  rd Try.prog (Instr.loadAt 54 v85_2) h fun v86_3 =>
  rd Try.prog (Instr.fieldAt 78 (env 13) 0) noHp fun v88_5 =>
  rd Try.prog (Instr.loadAt 24 v88_5) h fun v89_6 =>
  rd Try.prog (bop Go.BinOp.add 3 (Go.Operand.tmp 93) (Go.Operand.const (Go.Value.int Go.IntKind.i64 180)) (env 5) (Go.Value.int Go.IntKind.i64 180)) noHp fun v94_11 =>
  rd Try.prog (Instr.build 78 #[(0, v89_6), (1, (env 3)), (2, (env 4)), (3, (env 2)), (4, v94_11)]) noHp fun v95_12 =>
  rd Try.prog (Instr.indexAt 54 v86_3 (env 1)) noHp fun v96_13 =>
  arun Try.prog (Instr.storeAt 78 v96_13 v95_12) h fun _ h1 =>
  (True) ∧
  K ((((((((((((((env.set 83 (env 0)).set 84 (env 0)).set 85 v85_2).set 86 v86_3).set 87 (env 1)).set 88 v88_5).set 89 v89_6).set 90 (env 3)).set 91 (env 4)).set 92 (env 2)).set 93 (env 5)).set 94 v94_11).set 95 v95_12).set 96 v96_13) h1)
@[congr] theorem octroiref16_Rip_known_r15_congr {env : Env} {h : Hp} {K : Env → Hp → Prop} : octroiref16_Rip_known_r15 env h K = octroiref16_Rip_known_r15 env h K := rfl

/-- ref.go:135 -/
def octroiref16_Rip_known_r16 (env : Env) (h : Hp) (K : Env → Hp → Prop) : Prop :=
  K (env.set 12 (Go.Value.bool true)) h
@[congr] theorem octroiref16_Rip_known_r16_congr {env : Env} {h : Hp} {K : Env → Hp → Prop} : octroiref16_Rip_known_r16 env h K = octroiref16_Rip_known_r16 env h K := rfl

def octroiref16_Rip_known_D : Den := (sq (rg octroiref16_Rip_known_r0) (sq (rg octroiref16_Rip_known_r1) (sq (rg octroiref16_Rip_known_r2) (sq (sq (rg octroiref16_Rip_known_r3) (cnd (Go.Operand.tmp 30) (sq (rg octroiref16_Rip_known_r4) (ex .ret)) (ex .normal))) (sq (sq (rg octroiref16_Rip_known_r5) (cnd (Go.Operand.tmp 37) (sq (sq (rg octroiref16_Rip_known_r6) (cnd (Go.Operand.tmp 39) (sq (rg octroiref16_Rip_known_r7) (sq (rg octroiref16_Rip_known_r8) (ex .ret))) (ex .normal))) (sq (rg octroiref16_Rip_known_r9) (sq (rg octroiref16_Rip_known_r10) (sq (rg octroiref16_Rip_known_r11) (sq (rg octroiref16_Rip_known_r12) (ex .ret)))))) (ex .normal))) (sq (sq (rg octroiref16_Rip_known_r13) (cnd (Go.Operand.tmp 82) (sq (rg octroiref16_Rip_known_r14) (ex .ret)) (ex .normal))) (sq (rg octroiref16_Rip_known_r15) (sq (rg octroiref16_Rip_known_r16) (ex .ret)))))))))

theorem octroiref16_Rip_known_eq : (den Try.prog 97 octroiref16_Rip_known_code).1 = octroiref16_Rip_known_D := by kernel_rfl

theorem octroiref16_Rip_known_ok {args : Array Value} {h : Hp} {Q : Value → Hp → Prop} (hn : args.size ≤ 97) (D : octroiref16_Rip_known_D (fin Try.prog [(Go.ResultVar.tmp 12)] Q) (env0 args) h) : Ok Try.prog 52 args h Q :=
  ok_of_den progIsOk Try.func52 (c := octroiref16_Rip_known_code) (by kernel_rfl) hn (by show (den Try.prog 97 octroiref16_Rip_known_code).1 _ _ _; rw [octroiref16_Rip_known_eq]; exact D)

/-! ### slices.Collect[octroi/api.Prefix]: function 53 -/
noncomputable def slices_Collect_api_Prefix_code : Code := match Try.f53.body with | some c => c | none => .skip

/-- iter.go:59 -/
def slices_Collect_api_Prefix_r0 (env : Env) (h : Hp) (K : Env → Hp → Prop) : Prop :=
  K (env.set 2 (Go.Value.slice none 0 0)) h
@[congr] theorem slices_Collect_api_Prefix_r0_congr {env : Env} {h : Hp} {K : Env → Hp → Prop} : slices_Collect_api_Prefix_r0 env h K = slices_Collect_api_Prefix_r0 env h K := rfl

/-- iter.go:60 -/
def slices_Collect_api_Prefix_r1 (env : Env) (h : Hp) (K : Env → Hp → Prop) : Prop :=
  Ok Try.prog 60 #[(Go.Value.slice none 0 0), (env 0)] h fun v4_1 h1 =>
  K (((env.set 3 (env 0)).set 4 v4_1).set 2 v4_1) h1
@[congr] theorem slices_Collect_api_Prefix_r1_congr {env : Env} {h : Hp} {K : Env → Hp → Prop} : slices_Collect_api_Prefix_r1 env h K = slices_Collect_api_Prefix_r1 env h K := rfl

def slices_Collect_api_Prefix_D : Den := (sq (rg slices_Collect_api_Prefix_r0) (sq (rg slices_Collect_api_Prefix_r1) (ex .ret)))

theorem slices_Collect_api_Prefix_eq : (den Try.prog 5 slices_Collect_api_Prefix_code).1 = slices_Collect_api_Prefix_D := by kernel_rfl

theorem slices_Collect_api_Prefix_ok {args : Array Value} {h : Hp} {Q : Value → Hp → Prop} (hn : args.size ≤ 5) (D : slices_Collect_api_Prefix_D (fin Try.prog [(Go.ResultVar.tmp 2)] Q) (env0 args) h) : Ok Try.prog 53 args h Q :=
  ok_of_den progIsOk Try.func53 (c := slices_Collect_api_Prefix_code) (by kernel_rfl) hn (by show (den Try.prog 5 slices_Collect_api_Prefix_code).1 _ _ _; rw [slices_Collect_api_Prefix_eq]; exact D)

/-! ### slices.SortFunc[[]octroi/api.Prefix,octroi/api.Prefix]: function 54 -/
noncomputable def slices_SortFunc_api_Prefix_api_Prefix_code : Code := match Try.f54.body with | some c => c | none => .skip

/-- sort.go:31 -/
def slices_SortFunc_api_Prefix_api_Prefix_r0 (env : Env) (h : Hp) (K : Env → Hp → Prop) : Prop :=
  rd Try.prog (Builtin.len_ #[74] 3 #[(env 0)]) h fun v6_1 =>
  K (((env.set 5 (env 0)).set 6 v6_1).set 4 v6_1) h
@[congr] theorem slices_SortFunc_api_Prefix_api_Prefix_r0_congr {env : Env} {h : Hp} {K : Env → Hp → Prop} : slices_SortFunc_api_Prefix_api_Prefix_r0 env h K = slices_SortFunc_api_Prefix_api_Prefix_r0 env h K := rfl

/-- sort.go:32 -/
def slices_SortFunc_api_Prefix_api_Prefix_r1 (env : Env) (h : Hp) (K : Env → Hp → Prop) : Prop :=
  rd Try.prog (convert 3 40 (env 4)) noHp fun v10_3 =>
  Ok Try.prog 62 #[v10_3] h fun v11_4 h1 =>
  Ok Try.prog 61 #[(env 0), (Go.Value.int Go.IntKind.i64 0), (env 4), v11_4, (env 1)] h1 fun v13_6 h2 =>
  K (((((((env.set 7 (env 0)).set 8 (env 4)).set 9 (env 4)).set 10 v10_3).set 11 v11_4).set 12 (env 1)).set 13 v13_6) h2
@[congr] theorem slices_SortFunc_api_Prefix_api_Prefix_r1_congr {env : Env} {h : Hp} {K : Env → Hp → Prop} : slices_SortFunc_api_Prefix_api_Prefix_r1 env h K = slices_SortFunc_api_Prefix_api_Prefix_r1 env h K := rfl

def slices_SortFunc_api_Prefix_api_Prefix_D : Den := (sq (rg slices_SortFunc_api_Prefix_api_Prefix_r0) (rg slices_SortFunc_api_Prefix_api_Prefix_r1))

theorem slices_SortFunc_api_Prefix_api_Prefix_eq : (den Try.prog 14 slices_SortFunc_api_Prefix_api_Prefix_code).1 = slices_SortFunc_api_Prefix_api_Prefix_D := by kernel_rfl

theorem slices_SortFunc_api_Prefix_api_Prefix_ok {args : Array Value} {h : Hp} {Q : Value → Hp → Prop} (hn : args.size ≤ 14) (D : slices_SortFunc_api_Prefix_api_Prefix_D (fin Try.prog [] Q) (env0 args) h) : Ok Try.prog 54 args h Q :=
  ok_of_den progIsOk Try.func54 (c := slices_SortFunc_api_Prefix_api_Prefix_code) (by kernel_rfl) hn (by show (den Try.prog 14 slices_SortFunc_api_Prefix_api_Prefix_code).1 _ _ _; rw [slices_SortFunc_api_Prefix_api_Prefix_eq]; exact D)

/-! ### maps.Keys[map[octroi/api.Prefix]*octroi/rip.route,octroi/api.Prefix,*octroi/rip.route]$1: function 55 -/
noncomputable def maps_Keys_map_api_Prefix_rip_route_api_Prefix_rip_route_1_code : Code := match Try.f55.body with | some c => c | none => .skip

/-- iter.go:27 -/
def maps_Keys_map_api_Prefix_rip_route_api_Prefix_rip_route_1_r0 (env : Env) (h : Hp) (K : Env → Hp → Prop) : Prop :=
  rd Try.prog (Instr.loadAt 65 (env 1)) h fun v4_0 =>
  arun Try.prog (Instr.range 65 v4_0) h fun v5_1 h1 =>
  K ((env.set 4 v4_0).set 5 v5_1) h1
@[congr] theorem maps_Keys_map_api_Prefix_rip_route_api_Prefix_rip_route_1_r0_congr {env : Env} {h : Hp} {K : Env → Hp → Prop} : maps_Keys_map_api_Prefix_rip_route_api_Prefix_rip_route_1_r0 env h K = maps_Keys_map_api_Prefix_rip_route_api_Prefix_rip_route_1_r0 env h K := rfl

/-- iter.go:27 -/
def maps_Keys_map_api_Prefix_rip_route_api_Prefix_rip_route_1_r1 (env : Env) (h : Hp) (K : Env → Hp → Prop) : Prop :=
  arun Try.prog (Instr.next (env 5) false 0) h fun v6_0 h1 =>
  rd Try.prog (Instr.extract v6_0 0) noHp fun v7_1 =>
  K ((env.set 6 v6_0).set 7 v7_1) h1
@[congr] theorem maps_Keys_map_api_Prefix_rip_route_api_Prefix_rip_route_1_r1_congr {env : Env} {h : Hp} {K : Env → Hp → Prop} : maps_Keys_map_api_Prefix_rip_route_api_Prefix_rip_route_1_r1 env h K = maps_Keys_map_api_Prefix_rip_route_api_Prefix_rip_route_1_r1 env h K := rfl

/-- iter.go:27 -/
def maps_Keys_map_api_Prefix_rip_route_api_Prefix_rip_route_1_r2 (env : Env) (h : Hp) (K : Env → Hp → Prop) : Prop :=
  arun Try.prog (Instr.entry (env 5)) h fun v8_0 h1 =>
  rd Try.prog (Instr.extract v8_0 0) noHp fun v9_1 =>
  arun Try.prog (Instr.alloc 24 true (Go.Value.tuple #[])) h1 fun v3_2 h2 =>
  arun Try.prog (Instr.storeAt 24 v3_2 v9_1) h2 fun _ h3 =>
  K (((env.set 8 v8_0).set 9 v9_1).set 3 v3_2) h3
@[congr] theorem maps_Keys_map_api_Prefix_rip_route_api_Prefix_rip_route_1_r2_congr {env : Env} {h : Hp} {K : Env → Hp → Prop} : maps_Keys_map_api_Prefix_rip_route_api_Prefix_rip_route_1_r2 env h K = maps_Keys_map_api_Prefix_rip_route_api_Prefix_rip_route_1_r2 env h K := rfl

/-- iter.go:28 -/
def maps_Keys_map_api_Prefix_rip_route_api_Prefix_rip_route_1_r3 (env : Env) (h : Hp) (K : Env → Hp → Prop) : Prop :=
  rd Try.prog (Instr.loadAt 24 (env 3)) h fun v11_1 =>
  callV Try.prog (env 0) #[v11_1] h fun v12_2 h1 =>
  rd Try.prog (Op.unary Go.UnOp.not v12_2) noHp fun v13_3 =>
  K ((((env.set 10 (env 0)).set 11 v11_1).set 12 v12_2).set 13 v13_3) h1
@[congr] theorem maps_Keys_map_api_Prefix_rip_route_api_Prefix_rip_route_1_r3_congr {env : Env} {h : Hp} {K : Env → Hp → Prop} : maps_Keys_map_api_Prefix_rip_route_api_Prefix_rip_route_1_r3 env h K = maps_Keys_map_api_Prefix_rip_route_api_Prefix_rip_route_1_r3 env h K := rfl

def maps_Keys_map_api_Prefix_rip_route_api_Prefix_rip_route_1_L0 : Den := (sq (rg maps_Keys_map_api_Prefix_rip_route_api_Prefix_rip_route_1_r1) (sq (cnd (Go.Operand.tmp 7) (ex .normal) (ex (.exit 0))) (blk 1 (sq (rg maps_Keys_map_api_Prefix_rip_route_api_Prefix_rip_route_1_r2) (sq (rg maps_Keys_map_api_Prefix_rip_route_api_Prefix_rip_route_1_r3) (cnd (Go.Operand.tmp 13) (ex .ret) (ex .normal)))))))

def maps_Keys_map_api_Prefix_rip_route_api_Prefix_rip_route_1_D : Den := (sq (rg maps_Keys_map_api_Prefix_rip_route_api_Prefix_rip_route_1_r0) (blk 0 (lp maps_Keys_map_api_Prefix_rip_route_api_Prefix_rip_route_1_L0)))

theorem maps_Keys_map_api_Prefix_rip_route_api_Prefix_rip_route_1_eq : (den Try.prog 14 maps_Keys_map_api_Prefix_rip_route_api_Prefix_rip_route_1_code).1 = maps_Keys_map_api_Prefix_rip_route_api_Prefix_rip_route_1_D := by kernel_rfl

theorem maps_Keys_map_api_Prefix_rip_route_api_Prefix_rip_route_1_ok {args : Array Value} {h : Hp} {Q : Value → Hp → Prop} (hn : args.size ≤ 14) (D : maps_Keys_map_api_Prefix_rip_route_api_Prefix_rip_route_1_D (fin Try.prog [] Q) (env0 args) h) : Ok Try.prog 55 args h Q :=
  ok_of_den progIsOk Try.func55 (c := maps_Keys_map_api_Prefix_rip_route_api_Prefix_rip_route_1_code) (by kernel_rfl) hn (by show (den Try.prog 14 maps_Keys_map_api_Prefix_rip_route_api_Prefix_rip_route_1_code).1 _ _ _; rw [maps_Keys_map_api_Prefix_rip_route_api_Prefix_rip_route_1_eq]; exact D)

/-! ### octroi/octroiref02.Mask: function 56 -/
noncomputable def octroiref02_Mask_code : Code := match Try.f56.body with | some c => c | none => .skip

/-- ref.go:7 -/
def octroiref02_Mask_r0 (env : Env) (h : Hp) (K : Env → Hp → Prop) : Prop :=
  K (env.set 2 (Go.Value.int Go.IntKind.u32 0)) h
@[congr] theorem octroiref02_Mask_r0_congr {env : Env} {h : Hp} {K : Env → Hp → Prop} : octroiref02_Mask_r0 env h K = octroiref02_Mask_r0 env h K := rfl

/-- ref.go:8 -/
def octroiref02_Mask_r1 (env : Env) (h : Hp) (K : Env → Hp → Prop) : Prop :=
  K (env.set 3 (Go.Value.int Go.IntKind.u32 0)) h
@[congr] theorem octroiref02_Mask_r1_congr {env : Env} {h : Hp} {K : Env → Hp → Prop} : octroiref02_Mask_r1 env h K = octroiref02_Mask_r1 env h K := rfl

/-- ref.go:9 -/
def octroiref02_Mask_r2 (env : Env) (h : Hp) (K : Env → Hp → Prop) : Prop :=
  K (env.set 4 (Go.Value.int Go.IntKind.u32 2147483648)) h
@[congr] theorem octroiref02_Mask_r2_congr {env : Env} {h : Hp} {K : Env → Hp → Prop} : octroiref02_Mask_r2 env h K = octroiref02_Mask_r2 env h K := rfl

/-- ref.go:10 -/
def octroiref02_Mask_r3 (env : Env) (h : Hp) (K : Env → Hp → Prop) : Prop :=
  K (env.set 5 (Go.Value.int Go.IntKind.i64 0)) h
@[congr] theorem octroiref02_Mask_r3_congr {env : Env} {h : Hp} {K : Env → Hp → Prop} : octroiref02_Mask_r3 env h K = octroiref02_Mask_r3 env h K := rfl

/-- ref.go:10 -/
def octroiref02_Mask_r4 (env : Env) (h : Hp) (K : Env → Hp → Prop) : Prop :=
  rd Try.prog (bop Go.BinOp.lss 3 (Go.Operand.tmp 6) (Go.Operand.tmp 7) (env 5) (env 0)) noHp fun v8_2 =>
  gd (yb v8_2 == some true) (fun h k => k (env 5) h) h fun v10_4 h1 =>
  gd (yb v8_2 == some true) (fun h k => rd Try.prog (bop Go.BinOp.lss 3 (Go.Operand.tmp 10) (Go.Operand.const (Go.Value.int Go.IntKind.i64 32)) v10_4 (Go.Value.int Go.IntKind.i64 32)) noHp fun v => k v h) h1 fun v11_5 h2 =>
  rd Try.prog (pck v8_2 v11_5 (Go.Value.bool false)) noHp fun v12_6 =>
  K (((((((env.set 6 (env 5)).set 7 (env 0)).set 8 v8_2).set 9 v8_2).set 10 v10_4).set 11 v11_5).set 12 v12_6) h2
@[congr] theorem octroiref02_Mask_r4_congr {env : Env} {h : Hp} {K : Env → Hp → Prop} : octroiref02_Mask_r4 env h K = octroiref02_Mask_r4 env h K := rfl

/-- ref.go:11 -/
def octroiref02_Mask_r5 (env : Env) (h : Hp) (K : Env → Hp → Prop) : Prop :=
  rd Try.prog (bop Go.BinOp.add 22 (Go.Operand.tmp 15) (Go.Operand.tmp 16) (env 3) (env 4)) noHp fun v17_2 =>
  K ((((env.set 15 (env 3)).set 16 (env 4)).set 17 v17_2).set 3 v17_2) h
@[congr] theorem octroiref02_Mask_r5_congr {env : Env} {h : Hp} {K : Env → Hp → Prop} : octroiref02_Mask_r5 env h K = octroiref02_Mask_r5 env h K := rfl

/-- ref.go:12 -/
def octroiref02_Mask_r6 (env : Env) (h : Hp) (K : Env → Hp → Prop) : Prop :=
  rd Try.prog (bop Go.BinOp.quo 22 (Go.Operand.tmp 18) (Go.Operand.const (Go.Value.int Go.IntKind.u32 2)) (env 4) (Go.Value.int Go.IntKind.u32 2)) noHp fun v19_1 =>
  K (((env.set 18 (env 4)).set 19 v19_1).set 4 v19_1) h
@[congr] theorem octroiref02_Mask_r6_congr {env : Env} {h : Hp} {K : Env → Hp → Prop} : octroiref02_Mask_r6 env h K = octroiref02_Mask_r6 env h K := rfl

/-- ref.go:10 -/
def octroiref02_Mask_r7 (env : Env) (h : Hp) (K : Env → Hp → Prop) : Prop :=
  rd Try.prog (bop Go.BinOp.add 3 (Go.Operand.tmp 13) (Go.Operand.const (Go.Value.int Go.IntKind.i64 1)) (env 5) (Go.Value.int Go.IntKind.i64 1)) noHp fun v14_1 =>
  K (((env.set 13 (env 5)).set 14 v14_1).set 5 v14_1) h
@[congr] theorem octroiref02_Mask_r7_congr {env : Env} {h : Hp} {K : Env → Hp → Prop} : octroiref02_Mask_r7 env h K = octroiref02_Mask_r7 env h K := rfl

def octroiref02_Mask_L0 : Den := (sq (sq (rg octroiref02_Mask_r4) (cnd (Go.Operand.tmp 12) (ex .normal) (ex (.exit 0)))) (sq (blk 1 (sq (rg octroiref02_Mask_r5) (rg octroiref02_Mask_r6))) (rg octroiref02_Mask_r7)))

/-- ref.go:14 -/
def octroiref02_Mask_r8 (env : Env) (h : Hp) (K : Env → Hp → Prop) : Prop :=
  K ((env.set 20 (env 3)).set 2 (env 3)) h
@[congr] theorem octroiref02_Mask_r8_congr {env : Env} {h : Hp} {K : Env → Hp → Prop} : octroiref02_Mask_r8 env h K = octroiref02_Mask_r8 env h K := rfl

def octroiref02_Mask_D : Den := (sq (rg octroiref02_Mask_r0) (sq (rg octroiref02_Mask_r1) (sq (rg octroiref02_Mask_r2) (sq (sq (rg octroiref02_Mask_r3) (blk 0 (lp octroiref02_Mask_L0))) (sq (rg octroiref02_Mask_r8) (ex .ret))))))

theorem octroiref02_Mask_eq : (den Try.prog 21 octroiref02_Mask_code).1 = octroiref02_Mask_D := by kernel_rfl

theorem octroiref02_Mask_ok {args : Array Value} {h : Hp} {Q : Value → Hp → Prop} (hn : args.size ≤ 21) (D : octroiref02_Mask_D (fin Try.prog [(Go.ResultVar.tmp 2)] Q) (env0 args) h) : Ok Try.prog 56 args h Q :=
  ok_of_den progIsOk Try.func56 (c := octroiref02_Mask_code) (by kernel_rfl) hn (by show (den Try.prog 21 octroiref02_Mask_code).1 _ _ _; rw [octroiref02_Mask_eq]; exact D)

/-! ### octroi/octroiref03.is: function 57 -/
noncomputable def octroiref03_is_code : Code := match Try.f57.body with | some c => c | none => .skip

/-- ref.go:16 -/
def octroiref03_is_r0 (env : Env) (h : Hp) (K : Env → Hp → Prop) : Prop :=
  K (env.set 2 (Go.Value.bool false)) h
@[congr] theorem octroiref03_is_r0_congr {env : Env} {h : Hp} {K : Env → Hp → Prop} : octroiref03_is_r0 env h K = octroiref03_is_r0 env h K := rfl

/-- ref.go:16 -/
def octroiref03_is_r1 (env : Env) (h : Hp) (K : Env → Hp → Prop) : Prop :=
  rd Try.prog (bop Go.BinOp.geq 3 (Go.Operand.tmp 3) (Go.Operand.const (Go.Value.int Go.IntKind.i64 0)) (env 0) (Go.Value.int Go.IntKind.i64 0)) noHp fun v4_1 =>
  gd (yb v4_1 == some true) (fun h k => k (env 0) h) h fun v6_3 h1 =>
  gd (yb v4_1 == some true) (fun h k => rd Try.prog (bop Go.BinOp.lss 3 (Go.Operand.tmp 6) (Go.Operand.const (Go.Value.int Go.IntKind.i64 16)) v6_3 (Go.Value.int Go.IntKind.i64 16)) noHp fun v => k v h) h1 fun v7_4 h2 =>
  rd Try.prog (pck v4_1 v7_4 (Go.Value.bool false)) noHp fun v8_5 =>
  K (((((((env.set 3 (env 0)).set 4 v4_1).set 5 v4_1).set 6 v6_3).set 7 v7_4).set 8 v8_5).set 2 v8_5) h2
@[congr] theorem octroiref03_is_r1_congr {env : Env} {h : Hp} {K : Env → Hp → Prop} : octroiref03_is_r1 env h K = octroiref03_is_r1 env h K := rfl

def octroiref03_is_D : Den := (sq (rg octroiref03_is_r0) (sq (rg octroiref03_is_r1) (ex .ret)))

theorem octroiref03_is_eq : (den Try.prog 9 octroiref03_is_code).1 = octroiref03_is_D := by kernel_rfl

theorem octroiref03_is_ok {args : Array Value} {h : Hp} {Q : Value → Hp → Prop} (hn : args.size ≤ 9) (D : octroiref03_is_D (fin Try.prog [(Go.ResultVar.tmp 2)] Q) (env0 args) h) : Ok Try.prog 57 args h Q :=
  ok_of_den progIsOk Try.func57 (c := octroiref03_is_code) (by kernel_rfl) hn (by show (den Try.prog 9 octroiref03_is_code).1 _ _ _; rw [octroiref03_is_eq]; exact D)

/-! ### octroi/octroiref03.bit: function 58 -/
noncomputable def octroiref03_bit_code : Code := match Try.f58.body with | some c => c | none => .skip

/-- ref.go:7 -/
def octroiref03_bit_r0 (env : Env) (h : Hp) (K : Env → Hp → Prop) : Prop :=
  K (env.set 2 (Go.Value.int Go.IntKind.i64 0)) h
@[congr] theorem octroiref03_bit_r0_congr {env : Env} {h : Hp} {K : Env → Hp → Prop} : octroiref03_bit_r0 env h K = octroiref03_bit_r0 env h K := rfl

/-- ref.go:8 -/
def octroiref03_bit_r1 (env : Env) (h : Hp) (K : Env → Hp → Prop) : Prop :=
  K (env.set 3 (Go.Value.int Go.IntKind.i64 1)) h
@[congr] theorem octroiref03_bit_r1_congr {env : Env} {h : Hp} {K : Env → Hp → Prop} : octroiref03_bit_r1 env h K = octroiref03_bit_r1 env h K := rfl

/-- ref.go:9 -/
def octroiref03_bit_r2 (env : Env) (h : Hp) (K : Env → Hp → Prop) : Prop :=
  K (env.set 4 (Go.Value.int Go.IntKind.i64 0)) h
@[congr] theorem octroiref03_bit_r2_congr {env : Env} {h : Hp} {K : Env → Hp → Prop} : octroiref03_bit_r2 env h K = octroiref03_bit_r2 env h K := rfl

/-- ref.go:9 -/
def octroiref03_bit_r3 (env : Env) (h : Hp) (K : Env → Hp → Prop) : Prop :=
  rd Try.prog (bop Go.BinOp.lss 3 (Go.Operand.tmp 5) (Go.Operand.tmp 6) (env 4) (env 0)) noHp fun v7_2 =>
  K (((env.set 5 (env 4)).set 6 (env 0)).set 7 v7_2) h
@[congr] theorem octroiref03_bit_r3_congr {env : Env} {h : Hp} {K : Env → Hp → Prop} : octroiref03_bit_r3 env h K = octroiref03_bit_r3 env h K := rfl

/-- ref.go:10 -/
def octroiref03_bit_r4 (env : Env) (h : Hp) (K : Env → Hp → Prop) : Prop :=
  rd Try.prog (bop Go.BinOp.mul 3 (Go.Operand.const (Go.Value.int Go.IntKind.i64 2)) (Go.Operand.tmp 10) (Go.Value.int Go.IntKind.i64 2) (env 3)) noHp fun v11_1 =>
  K (((env.set 10 (env 3)).set 11 v11_1).set 3 v11_1) h
@[congr] theorem octroiref03_bit_r4_congr {env : Env} {h : Hp} {K : Env → Hp → Prop} : octroiref03_bit_r4 env h K = octroiref03_bit_r4 env h K := rfl

/-- ref.go:9 -/
def octroiref03_bit_r5 (env : Env) (h : Hp) (K : Env → Hp → Prop) : Prop :=
  rd Try.prog (bop Go.BinOp.add 3 (Go.Operand.tmp 8) (Go.Operand.const (Go.Value.int Go.IntKind.i64 1)) (env 4) (Go.Value.int Go.IntKind.i64 1)) noHp fun v9_1 =>
  K (((env.set 8 (env 4)).set 9 v9_1).set 4 v9_1) h
@[congr] theorem octroiref03_bit_r5_congr {env : Env} {h : Hp} {K : Env → Hp → Prop} : octroiref03_bit_r5 env h K = octroiref03_bit_r5 env h K := rfl

def octroiref03_bit_L0 : Den := (sq (sq (rg octroiref03_bit_r3) (cnd (Go.Operand.tmp 7) (ex .normal) (ex (.exit 0)))) (sq (blk 1 (rg octroiref03_bit_r4)) (rg octroiref03_bit_r5)))

/-- ref.go:12 -/
def octroiref03_bit_r6 (env : Env) (h : Hp) (K : Env → Hp → Prop) : Prop :=
  K ((env.set 12 (env 3)).set 2 (env 3)) h
@[congr] theorem octroiref03_bit_r6_congr {env : Env} {h : Hp} {K : Env → Hp → Prop} : octroiref03_bit_r6 env h K = octroiref03_bit_r6 env h K := rfl

def octroiref03_bit_D : Den := (sq (rg octroiref03_bit_r0) (sq (rg octroiref03_bit_r1) (sq (sq (rg octroiref03_bit_r2) (blk 0 (lp octroiref03_bit_L0))) (sq (rg octroiref03_bit_r6) (ex .ret)))))

theorem octroiref03_bit_eq : (den Try.prog 13 octroiref03_bit_code).1 = octroiref03_bit_D := by kernel_rfl

theorem octroiref03_bit_ok {args : Array Value} {h : Hp} {Q : Value → Hp → Prop} (hn : args.size ≤ 13) (D : octroiref03_bit_D (fin Try.prog [(Go.ResultVar.tmp 2)] Q) (env0 args) h) : Ok Try.prog 58 args h Q :=
  ok_of_den progIsOk Try.func58 (c := octroiref03_bit_code) (by kernel_rfl) hn (by show (den Try.prog 13 octroiref03_bit_code).1 _ _ _; rw [octroiref03_bit_eq]; exact D)

/-! ### octroi/octroiref02.Less: function 59 -/
noncomputable def octroiref02_Less_code : Code := match Try.f59.body with | some c => c | none => .skip

/-- ref.go:54 -/
def octroiref02_Less_r0 (env : Env) (h : Hp) (K : Env → Hp → Prop) : Prop :=
  arun Try.prog (Instr.box 24 (env 0)) h fun v2_0 h1 =>
  arun Try.prog (Instr.box 24 (env 1)) h1 fun v3_1 h2 =>
  K (((env.set 2 v2_0).set 3 v3_1).set 4 (Go.Value.bool false)) h2
@[congr] theorem octroiref02_Less_r0_congr {env : Env} {h : Hp} {K : Env → Hp → Prop} : octroiref02_Less_r0 env h K = octroiref02_Less_r0 env h K := rfl

/-- ref.go:55 -/
def octroiref02_Less_r1 (env : Env) (h : Hp) (K : Env → Hp → Prop) : Prop :=
  rd Try.prog (Instr.fieldAt 24 (env 2) 0) noHp fun v5_0 =>
  rd Try.prog (Instr.loadAt 22 v5_0) h fun v6_1 =>
  rd Try.prog (Instr.fieldAt 24 (env 3) 0) noHp fun v7_2 =>
  rd Try.prog (Instr.loadAt 22 v7_2) h fun v8_3 =>
  rd Try.prog (bop Go.BinOp.lss 22 (Go.Operand.tmp 6) (Go.Operand.tmp 8) v6_1 v8_3) noHp fun v9_4 =>
  gd (yb v9_4 == some false) (fun h k => rd Try.prog (Instr.fieldAt 24 (env 2) 0) noHp fun v => k v h) h fun v11_6 h1 =>
  gd (yb v9_4 == some false) (fun h k => rd Try.prog (Instr.loadAt 22 v11_6) h fun v => k v h) h1 fun v12_7 h2 =>
  gd (yb v9_4 == some false) (fun h k => rd Try.prog (Instr.fieldAt 24 (env 3) 0) noHp fun v => k v h) h2 fun v13_8 h3 =>
  gd (yb v9_4 == some false) (fun h k => rd Try.prog (Instr.loadAt 22 v13_8) h fun v => k v h) h3 fun v14_9 h4 =>
  gd (yb v9_4 == some false) (fun h k => rd Try.prog (bop Go.BinOp.eql 22 (Go.Operand.tmp 12) (Go.Operand.tmp 14) v12_7 v14_9) noHp fun v => k v h) h4 fun v15_10 h5 =>
  gd (yb v9_4 == some false) (fun h k => k v15_10 h) h5 fun v16_11 h6 =>
  gd (yb v16_11 == some true) (fun h k => rd Try.prog (Instr.fieldAt 24 (env 2) 1) noHp fun v => k v h) h6 fun v17_12 h7 =>
  gd (yb v16_11 == some true) (fun h k => rd Try.prog (Instr.loadAt 3 v17_12) h fun v => k v h) h7 fun v18_13 h8 =>
  gd (yb v16_11 == some true) (fun h k => rd Try.prog (Instr.fieldAt 24 (env 3) 1) noHp fun v => k v h) h8 fun v19_14 h9 =>
  gd (yb v16_11 == some true) (fun h k => rd Try.prog (Instr.loadAt 3 v19_14) h fun v => k v h) h9 fun v20_15 h10 =>
  gd (yb v16_11 == some true) (fun h k => rd Try.prog (bop Go.BinOp.lss 3 (Go.Operand.tmp 18) (Go.Operand.tmp 20) v18_13 v20_15) noHp fun v => k v h) h10 fun v21_16 h11 =>
  gd (yb v9_4 == some false) (fun h k => rd Try.prog (pck v16_11 v21_16 (Go.Value.bool false)) noHp fun v => k v h) h11 fun v22_17 h12 =>
  rd Try.prog (pck v9_4 (Go.Value.bool true) v22_17) noHp fun v23_18 =>
  K ((((((((((((((((((((env.set 5 v5_0).set 6 v6_1).set 7 v7_2).set 8 v8_3).set 9 v9_4).set 10 v9_4).set 11 v11_6).set 12 v12_7).set 13 v13_8).set 14 v14_9).set 15 v15_10).set 16 v16_11).set 17 v17_12).set 18 v18_13).set 19 v19_14).set 20 v20_15).set 21 v21_16).set 22 v22_17).set 23 v23_18).set 4 v23_18) h12
@[congr] theorem octroiref02_Less_r1_congr {env : Env} {h : Hp} {K : Env → Hp → Prop} : octroiref02_Less_r1 env h K = octroiref02_Less_r1 env h K := rfl

def octroiref02_Less_D : Den := (sq (rg octroiref02_Less_r0) (sq (rg octroiref02_Less_r1) (ex .ret)))

theorem octroiref02_Less_eq : (den Try.prog 24 octroiref02_Less_code).1 = octroiref02_Less_D := by kernel_rfl

theorem octroiref02_Less_ok {args : Array Value} {h : Hp} {Q : Value → Hp → Prop} (hn : args.size ≤ 24) (D : octroiref02_Less_D (fin Try.prog [(Go.ResultVar.tmp 4)] Q) (env0 args) h) : Ok Try.prog 59 args h Q :=
  ok_of_den progIsOk Try.func59 (c := octroiref02_Less_code) (by kernel_rfl) hn (by show (den Try.prog 24 octroiref02_Less_code).1 _ _ _; rw [octroiref02_Less_eq]; exact D)

/-! ### slices.AppendSeq[[]octroi/api.Prefix,octroi/api.Prefix]: function 60 -/
noncomputable def slices_AppendSeq_api_Prefix_api_Prefix_code : Code := match Try.f60.body with | some c => c | none => .skip

/-- iter.go:50 -/
def slices_AppendSeq_api_Prefix_api_Prefix_r0 (env : Env) (h : Hp) (K : Env → Hp → Prop) : Prop :=
  arun Try.prog (Instr.box 74 (env 0)) h fun v2_0 h1 =>
  K ((env.set 2 v2_0).set 4 (Go.Value.slice none 0 0)) h1
@[congr] theorem slices_AppendSeq_api_Prefix_api_Prefix_r0_congr {env : Env} {h : Hp} {K : Env → Hp → Prop} : slices_AppendSeq_api_Prefix_api_Prefix_r0 env h K = slices_AppendSeq_api_Prefix_api_Prefix_r0 env h K := rfl

/-- iter.go:51 -/
def slices_AppendSeq_api_Prefix_api_Prefix_r1 (env : Env) (h : Hp) (K : Env → Hp → Prop) : Prop :=
  K (env.set 6 (env 1)) h
@[congr] theorem slices_AppendSeq_api_Prefix_api_Prefix_r1_congr {env : Env} {h : Hp} {K : Env → Hp → Prop} : slices_AppendSeq_api_Prefix_api_Prefix_r1 env h K = slices_AppendSeq_api_Prefix_api_Prefix_r1 env h K := rfl

/-- iter.go:51 -/
def slices_AppendSeq_api_Prefix_api_Prefix_r2 (env : Env) (h : Hp) (K : Env → Hp → Prop) : Prop :=
  arun Try.prog (Instr.alloc 24 true (Go.Value.tuple #[])) h fun v5_0 h1 =>
  arun Try.prog (Instr.storeAt 24 v5_0 (env 7)) h1 fun _ h2 =>
  K (env.set 5 v5_0) h2
@[congr] theorem slices_AppendSeq_api_Prefix_api_Prefix_r2_congr {env : Env} {h : Hp} {K : Env → Hp → Prop} : slices_AppendSeq_api_Prefix_api_Prefix_r2 env h K = slices_AppendSeq_api_Prefix_api_Prefix_r2 env h K := rfl

/-- iter.go:52 -/
def slices_AppendSeq_api_Prefix_api_Prefix_r3 (env : Env) (h : Hp) (K : Env → Hp → Prop) : Prop :=
  rd Try.prog (Instr.loadAt 74 (env 2)) h fun v8_0 =>
  rd Try.prog (Instr.loadAt 24 (env 5)) h fun v9_1 =>
  arun Try.prog (Instr.buildSlice 74 1 #[(0, v9_1)]) h fun v10_2 h1 =>
  arun Try.prog (Builtin.append_ #[74, 74] 74 #[v8_0, v10_2]) h1 fun v11_3 h2 =>
  arun Try.prog (Instr.storeAt 74 (env 2) v11_3) h2 fun _ h3 =>
  K ((((env.set 8 v8_0).set 9 v9_1).set 10 v10_2).set 11 v11_3) h3
@[congr] theorem slices_AppendSeq_api_Prefix_api_Prefix_r3_congr {env : Env} {h : Hp} {K : Env → Hp → Prop} : slices_AppendSeq_api_Prefix_api_Prefix_r3 env h K = slices_AppendSeq_api_Prefix_api_Prefix_r3 env h K := rfl

def slices_AppendSeq_api_Prefix_api_Prefix_F0_A : Den := (rg slices_AppendSeq_api_Prefix_api_Prefix_r2)
def slices_AppendSeq_api_Prefix_api_Prefix_F0_B : Den := (blk 1 (rg slices_AppendSeq_api_Prefix_api_Prefix_r3))

noncomputable def slices_AppendSeq_api_Prefix_api_Prefix_F0_a : Code := subCode [1, 0, 1, 0, 0] slices_AppendSeq_api_Prefix_api_Prefix_code
noncomputable def slices_AppendSeq_api_Prefix_api_Prefix_F0_b : Code := subCode [1, 0, 1, 0, 1] slices_AppendSeq_api_Prefix_api_Prefix_code

theorem slices_AppendSeq_api_Prefix_api_Prefix_F0_Aeq : (den Try.prog 13 slices_AppendSeq_api_Prefix_api_Prefix_F0_a).1 = slices_AppendSeq_api_Prefix_api_Prefix_F0_A := by kernel_rfl
theorem slices_AppendSeq_api_Prefix_api_Prefix_F0_Beq : (den Try.prog 13 slices_AppendSeq_api_Prefix_api_Prefix_F0_b).1 = slices_AppendSeq_api_Prefix_api_Prefix_F0_B := by kernel_rfl

theorem slices_AppendSeq_api_Prefix_api_Prefix_F0_yok {env : Env} {fn D l : Nat} {g : Hp} {x0 : Value} {k : Value → Hp → Prop} (hl : g l = some (recOf 13 env #[7] slices_AppendSeq_api_Prefix_api_Prefix_F0_a slices_AppendSeq_api_Prefix_api_Prefix_F0_b .ready none fn D)) (hu : ∀ t, 13 ≤ t → env t = undef)
    (H : rnd l (recOf 13 env #[7] slices_AppendSeq_api_Prefix_api_Prefix_F0_a slices_AppendSeq_api_Prefix_api_Prefix_F0_b .ready none fn D) (recOf 13 env #[7] slices_AppendSeq_api_Prefix_api_Prefix_F0_a slices_AppendSeq_api_Prefix_api_Prefix_F0_b .busy none fn D) slices_AppendSeq_api_Prefix_api_Prefix_F0_A slices_AppendSeq_api_Prefix_api_Prefix_F0_B (rndK l 13 env #[7] slices_AppendSeq_api_Prefix_api_Prefix_F0_a slices_AppendSeq_api_Prefix_api_Prefix_F0_b fn D k) (envPs 13 env [(7, x0)]) g) : YOk Try.prog l #[x0] g k := yok_rnd (args := #[x0]) progIsOk (by kernel_rfl) (by kernel_rfl) slices_AppendSeq_api_Prefix_api_Prefix_F0_Aeq slices_AppendSeq_api_Prefix_api_Prefix_F0_Beq hl hu rfl (by rw [show (Array.zip (#[7] : Array Tmp) #[x0]).toList = [(7, x0)] by simp]; exact H)

/-- iter.go:54 -/
def slices_AppendSeq_api_Prefix_api_Prefix_r4 (env : Env) (h : Hp) (K : Env → Hp → Prop) : Prop :=
  rd Try.prog (Instr.loadAt 74 (env 2)) h fun v12_0 =>
  K ((env.set 12 v12_0).set 4 v12_0) h
@[congr] theorem slices_AppendSeq_api_Prefix_api_Prefix_r4_congr {env : Env} {h : Hp} {K : Env → Hp → Prop} : slices_AppendSeq_api_Prefix_api_Prefix_r4 env h K = slices_AppendSeq_api_Prefix_api_Prefix_r4 env h K := rfl

def slices_AppendSeq_api_Prefix_api_Prefix_D : Den := (sq (rg slices_AppendSeq_api_Prefix_api_Prefix_r0) (sq (sq (rg slices_AppendSeq_api_Prefix_api_Prefix_r1) (blk 0 (rfn Try.prog 13 (Go.Operand.tmp 6) #[7] slices_AppendSeq_api_Prefix_api_Prefix_F0_a slices_AppendSeq_api_Prefix_api_Prefix_F0_b))) (sq (rg slices_AppendSeq_api_Prefix_api_Prefix_r4) (ex .ret))))

theorem slices_AppendSeq_api_Prefix_api_Prefix_eq : (den Try.prog 13 slices_AppendSeq_api_Prefix_api_Prefix_code).1 = slices_AppendSeq_api_Prefix_api_Prefix_D := by kernel_rfl

theorem slices_AppendSeq_api_Prefix_api_Prefix_ok {args : Array Value} {h : Hp} {Q : Value → Hp → Prop} (hn : args.size ≤ 13) (D : slices_AppendSeq_api_Prefix_api_Prefix_D (fin Try.prog [(Go.ResultVar.tmp 4)] Q) (env0 args) h) : Ok Try.prog 60 args h Q :=
  ok_of_den progIsOk Try.func60 (c := slices_AppendSeq_api_Prefix_api_Prefix_code) (by kernel_rfl) hn (by show (den Try.prog 13 slices_AppendSeq_api_Prefix_api_Prefix_code).1 _ _ _; rw [slices_AppendSeq_api_Prefix_api_Prefix_eq]; exact D)

end Go.Proofs.Ytpfenhikoajghaa

/- Printed by wip/kit/gen.py out of the translation: formulas of Go functions, and that they are these functions'. -/
namespace Go.Proofs.Ytpfenhikoajghaa
open Go

set_option maxRecDepth 100000
set_option linter.unusedVariables false

/-! ### slices.pdqsortCmpFunc[octroi/api.Prefix]: function 61 -/
noncomputable def slices_pdqsortCmpFunc_api_Prefix_code : Code := match Try.f61.body with | some c => c | none => .skip

/-- zsortanyfunc.go:65 -/
def slices_pdqsortCmpFunc_api_Prefix_r0 (env : Env) (h : Hp) (K : Env → Hp → Prop) : Prop :=
  K (env.set 10 (Go.Value.bool true)) h
@[congr] theorem slices_pdqsortCmpFunc_api_Prefix_r0_congr {env : Env} {h : Hp} {K : Env → Hp → Prop} : slices_pdqsortCmpFunc_api_Prefix_r0 env h K = slices_pdqsortCmpFunc_api_Prefix_r0 env h K := rfl

/-- zsortanyfunc.go:66 -/
def slices_pdqsortCmpFunc_api_Prefix_r1 (env : Env) (h : Hp) (K : Env → Hp → Prop) : Prop :=
  K (env.set 11 (Go.Value.bool true)) h
@[congr] theorem slices_pdqsortCmpFunc_api_Prefix_r1_congr {env : Env} {h : Hp} {K : Env → Hp → Prop} : slices_pdqsortCmpFunc_api_Prefix_r1 env h K = slices_pdqsortCmpFunc_api_Prefix_r1 env h K := rfl

/-- zsortanyfunc.go:70 -/
def slices_pdqsortCmpFunc_api_Prefix_r2 (env : Env) (h : Hp) (K : Env → Hp → Prop) : Prop :=
  rd Try.prog (bop Go.BinOp.sub 3 (Go.Operand.tmp 21) (Go.Operand.tmp 22) (env 2) (env 1)) noHp fun v23_2 =>
  K ((((env.set 21 (env 2)).set 22 (env 1)).set 23 v23_2).set 12 v23_2) h
@[congr] theorem slices_pdqsortCmpFunc_api_Prefix_r2_congr {env : Env} {h : Hp} {K : Env → Hp → Prop} : slices_pdqsortCmpFunc_api_Prefix_r2 env h K = slices_pdqsortCmpFunc_api_Prefix_r2 env h K := rfl

/-- zsortanyfunc.go:72 -/
def slices_pdqsortCmpFunc_api_Prefix_r3 (env : Env) (h : Hp) (K : Env → Hp → Prop) : Prop :=
  rd Try.prog (bop Go.BinOp.leq 3 (Go.Operand.tmp 24) (Go.Operand.const (Go.Value.int Go.IntKind.i64 12)) (env 12) (Go.Value.int Go.IntKind.i64 12)) noHp fun v25_1 =>
  K ((env.set 24 (env 12)).set 25 v25_1) h
@[congr] theorem slices_pdqsortCmpFunc_api_Prefix_r3_congr {env : Env} {h : Hp} {K : Env → Hp → Prop} : slices_pdqsortCmpFunc_api_Prefix_r3 env h K = slices_pdqsortCmpFunc_api_Prefix_r3 env h K := rfl

/-- zsortanyfunc.go:73 -/
def slices_pdqsortCmpFunc_api_Prefix_r4 (env : Env) (h : Hp) (K : Env → Hp → Prop) : Prop :=
  Ok Try.prog 63 #[(env 0), (env 1), (env 2), (env 4)] h fun v30_4 h1 =>
  K (((((env.set 26 (env 0)).set 27 (env 1)).set 28 (env 2)).set 29 (env 4)).set 30 v30_4) h1
@[congr] theorem slices_pdqsortCmpFunc_api_Prefix_r4_congr {env : Env} {h : Hp} {K : Env → Hp → Prop} : slices_pdqsortCmpFunc_api_Prefix_r4 env h K = slices_pdqsortCmpFunc_api_Prefix_r4 env h K := rfl

/-- zsortanyfunc.go:78 -/
def slices_pdqsortCmpFunc_api_Prefix_r5 (env : Env) (h : Hp) (K : Env → Hp → Prop) : Prop :=
  rd Try.prog (bop Go.BinOp.eql 3 (Go.Operand.tmp 31) (Go.Operand.const (Go.Value.int Go.IntKind.i64 0)) (env 3) (Go.Value.int Go.IntKind.i64 0)) noHp fun v32_1 =>
  K ((env.set 31 (env 3)).set 32 v32_1) h
@[congr] theorem slices_pdqsortCmpFunc_api_Prefix_r5_congr {env : Env} {h : Hp} {K : Env → Hp → Prop} : slices_pdqsortCmpFunc_api_Prefix_r5 env h K = slices_pdqsortCmpFunc_api_Prefix_r5 env h K := rfl

/-- zsortanyfunc.go:79 -/
def slices_pdqsortCmpFunc_api_Prefix_r6 (env : Env) (h : Hp) (K : Env → Hp → Prop) : Prop :=
  Ok Try.prog 64 #[(env 0), (env 1), (env 2), (env 4)] h fun v37_4 h1 =>
  K (((((env.set 33 (env 0)).set 34 (env 1)).set 35 (env 2)).set 36 (env 4)).set 37 v37_4) h1
@[congr] theorem slices_pdqsortCmpFunc_api_Prefix_r6_congr {env : Env} {h : Hp} {K : Env → Hp → Prop} : slices_pdqsortCmpFunc_api_Prefix_r6 env h K = slices_pdqsortCmpFunc_api_Prefix_r6 env h K := rfl

/-- zsortanyfunc.go:84 -/
def slices_pdqsortCmpFunc_api_Prefix_r7 (env : Env) (h : Hp) (K : Env → Hp → Prop) : Prop :=
  rd Try.prog (Op.unary Go.UnOp.not (env 10)) noHp fun v39_1 =>
  K ((env.set 38 (env 10)).set 39 v39_1) h
@[congr] theorem slices_pdqsortCmpFunc_api_Prefix_r7_congr {env : Env} {h : Hp} {K : Env → Hp → Prop} : slices_pdqsortCmpFunc_api_Prefix_r7 env h K = slices_pdqsortCmpFunc_api_Prefix_r7 env h K := rfl

/-- zsortanyfunc.go:85 -/
def slices_pdqsortCmpFunc_api_Prefix_r8 (env : Env) (h : Hp) (K : Env → Hp → Prop) : Prop :=
  Ok Try.prog 65 #[(env 0), (env 1), (env 2), (env 4)] h fun v44_4 h1 =>
  K (((((env.set 40 (env 0)).set 41 (env 1)).set 42 (env 2)).set 43 (env 4)).set 44 v44_4) h1
@[congr] theorem slices_pdqsortCmpFunc_api_Prefix_r8_congr {env : Env} {h : Hp} {K : Env → Hp → Prop} : slices_pdqsortCmpFunc_api_Prefix_r8 env h K = slices_pdqsortCmpFunc_api_Prefix_r8 env h K := rfl

/-- zsortanyfunc.go:86 -/
def slices_pdqsortCmpFunc_api_Prefix_r9 (env : Env) (h : Hp) (K : Env → Hp → Prop) : Prop :=
  rd Try.prog (bop Go.BinOp.sub 3 (Go.Operand.tmp 45) (Go.Operand.const (Go.Value.int Go.IntKind.i64 1)) (env 3) (Go.Value.int Go.IntKind.i64 1)) noHp fun v46_1 =>
  K (((env.set 45 (env 3)).set 46 v46_1).set 3 v46_1) h
@[congr] theorem slices_pdqsortCmpFunc_api_Prefix_r9_congr {env : Env} {h : Hp} {K : Env → Hp → Prop} : slices_pdqsortCmpFunc_api_Prefix_r9 env h K = slices_pdqsortCmpFunc_api_Prefix_r9 env h K := rfl

/-- zsortanyfunc.go:89 -/
def slices_pdqsortCmpFunc_api_Prefix_r10 (env : Env) (h : Hp) (K : Env → Hp → Prop) : Prop :=
  Ok Try.prog 66 #[(env 0), (env 1), (env 2), (env 4)] h fun v52_4 h1 =>
  rd Try.prog (Instr.extract v52_4 0) noHp fun v53_6 =>
  rd Try.prog (Instr.extract v52_4 1) noHp fun v54_7 =>
  K ((((((((((env.set 48 (env 0)).set 49 (env 1)).set 50 (env 2)).set 51 (env 4)).set 52 v52_4).set 47 v52_4).set 53 v53_6).set 54 v54_7).set 13 v53_6).set 14 v54_7) h1
@[congr] theorem slices_pdqsortCmpFunc_api_Prefix_r10_congr {env : Env} {h : Hp} {K : Env → Hp → Prop} : slices_pdqsortCmpFunc_api_Prefix_r10 env h K = slices_pdqsortCmpFunc_api_Prefix_r10 env h K := rfl

/-- zsortanyfunc.go:90 -/
def slices_pdqsortCmpFunc_api_Prefix_r11 (env : Env) (h : Hp) (K : Env → Hp → Prop) : Prop :=
  rd Try.prog (bop Go.BinOp.eql 99 (Go.Operand.tmp 55) (Go.Operand.const (Go.Value.int Go.IntKind.i64 2)) (env 14) (Go.Value.int Go.IntKind.i64 2)) noHp fun v56_1 =>
  K ((env.set 55 (env 14)).set 56 v56_1) h
@[congr] theorem slices_pdqsortCmpFunc_api_Prefix_r11_congr {env : Env} {h : Hp} {K : Env → Hp → Prop} : slices_pdqsortCmpFunc_api_Prefix_r11 env h K = slices_pdqsortCmpFunc_api_Prefix_r11 env h K := rfl

/-- zsortanyfunc.go:91 -/
def slices_pdqsortCmpFunc_api_Prefix_r12 (env : Env) (h : Hp) (K : Env → Hp → Prop) : Prop :=
  Ok Try.prog 67 #[(env 0), (env 1), (env 2), (env 4)] h fun v61_4 h1 =>
  K (((((env.set 57 (env 0)).set 58 (env 1)).set 59 (env 2)).set 60 (env 4)).set 61 v61_4) h1
@[congr] theorem slices_pdqsortCmpFunc_api_Prefix_r12_congr {env : Env} {h : Hp} {K : Env → Hp → Prop} : slices_pdqsortCmpFunc_api_Prefix_r12 env h K = slices_pdqsortCmpFunc_api_Prefix_r12 env h K := rfl

/-- zsortanyfunc.go:95 -/
def slices_pdqsortCmpFunc_api_Prefix_r13 (env : Env) (h : Hp) (K : Env → Hp → Prop) : Prop :=
  rd Try.prog (bop Go.BinOp.sub 3 (Go.Operand.tmp 62) (Go.Operand.const (Go.Value.int Go.IntKind.i64 1)) (env 2) (Go.Value.int Go.IntKind.i64 1)) noHp fun v63_1 =>
  rd Try.prog (bop Go.BinOp.sub 3 (Go.Operand.tmp 64) (Go.Operand.tmp 65) (env 13) (env 1)) noHp fun v66_4 =>
  rd Try.prog (bop Go.BinOp.sub 3 (Go.Operand.tmp 63) (Go.Operand.tmp 66) v63_1 v66_4) noHp fun v67_5 =>
  K (((((((env.set 62 (env 2)).set 63 v63_1).set 64 (env 13)).set 65 (env 1)).set 66 v66_4).set 67 v67_5).set 13 v67_5) h
@[congr] theorem slices_pdqsortCmpFunc_api_Prefix_r13_congr {env : Env} {h : Hp} {K : Env → Hp → Prop} : slices_pdqsortCmpFunc_api_Prefix_r13 env h K = slices_pdqsortCmpFunc_api_Prefix_r13 env h K := rfl

/-- zsortanyfunc.go:96 -/
def slices_pdqsortCmpFunc_api_Prefix_r14 (env : Env) (h : Hp) (K : Env → Hp → Prop) : Prop :=
  K (env.set 14 (Go.Value.int Go.IntKind.i64 1)) h
@[congr] theorem slices_pdqsortCmpFunc_api_Prefix_r14_congr {env : Env} {h : Hp} {K : Env → Hp → Prop} : slices_pdqsortCmpFunc_api_Prefix_r14 env h K = slices_pdqsortCmpFunc_api_Prefix_r14 env h K := rfl

/-- zsortanyfunc.go:100 -/
def slices_pdqsortCmpFunc_api_Prefix_r15 (env : Env) (h : Hp) (K : Env → Hp → Prop) : Prop :=
  gd (yb (env 10) == some true) (fun h k => k (env 11) h) h fun v70_2 h1 =>
  rd Try.prog (pck (env 10) v70_2 (Go.Value.bool false)) noHp fun v71_3 =>
  gd (yb v71_3 == some true) (fun h k => k (env 14) h) h1 fun v73_5 h2 =>
  gd (yb v71_3 == some true) (fun h k => rd Try.prog (bop Go.BinOp.eql 99 (Go.Operand.tmp 73) (Go.Operand.const (Go.Value.int Go.IntKind.i64 1)) v73_5 (Go.Value.int Go.IntKind.i64 1)) noHp fun v => k v h) h2 fun v74_6 h3 =>
  rd Try.prog (pck v71_3 v74_6 (Go.Value.bool false)) noHp fun v75_7 =>
  K ((((((((env.set 68 (env 10)).set 69 (env 10)).set 70 v70_2).set 71 v71_3).set 72 v71_3).set 73 v73_5).set 74 v74_6).set 75 v75_7) h3
@[congr] theorem slices_pdqsortCmpFunc_api_Prefix_r15_congr {env : Env} {h : Hp} {K : Env → Hp → Prop} : slices_pdqsortCmpFunc_api_Prefix_r15 env h K = slices_pdqsortCmpFunc_api_Prefix_r15 env h K := rfl

/-- zsortanyfunc.go:101 -/
def slices_pdqsortCmpFunc_api_Prefix_r16 (env : Env) (h : Hp) (K : Env → Hp → Prop) : Prop :=
  Ok Try.prog 68 #[(env 0), (env 1), (env 2), (env 4)] h fun v80_4 h1 =>
  K (((((env.set 76 (env 0)).set 77 (env 1)).set 78 (env 2)).set 79 (env 4)).set 80 v80_4) h1
@[congr] theorem slices_pdqsortCmpFunc_api_Prefix_r16_congr {env : Env} {h : Hp} {K : Env → Hp → Prop} : slices_pdqsortCmpFunc_api_Prefix_r16 env h K = slices_pdqsortCmpFunc_api_Prefix_r16 env h K := rfl

/-- zsortanyfunc.go:108 (in any order) -/
def slices_pdqsortCmpFunc_api_Prefix_r17 (env : Env) (h : Hp) (K : Env → Hp → Prop) : Prop :=
  rd Try.prog (bop Go.BinOp.gtr 3 (Go.Operand.tmp 81) (Go.Operand.const (Go.Value.int Go.IntKind.i64 0)) (env 1) (Go.Value.int Go.IntKind.i64 0)) noHp fun v82_1 =>
  gd (yb v82_1 == some true) (fun h k => k (env 4) h) h fun v84_3 h1 =>
  gd (yb v82_1 == some true) (fun h k => k (env 0) h) h1 fun v85_4 h2 =>
  gd (yb v82_1 == some true) (fun h k => k (env 1) h) h2 fun v86_5 h3 =>
  gd (yb v82_1 == some true) (fun h k => rd Try.prog (bop Go.BinOp.sub 3 (Go.Operand.tmp 86) (Go.Operand.const (Go.Value.int Go.IntKind.i64 1)) v86_5 (Go.Value.int Go.IntKind.i64 1)) noHp fun v => k v h) h3 fun v87_6 h4 =>
  gd (yb v82_1 == some true) (fun h k => rd Try.prog (Instr.indexAt 74 v85_4 v87_6) noHp fun v => k v h) h4 fun v88_7 h5 =>
  gd (yb v82_1 == some true) (fun h k => rd Try.prog (Instr.loadAt 24 v88_7) h fun v => k v h) h5 fun v89_8 h6 =>
  gd (yb v82_1 == some true) (fun h k => k (env 0) h) h6 fun v90_9 h7 =>
  gd (yb v82_1 == some true) (fun h k => k (env 13) h) h7 fun v91_10 h8 =>
  gd (yb v82_1 == some true) (fun h k => rd Try.prog (Instr.indexAt 74 v90_9 v91_10) noHp fun v => k v h) h8 fun v92_11 h9 =>
  gd (yb v82_1 == some true) (fun h k => rd Try.prog (Instr.loadAt 24 v92_11) h fun v => k v h) h9 fun v93_12 h10 =>
  gd (yb v82_1 == some true) (fun h k => callV Try.prog v84_3 #[v89_8, v93_12] h k) h10 fun v94_13 h11 =>
  (True) ∧
  gd (yb v82_1 == some true) (fun h k => rd Try.prog (bop Go.BinOp.lss 3 (Go.Operand.tmp 94) (Go.Operand.const (Go.Value.int Go.IntKind.i64 0)) v94_13 (Go.Value.int Go.IntKind.i64 0)) noHp fun v => k v h) h11 fun v95_14 h12 =>
  gd (yb v82_1 == some true) (fun h k => rd Try.prog (Op.unary Go.UnOp.not v95_14) noHp fun v => k v h) h12 fun v96_15 h13 =>
  rd Try.prog (pck v82_1 v96_15 (Go.Value.bool false)) noHp fun v97_16 =>
  K (((((((((((((((((env.set 81 (env 1)).set 82 v82_1).set 83 v82_1).set 84 v84_3).set 85 v85_4).set 86 v86_5).set 87 v87_6).set 88 v88_7).set 89 v89_8).set 90 v90_9).set 91 v91_10).set 92 v92_11).set 93 v93_12).set 94 v94_13).set 95 v95_14).set 96 v96_15).set 97 v97_16) h13
@[congr] theorem slices_pdqsortCmpFunc_api_Prefix_r17_congr {env : Env} {h : Hp} {K : Env → Hp → Prop} : slices_pdqsortCmpFunc_api_Prefix_r17 env h K = slices_pdqsortCmpFunc_api_Prefix_r17 env h K := rfl

/-- zsortanyfunc.go:109 -/
def slices_pdqsortCmpFunc_api_Prefix_r18 (env : Env) (h : Hp) (K : Env → Hp → Prop) : Prop :=
  Ok Try.prog 69 #[(env 0), (env 1), (env 2), (env 13), (env 4)] h fun v103_5 h1 =>
  K (((((((env.set 98 (env 0)).set 99 (env 1)).set 100 (env 2)).set 101 (env 13)).set 102 (env 4)).set 103 v103_5).set 15 v103_5) h1
@[congr] theorem slices_pdqsortCmpFunc_api_Prefix_r18_congr {env : Env} {h : Hp} {K : Env → Hp → Prop} : slices_pdqsortCmpFunc_api_Prefix_r18 env h K = slices_pdqsortCmpFunc_api_Prefix_r18 env h K := rfl

/-- zsortanyfunc.go:110 -/
def slices_pdqsortCmpFunc_api_Prefix_r19 (env : Env) (h : Hp) (K : Env → Hp → Prop) : Prop :=
  K ((env.set 104 (env 15)).set 1 (env 15)) h
@[congr] theorem slices_pdqsortCmpFunc_api_Prefix_r19_congr {env : Env} {h : Hp} {K : Env → Hp → Prop} : slices_pdqsortCmpFunc_api_Prefix_r19 env h K = slices_pdqsortCmpFunc_api_Prefix_r19 env h K := rfl

/-- zsortanyfunc.go:114 -/
def slices_pdqsortCmpFunc_api_Prefix_r20 (env : Env) (h : Hp) (K : Env → Hp → Prop) : Prop :=
  Ok Try.prog 70 #[(env 0), (env 1), (env 2), (env 13), (env 4)] h fun v111_5 h1 =>
  rd Try.prog (Instr.extract v111_5 0) noHp fun v112_7 =>
  rd Try.prog (Instr.extract v111_5 1) noHp fun v113_8 =>
  K (((((((((((env.set 106 (env 0)).set 107 (env 1)).set 108 (env 2)).set 109 (env 13)).set 110 (env 4)).set 111 v111_5).set 105 v111_5).set 112 v112_7).set 113 v113_8).set 16 v112_7).set 17 v113_8) h1
@[congr] theorem slices_pdqsortCmpFunc_api_Prefix_r20_congr {env : Env} {h : Hp} {K : Env → Hp → Prop} : slices_pdqsortCmpFunc_api_Prefix_r20 env h K = slices_pdqsortCmpFunc_api_Prefix_r20 env h K := rfl

/-- zsortanyfunc.go:115 -/
def slices_pdqsortCmpFunc_api_Prefix_r21 (env : Env) (h : Hp) (K : Env → Hp → Prop) : Prop :=
  K ((env.set 114 (env 17)).set 11 (env 17)) h
@[congr] theorem slices_pdqsortCmpFunc_api_Prefix_r21_congr {env : Env} {h : Hp} {K : Env → Hp → Prop} : slices_pdqsortCmpFunc_api_Prefix_r21 env h K = slices_pdqsortCmpFunc_api_Prefix_r21 env h K := rfl

/-- zsortanyfunc.go:117 -/
def slices_pdqsortCmpFunc_api_Prefix_r22 (env : Env) (h : Hp) (K : Env → Hp → Prop) : Prop :=
  rd Try.prog (bop Go.BinOp.sub 3 (Go.Operand.tmp 115) (Go.Operand.tmp 116) (env 16) (env 1)) noHp fun v117_2 =>
  rd Try.prog (bop Go.BinOp.sub 3 (Go.Operand.tmp 118) (Go.Operand.tmp 119) (env 2) (env 16)) noHp fun v120_5 =>
  K ((((((((env.set 115 (env 16)).set 116 (env 1)).set 117 v117_2).set 118 (env 2)).set 119 (env 16)).set 120 v120_5).set 18 v117_2).set 19 v120_5) h
@[congr] theorem slices_pdqsortCmpFunc_api_Prefix_r22_congr {env : Env} {h : Hp} {K : Env → Hp → Prop} : slices_pdqsortCmpFunc_api_Prefix_r22 env h K = slices_pdqsortCmpFunc_api_Prefix_r22 env h K := rfl

/-- zsortanyfunc.go:118 -/
def slices_pdqsortCmpFunc_api_Prefix_r23 (env : Env) (h : Hp) (K : Env → Hp → Prop) : Prop :=
  rd Try.prog (bop Go.BinOp.quo 3 (Go.Operand.tmp 121) (Go.Operand.const (Go.Value.int Go.IntKind.i64 8)) (env 12) (Go.Value.int Go.IntKind.i64 8)) noHp fun v122_1 =>
  K (((env.set 121 (env 12)).set 122 v122_1).set 20 v122_1) h
@[congr] theorem slices_pdqsortCmpFunc_api_Prefix_r23_congr {env : Env} {h : Hp} {K : Env → Hp → Prop} : slices_pdqsortCmpFunc_api_Prefix_r23 env h K = slices_pdqsortCmpFunc_api_Prefix_r23 env h K := rfl

/-- zsortanyfunc.go:119 -/
def slices_pdqsortCmpFunc_api_Prefix_r24 (env : Env) (h : Hp) (K : Env → Hp → Prop) : Prop :=
  rd Try.prog (bop Go.BinOp.lss 3 (Go.Operand.tmp 123) (Go.Operand.tmp 124) (env 18) (env 19)) noHp fun v125_2 =>
  K (((env.set 123 (env 18)).set 124 (env 19)).set 125 v125_2) h
@[congr] theorem slices_pdqsortCmpFunc_api_Prefix_r24_congr {env : Env} {h : Hp} {K : Env → Hp → Prop} : slices_pdqsortCmpFunc_api_Prefix_r24 env h K = slices_pdqsortCmpFunc_api_Prefix_r24 env h K := rfl

/-- zsortanyfunc.go:120 -/
def slices_pdqsortCmpFunc_api_Prefix_r25 (env : Env) (h : Hp) (K : Env → Hp → Prop) : Prop :=
  rd Try.prog (bop Go.BinOp.geq 3 (Go.Operand.tmp 126) (Go.Operand.tmp 127) (env 18) (env 20)) noHp fun v128_2 =>
  K ((((env.set 126 (env 18)).set 127 (env 20)).set 128 v128_2).set 10 v128_2) h
@[congr] theorem slices_pdqsortCmpFunc_api_Prefix_r25_congr {env : Env} {h : Hp} {K : Env → Hp → Prop} : slices_pdqsortCmpFunc_api_Prefix_r25 env h K = slices_pdqsortCmpFunc_api_Prefix_r25 env h K := rfl

/-- zsortanyfunc.go:121 -/
def slices_pdqsortCmpFunc_api_Prefix_r26 (env : Env) (h : Hp) (K : Env → Hp → Prop) : Prop :=
  Ok Try.prog 61 #[(env 0), (env 1), (env 16), (env 3), (env 4)] h fun v134_5 h1 =>
  K ((((((env.set 129 (env 0)).set 130 (env 1)).set 131 (env 16)).set 132 (env 3)).set 133 (env 4)).set 134 v134_5) h1
@[congr] theorem slices_pdqsortCmpFunc_api_Prefix_r26_congr {env : Env} {h : Hp} {K : Env → Hp → Prop} : slices_pdqsortCmpFunc_api_Prefix_r26 env h K = slices_pdqsortCmpFunc_api_Prefix_r26 env h K := rfl

/-- zsortanyfunc.go:122 -/
def slices_pdqsortCmpFunc_api_Prefix_r27 (env : Env) (h : Hp) (K : Env → Hp → Prop) : Prop :=
  rd Try.prog (bop Go.BinOp.add 3 (Go.Operand.tmp 135) (Go.Operand.const (Go.Value.int Go.IntKind.i64 1)) (env 16) (Go.Value.int Go.IntKind.i64 1)) noHp fun v136_1 =>
  K (((env.set 135 (env 16)).set 136 v136_1).set 1 v136_1) h
@[congr] theorem slices_pdqsortCmpFunc_api_Prefix_r27_congr {env : Env} {h : Hp} {K : Env → Hp → Prop} : slices_pdqsortCmpFunc_api_Prefix_r27 env h K = slices_pdqsortCmpFunc_api_Prefix_r27 env h K := rfl

/-- zsortanyfunc.go:124 -/
def slices_pdqsortCmpFunc_api_Prefix_r28 (env : Env) (h : Hp) (K : Env → Hp → Prop) : Prop :=
  rd Try.prog (bop Go.BinOp.geq 3 (Go.Operand.tmp 137) (Go.Operand.tmp 138) (env 19) (env 20)) noHp fun v139_2 =>
  K ((((env.set 137 (env 19)).set 138 (env 20)).set 139 v139_2).set 10 v139_2) h
@[congr] theorem slices_pdqsortCmpFunc_api_Prefix_r28_congr {env : Env} {h : Hp} {K : Env → Hp → Prop} : slices_pdqsortCmpFunc_api_Prefix_r28 env h K = slices_pdqsortCmpFunc_api_Prefix_r28 env h K := rfl

/-- zsortanyfunc.go:125 -/
def slices_pdqsortCmpFunc_api_Prefix_r29 (env : Env) (h : Hp) (K : Env → Hp → Prop) : Prop :=
  rd Try.prog (bop Go.BinOp.add 3 (Go.Operand.tmp 141) (Go.Operand.const (Go.Value.int Go.IntKind.i64 1)) (env 16) (Go.Value.int Go.IntKind.i64 1)) noHp fun v142_2 =>
  Ok Try.prog 61 #[(env 0), v142_2, (env 2), (env 3), (env 4)] h fun v146_6 h1 =>
  K (((((((env.set 140 (env 0)).set 141 (env 16)).set 142 v142_2).set 143 (env 2)).set 144 (env 3)).set 145 (env 4)).set 146 v146_6) h1
@[congr] theorem slices_pdqsortCmpFunc_api_Prefix_r29_congr {env : Env} {h : Hp} {K : Env → Hp → Prop} : slices_pdqsortCmpFunc_api_Prefix_r29 env h K = slices_pdqsortCmpFunc_api_Prefix_r29 env h K := rfl

/-- zsortanyfunc.go:126 -/
def slices_pdqsortCmpFunc_api_Prefix_r30 (env : Env) (h : Hp) (K : Env → Hp → Prop) : Prop :=
  K ((env.set 147 (env 16)).set 2 (env 16)) h
@[congr] theorem slices_pdqsortCmpFunc_api_Prefix_r30_congr {env : Env} {h : Hp} {K : Env → Hp → Prop} : slices_pdqsortCmpFunc_api_Prefix_r30 env h K = slices_pdqsortCmpFunc_api_Prefix_r30 env h K := rfl

def slices_pdqsortCmpFunc_api_Prefix_L0 : Den := (blk 1 (sq (rg slices_pdqsortCmpFunc_api_Prefix_r2) (sq (sq (rg slices_pdqsortCmpFunc_api_Prefix_r3) (cnd (Go.Operand.tmp 25) (sq (rg slices_pdqsortCmpFunc_api_Prefix_r4) (ex .ret)) (ex .normal))) (sq (sq (rg slices_pdqsortCmpFunc_api_Prefix_r5) (cnd (Go.Operand.tmp 32) (sq (rg slices_pdqsortCmpFunc_api_Prefix_r6) (ex .ret)) (ex .normal))) (sq (sq (rg slices_pdqsortCmpFunc_api_Prefix_r7) (cnd (Go.Operand.tmp 39) (sq (rg slices_pdqsortCmpFunc_api_Prefix_r8) (rg slices_pdqsortCmpFunc_api_Prefix_r9)) (ex .normal))) (sq (rg slices_pdqsortCmpFunc_api_Prefix_r10) (sq (sq (rg slices_pdqsortCmpFunc_api_Prefix_r11) (cnd (Go.Operand.tmp 56) (sq (rg slices_pdqsortCmpFunc_api_Prefix_r12) (sq (rg slices_pdqsortCmpFunc_api_Prefix_r13) (rg slices_pdqsortCmpFunc_api_Prefix_r14))) (ex .normal))) (sq (sq (rg slices_pdqsortCmpFunc_api_Prefix_r15) (cnd (Go.Operand.tmp 75) (sq (rg slices_pdqsortCmpFunc_api_Prefix_r16) (cnd (Go.Operand.tmp 80) (ex .ret) (ex .normal))) (ex .normal))) (sq (sq (rg slices_pdqsortCmpFunc_api_Prefix_r17) (cnd (Go.Operand.tmp 97) (sq (rg slices_pdqsortCmpFunc_api_Prefix_r18) (sq (rg slices_pdqsortCmpFunc_api_Prefix_r19) (ex (.exit 1)))) (ex .normal))) (sq (rg slices_pdqsortCmpFunc_api_Prefix_r20) (sq (rg slices_pdqsortCmpFunc_api_Prefix_r21) (sq (rg slices_pdqsortCmpFunc_api_Prefix_r22) (sq (rg slices_pdqsortCmpFunc_api_Prefix_r23) (sq (rg slices_pdqsortCmpFunc_api_Prefix_r24) (cnd (Go.Operand.tmp 125) (sq (rg slices_pdqsortCmpFunc_api_Prefix_r25) (sq (rg slices_pdqsortCmpFunc_api_Prefix_r26) (rg slices_pdqsortCmpFunc_api_Prefix_r27))) (sq (rg slices_pdqsortCmpFunc_api_Prefix_r28) (sq (rg slices_pdqsortCmpFunc_api_Prefix_r29) (rg slices_pdqsortCmpFunc_api_Prefix_r30))))))))))))))))))

def slices_pdqsortCmpFunc_api_Prefix_D : Den := (sq (rg slices_pdqsortCmpFunc_api_Prefix_r0) (sq (rg slices_pdqsortCmpFunc_api_Prefix_r1) (blk 0 (lp slices_pdqsortCmpFunc_api_Prefix_L0))))

theorem slices_pdqsortCmpFunc_api_Prefix_eq : (den Try.prog 148 slices_pdqsortCmpFunc_api_Prefix_code).1 = slices_pdqsortCmpFunc_api_Prefix_D := by kernel_rfl

theorem slices_pdqsortCmpFunc_api_Prefix_ok {args : Array Value} {h : Hp} {Q : Value → Hp → Prop} (hn : args.size ≤ 148) (D : slices_pdqsortCmpFunc_api_Prefix_D (fin Try.prog [] Q) (env0 args) h) : Ok Try.prog 61 args h Q :=
  ok_of_den progIsOk Try.func61 (c := slices_pdqsortCmpFunc_api_Prefix_code) (by kernel_rfl) hn (by show (den Try.prog 148 slices_pdqsortCmpFunc_api_Prefix_code).1 _ _ _; rw [slices_pdqsortCmpFunc_api_Prefix_eq]; exact D)

/-! ### math/bits.Len: function 62 -/
noncomputable def math_bits_Len_code : Code := match Try.f62.body with | some c => c | none => .skip

/-- bits.go:302 -/
def math_bits_Len_r0 (env : Env) (h : Hp) (K : Env → Hp → Prop) : Prop :=
  K (env.set 2 (Go.Value.int Go.IntKind.i64 0)) h
@[congr] theorem math_bits_Len_r0_congr {env : Env} {h : Hp} {K : Env → Hp → Prop} : math_bits_Len_r0 env h K = math_bits_Len_r0 env h K := rfl

/-- bits.go:304 -/
def math_bits_Len_r1 (env : Env) (h : Hp) (K : Env → Hp → Prop) : Prop :=
  rd Try.prog (convert 40 22 (env 0)) noHp fun v4_1 =>
  Ok Try.prog 71 #[v4_1] h fun v5_2 h1 =>
  K ((((env.set 3 (env 0)).set 4 v4_1).set 5 v5_2).set 2 v5_2) h1
@[congr] theorem math_bits_Len_r1_congr {env : Env} {h : Hp} {K : Env → Hp → Prop} : math_bits_Len_r1 env h K = math_bits_Len_r1 env h K := rfl

/-- bits.go:306 -/
def math_bits_Len_r2 (env : Env) (h : Hp) (K : Env → Hp → Prop) : Prop :=
  Ok Try.prog 72 #[(env 0)] h fun v7_1 h1 =>
  K (((env.set 6 (env 0)).set 7 v7_1).set 2 v7_1) h1
@[congr] theorem math_bits_Len_r2_congr {env : Env} {h : Hp} {K : Env → Hp → Prop} : math_bits_Len_r2 env h K = math_bits_Len_r2 env h K := rfl

def math_bits_Len_D : Den := (sq (rg math_bits_Len_r0) (sq (cnd (Go.Operand.const (Go.Value.bool false)) (sq (rg math_bits_Len_r1) (ex .ret)) (ex .normal)) (sq (rg math_bits_Len_r2) (ex .ret))))

theorem math_bits_Len_eq : (den Try.prog 8 math_bits_Len_code).1 = math_bits_Len_D := by kernel_rfl

theorem math_bits_Len_ok {args : Array Value} {h : Hp} {Q : Value → Hp → Prop} (hn : args.size ≤ 8) (D : math_bits_Len_D (fin Try.prog [(Go.ResultVar.tmp 2)] Q) (env0 args) h) : Ok Try.prog 62 args h Q :=
  ok_of_den progIsOk Try.func62 (c := math_bits_Len_code) (by kernel_rfl) hn (by show (den Try.prog 8 math_bits_Len_code).1 _ _ _; rw [math_bits_Len_eq]; exact D)

/-! ### slices.insertionSortCmpFunc[octroi/api.Prefix]: function 63 -/
noncomputable def slices_insertionSortCmpFunc_api_Prefix_code : Code := match Try.f63.body with | some c => c | none => .skip

/-- zsortanyfunc.go:11 -/
def slices_insertionSortCmpFunc_api_Prefix_r0 (env : Env) (h : Hp) (K : Env → Hp → Prop) : Prop :=
  rd Try.prog (bop Go.BinOp.add 3 (Go.Operand.tmp 10) (Go.Operand.const (Go.Value.int Go.IntKind.i64 1)) (env 1) (Go.Value.int Go.IntKind.i64 1)) noHp fun v11_1 =>
  K (((env.set 10 (env 1)).set 11 v11_1).set 8 v11_1) h
@[congr] theorem slices_insertionSortCmpFunc_api_Prefix_r0_congr {env : Env} {h : Hp} {K : Env → Hp → Prop} : slices_insertionSortCmpFunc_api_Prefix_r0 env h K = slices_insertionSortCmpFunc_api_Prefix_r0 env h K := rfl

/-- zsortanyfunc.go:11 -/
def slices_insertionSortCmpFunc_api_Prefix_r1 (env : Env) (h : Hp) (K : Env → Hp → Prop) : Prop :=
  rd Try.prog (bop Go.BinOp.lss 3 (Go.Operand.tmp 12) (Go.Operand.tmp 13) (env 8) (env 2)) noHp fun v14_2 =>
  K (((env.set 12 (env 8)).set 13 (env 2)).set 14 v14_2) h
@[congr] theorem slices_insertionSortCmpFunc_api_Prefix_r1_congr {env : Env} {h : Hp} {K : Env → Hp → Prop} : slices_insertionSortCmpFunc_api_Prefix_r1 env h K = slices_insertionSortCmpFunc_api_Prefix_r1 env h K := rfl

/-- zsortanyfunc.go:12 -/
def slices_insertionSortCmpFunc_api_Prefix_r2 (env : Env) (h : Hp) (K : Env → Hp → Prop) : Prop :=
  K ((env.set 17 (env 8)).set 9 (env 8)) h
@[congr] theorem slices_insertionSortCmpFunc_api_Prefix_r2_congr {env : Env} {h : Hp} {K : Env → Hp → Prop} : slices_insertionSortCmpFunc_api_Prefix_r2 env h K = slices_insertionSortCmpFunc_api_Prefix_r2 env h K := rfl

/-- zsortanyfunc.go:12 (in any order) -/
def slices_insertionSortCmpFunc_api_Prefix_r3 (env : Env) (h : Hp) (K : Env → Hp → Prop) : Prop :=
  rd Try.prog (bop Go.BinOp.gtr 3 (Go.Operand.tmp 18) (Go.Operand.tmp 19) (env 9) (env 1)) noHp fun v20_2 =>
  gd (yb v20_2 == some true) (fun h k => k (env 3) h) h fun v22_4 h1 =>
  gd (yb v20_2 == some true) (fun h k => k (env 0) h) h1 fun v23_5 h2 =>
  gd (yb v20_2 == some true) (fun h k => k (env 9) h) h2 fun v24_6 h3 =>
  gd (yb v20_2 == some true) (fun h k => rd Try.prog (Instr.indexAt 74 v23_5 v24_6) noHp fun v => k v h) h3 fun v25_7 h4 =>
  gd (yb v20_2 == some true) (fun h k => rd Try.prog (Instr.loadAt 24 v25_7) h fun v => k v h) h4 fun v26_8 h5 =>
  gd (yb v20_2 == some true) (fun h k => k (env 0) h) h5 fun v27_9 h6 =>
  gd (yb v20_2 == some true) (fun h k => k (env 9) h) h6 fun v28_10 h7 =>
  gd (yb v20_2 == some true) (fun h k => rd Try.prog (bop Go.BinOp.sub 3 (Go.Operand.tmp 28) (Go.Operand.const (Go.Value.int Go.IntKind.i64 1)) v28_10 (Go.Value.int Go.IntKind.i64 1)) noHp fun v => k v h) h7 fun v29_11 h8 =>
  gd (yb v20_2 == some true) (fun h k => rd Try.prog (Instr.indexAt 74 v27_9 v29_11) noHp fun v => k v h) h8 fun v30_12 h9 =>
  gd (yb v20_2 == some true) (fun h k => rd Try.prog (Instr.loadAt 24 v30_12) h fun v => k v h) h9 fun v31_13 h10 =>
  gd (yb v20_2 == some true) (fun h k => callV Try.prog v22_4 #[v26_8, v31_13] h k) h10 fun v32_14 h11 =>
  (True) ∧
  gd (yb v20_2 == some true) (fun h k => rd Try.prog (bop Go.BinOp.lss 3 (Go.Operand.tmp 32) (Go.Operand.const (Go.Value.int Go.IntKind.i64 0)) v32_14 (Go.Value.int Go.IntKind.i64 0)) noHp fun v => k v h) h11 fun v33_15 h12 =>
  rd Try.prog (pck v20_2 v33_15 (Go.Value.bool false)) noHp fun v34_16 =>
  K (((((((((((((((((env.set 18 (env 9)).set 19 (env 1)).set 20 v20_2).set 21 v20_2).set 22 v22_4).set 23 v23_5).set 24 v24_6).set 25 v25_7).set 26 v26_8).set 27 v27_9).set 28 v28_10).set 29 v29_11).set 30 v30_12).set 31 v31_13).set 32 v32_14).set 33 v33_15).set 34 v34_16) h12
@[congr] theorem slices_insertionSortCmpFunc_api_Prefix_r3_congr {env : Env} {h : Hp} {K : Env → Hp → Prop} : slices_insertionSortCmpFunc_api_Prefix_r3 env h K = slices_insertionSortCmpFunc_api_Prefix_r3 env h K := rfl

/-- zsortanyfunc.go:13 (in any order) -/
def slices_insertionSortCmpFunc_api_Prefix_r4 (env : Env) (h : Hp) (K : Env → Hp → Prop) : Prop :=
  rd Try.prog (bop Go.BinOp.sub 3 (Go.Operand.tmp 40) (Go.Operand.const (Go.Value.int Go.IntKind.i64 1)) (env 9) (Go.Value.int Go.IntKind.i64 1)) noHp fun v41_4 =>
  rd Try.prog (bop Go.BinOp.sub 3 (Go.Operand.tmp 43) (Go.Operand.const (Go.Value.int Go.IntKind.i64 1)) (env 9) (Go.Value.int Go.IntKind.i64 1)) noHp fun v44_7 =>
  rd Try.prog (Instr.indexAt 74 (env 0) v44_7) noHp fun v45_8 =>
  rd Try.prog (Instr.loadAt 24 v45_8) h fun v46_9 =>
  rd Try.prog (Instr.indexAt 74 (env 0) (env 9)) noHp fun v49_12 =>
  rd Try.prog (Instr.loadAt 24 v49_12) h fun v50_13 =>
  rd Try.prog (Instr.indexAt 74 (env 0) (env 9)) noHp fun v51_14 =>
  arun Try.prog (Instr.storeAt 24 v51_14 v46_9) h fun _ h1 =>
  (True) ∧
  rd Try.prog (Instr.indexAt 74 (env 0) v41_4) noHp fun v52_16 =>
  arun Try.prog (Instr.storeAt 24 v52_16 v50_13) h1 fun _ h2 =>
  (True) ∧
  K ((((((((((((((((env.set 37 (env 0)).set 38 (env 9)).set 39 (env 0)).set 40 (env 9)).set 41 v41_4).set 42 (env 0)).set 43 (env 9)).set 44 v44_7).set 45 v45_8).set 46 v46_9).set 47 (env 0)).set 48 (env 9)).set 49 v49_12).set 50 v50_13).set 51 v51_14).set 52 v52_16) h2
@[congr] theorem slices_insertionSortCmpFunc_api_Prefix_r4_congr {env : Env} {h : Hp} {K : Env → Hp → Prop} : slices_insertionSortCmpFunc_api_Prefix_r4 env h K = slices_insertionSortCmpFunc_api_Prefix_r4 env h K := rfl

/-- zsortanyfunc.go:12 -/
def slices_insertionSortCmpFunc_api_Prefix_r5 (env : Env) (h : Hp) (K : Env → Hp → Prop) : Prop :=
  rd Try.prog (bop Go.BinOp.sub 3 (Go.Operand.tmp 35) (Go.Operand.const (Go.Value.int Go.IntKind.i64 1)) (env 9) (Go.Value.int Go.IntKind.i64 1)) noHp fun v36_1 =>
  K (((env.set 35 (env 9)).set 36 v36_1).set 9 v36_1) h
@[congr] theorem slices_insertionSortCmpFunc_api_Prefix_r5_congr {env : Env} {h : Hp} {K : Env → Hp → Prop} : slices_insertionSortCmpFunc_api_Prefix_r5 env h K = slices_insertionSortCmpFunc_api_Prefix_r5 env h K := rfl

def slices_insertionSortCmpFunc_api_Prefix_L0 : Den := (sq (sq (rg slices_insertionSortCmpFunc_api_Prefix_r3) (cnd (Go.Operand.tmp 34) (ex .normal) (ex (.exit 2)))) (sq (blk 3 (rg slices_insertionSortCmpFunc_api_Prefix_r4)) (rg slices_insertionSortCmpFunc_api_Prefix_r5)))

/-- zsortanyfunc.go:11 -/
def slices_insertionSortCmpFunc_api_Prefix_r6 (env : Env) (h : Hp) (K : Env → Hp → Prop) : Prop :=
  rd Try.prog (bop Go.BinOp.add 3 (Go.Operand.tmp 15) (Go.Operand.const (Go.Value.int Go.IntKind.i64 1)) (env 8) (Go.Value.int Go.IntKind.i64 1)) noHp fun v16_1 =>
  K (((env.set 15 (env 8)).set 16 v16_1).set 8 v16_1) h
@[congr] theorem slices_insertionSortCmpFunc_api_Prefix_r6_congr {env : Env} {h : Hp} {K : Env → Hp → Prop} : slices_insertionSortCmpFunc_api_Prefix_r6 env h K = slices_insertionSortCmpFunc_api_Prefix_r6 env h K := rfl

def slices_insertionSortCmpFunc_api_Prefix_L1 : Den := (sq (sq (rg slices_insertionSortCmpFunc_api_Prefix_r1) (cnd (Go.Operand.tmp 14) (ex .normal) (ex (.exit 0)))) (sq (blk 1 (sq (rg slices_insertionSortCmpFunc_api_Prefix_r2) (blk 2 (lp slices_insertionSortCmpFunc_api_Prefix_L0)))) (rg slices_insertionSortCmpFunc_api_Prefix_r6)))

def slices_insertionSortCmpFunc_api_Prefix_D : Den := (sq (rg slices_insertionSortCmpFunc_api_Prefix_r0) (blk 0 (lp slices_insertionSortCmpFunc_api_Prefix_L1)))

theorem slices_insertionSortCmpFunc_api_Prefix_eq : (den Try.prog 53 slices_insertionSortCmpFunc_api_Prefix_code).1 = slices_insertionSortCmpFunc_api_Prefix_D := by kernel_rfl

theorem slices_insertionSortCmpFunc_api_Prefix_ok {args : Array Value} {h : Hp} {Q : Value → Hp → Prop} (hn : args.size ≤ 53) (D : slices_insertionSortCmpFunc_api_Prefix_D (fin Try.prog [] Q) (env0 args) h) : Ok Try.prog 63 args h Q :=
  ok_of_den progIsOk Try.func63 (c := slices_insertionSortCmpFunc_api_Prefix_code) (by kernel_rfl) hn (by show (den Try.prog 53 slices_insertionSortCmpFunc_api_Prefix_code).1 _ _ _; rw [slices_insertionSortCmpFunc_api_Prefix_eq]; exact D)

/-! ### math/bits.Len32: function 71 -/
noncomputable def math_bits_Len32_code : Code := match Try.f71.body with | some c => c | none => .skip

/-- bits.go:324 -/
def math_bits_Len32_r0 (env : Env) (h : Hp) (K : Env → Hp → Prop) : Prop :=
  K (env.set 2 (Go.Value.int Go.IntKind.i64 0)) h
@[congr] theorem math_bits_Len32_r0_congr {env : Env} {h : Hp} {K : Env → Hp → Prop} : math_bits_Len32_r0 env h K = math_bits_Len32_r0 env h K := rfl

/-- bits.go:325 -/
def math_bits_Len32_r1 (env : Env) (h : Hp) (K : Env → Hp → Prop) : Prop :=
  rd Try.prog (bop Go.BinOp.geq 22 (Go.Operand.tmp 3) (Go.Operand.const (Go.Value.int Go.IntKind.u32 65536)) (env 0) (Go.Value.int Go.IntKind.u32 65536)) noHp fun v4_1 =>
  K ((env.set 3 (env 0)).set 4 v4_1) h
@[congr] theorem math_bits_Len32_r1_congr {env : Env} {h : Hp} {K : Env → Hp → Prop} : math_bits_Len32_r1 env h K = math_bits_Len32_r1 env h K := rfl

/-- bits.go:326 -/
def math_bits_Len32_r2 (env : Env) (h : Hp) (K : Env → Hp → Prop) : Prop :=
  rd Try.prog (bop Go.BinOp.shr 22 (Go.Operand.tmp 5) (Go.Operand.const (Go.Value.int Go.IntKind.u64 16)) (env 0) (Go.Value.int Go.IntKind.u64 16)) noHp fun v6_1 =>
  K (((env.set 5 (env 0)).set 6 v6_1).set 0 v6_1) h
@[congr] theorem math_bits_Len32_r2_congr {env : Env} {h : Hp} {K : Env → Hp → Prop} : math_bits_Len32_r2 env h K = math_bits_Len32_r2 env h K := rfl

/-- bits.go:327 -/
def math_bits_Len32_r3 (env : Env) (h : Hp) (K : Env → Hp → Prop) : Prop :=
  K (env.set 2 (Go.Value.int Go.IntKind.i64 16)) h
@[congr] theorem math_bits_Len32_r3_congr {env : Env} {h : Hp} {K : Env → Hp → Prop} : math_bits_Len32_r3 env h K = math_bits_Len32_r3 env h K := rfl

/-- bits.go:329 -/
def math_bits_Len32_r4 (env : Env) (h : Hp) (K : Env → Hp → Prop) : Prop :=
  rd Try.prog (bop Go.BinOp.geq 22 (Go.Operand.tmp 7) (Go.Operand.const (Go.Value.int Go.IntKind.u32 256)) (env 0) (Go.Value.int Go.IntKind.u32 256)) noHp fun v8_1 =>
  K ((env.set 7 (env 0)).set 8 v8_1) h
@[congr] theorem math_bits_Len32_r4_congr {env : Env} {h : Hp} {K : Env → Hp → Prop} : math_bits_Len32_r4 env h K = math_bits_Len32_r4 env h K := rfl

/-- bits.go:330 -/
def math_bits_Len32_r5 (env : Env) (h : Hp) (K : Env → Hp → Prop) : Prop :=
  rd Try.prog (bop Go.BinOp.shr 22 (Go.Operand.tmp 9) (Go.Operand.const (Go.Value.int Go.IntKind.u64 8)) (env 0) (Go.Value.int Go.IntKind.u64 8)) noHp fun v10_1 =>
  K (((env.set 9 (env 0)).set 10 v10_1).set 0 v10_1) h
@[congr] theorem math_bits_Len32_r5_congr {env : Env} {h : Hp} {K : Env → Hp → Prop} : math_bits_Len32_r5 env h K = math_bits_Len32_r5 env h K := rfl

/-- bits.go:331 -/
def math_bits_Len32_r6 (env : Env) (h : Hp) (K : Env → Hp → Prop) : Prop :=
  rd Try.prog (bop Go.BinOp.add 3 (Go.Operand.tmp 11) (Go.Operand.const (Go.Value.int Go.IntKind.i64 8)) (env 2) (Go.Value.int Go.IntKind.i64 8)) noHp fun v12_1 =>
  K (((env.set 11 (env 2)).set 12 v12_1).set 2 v12_1) h
@[congr] theorem math_bits_Len32_r6_congr {env : Env} {h : Hp} {K : Env → Hp → Prop} : math_bits_Len32_r6 env h K = math_bits_Len32_r6 env h K := rfl

/-- bits.go:333 -/
def math_bits_Len32_r7 (env : Env) (h : Hp) (K : Env → Hp → Prop) : Prop :=
  rd Try.prog (convert 22 5 (env 0)) noHp fun v15_2 =>
  rd Try.prog (Instr.index 9 (Go.Value.string (ByteArray.mk (List.toArray (List.append (List.append [0, 1, 2, 2, 3, 3, 3, 3, 4, 4, 4, 4, 4, 4, 4, 4, 5, 5, 5, 5, 5, 5, 5, 5, 5, 5, 5, 5, 5, 5, 5, 5, 6, 6, 6, 6, 6, 6, 6, 6, 6, 6, 6, 6, 6, 6, 6, 6, 6, 6, 6, 6, 6, 6, 6, 6, 6, 6, 6, 6, 6, 6, 6, 6] [7, 7, 7, 7, 7, 7, 7, 7, 7, 7, 7, 7, 7, 7, 7, 7, 7, 7, 7, 7, 7, 7, 7, 7, 7, 7, 7, 7, 7, 7, 7, 7, 7, 7, 7, 7, 7, 7, 7, 7, 7, 7, 7, 7, 7, 7, 7, 7, 7, 7, 7, 7, 7, 7, 7, 7, 7, 7, 7, 7, 7, 7, 7, 7]) (List.append [8, 8, 8, 8, 8, 8, 8, 8, 8, 8, 8, 8, 8, 8, 8, 8, 8, 8, 8, 8, 8, 8, 8, 8, 8, 8, 8, 8, 8, 8, 8, 8, 8, 8, 8, 8, 8, 8, 8, 8, 8, 8, 8, 8, 8, 8, 8, 8, 8, 8, 8, 8, 8, 8, 8, 8, 8, 8, 8, 8, 8, 8, 8, 8] [8, 8, 8, 8, 8, 8, 8, 8, 8, 8, 8, 8, 8, 8, 8, 8, 8, 8, 8, 8, 8, 8, 8, 8, 8, 8, 8, 8, 8, 8, 8, 8, 8, 8, 8, 8, 8, 8, 8, 8, 8, 8, 8, 8, 8, 8, 8, 8, 8, 8, 8, 8, 8, 8, 8, 8, 8, 8, 8, 8, 8, 8, 8, 8]))))) v15_2) noHp fun v16_3 =>
  rd Try.prog (convert 5 3 v16_3) noHp fun v17_4 =>
  rd Try.prog (bop Go.BinOp.add 3 (Go.Operand.tmp 13) (Go.Operand.tmp 17) (env 2) v17_4) noHp fun v18_5 =>
  K (((((((env.set 13 (env 2)).set 14 (env 0)).set 15 v15_2).set 16 v16_3).set 17 v17_4).set 18 v18_5).set 2 v18_5) h
@[congr] theorem math_bits_Len32_r7_congr {env : Env} {h : Hp} {K : Env → Hp → Prop} : math_bits_Len32_r7 env h K = math_bits_Len32_r7 env h K := rfl

def math_bits_Len32_D : Den := (sq (rg math_bits_Len32_r0) (sq (sq (rg math_bits_Len32_r1) (cnd (Go.Operand.tmp 4) (sq (rg math_bits_Len32_r2) (rg math_bits_Len32_r3)) (ex .normal))) (sq (sq (rg math_bits_Len32_r4) (cnd (Go.Operand.tmp 8) (sq (rg math_bits_Len32_r5) (rg math_bits_Len32_r6)) (ex .normal))) (sq (rg math_bits_Len32_r7) (ex .ret)))))

theorem math_bits_Len32_eq : (den Try.prog 19 math_bits_Len32_code).1 = math_bits_Len32_D := by kernel_rfl

theorem math_bits_Len32_ok {args : Array Value} {h : Hp} {Q : Value → Hp → Prop} (hn : args.size ≤ 19) (D : math_bits_Len32_D (fin Try.prog [(Go.ResultVar.tmp 2)] Q) (env0 args) h) : Ok Try.prog 71 args h Q :=
  ok_of_den progIsOk Try.func71 (c := math_bits_Len32_code) (by kernel_rfl) hn (by show (den Try.prog 19 math_bits_Len32_code).1 _ _ _; rw [math_bits_Len32_eq]; exact D)

/-! ### math/bits.Len64: function 72 -/
noncomputable def math_bits_Len64_code : Code := match Try.f72.body with | some c => c | none => .skip

/-- bits.go:337 -/
def math_bits_Len64_r0 (env : Env) (h : Hp) (K : Env → Hp → Prop) : Prop :=
  K (env.set 2 (Go.Value.int Go.IntKind.i64 0)) h
@[congr] theorem math_bits_Len64_r0_congr {env : Env} {h : Hp} {K : Env → Hp → Prop} : math_bits_Len64_r0 env h K = math_bits_Len64_r0 env h K := rfl

/-- bits.go:338 -/
def math_bits_Len64_r1 (env : Env) (h : Hp) (K : Env → Hp → Prop) : Prop :=
  rd Try.prog (bop Go.BinOp.geq 108 (Go.Operand.tmp 3) (Go.Operand.const (Go.Value.int Go.IntKind.u64 4294967296)) (env 0) (Go.Value.int Go.IntKind.u64 4294967296)) noHp fun v4_1 =>
  K ((env.set 3 (env 0)).set 4 v4_1) h
@[congr] theorem math_bits_Len64_r1_congr {env : Env} {h : Hp} {K : Env → Hp → Prop} : math_bits_Len64_r1 env h K = math_bits_Len64_r1 env h K := rfl

/-- bits.go:339 -/
def math_bits_Len64_r2 (env : Env) (h : Hp) (K : Env → Hp → Prop) : Prop :=
  rd Try.prog (bop Go.BinOp.shr 108 (Go.Operand.tmp 5) (Go.Operand.const (Go.Value.int Go.IntKind.u64 32)) (env 0) (Go.Value.int Go.IntKind.u64 32)) noHp fun v6_1 =>
  K (((env.set 5 (env 0)).set 6 v6_1).set 0 v6_1) h
@[congr] theorem math_bits_Len64_r2_congr {env : Env} {h : Hp} {K : Env → Hp → Prop} : math_bits_Len64_r2 env h K = math_bits_Len64_r2 env h K := rfl

/-- bits.go:340 -/
def math_bits_Len64_r3 (env : Env) (h : Hp) (K : Env → Hp → Prop) : Prop :=
  K (env.set 2 (Go.Value.int Go.IntKind.i64 32)) h
@[congr] theorem math_bits_Len64_r3_congr {env : Env} {h : Hp} {K : Env → Hp → Prop} : math_bits_Len64_r3 env h K = math_bits_Len64_r3 env h K := rfl

/-- bits.go:342 -/
def math_bits_Len64_r4 (env : Env) (h : Hp) (K : Env → Hp → Prop) : Prop :=
  rd Try.prog (bop Go.BinOp.geq 108 (Go.Operand.tmp 7) (Go.Operand.const (Go.Value.int Go.IntKind.u64 65536)) (env 0) (Go.Value.int Go.IntKind.u64 65536)) noHp fun v8_1 =>
  K ((env.set 7 (env 0)).set 8 v8_1) h
@[congr] theorem math_bits_Len64_r4_congr {env : Env} {h : Hp} {K : Env → Hp → Prop} : math_bits_Len64_r4 env h K = math_bits_Len64_r4 env h K := rfl

/-- bits.go:343 -/
def math_bits_Len64_r5 (env : Env) (h : Hp) (K : Env → Hp → Prop) : Prop :=
  rd Try.prog (bop Go.BinOp.shr 108 (Go.Operand.tmp 9) (Go.Operand.const (Go.Value.int Go.IntKind.u64 16)) (env 0) (Go.Value.int Go.IntKind.u64 16)) noHp fun v10_1 =>
  K (((env.set 9 (env 0)).set 10 v10_1).set 0 v10_1) h
@[congr] theorem math_bits_Len64_r5_congr {env : Env} {h : Hp} {K : Env → Hp → Prop} : math_bits_Len64_r5 env h K = math_bits_Len64_r5 env h K := rfl

/-- bits.go:344 -/
def math_bits_Len64_r6 (env : Env) (h : Hp) (K : Env → Hp → Prop) : Prop :=
  rd Try.prog (bop Go.BinOp.add 3 (Go.Operand.tmp 11) (Go.Operand.const (Go.Value.int Go.IntKind.i64 16)) (env 2) (Go.Value.int Go.IntKind.i64 16)) noHp fun v12_1 =>
  K (((env.set 11 (env 2)).set 12 v12_1).set 2 v12_1) h
@[congr] theorem math_bits_Len64_r6_congr {env : Env} {h : Hp} {K : Env → Hp → Prop} : math_bits_Len64_r6 env h K = math_bits_Len64_r6 env h K := rfl

/-- bits.go:346 -/
def math_bits_Len64_r7 (env : Env) (h : Hp) (K : Env → Hp → Prop) : Prop :=
  rd Try.prog (bop Go.BinOp.geq 108 (Go.Operand.tmp 13) (Go.Operand.const (Go.Value.int Go.IntKind.u64 256)) (env 0) (Go.Value.int Go.IntKind.u64 256)) noHp fun v14_1 =>
  K ((env.set 13 (env 0)).set 14 v14_1) h
@[congr] theorem math_bits_Len64_r7_congr {env : Env} {h : Hp} {K : Env → Hp → Prop} : math_bits_Len64_r7 env h K = math_bits_Len64_r7 env h K := rfl

/-- bits.go:347 -/
def math_bits_Len64_r8 (env : Env) (h : Hp) (K : Env → Hp → Prop) : Prop :=
  rd Try.prog (bop Go.BinOp.shr 108 (Go.Operand.tmp 15) (Go.Operand.const (Go.Value.int Go.IntKind.u64 8)) (env 0) (Go.Value.int Go.IntKind.u64 8)) noHp fun v16_1 =>
  K (((env.set 15 (env 0)).set 16 v16_1).set 0 v16_1) h
@[congr] theorem math_bits_Len64_r8_congr {env : Env} {h : Hp} {K : Env → Hp → Prop} : math_bits_Len64_r8 env h K = math_bits_Len64_r8 env h K := rfl

/-- bits.go:348 -/
def math_bits_Len64_r9 (env : Env) (h : Hp) (K : Env → Hp → Prop) : Prop :=
  rd Try.prog (bop Go.BinOp.add 3 (Go.Operand.tmp 17) (Go.Operand.const (Go.Value.int Go.IntKind.i64 8)) (env 2) (Go.Value.int Go.IntKind.i64 8)) noHp fun v18_1 =>
  K (((env.set 17 (env 2)).set 18 v18_1).set 2 v18_1) h
@[congr] theorem math_bits_Len64_r9_congr {env : Env} {h : Hp} {K : Env → Hp → Prop} : math_bits_Len64_r9 env h K = math_bits_Len64_r9 env h K := rfl

/-- bits.go:350 -/
def math_bits_Len64_r10 (env : Env) (h : Hp) (K : Env → Hp → Prop) : Prop :=
  rd Try.prog (convert 108 5 (env 0)) noHp fun v21_2 =>
  rd Try.prog (Instr.index 9 (Go.Value.string (ByteArray.mk (List.toArray (List.append (List.append [0, 1, 2, 2, 3, 3, 3, 3, 4, 4, 4, 4, 4, 4, 4, 4, 5, 5, 5, 5, 5, 5, 5, 5, 5, 5, 5, 5, 5, 5, 5, 5, 6, 6, 6, 6, 6, 6, 6, 6, 6, 6, 6, 6, 6, 6, 6, 6, 6, 6, 6, 6, 6, 6, 6, 6, 6, 6, 6, 6, 6, 6, 6, 6] [7, 7, 7, 7, 7, 7, 7, 7, 7, 7, 7, 7, 7, 7, 7, 7, 7, 7, 7, 7, 7, 7, 7, 7, 7, 7, 7, 7, 7, 7, 7, 7, 7, 7, 7, 7, 7, 7, 7, 7, 7, 7, 7, 7, 7, 7, 7, 7, 7, 7, 7, 7, 7, 7, 7, 7, 7, 7, 7, 7, 7, 7, 7, 7]) (List.append [8, 8, 8, 8, 8, 8, 8, 8, 8, 8, 8, 8, 8, 8, 8, 8, 8, 8, 8, 8, 8, 8, 8, 8, 8, 8, 8, 8, 8, 8, 8, 8, 8, 8, 8, 8, 8, 8, 8, 8, 8, 8, 8, 8, 8, 8, 8, 8, 8, 8, 8, 8, 8, 8, 8, 8, 8, 8, 8, 8, 8, 8, 8, 8] [8, 8, 8, 8, 8, 8, 8, 8, 8, 8, 8, 8, 8, 8, 8, 8, 8, 8, 8, 8, 8, 8, 8, 8, 8, 8, 8, 8, 8, 8, 8, 8, 8, 8, 8, 8, 8, 8, 8, 8, 8, 8, 8, 8, 8, 8, 8, 8, 8, 8, 8, 8, 8, 8, 8, 8, 8, 8, 8, 8, 8, 8, 8, 8]))))) v21_2) noHp fun v22_3 =>
  rd Try.prog (convert 5 3 v22_3) noHp fun v23_4 =>
  rd Try.prog (bop Go.BinOp.add 3 (Go.Operand.tmp 19) (Go.Operand.tmp 23) (env 2) v23_4) noHp fun v24_5 =>
  K (((((((env.set 19 (env 2)).set 20 (env 0)).set 21 v21_2).set 22 v22_3).set 23 v23_4).set 24 v24_5).set 2 v24_5) h
@[congr] theorem math_bits_Len64_r10_congr {env : Env} {h : Hp} {K : Env → Hp → Prop} : math_bits_Len64_r10 env h K = math_bits_Len64_r10 env h K := rfl

def math_bits_Len64_D : Den := (sq (rg math_bits_Len64_r0) (sq (sq (rg math_bits_Len64_r1) (cnd (Go.Operand.tmp 4) (sq (rg math_bits_Len64_r2) (rg math_bits_Len64_r3)) (ex .normal))) (sq (sq (rg math_bits_Len64_r4) (cnd (Go.Operand.tmp 8) (sq (rg math_bits_Len64_r5) (rg math_bits_Len64_r6)) (ex .normal))) (sq (sq (rg math_bits_Len64_r7) (cnd (Go.Operand.tmp 14) (sq (rg math_bits_Len64_r8) (rg math_bits_Len64_r9)) (ex .normal))) (sq (rg math_bits_Len64_r10) (ex .ret))))))

theorem math_bits_Len64_eq : (den Try.prog 25 math_bits_Len64_code).1 = math_bits_Len64_D := by kernel_rfl

theorem math_bits_Len64_ok {args : Array Value} {h : Hp} {Q : Value → Hp → Prop} (hn : args.size ≤ 25) (D : math_bits_Len64_D (fin Try.prog [(Go.ResultVar.tmp 2)] Q) (env0 args) h) : Ok Try.prog 72 args h Q :=
  ok_of_den progIsOk Try.func72 (c := math_bits_Len64_code) (by kernel_rfl) hn (by show (den Try.prog 25 math_bits_Len64_code).1 _ _ _; rw [math_bits_Len64_eq]; exact D)

/-! ### slices.siftDownCmpFunc[octroi/api.Prefix]: function 73 -/
noncomputable def slices_siftDownCmpFunc_api_Prefix_code : Code := match Try.f73.body with | some c => c | none => .skip

/-- zsortanyfunc.go:21 -/
def slices_siftDownCmpFunc_api_Prefix_r0 (env : Env) (h : Hp) (K : Env → Hp → Prop) : Prop :=
  K ((env.set 12 (env 1)).set 10 (env 1)) h
@[congr] theorem slices_siftDownCmpFunc_api_Prefix_r0_congr {env : Env} {h : Hp} {K : Env → Hp → Prop} : slices_siftDownCmpFunc_api_Prefix_r0 env h K = slices_siftDownCmpFunc_api_Prefix_r0 env h K := rfl

/-- zsortanyfunc.go:23 -/
def slices_siftDownCmpFunc_api_Prefix_r1 (env : Env) (h : Hp) (K : Env → Hp → Prop) : Prop :=
  rd Try.prog (bop Go.BinOp.mul 3 (Go.Operand.const (Go.Value.int Go.IntKind.i64 2)) (Go.Operand.tmp 13) (Go.Value.int Go.IntKind.i64 2) (env 10)) noHp fun v14_1 =>
  rd Try.prog (bop Go.BinOp.add 3 (Go.Operand.tmp 14) (Go.Operand.const (Go.Value.int Go.IntKind.i64 1)) v14_1 (Go.Value.int Go.IntKind.i64 1)) noHp fun v15_2 =>
  K ((((env.set 13 (env 10)).set 14 v14_1).set 15 v15_2).set 11 v15_2) h
@[congr] theorem slices_siftDownCmpFunc_api_Prefix_r1_congr {env : Env} {h : Hp} {K : Env → Hp → Prop} : slices_siftDownCmpFunc_api_Prefix_r1 env h K = slices_siftDownCmpFunc_api_Prefix_r1 env h K := rfl

/-- zsortanyfunc.go:24 -/
def slices_siftDownCmpFunc_api_Prefix_r2 (env : Env) (h : Hp) (K : Env → Hp → Prop) : Prop :=
  rd Try.prog (bop Go.BinOp.geq 3 (Go.Operand.tmp 16) (Go.Operand.tmp 17) (env 11) (env 2)) noHp fun v18_2 =>
  K (((env.set 16 (env 11)).set 17 (env 2)).set 18 v18_2) h
@[congr] theorem slices_siftDownCmpFunc_api_Prefix_r2_congr {env : Env} {h : Hp} {K : Env → Hp → Prop} : slices_siftDownCmpFunc_api_Prefix_r2 env h K = slices_siftDownCmpFunc_api_Prefix_r2 env h K := rfl

/-- zsortanyfunc.go:27 (in any order) -/
def slices_siftDownCmpFunc_api_Prefix_r3 (env : Env) (h : Hp) (K : Env → Hp → Prop) : Prop :=
  rd Try.prog (bop Go.BinOp.add 3 (Go.Operand.tmp 19) (Go.Operand.const (Go.Value.int Go.IntKind.i64 1)) (env 11) (Go.Value.int Go.IntKind.i64 1)) noHp fun v20_1 =>
  rd Try.prog (bop Go.BinOp.lss 3 (Go.Operand.tmp 20) (Go.Operand.tmp 21) v20_1 (env 2)) noHp fun v22_3 =>
  gd (yb v22_3 == some true) (fun h k => k (env 4) h) h fun v24_5 h1 =>
  gd (yb v22_3 == some true) (fun h k => k (env 0) h) h1 fun v25_6 h2 =>
  gd (yb v22_3 == some true) (fun h k => k (env 3) h) h2 fun v26_7 h3 =>
  gd (yb v22_3 == some true) (fun h k => k (env 11) h) h3 fun v27_8 h4 =>
  gd (yb v22_3 == some true) (fun h k => rd Try.prog (bop Go.BinOp.add 3 (Go.Operand.tmp 26) (Go.Operand.tmp 27) v26_7 v27_8) noHp fun v => k v h) h4 fun v28_9 h5 =>
  gd (yb v22_3 == some true) (fun h k => rd Try.prog (Instr.indexAt 74 v25_6 v28_9) noHp fun v => k v h) h5 fun v29_10 h6 =>
  gd (yb v22_3 == some true) (fun h k => rd Try.prog (Instr.loadAt 24 v29_10) h fun v => k v h) h6 fun v30_11 h7 =>
  gd (yb v22_3 == some true) (fun h k => k (env 0) h) h7 fun v31_12 h8 =>
  gd (yb v22_3 == some true) (fun h k => k (env 3) h) h8 fun v32_13 h9 =>
  gd (yb v22_3 == some true) (fun h k => k (env 11) h) h9 fun v33_14 h10 =>
  gd (yb v22_3 == some true) (fun h k => rd Try.prog (bop Go.BinOp.add 3 (Go.Operand.tmp 32) (Go.Operand.tmp 33) v32_13 v33_14) noHp fun v => k v h) h10 fun v34_15 h11 =>
  gd (yb v22_3 == some true) (fun h k => rd Try.prog (bop Go.BinOp.add 3 (Go.Operand.tmp 34) (Go.Operand.const (Go.Value.int Go.IntKind.i64 1)) v34_15 (Go.Value.int Go.IntKind.i64 1)) noHp fun v => k v h) h11 fun v35_16 h12 =>
  gd (yb v22_3 == some true) (fun h k => rd Try.prog (Instr.indexAt 74 v31_12 v35_16) noHp fun v => k v h) h12 fun v36_17 h13 =>
  gd (yb v22_3 == some true) (fun h k => rd Try.prog (Instr.loadAt 24 v36_17) h fun v => k v h) h13 fun v37_18 h14 =>
  gd (yb v22_3 == some true) (fun h k => callV Try.prog v24_5 #[v30_11, v37_18] h k) h14 fun v38_19 h15 =>
  (True) ∧
  gd (yb v22_3 == some true) (fun h k => rd Try.prog (bop Go.BinOp.lss 3 (Go.Operand.tmp 38) (Go.Operand.const (Go.Value.int Go.IntKind.i64 0)) v38_19 (Go.Value.int Go.IntKind.i64 0)) noHp fun v => k v h) h15 fun v39_20 h16 =>
  rd Try.prog (pck v22_3 v39_20 (Go.Value.bool false)) noHp fun v40_21 =>
  K ((((((((((((((((((((((env.set 19 (env 11)).set 20 v20_1).set 21 (env 2)).set 22 v22_3).set 23 v22_3).set 24 v24_5).set 25 v25_6).set 26 v26_7).set 27 v27_8).set 28 v28_9).set 29 v29_10).set 30 v30_11).set 31 v31_12).set 32 v32_13).set 33 v33_14).set 34 v34_15).set 35 v35_16).set 36 v36_17).set 37 v37_18).set 38 v38_19).set 39 v39_20).set 40 v40_21) h16
@[congr] theorem slices_siftDownCmpFunc_api_Prefix_r3_congr {env : Env} {h : Hp} {K : Env → Hp → Prop} : slices_siftDownCmpFunc_api_Prefix_r3 env h K = slices_siftDownCmpFunc_api_Prefix_r3 env h K := rfl

/-- zsortanyfunc.go:28 -/
def slices_siftDownCmpFunc_api_Prefix_r4 (env : Env) (h : Hp) (K : Env → Hp → Prop) : Prop :=
  rd Try.prog (bop Go.BinOp.add 3 (Go.Operand.tmp 41) (Go.Operand.const (Go.Value.int Go.IntKind.i64 1)) (env 11) (Go.Value.int Go.IntKind.i64 1)) noHp fun v42_1 =>
  K (((env.set 41 (env 11)).set 42 v42_1).set 11 v42_1) h
@[congr] theorem slices_siftDownCmpFunc_api_Prefix_r4_congr {env : Env} {h : Hp} {K : Env → Hp → Prop} : slices_siftDownCmpFunc_api_Prefix_r4 env h K = slices_siftDownCmpFunc_api_Prefix_r4 env h K := rfl

/-- zsortanyfunc.go:30 (in any order) -/
def slices_siftDownCmpFunc_api_Prefix_r5 (env : Env) (h : Hp) (K : Env → Hp → Prop) : Prop :=
  rd Try.prog (bop Go.BinOp.add 3 (Go.Operand.tmp 45) (Go.Operand.tmp 46) (env 3) (env 10)) noHp fun v47_4 =>
  rd Try.prog (Instr.indexAt 74 (env 0) v47_4) noHp fun v48_5 =>
  rd Try.prog (Instr.loadAt 24 v48_5) h fun v49_6 =>
  rd Try.prog (bop Go.BinOp.add 3 (Go.Operand.tmp 51) (Go.Operand.tmp 52) (env 3) (env 11)) noHp fun v53_10 =>
  rd Try.prog (Instr.indexAt 74 (env 0) v53_10) noHp fun v54_11 =>
  rd Try.prog (Instr.loadAt 24 v54_11) h fun v55_12 =>
  callV Try.prog (env 4) #[v49_6, v55_12] h fun v56_13 h1 =>
  (True) ∧
  rd Try.prog (bop Go.BinOp.lss 3 (Go.Operand.tmp 56) (Go.Operand.const (Go.Value.int Go.IntKind.i64 0)) v56_13 (Go.Value.int Go.IntKind.i64 0)) noHp fun v57_14 =>
  rd Try.prog (Op.unary Go.UnOp.not v57_14) noHp fun v58_15 =>
  K ((((((((((((((((env.set 43 (env 4)).set 44 (env 0)).set 45 (env 3)).set 46 (env 10)).set 47 v47_4).set 48 v48_5).set 49 v49_6).set 50 (env 0)).set 51 (env 3)).set 52 (env 11)).set 53 v53_10).set 54 v54_11).set 55 v55_12).set 56 v56_13).set 57 v57_14).set 58 v58_15) h1
@[congr] theorem slices_siftDownCmpFunc_api_Prefix_r5_congr {env : Env} {h : Hp} {K : Env → Hp → Prop} : slices_siftDownCmpFunc_api_Prefix_r5 env h K = slices_siftDownCmpFunc_api_Prefix_r5 env h K := rfl

/-- zsortanyfunc.go:33 (in any order) -/
def slices_siftDownCmpFunc_api_Prefix_r6 (env : Env) (h : Hp) (K : Env → Hp → Prop) : Prop :=
  rd Try.prog (bop Go.BinOp.add 3 (Go.Operand.tmp 60) (Go.Operand.tmp 61) (env 3) (env 10)) noHp fun v62_3 =>
  rd Try.prog (bop Go.BinOp.add 3 (Go.Operand.tmp 64) (Go.Operand.tmp 65) (env 3) (env 11)) noHp fun v66_7 =>
  rd Try.prog (bop Go.BinOp.add 3 (Go.Operand.tmp 68) (Go.Operand.tmp 69) (env 3) (env 11)) noHp fun v70_11 =>
  rd Try.prog (Instr.indexAt 74 (env 0) v70_11) noHp fun v71_12 =>
  rd Try.prog (Instr.loadAt 24 v71_12) h fun v72_13 =>
  rd Try.prog (bop Go.BinOp.add 3 (Go.Operand.tmp 74) (Go.Operand.tmp 75) (env 3) (env 10)) noHp fun v76_17 =>
  rd Try.prog (Instr.indexAt 74 (env 0) v76_17) noHp fun v77_18 =>
  rd Try.prog (Instr.loadAt 24 v77_18) h fun v78_19 =>
  rd Try.prog (Instr.indexAt 74 (env 0) v62_3) noHp fun v79_20 =>
  arun Try.prog (Instr.storeAt 24 v79_20 v72_13) h fun _ h1 =>
  (True) ∧
  rd Try.prog (Instr.indexAt 74 (env 0) v66_7) noHp fun v80_22 =>
  arun Try.prog (Instr.storeAt 24 v80_22 v78_19) h1 fun _ h2 =>
  (True) ∧
  K ((((((((((((((((((((((env.set 59 (env 0)).set 60 (env 3)).set 61 (env 10)).set 62 v62_3).set 63 (env 0)).set 64 (env 3)).set 65 (env 11)).set 66 v66_7).set 67 (env 0)).set 68 (env 3)).set 69 (env 11)).set 70 v70_11).set 71 v71_12).set 72 v72_13).set 73 (env 0)).set 74 (env 3)).set 75 (env 10)).set 76 v76_17).set 77 v77_18).set 78 v78_19).set 79 v79_20).set 80 v80_22) h2
@[congr] theorem slices_siftDownCmpFunc_api_Prefix_r6_congr {env : Env} {h : Hp} {K : Env → Hp → Prop} : slices_siftDownCmpFunc_api_Prefix_r6 env h K = slices_siftDownCmpFunc_api_Prefix_r6 env h K := rfl

/-- zsortanyfunc.go:34 -/
def slices_siftDownCmpFunc_api_Prefix_r7 (env : Env) (h : Hp) (K : Env → Hp → Prop) : Prop :=
  K ((env.set 81 (env 11)).set 10 (env 11)) h
@[congr] theorem slices_siftDownCmpFunc_api_Prefix_r7_congr {env : Env} {h : Hp} {K : Env → Hp → Prop} : slices_siftDownCmpFunc_api_Prefix_r7 env h K = slices_siftDownCmpFunc_api_Prefix_r7 env h K := rfl

def slices_siftDownCmpFunc_api_Prefix_L0 : Den := (blk 1 (sq (rg slices_siftDownCmpFunc_api_Prefix_r1) (sq (sq (rg slices_siftDownCmpFunc_api_Prefix_r2) (cnd (Go.Operand.tmp 18) (ex (.exit 0)) (ex .normal))) (sq (sq (rg slices_siftDownCmpFunc_api_Prefix_r3) (cnd (Go.Operand.tmp 40) (rg slices_siftDownCmpFunc_api_Prefix_r4) (ex .normal))) (sq (sq (rg slices_siftDownCmpFunc_api_Prefix_r5) (cnd (Go.Operand.tmp 58) (ex .ret) (ex .normal))) (sq (rg slices_siftDownCmpFunc_api_Prefix_r6) (rg slices_siftDownCmpFunc_api_Prefix_r7)))))))

def slices_siftDownCmpFunc_api_Prefix_D : Den := (sq (rg slices_siftDownCmpFunc_api_Prefix_r0) (blk 0 (lp slices_siftDownCmpFunc_api_Prefix_L0)))

theorem slices_siftDownCmpFunc_api_Prefix_eq : (den Try.prog 82 slices_siftDownCmpFunc_api_Prefix_code).1 = slices_siftDownCmpFunc_api_Prefix_D := by kernel_rfl

theorem slices_siftDownCmpFunc_api_Prefix_ok {args : Array Value} {h : Hp} {Q : Value → Hp → Prop} (hn : args.size ≤ 82) (D : slices_siftDownCmpFunc_api_Prefix_D (fin Try.prog [] Q) (env0 args) h) : Ok Try.prog 73 args h Q :=
  ok_of_den progIsOk Try.func73 (c := slices_siftDownCmpFunc_api_Prefix_code) (by kernel_rfl) hn (by show (den Try.prog 82 slices_siftDownCmpFunc_api_Prefix_code).1 _ _ _; rw [slices_siftDownCmpFunc_api_Prefix_eq]; exact D)

end Go.Proofs.Ytpfenhikoajghaa

/- Printed by wip/kit/gen.py: all formulas. -/
