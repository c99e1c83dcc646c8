/- Printed by wip/kit/gen.py out of the translation: formulas of Go functions, and that they are these functions'. -/
import Derived.Test.YtchbipkoifmmdaaZ4

set_option linter.unusedSimpArgs false
set_option linter.unusedVariables false

namespace Go.Proofs.Ytchbipkoifmmdaa
open Go

set_option maxRecDepth 100000
set_option linter.unusedVariables false

/-! ### (*octroi/octroiref17.Babel).Tell: function 30 -/
noncomputable def octroiref17_Babel_Tell_code : Code := match Try.f30.body with | some c => c | none => .skip

/-- ref.go:276 -/
def octroiref17_Babel_Tell_r0 (env : Env) (h : Hp) (K : Env → Hp → Prop) : Prop :=
  K (env.set 2 (Go.Value.slice none 0 0)) h
@[congr] theorem octroiref17_Babel_Tell_r0_congr {env : Env} {h : Hp} {K : Env → Hp → Prop} : octroiref17_Babel_Tell_r0 env h K = octroiref17_Babel_Tell_r0 env h K := rfl

/-- ref.go:277 -/
def octroiref17_Babel_Tell_r1 (env : Env) (h : Hp) (K : Env → Hp → Prop) : Prop :=
  K (env.set 3 (Go.Value.slice none 0 0)) h
@[congr] theorem octroiref17_Babel_Tell_r1_congr {env : Env} {h : Hp} {K : Env → Hp → Prop} : octroiref17_Babel_Tell_r1 env h K = octroiref17_Babel_Tell_r1 env h K := rfl

/-- ref.go:278 -/
def octroiref17_Babel_Tell_r2 (env : Env) (h : Hp) (K : Env → Hp → Prop) : Prop :=
  K (env.set 4 (Go.Value.slice none 0 0)) h
@[congr] theorem octroiref17_Babel_Tell_r2_congr {env : Env} {h : Hp} {K : Env → Hp → Prop} : octroiref17_Babel_Tell_r2 env h K = octroiref17_Babel_Tell_r2 env h K := rfl

/-- ref.go:279 -/
def octroiref17_Babel_Tell_r3 (env : Env) (h : Hp) (K : Env → Hp → Prop) : Prop :=
  Ok Try.prog 46 #[(env 0)] h fun v14_1 h1 =>
  K (((env.set 13 (env 0)).set 14 v14_1).set 5 v14_1) h1
@[congr] theorem octroiref17_Babel_Tell_r3_congr {env : Env} {h : Hp} {K : Env → Hp → Prop} : octroiref17_Babel_Tell_r3 env h K = octroiref17_Babel_Tell_r3 env h K := rfl

/-- ref.go:280 -/
def octroiref17_Babel_Tell_r4 (env : Env) (h : Hp) (K : Env → Hp → Prop) : Prop :=
  K (env.set 6 (Go.Value.int Go.IntKind.i64 0)) h
@[congr] theorem octroiref17_Babel_Tell_r4_congr {env : Env} {h : Hp} {K : Env → Hp → Prop} : octroiref17_Babel_Tell_r4 env h K = octroiref17_Babel_Tell_r4 env h K := rfl

/-- ref.go:280 -/
def octroiref17_Babel_Tell_r5 (env : Env) (h : Hp) (K : Env → Hp → Prop) : Prop :=
  rd Try.prog (Builtin.len_ #[88] 3 #[(env 5)]) h fun v17_2 =>
  rd Try.prog (bop Go.BinOp.lss 3 (Go.Operand.tmp 15) (Go.Operand.tmp 17) (env 6) v17_2) noHp fun v18_3 =>
  K ((((env.set 15 (env 6)).set 16 (env 5)).set 17 v17_2).set 18 v18_3) h
@[congr] theorem octroiref17_Babel_Tell_r5_congr {env : Env} {h : Hp} {K : Env → Hp → Prop} : octroiref17_Babel_Tell_r5 env h K = octroiref17_Babel_Tell_r5 env h K := rfl

/-- ref.go:281 -/
def octroiref17_Babel_Tell_r6 (env : Env) (h : Hp) (K : Env → Hp → Prop) : Prop :=
  rd Try.prog (Instr.indexAt 88 (env 5) (env 6)) noHp fun v25_3 =>
  rd Try.prog (Instr.loadAt 24 v25_3) h fun v26_4 =>
  Ok Try.prog 47 #[(env 0), v26_4] h fun v27_5 h1 =>
  rd Try.prog (Instr.extract v27_5 0) noHp fun v28_7 =>
  rd Try.prog (Instr.extract v27_5 1) noHp fun v29_8 =>
  rd Try.prog (Instr.extract v27_5 2) noHp fun v30_9 =>
  arun Try.prog (Instr.alloc 31 true (Go.Value.tuple #[])) h1 fun v7_10 h2 =>
  arun Try.prog (Instr.storeAt 31 v7_10 v28_7) h2 fun _ h3 =>
  K (((((((((((((env.set 22 (env 0)).set 23 (env 5)).set 24 (env 6)).set 25 v25_3).set 26 v26_4).set 27 v27_5).set 21 v27_5).set 28 v28_7).set 29 v29_8).set 30 v30_9).set 7 v7_10).set 8 v29_8).set 9 v30_9) h3
@[congr] theorem octroiref17_Babel_Tell_r6_congr {env : Env} {h : Hp} {K : Env → Hp → Prop} : octroiref17_Babel_Tell_r6 env h K = octroiref17_Babel_Tell_r6 env h K := rfl

/-- ref.go:282 -/
def octroiref17_Babel_Tell_r7 (env : Env) (h : Hp) (K : Env → Hp → Prop) : Prop :=
  K (env.set 31 (env 9)) h
@[congr] theorem octroiref17_Babel_Tell_r7_congr {env : Env} {h : Hp} {K : Env → Hp → Prop} : octroiref17_Babel_Tell_r7 env h K = octroiref17_Babel_Tell_r7 env h K := rfl

/-- ref.go:283 -/
def octroiref17_Babel_Tell_r8 (env : Env) (h : Hp) (K : Env → Hp → Prop) : Prop :=
  rd Try.prog (Instr.loadAt 31 (env 7)) h fun v33_1 =>
  arun Try.prog (Instr.buildSlice 40 1 #[(0, v33_1)]) h fun v34_2 h1 =>
  arun Try.prog (Builtin.append_ #[40, 40] 40 #[(env 3), v34_2]) h1 fun v35_3 h2 =>
  K (((((env.set 32 (env 3)).set 33 v33_1).set 34 v34_2).set 35 v35_3).set 3 v35_3) h2
@[congr] theorem octroiref17_Babel_Tell_r8_congr {env : Env} {h : Hp} {K : Env → Hp → Prop} : octroiref17_Babel_Tell_r8 env h K = octroiref17_Babel_Tell_r8 env h K := rfl

/-- ref.go:286 -/
def octroiref17_Babel_Tell_r9 (env : Env) (h : Hp) (K : Env → Hp → Prop) : Prop :=
  K (env.set 10 (Go.Value.int Go.IntKind.i64 0)) h
@[congr] theorem octroiref17_Babel_Tell_r9_congr {env : Env} {h : Hp} {K : Env → Hp → Prop} : octroiref17_Babel_Tell_r9 env h K = octroiref17_Babel_Tell_r9 env h K := rfl

/-- ref.go:286 -/
def octroiref17_Babel_Tell_r10 (env : Env) (h : Hp) (K : Env → Hp → Prop) : Prop :=
  nck (env 0) (
  rd Try.prog (Instr.fieldAt 67 (env 0) 7) noHp fun v39_3 =>
  rd Try.prog (Instr.loadAt 40 v39_3) h fun v40_4 =>
  rd Try.prog (Builtin.len_ #[40] 3 #[v40_4]) h fun v41_5 =>
  rd Try.prog (bop Go.BinOp.lss 3 (Go.Operand.tmp 36) (Go.Operand.tmp 41) (env 10) v41_5) noHp fun v42_6 =>
  K (((((((env.set 36 (env 10)).set 37 (env 0)).set 38 (env 0)).set 39 v39_3).set 40 v40_4).set 41 v41_5).set 42 v42_6) h)
@[congr] theorem octroiref17_Babel_Tell_r10_congr {env : Env} {h : Hp} {K : Env → Hp → Prop} : octroiref17_Babel_Tell_r10 env h K = octroiref17_Babel_Tell_r10 env h K := rfl

/-- ref.go:287 (in any order) -/
def octroiref17_Babel_Tell_r11 (env : Env) (h : Hp) (K : Env → Hp → Prop) : Prop :=
  nck (env 0) (
  rd Try.prog (Instr.fieldAt 67 (env 0) 7) noHp fun v47_2 =>
  rd Try.prog (Instr.loadAt 40 v47_2) h fun v48_3 =>
  rd Try.prog (Instr.indexAt 40 v48_3 (env 10)) noHp fun v50_5 =>
  rd Try.prog (Instr.fieldAt 31 v50_5 4) noHp fun v51_6 =>
  rd Try.prog (Instr.loadAt 24 v51_6) h fun v52_7 =>
  rd Try.prog (Instr.indexAt 88 (env 5) (env 6)) noHp fun v55_10 =>
  rd Try.prog (Instr.loadAt 24 v55_10) h fun v56_11 =>
  rd Try.prog (bop Go.BinOp.eql 24 (Go.Operand.tmp 52) (Go.Operand.tmp 56) v52_7 v56_11) noHp fun v57_12 =>
  K (((((((((((((env.set 45 (env 0)).set 46 (env 0)).set 47 v47_2).set 48 v48_3).set 49 (env 10)).set 50 v50_5).set 51 v51_6).set 52 v52_7).set 53 (env 5)).set 54 (env 6)).set 55 v55_10).set 56 v56_11).set 57 v57_12) h)
@[congr] theorem octroiref17_Babel_Tell_r11_congr {env : Env} {h : Hp} {K : Env → Hp → Prop} : octroiref17_Babel_Tell_r11 env h K = octroiref17_Babel_Tell_r11 env h K := rfl

/-- ref.go:288 -/
def octroiref17_Babel_Tell_r12 (env : Env) (h : Hp) (K : Env → Hp → Prop) : Prop :=
  nck (env 0) (
  rd Try.prog (Instr.fieldAt 67 (env 0) 7) noHp fun v60_2 =>
  rd Try.prog (Instr.loadAt 40 v60_2) h fun v61_3 =>
  rd Try.prog (Instr.indexAt 40 v61_3 (env 10)) noHp fun v63_5 =>
  rd Try.prog (Instr.loadAt 31 v63_5) h fun v64_6 =>
  arun Try.prog (Instr.alloc 31 true (Go.Value.tuple #[])) h fun v11_7 h1 =>
  arun Try.prog (Instr.storeAt 31 v11_7 v64_6) h1 fun _ h2 =>
  K ((((((((env.set 58 (env 0)).set 59 (env 0)).set 60 v60_2).set 61 v61_3).set 62 (env 10)).set 63 v63_5).set 64 v64_6).set 11 v11_7) h2)
@[congr] theorem octroiref17_Babel_Tell_r12_congr {env : Env} {h : Hp} {K : Env → Hp → Prop} : octroiref17_Babel_Tell_r12 env h K = octroiref17_Babel_Tell_r12 env h K := rfl

/-- ref.go:289 -/
def octroiref17_Babel_Tell_r13 (env : Env) (h : Hp) (K : Env → Hp → Prop) : Prop :=
  rd Try.prog (Instr.fieldAt 31 (env 11) 3) noHp fun v65_0 =>
  arun Try.prog (Instr.storeAt 3 v65_0 (Go.Value.int Go.IntKind.i64 65535)) h fun _ h1 =>
  K (env.set 65 v65_0) h1
@[congr] theorem octroiref17_Babel_Tell_r13_congr {env : Env} {h : Hp} {K : Env → Hp → Prop} : octroiref17_Babel_Tell_r13 env h K = octroiref17_Babel_Tell_r13 env h K := rfl

/-- ref.go:290 -/
def octroiref17_Babel_Tell_r14 (env : Env) (h : Hp) (K : Env → Hp → Prop) : Prop :=
  rd Try.prog (Instr.fieldAt 31 (env 11) 6) noHp fun v66_0 =>
  arun Try.prog (Instr.storeAt 29 v66_0 (Go.Value.int Go.IntKind.u16 0)) h fun _ h1 =>
  K (env.set 66 v66_0) h1
@[congr] theorem octroiref17_Babel_Tell_r14_congr {env : Env} {h : Hp} {K : Env → Hp → Prop} : octroiref17_Babel_Tell_r14 env h K = octroiref17_Babel_Tell_r14 env h K := rfl

/-- ref.go:291 -/
def octroiref17_Babel_Tell_r15 (env : Env) (h : Hp) (K : Env → Hp → Prop) : Prop :=
  rd Try.prog (Instr.loadAt 31 (env 11)) h fun v68_1 =>
  arun Try.prog (Instr.buildSlice 40 1 #[(0, v68_1)]) h fun v69_2 h1 =>
  arun Try.prog (Builtin.append_ #[40, 40] 40 #[(env 4), v69_2]) h1 fun v70_3 h2 =>
  K (((((env.set 67 (env 4)).set 68 v68_1).set 69 v69_2).set 70 v70_3).set 4 v70_3) h2
@[congr] theorem octroiref17_Babel_Tell_r15_congr {env : Env} {h : Hp} {K : Env → Hp → Prop} : octroiref17_Babel_Tell_r15 env h K = octroiref17_Babel_Tell_r15 env h K := rfl

/-- ref.go:286 -/
def octroiref17_Babel_Tell_r16 (env : Env) (h : Hp) (K : Env → Hp → Prop) : Prop :=
  rd Try.prog (bop Go.BinOp.add 3 (Go.Operand.tmp 43) (Go.Operand.const (Go.Value.int Go.IntKind.i64 1)) (env 10) (Go.Value.int Go.IntKind.i64 1)) noHp fun v44_1 =>
  K (((env.set 43 (env 10)).set 44 v44_1).set 10 v44_1) h
@[congr] theorem octroiref17_Babel_Tell_r16_congr {env : Env} {h : Hp} {K : Env → Hp → Prop} : octroiref17_Babel_Tell_r16 env h K = octroiref17_Babel_Tell_r16 env h K := rfl

def octroiref17_Babel_Tell_L0 : Den := (sq (sq (rg octroiref17_Babel_Tell_r10) (cnd (Go.Operand.tmp 42) (ex .normal) (ex (.exit 2)))) (sq (blk 3 (sq (rg octroiref17_Babel_Tell_r11) (cnd (Go.Operand.tmp 57) (sq (rg octroiref17_Babel_Tell_r12) (sq (rg octroiref17_Babel_Tell_r13) (sq (rg octroiref17_Babel_Tell_r14) (rg octroiref17_Babel_Tell_r15)))) (ex .normal)))) (rg octroiref17_Babel_Tell_r16)))

/-- ref.go:280 -/
def octroiref17_Babel_Tell_r17 (env : Env) (h : Hp) (K : Env → Hp → Prop) : Prop :=
  rd Try.prog (bop Go.BinOp.add 3 (Go.Operand.tmp 19) (Go.Operand.const (Go.Value.int Go.IntKind.i64 1)) (env 6) (Go.Value.int Go.IntKind.i64 1)) noHp fun v20_1 =>
  K (((env.set 19 (env 6)).set 20 v20_1).set 6 v20_1) h
@[congr] theorem octroiref17_Babel_Tell_r17_congr {env : Env} {h : Hp} {K : Env → Hp → Prop} : octroiref17_Babel_Tell_r17 env h K = octroiref17_Babel_Tell_r17 env h K := rfl

def octroiref17_Babel_Tell_L1 : Den := (sq (sq (rg octroiref17_Babel_Tell_r5) (cnd (Go.Operand.tmp 18) (ex .normal) (ex (.exit 0)))) (sq (blk 1 (sq (rg octroiref17_Babel_Tell_r6) (sq (sq (rg octroiref17_Babel_Tell_r7) (cnd (Go.Operand.tmp 31) (sq (rg octroiref17_Babel_Tell_r8) (ex (.exit 1))) (ex .normal))) (sq (rg octroiref17_Babel_Tell_r9) (blk 2 (lp octroiref17_Babel_Tell_L0)))))) (rg octroiref17_Babel_Tell_r17)))

/-- ref.go:295 -/
def octroiref17_Babel_Tell_r18 (env : Env) (h : Hp) (K : Env → Hp → Prop) : Prop :=
  K (env.set 12 (Go.Value.int Go.IntKind.i64 0)) h
@[congr] theorem octroiref17_Babel_Tell_r18_congr {env : Env} {h : Hp} {K : Env → Hp → Prop} : octroiref17_Babel_Tell_r18 env h K = octroiref17_Babel_Tell_r18 env h K := rfl

/-- ref.go:295 -/
def octroiref17_Babel_Tell_r19 (env : Env) (h : Hp) (K : Env → Hp → Prop) : Prop :=
  rd Try.prog (Builtin.len_ #[40] 3 #[(env 3)]) h fun v73_2 =>
  rd Try.prog (bop Go.BinOp.lss 3 (Go.Operand.tmp 71) (Go.Operand.tmp 73) (env 12) v73_2) noHp fun v74_3 =>
  K ((((env.set 71 (env 12)).set 72 (env 3)).set 73 v73_2).set 74 v74_3) h
@[congr] theorem octroiref17_Babel_Tell_r19_congr {env : Env} {h : Hp} {K : Env → Hp → Prop} : octroiref17_Babel_Tell_r19 env h K = octroiref17_Babel_Tell_r19 env h K := rfl

/-- ref.go:296 (in any order) -/
def octroiref17_Babel_Tell_r20 (env : Env) (h : Hp) (K : Env → Hp → Prop) : Prop :=
  rd Try.prog (Instr.indexAt 40 (env 3) (env 12)) noHp fun v80_3 =>
  rd Try.prog (Instr.fieldAt 31 v80_3 4) noHp fun v81_4 =>
  rd Try.prog (Instr.loadAt 24 v81_4) h fun v82_5 =>
  rd Try.prog (Instr.indexAt 40 (env 3) (env 12)) noHp fun v85_8 =>
  rd Try.prog (Instr.fieldAt 31 v85_8 5) noHp fun v86_9 =>
  rd Try.prog (Instr.loadAt 28 v86_9) h fun v87_10 =>
  rd Try.prog (Instr.indexAt 40 (env 3) (env 12)) noHp fun v90_13 =>
  rd Try.prog (Instr.fieldAt 31 v90_13 1) noHp fun v91_14 =>
  rd Try.prog (Instr.loadAt 29 v91_14) h fun v92_15 =>
  rd Try.prog (Instr.indexAt 40 (env 3) (env 12)) noHp fun v95_18 =>
  rd Try.prog (Instr.fieldAt 31 v95_18 3) noHp fun v96_19 =>
  rd Try.prog (Instr.loadAt 3 v96_19) h fun v97_20 =>
  Ok Try.prog 45 #[(env 0), v82_5, v87_10, v92_15, v97_20] h fun v98_21 h1 =>
  (True) ∧
  K ((((((((((((((((((((((env.set 77 (env 0)).set 78 (env 3)).set 79 (env 12)).set 80 v80_3).set 81 v81_4).set 82 v82_5).set 83 (env 3)).set 84 (env 12)).set 85 v85_8).set 86 v86_9).set 87 v87_10).set 88 (env 3)).set 89 (env 12)).set 90 v90_13).set 91 v91_14).set 92 v92_15).set 93 (env 3)).set 94 (env 12)).set 95 v95_18).set 96 v96_19).set 97 v97_20).set 98 v98_21) h1
@[congr] theorem octroiref17_Babel_Tell_r20_congr {env : Env} {h : Hp} {K : Env → Hp → Prop} : octroiref17_Babel_Tell_r20 env h K = octroiref17_Babel_Tell_r20 env h K := rfl

/-- ref.go:295 -/
def octroiref17_Babel_Tell_r21 (env : Env) (h : Hp) (K : Env → Hp → Prop) : Prop :=
  rd Try.prog (bop Go.BinOp.add 3 (Go.Operand.tmp 75) (Go.Operand.const (Go.Value.int Go.IntKind.i64 1)) (env 12) (Go.Value.int Go.IntKind.i64 1)) noHp fun v76_1 =>
  K (((env.set 75 (env 12)).set 76 v76_1).set 12 v76_1) h
@[congr] theorem octroiref17_Babel_Tell_r21_congr {env : Env} {h : Hp} {K : Env → Hp → Prop} : octroiref17_Babel_Tell_r21 env h K = octroiref17_Babel_Tell_r21 env h K := rfl

def octroiref17_Babel_Tell_L2 : Den := (sq (sq (rg octroiref17_Babel_Tell_r19) (cnd (Go.Operand.tmp 74) (ex .normal) (ex (.exit 4)))) (sq (blk 5 (rg octroiref17_Babel_Tell_r20)) (rg octroiref17_Babel_Tell_r21)))

/-- ref.go:298 -/
def octroiref17_Babel_Tell_r22 (env : Env) (h : Hp) (K : Env → Hp → Prop) : Prop :=
  arun Try.prog (Builtin.append_ #[40, 40] 40 #[(Go.Value.slice none 0 0), (env 3)]) h fun v101_2 h1 =>
  nck (env 0) (
  rd Try.prog (Instr.fieldAt 67 (env 0) 7) noHp fun v103_4 =>
  arun Try.prog (Instr.storeAt 40 v103_4 v101_2) h1 fun _ h2 =>
  K (((((env.set 99 (env 0)).set 100 (env 3)).set 101 v101_2).set 102 (env 0)).set 103 v103_4) h2)
@[congr] theorem octroiref17_Babel_Tell_r22_congr {env : Env} {h : Hp} {K : Env → Hp → Prop} : octroiref17_Babel_Tell_r22 env h K = octroiref17_Babel_Tell_r22 env h K := rfl

/-- ref.go:299 -/
def octroiref17_Babel_Tell_r23 (env : Env) (h : Hp) (K : Env → Hp → Prop) : Prop :=
  arun Try.prog (Builtin.append_ #[40, 40] 40 #[(env 3), (env 4)]) h fun v106_2 h1 =>
  K ((((env.set 104 (env 3)).set 105 (env 4)).set 106 v106_2).set 2 v106_2) h1
@[congr] theorem octroiref17_Babel_Tell_r23_congr {env : Env} {h : Hp} {K : Env → Hp → Prop} : octroiref17_Babel_Tell_r23 env h K = octroiref17_Babel_Tell_r23 env h K := rfl

def octroiref17_Babel_Tell_D : Den := (sq (rg octroiref17_Babel_Tell_r0) (sq (rg octroiref17_Babel_Tell_r1) (sq (rg octroiref17_Babel_Tell_r2) (sq (rg octroiref17_Babel_Tell_r3) (sq (sq (rg octroiref17_Babel_Tell_r4) (blk 0 (lp octroiref17_Babel_Tell_L1))) (sq (sq (rg octroiref17_Babel_Tell_r18) (blk 4 (lp octroiref17_Babel_Tell_L2))) (sq (rg octroiref17_Babel_Tell_r22) (sq (rg octroiref17_Babel_Tell_r23) (ex .ret)))))))))

theorem octroiref17_Babel_Tell_eq : (den Try.prog 107 octroiref17_Babel_Tell_code).1 = octroiref17_Babel_Tell_D := by kernel_rfl

theorem octroiref17_Babel_Tell_ok {args : Array Value} {h : Hp} {Q : Value → Hp → Prop} (hn : args.size ≤ 107) (D : octroiref17_Babel_Tell_D (fin Try.prog [(Go.ResultVar.tmp 2)] Q) (env0 args) h) : Ok Try.prog 30 args h Q :=
  ok_of_den progIsOk Try.func30 (c := octroiref17_Babel_Tell_code) (by kernel_rfl) hn (by show (den Try.prog 107 octroiref17_Babel_Tell_code).1 _ _ _; rw [octroiref17_Babel_Tell_eq]; exact D)

/-! ### octroi/prefix.May: function 31 -/
noncomputable def prefix_May_code : Code := match Try.f31.body with | some c => c | none => .skip

/-- prefix.go:39 -/
def prefix_May_r0 (env : Env) (h : Hp) (K : Env → Hp → Prop) : Prop :=
  arun Try.prog (Instr.box 24 (env 0)) h fun v1_0 h1 =>
  K ((env.set 1 v1_0).set 2 (Go.Value.bool false)) h1
@[congr] theorem prefix_May_r0_congr {env : Env} {h : Hp} {K : Env → Hp → Prop} : prefix_May_r0 env h K = prefix_May_r0 env h K := rfl

/-- prefix.go:39 (in any order) -/
def prefix_May_r1 (env : Env) (h : Hp) (K : Env → Hp → Prop) : Prop :=
  rd Try.prog (Instr.fieldAt 24 (env 1) 1) noHp fun v3_0 =>
  rd Try.prog (Instr.loadAt 3 v3_0) h fun v4_1 =>
  rd Try.prog (bop Go.BinOp.geq 3 (Go.Operand.tmp 4) (Go.Operand.const (Go.Value.int Go.IntKind.i64 0)) v4_1 (Go.Value.int Go.IntKind.i64 0)) noHp fun v5_2 =>
  gd (yb v5_2 == some true) (fun h k => rd Try.prog (Instr.fieldAt 24 (env 1) 1) noHp fun v => k v h) h fun v7_4 h1 =>
  gd (yb v5_2 == some true) (fun h k => rd Try.prog (Instr.loadAt 3 v7_4) h fun v => k v h) h1 fun v8_5 h2 =>
  gd (yb v5_2 == some true) (fun h k => rd Try.prog (bop Go.BinOp.leq 3 (Go.Operand.tmp 8) (Go.Operand.const (Go.Value.int Go.IntKind.i64 32)) v8_5 (Go.Value.int Go.IntKind.i64 32)) noHp fun v => k v h) h2 fun v9_6 h3 =>
  rd Try.prog (pck v5_2 v9_6 (Go.Value.bool false)) noHp fun v10_7 =>
  gd (yb v10_7 == some true) (fun h k => rd Try.prog (Instr.fieldAt 24 (env 1) 0) noHp fun v => k v h) h3 fun v12_9 h4 =>
  gd (yb v10_7 == some true) (fun h k => rd Try.prog (Instr.loadAt 22 v12_9) h fun v => k v h) h4 fun v13_10 h5 =>
  gd (yb v10_7 == some true) (fun h k => rd Try.prog (Instr.fieldAt 24 (env 1) 1) noHp fun v => k v h) h5 fun v14_11 h6 =>
  gd (yb v10_7 == some true) (fun h k => rd Try.prog (Instr.loadAt 3 v14_11) h fun v => k v h) h6 fun v15_12 h7 =>
  gd (yb v10_7 == some true) (fun h k => Ok Try.prog 48 #[v15_12] h k) h7 fun v16_13 h8 =>
  (((yb v10_7 == some true) = true → rrun Try.prog (Instr.loadAt 22 v12_9) h8 = some v13_10) ∧ True) ∧
  gd (yb v10_7 == some true) (fun h k => rd Try.prog (bop Go.BinOp.andNot 22 (Go.Operand.tmp 13) (Go.Operand.tmp 16) v13_10 v16_13) noHp fun v => k v h) h8 fun v17_14 h9 =>
  gd (yb v10_7 == some true) (fun h k => rd Try.prog (bop Go.BinOp.eql 22 (Go.Operand.tmp 17) (Go.Operand.const (Go.Value.int Go.IntKind.u32 0)) v17_14 (Go.Value.int Go.IntKind.u32 0)) noHp fun v => k v h) h9 fun v18_15 h10 =>
  rd Try.prog (pck v10_7 v18_15 (Go.Value.bool false)) noHp fun v19_16 =>
  K ((((((((((((((((((env.set 3 v3_0).set 4 v4_1).set 5 v5_2).set 6 v5_2).set 7 v7_4).set 8 v8_5).set 9 v9_6).set 10 v10_7).set 11 v10_7).set 12 v12_9).set 13 v13_10).set 14 v14_11).set 15 v15_12).set 16 v16_13).set 17 v17_14).set 18 v18_15).set 19 v19_16).set 2 v19_16) h10
@[congr] theorem prefix_May_r1_congr {env : Env} {h : Hp} {K : Env → Hp → Prop} : prefix_May_r1 env h K = prefix_May_r1 env h K := rfl

def prefix_May_D : Den := (sq (rg prefix_May_r0) (sq (rg prefix_May_r1) (ex .ret)))

theorem prefix_May_eq : (den Try.prog 20 prefix_May_code).1 = prefix_May_D := by kernel_rfl

theorem prefix_May_ok {args : Array Value} {h : Hp} {Q : Value → Hp → Prop} (hn : args.size ≤ 20) (D : prefix_May_D (fin Try.prog [(Go.ResultVar.tmp 2)] Q) (env0 args) h) : Ok Try.prog 31 args h Q :=
  ok_of_den progIsOk Try.func31 (c := prefix_May_code) (by kernel_rfl) hn (by show (den Try.prog 20 prefix_May_code).1 _ _ _; rw [prefix_May_eq]; exact D)

/-! ### (*octroi/babel.Babel).better: function 32 -/
noncomputable def babel_Babel_better_code : Code := match Try.f32.body with | some c => c | none => .skip

/-- babel.go:91 -/
def babel_Babel_better_r0 (env : Env) (h : Hp) (K : Env → Hp → Prop) : Prop :=
  arun Try.prog (Instr.box 83 (env 1)) h fun v4_0 h1 =>
  arun Try.prog (Instr.box 85 (env 2)) h1 fun v5_1 h2 =>
  K (((env.set 4 v4_0).set 5 v5_1).set 6 (Go.Value.bool false)) h2
@[congr] theorem babel_Babel_better_r0_congr {env : Env} {h : Hp} {K : Env → Hp → Prop} : babel_Babel_better_r0 env h K = babel_Babel_better_r0 env h K := rfl

/-- babel.go:92 (in any order) -/
def babel_Babel_better_r1 (env : Env) (h : Hp) (K : Env → Hp → Prop) : Prop :=
  nck (env 0) (
  rd Try.prog (Instr.fieldAt 74 (env 0) 6) noHp fun v12_2 =>
  rd Try.prog (Instr.loadAt 72 v12_2) h fun v13_3 =>
  rd Try.prog (Instr.loadAt 83 (env 4)) h fun v14_4 =>
  rd Try.prog (Instr.lookup 72 v13_3 v14_4 true) h fun v15_5 =>
  rd Try.prog (Instr.extract v15_5 0) noHp fun v16_7 =>
  rd Try.prog (Instr.extract v15_5 1) noHp fun v17_8 =>
  arun Try.prog (Instr.alloc 85 true (Go.Value.tuple #[])) h fun v7_9 h1 =>
  (rrun Try.prog (Instr.lookup 72 v13_3 v14_4 true) h1 = some v15_5 ∧ rrun Try.prog (Instr.loadAt 83 (env 4)) h1 = some v14_4 ∧ rrun Try.prog (Instr.loadAt 72 v12_2) h1 = some v13_3 ∧ True) ∧
  arun Try.prog (Instr.storeAt 85 v7_9 v16_7) h1 fun _ h2 =>
  (True) ∧
  K (((((((((((env.set 10 (env 0)).set 11 (env 0)).set 12 v12_2).set 13 v13_3).set 14 v14_4).set 15 v15_5).set 9 v15_5).set 16 v16_7).set 17 v17_8).set 7 v7_9).set 8 v17_8) h2)
@[congr] theorem babel_Babel_better_r1_congr {env : Env} {h : Hp} {K : Env → Hp → Prop} : babel_Babel_better_r1 env h K = babel_Babel_better_r1 env h K := rfl

/-- babel.go:93 -/
def babel_Babel_better_r2 (env : Env) (h : Hp) (K : Env → Hp → Prop) : Prop :=
  rd Try.prog (Op.unary Go.UnOp.not (env 8)) noHp fun v19_1 =>
  gd (yb v19_1 == some false) (fun h k => rd Try.prog (Instr.fieldAt 85 (env 5) 0) noHp fun v => k v h) h fun v21_3 h1 =>
  gd (yb v19_1 == some false) (fun h k => rd Try.prog (Instr.loadAt 29 v21_3) h fun v => k v h) h1 fun v22_4 h2 =>
  gd (yb v19_1 == some false) (fun h k => rd Try.prog (Instr.fieldAt 85 (env 7) 0) noHp fun v => k v h) h2 fun v23_5 h3 =>
  gd (yb v19_1 == some false) (fun h k => rd Try.prog (Instr.loadAt 29 v23_5) h fun v => k v h) h3 fun v24_6 h4 =>
  gd (yb v19_1 == some false) (fun h k => Ok Try.prog 21 #[v22_4, v24_6] h k) h4 fun v25_7 h5 =>
  rd Try.prog (pck v19_1 (Go.Value.bool true) v25_7) noHp fun v26_8 =>
  gd (yb v26_8 == some false) (fun h k => rd Try.prog (Instr.fieldAt 85 (env 5) 0) noHp fun v => k v h) h5 fun v28_10 h6 =>
  gd (yb v26_8 == some false) (fun h k => rd Try.prog (Instr.loadAt 29 v28_10) h fun v => k v h) h6 fun v29_11 h7 =>
  gd (yb v26_8 == some false) (fun h k => rd Try.prog (Instr.fieldAt 85 (env 7) 0) noHp fun v => k v h) h7 fun v30_12 h8 =>
  gd (yb v26_8 == some false) (fun h k => rd Try.prog (Instr.loadAt 29 v30_12) h fun v => k v h) h8 fun v31_13 h9 =>
  gd (yb v26_8 == some false) (fun h k => rd Try.prog (bop Go.BinOp.eql 29 (Go.Operand.tmp 29) (Go.Operand.tmp 31) v29_11 v31_13) noHp fun v => k v h) h9 fun v32_14 h10 =>
  gd (yb v26_8 == some false) (fun h k => k v32_14 h) h10 fun v33_15 h11 =>
  gd (yb v33_15 == some true) (fun h k => rd Try.prog (Instr.fieldAt 85 (env 5) 1) noHp fun v => k v h) h11 fun v34_16 h12 =>
  gd (yb v33_15 == some true) (fun h k => rd Try.prog (Instr.loadAt 3 v34_16) h fun v => k v h) h12 fun v35_17 h13 =>
  gd (yb v33_15 == some true) (fun h k => rd Try.prog (Instr.fieldAt 85 (env 7) 1) noHp fun v => k v h) h13 fun v36_18 h14 =>
  gd (yb v33_15 == some true) (fun h k => rd Try.prog (Instr.loadAt 3 v36_18) h fun v => k v h) h14 fun v37_19 h15 =>
  gd (yb v33_15 == some true) (fun h k => rd Try.prog (bop Go.BinOp.lss 3 (Go.Operand.tmp 35) (Go.Operand.tmp 37) v35_17 v37_19) noHp fun v => k v h) h15 fun v38_20 h16 =>
  gd (yb v26_8 == some false) (fun h k => rd Try.prog (pck v33_15 v38_20 (Go.Value.bool false)) noHp fun v => k v h) h16 fun v39_21 h17 =>
  rd Try.prog (pck v26_8 (Go.Value.bool true) v39_21) noHp fun v40_22 =>
  K ((((((((((((((((((((((((env.set 18 (env 8)).set 19 v19_1).set 20 v19_1).set 21 v21_3).set 22 v22_4).set 23 v23_5).set 24 v24_6).set 25 v25_7).set 26 v26_8).set 27 v26_8).set 28 v28_10).set 29 v29_11).set 30 v30_12).set 31 v31_13).set 32 v32_14).set 33 v33_15).set 34 v34_16).set 35 v35_17).set 36 v36_18).set 37 v37_19).set 38 v38_20).set 39 v39_21).set 40 v40_22).set 6 v40_22) h17
@[congr] theorem babel_Babel_better_r2_congr {env : Env} {h : Hp} {K : Env → Hp → Prop} : babel_Babel_better_r2 env h K = babel_Babel_better_r2 env h K := rfl

def babel_Babel_better_D : Den := (sq (rg babel_Babel_better_r0) (sq (rg babel_Babel_better_r1) (sq (rg babel_Babel_better_r2) (ex .ret))))

theorem babel_Babel_better_eq : (den Try.prog 41 babel_Babel_better_code).1 = babel_Babel_better_D := by kernel_rfl

theorem babel_Babel_better_ok {args : Array Value} {h : Hp} {Q : Value → Hp → Prop} (hn : args.size ≤ 41) (D : babel_Babel_better_D (fin Try.prog [(Go.ResultVar.tmp 6)] Q) (env0 args) h) : Ok Try.prog 32 args h Q :=
  ok_of_den progIsOk Try.func32 (c := babel_Babel_better_code) (by kernel_rfl) hn (by show (den Try.prog 41 babel_Babel_better_code).1 _ _ _; rw [babel_Babel_better_eq]; exact D)

/-! ### octroi/babel.of: function 33 -/
noncomputable def babel_of_code : Code := match Try.f33.body with | some c => c | none => .skip

/-- babel.go:97 -/
def babel_of_r0 (env : Env) (h : Hp) (K : Env → Hp → Prop) : Prop :=
  arun Try.prog (Instr.box 31 (env 0)) h fun v1_0 h1 =>
  arun Try.prog (Instr.alloc 83 true (Go.Value.tuple #[])) h1 fun v2_1 h2 =>
  arun Try.prog (Instr.alloc 85 true (Go.Value.tuple #[])) h2 fun v3_2 h3 =>
  K (((env.set 1 v1_0).set 2 v2_1).set 3 v3_2) h3
@[congr] theorem babel_of_r0_congr {env : Env} {h : Hp} {K : Env → Hp → Prop} : babel_of_r0 env h K = babel_of_r0 env h K := rfl

/-- babel.go:97 (in any order) -/
def babel_of_r1 (env : Env) (h : Hp) (K : Env → Hp → Prop) : Prop :=
  rd Try.prog (Instr.fieldAt 31 (env 1) 4) noHp fun v4_0 =>
  rd Try.prog (Instr.loadAt 24 v4_0) h fun v5_1 =>
  rd Try.prog (Instr.fieldAt 31 (env 1) 5) noHp fun v6_2 =>
  rd Try.prog (Instr.loadAt 28 v6_2) h fun v7_3 =>
  rd Try.prog (Instr.build 83 #[(0, v5_1), (1, v7_3)]) noHp fun v8_4 =>
  rd Try.prog (Instr.fieldAt 31 (env 1) 1) noHp fun v9_5 =>
  rd Try.prog (Instr.loadAt 29 v9_5) h fun v10_6 =>
  rd Try.prog (Instr.fieldAt 31 (env 1) 3) noHp fun v11_7 =>
  rd Try.prog (Instr.loadAt 3 v11_7) h fun v12_8 =>
  rd Try.prog (Instr.build 85 #[(0, v10_6), (1, v12_8)]) noHp fun v13_9 =>
  arun Try.prog (Instr.storeAt 83 (env 2) v8_4) h fun _ h1 =>
  (rrun Try.prog (Instr.loadAt 3 v11_7) h1 = some v12_8 ∧ rrun Try.prog (Instr.loadAt 29 v9_5) h1 = some v10_6 ∧ True) ∧
  arun Try.prog (Instr.storeAt 85 (env 3) v13_9) h1 fun _ h2 =>
  (True) ∧
  K ((((((((((env.set 4 v4_0).set 5 v5_1).set 6 v6_2).set 7 v7_3).set 8 v8_4).set 9 v9_5).set 10 v10_6).set 11 v11_7).set 12 v12_8).set 13 v13_9) h2
@[congr] theorem babel_of_r1_congr {env : Env} {h : Hp} {K : Env → Hp → Prop} : babel_of_r1 env h K = babel_of_r1 env h K := rfl

def babel_of_D : Den := (sq (rg babel_of_r0) (sq (rg babel_of_r1) (ex .ret)))

theorem babel_of_eq : (den Try.prog 14 babel_of_code).1 = babel_of_D := by kernel_rfl

theorem babel_of_ok {args : Array Value} {h : Hp} {Q : Value → Hp → Prop} (hn : args.size ≤ 14) (D : babel_of_D (fin Try.prog [(Go.ResultVar.cell 2 83), (Go.ResultVar.cell 3 85)] Q) (env0 args) h) : Ok Try.prog 33 args h Q :=
  ok_of_den progIsOk Try.func33 (c := babel_of_code) (by kernel_rfl) hn (by show (den Try.prog 14 babel_of_code).1 _ _ _; rw [babel_of_eq]; exact D)

/-! ### (*octroi/babel.Babel).prefixes: function 34 -/
noncomputable def babel_Babel_prefixes_code : Code := match Try.f34.body with | some c => c | none => .skip

/-- babel.go:159 -/
def babel_Babel_prefixes_r0 (env : Env) (h : Hp) (K : Env → Hp → Prop) : Prop :=
  K (env.set 2 (Go.Value.slice none 0 0)) h
@[congr] theorem babel_Babel_prefixes_r0_congr {env : Env} {h : Hp} {K : Env → Hp → Prop} : babel_Babel_prefixes_r0 env h K = babel_Babel_prefixes_r0 env h K := rfl

/-- babel.go:160 -/
def babel_Babel_prefixes_r1 (env : Env) (h : Hp) (K : Env → Hp → Prop) : Prop :=
  K (env.set 3 (Go.Value.func (Go.Fn.func 49) #[] #[])) h
@[congr] theorem babel_Babel_prefixes_r1_congr {env : Env} {h : Hp} {K : Env → Hp → Prop} : babel_Babel_prefixes_r1 env h K = babel_Babel_prefixes_r1 env h K := rfl

/-- babel.go:161 -/
def babel_Babel_prefixes_r2 (env : Env) (h : Hp) (K : Env → Hp → Prop) : Prop :=
  nck (env 0) (
  rd Try.prog (Instr.fieldAt 74 (env 0) 4) noHp fun v7_2 =>
  rd Try.prog (Instr.loadAt 70 v7_2) h fun v8_3 =>
  Ok Try.prog 50 #[(Go.Value.slice none 0 0), v8_3, (env 3)] h fun v10_5 h1 =>
  K (((((((env.set 5 (env 0)).set 6 (env 0)).set 7 v7_2).set 8 v8_3).set 9 (env 3)).set 10 v10_5).set 4 v10_5) h1)
@[congr] theorem babel_Babel_prefixes_r2_congr {env : Env} {h : Hp} {K : Env → Hp → Prop} : babel_Babel_prefixes_r2 env h K = babel_Babel_prefixes_r2 env h K := rfl

/-- babel.go:162 -/
def babel_Babel_prefixes_r3 (env : Env) (h : Hp) (K : Env → Hp → Prop) : Prop :=
  nck (env 0) (
  rd Try.prog (Instr.fieldAt 74 (env 0) 7) noHp fun v14_3 =>
  rd Try.prog (Instr.loadAt 70 v14_3) h fun v15_4 =>
  Ok Try.prog 50 #[(env 4), v15_4, (env 3)] h fun v17_6 h1 =>
  K ((((((((env.set 11 (env 4)).set 12 (env 0)).set 13 (env 0)).set 14 v14_3).set 15 v15_4).set 16 (env 3)).set 17 v17_6).set 4 v17_6) h1)
@[congr] theorem babel_Babel_prefixes_r3_congr {env : Env} {h : Hp} {K : Env → Hp → Prop} : babel_Babel_prefixes_r3 env h K = babel_Babel_prefixes_r3 env h K := rfl

/-- babel.go:163 -/
def babel_Babel_prefixes_r4 (env : Env) (h : Hp) (K : Env → Hp → Prop) : Prop :=
  nck (env 0) (
  rd Try.prog (Instr.fieldAt 74 (env 0) 5) noHp fun v21_3 =>
  rd Try.prog (Instr.loadAt 71 v21_3) h fun v22_4 =>
  Ok Try.prog 51 #[(env 4), v22_4, (Go.Value.func (Go.Fn.func 52) #[] #[])] h fun v23_5 h1 =>
  K (((((((env.set 18 (env 4)).set 19 (env 0)).set 20 (env 0)).set 21 v21_3).set 22 v22_4).set 23 v23_5).set 4 v23_5) h1)
@[congr] theorem babel_Babel_prefixes_r4_congr {env : Env} {h : Hp} {K : Env → Hp → Prop} : babel_Babel_prefixes_r4 env h K = babel_Babel_prefixes_r4 env h K := rfl

/-- babel.go:164 -/
def babel_Babel_prefixes_r5 (env : Env) (h : Hp) (K : Env → Hp → Prop) : Prop :=
  Ok Try.prog 53 #[(env 4), (Go.Value.func (Go.Fn.func 54) #[] #[])] h fun v25_1 h1 =>
  K ((env.set 24 (env 4)).set 25 v25_1) h1
@[congr] theorem babel_Babel_prefixes_r5_congr {env : Env} {h : Hp} {K : Env → Hp → Prop} : babel_Babel_prefixes_r5 env h K = babel_Babel_prefixes_r5 env h K := rfl

/-- babel.go:173 -/
def babel_Babel_prefixes_r6 (env : Env) (h : Hp) (K : Env → Hp → Prop) : Prop :=
  Ok Try.prog 56 #[(env 4)] h fun v27_1 h1 =>
  K (((env.set 26 (env 4)).set 27 v27_1).set 2 v27_1) h1
@[congr] theorem babel_Babel_prefixes_r6_congr {env : Env} {h : Hp} {K : Env → Hp → Prop} : babel_Babel_prefixes_r6 env h K = babel_Babel_prefixes_r6 env h K := rfl

def babel_Babel_prefixes_D : Den := (sq (rg babel_Babel_prefixes_r0) (sq (rg babel_Babel_prefixes_r1) (sq (rg babel_Babel_prefixes_r2) (sq (rg babel_Babel_prefixes_r3) (sq (rg babel_Babel_prefixes_r4) (sq (rg babel_Babel_prefixes_r5) (sq (rg babel_Babel_prefixes_r6) (ex .ret))))))))

theorem babel_Babel_prefixes_eq : (den Try.prog 28 babel_Babel_prefixes_code).1 = babel_Babel_prefixes_D := by kernel_rfl

theorem babel_Babel_prefixes_ok {args : Array Value} {h : Hp} {Q : Value → Hp → Prop} (hn : args.size ≤ 28) (D : babel_Babel_prefixes_D (fin Try.prog [(Go.ResultVar.tmp 2)] Q) (env0 args) h) : Ok Try.prog 34 args h Q :=
  ok_of_den progIsOk Try.func34 (c := babel_Babel_prefixes_code) (by kernel_rfl) hn (by show (den Try.prog 28 babel_Babel_prefixes_code).1 _ _ _; rw [babel_Babel_prefixes_eq]; exact D)

/-! ### (*octroi/babel.Babel).way: function 35 -/
noncomputable def babel_Babel_way_code : Code := match Try.f35.body with | some c => c | none => .skip

/-- babel.go:132 -/
def babel_Babel_way_r0 (env : Env) (h : Hp) (K : Env → Hp → Prop) : Prop :=
  arun Try.prog (Instr.box 24 (env 1)) h fun v3_0 h1 =>
  arun Try.prog (Instr.alloc 31 true (Go.Value.tuple #[])) h1 fun v4_1 h2 =>
  K ((((env.set 3 v3_0).set 4 v4_1).set 5 (Go.Value.int Go.IntKind.i64 0)).set 6 (Go.Value.bool false)) h2
@[congr] theorem babel_Babel_way_r0_congr {env : Env} {h : Hp} {K : Env → Hp → Prop} : babel_Babel_way_r0 env h K = babel_Babel_way_r0 env h K := rfl

/-- babel.go:133 (in any order) -/
def babel_Babel_way_r1 (env : Env) (h : Hp) (K : Env → Hp → Prop) : Prop :=
  nck (env 0) (
  rd Try.prog (Instr.fieldAt 74 (env 0) 4) noHp fun v15_2 =>
  rd Try.prog (Instr.loadAt 70 v15_2) h fun v16_3 =>
  rd Try.prog (Instr.loadAt 24 (env 3)) h fun v17_4 =>
  rd Try.prog (Instr.lookup 70 v16_3 v17_4 true) h fun v18_5 =>
  rd Try.prog (Instr.extract v18_5 0) noHp fun v19_7 =>
  rd Try.prog (Instr.extract v18_5 1) noHp fun v20_8 =>
  arun Try.prog (Instr.alloc 31 true (Go.Value.tuple #[])) h fun v7_9 h1 =>
  (rrun Try.prog (Instr.lookup 70 v16_3 v17_4 true) h1 = some v18_5 ∧ rrun Try.prog (Instr.loadAt 24 (env 3)) h1 = some v17_4 ∧ rrun Try.prog (Instr.loadAt 70 v15_2) h1 = some v16_3 ∧ True) ∧
  arun Try.prog (Instr.storeAt 31 v7_9 v19_7) h1 fun _ h2 =>
  (True) ∧
  K (((((((((((env.set 13 (env 0)).set 14 (env 0)).set 15 v15_2).set 16 v16_3).set 17 v17_4).set 18 v18_5).set 12 v18_5).set 19 v19_7).set 20 v20_8).set 7 v7_9).set 8 v20_8) h2)
@[congr] theorem babel_Babel_way_r1_congr {env : Env} {h : Hp} {K : Env → Hp → Prop} : babel_Babel_way_r1 env h K = babel_Babel_way_r1 env h K := rfl

/-- babel.go:133 -/
def babel_Babel_way_r2 (env : Env) (h : Hp) (K : Env → Hp → Prop) : Prop :=
  K (env.set 21 (env 8)) h
@[congr] theorem babel_Babel_way_r2_congr {env : Env} {h : Hp} {K : Env → Hp → Prop} : babel_Babel_way_r2 env h K = babel_Babel_way_r2 env h K := rfl

/-- babel.go:134 -/
def babel_Babel_way_r3 (env : Env) (h : Hp) (K : Env → Hp → Prop) : Prop :=
  nck (env 0) (
  rd Try.prog (Instr.fieldAt 74 (env 0) 3) noHp fun v24_2 =>
  rd Try.prog (Instr.loadAt 29 v24_2) h fun v25_3 =>
  rd Try.prog (Instr.fieldAt 31 (env 7) 1) noHp fun v26_4 =>
  arun Try.prog (Instr.storeAt 29 v26_4 v25_3) h fun _ h1 =>
  K (((((env.set 22 (env 0)).set 23 (env 0)).set 24 v24_2).set 25 v25_3).set 26 v26_4) h1)
@[congr] theorem babel_Babel_way_r3_congr {env : Env} {h : Hp} {K : Env → Hp → Prop} : babel_Babel_way_r3 env h K = babel_Babel_way_r3 env h K := rfl

/-- babel.go:135 -/
def babel_Babel_way_r4 (env : Env) (h : Hp) (K : Env → Hp → Prop) : Prop :=
  rd Try.prog (Instr.loadAt 31 (env 7)) h fun v27_0 =>
  arun Try.prog (Instr.storeAt 31 (env 4) v27_0) h fun _ h1 =>
  K (((env.set 27 v27_0).set 5 (Go.Value.int Go.IntKind.i64 0)).set 6 (Go.Value.bool true)) h1
@[congr] theorem babel_Babel_way_r4_congr {env : Env} {h : Hp} {K : Env → Hp → Prop} : babel_Babel_way_r4 env h K = babel_Babel_way_r4 env h K := rfl

/-- babel.go:137 -/
def babel_Babel_way_r5 (env : Env) (h : Hp) (K : Env → Hp → Prop) : Prop :=
  K (env.set 9 (Go.Value.int Go.IntKind.i64 1)) h
@[congr] theorem babel_Babel_way_r5_congr {env : Env} {h : Hp} {K : Env → Hp → Prop} : babel_Babel_way_r5 env h K = babel_Babel_way_r5 env h K := rfl

/-- babel.go:137 -/
def babel_Babel_way_r6 (env : Env) (h : Hp) (K : Env → Hp → Prop) : Prop :=
  rd Try.prog (bop Go.BinOp.leq 3 (Go.Operand.tmp 28) (Go.Operand.const (Go.Value.int Go.IntKind.i64 32)) (env 9) (Go.Value.int Go.IntKind.i64 32)) noHp fun v29_1 =>
  K ((env.set 28 (env 9)).set 29 v29_1) h
@[congr] theorem babel_Babel_way_r6_congr {env : Env} {h : Hp} {K : Env → Hp → Prop} : babel_Babel_way_r6 env h K = babel_Babel_way_r6 env h K := rfl

/-- babel.go:138 (in any order) -/
def babel_Babel_way_r7 (env : Env) (h : Hp) (K : Env → Hp → Prop) : Prop :=
  nck (env 0) (
  rd Try.prog (Instr.fieldAt 74 (env 0) 5) noHp fun v35_2 =>
  rd Try.prog (Instr.loadAt 71 v35_2) h fun v36_3 =>
  rd Try.prog (Instr.loadAt 24 (env 3)) h fun v37_4 =>
  rd Try.prog (Instr.build 77 #[(0, v37_4), (1, (env 9))]) noHp fun v39_6 =>
  rd Try.prog (Instr.lookup 71 v36_3 v39_6 true) h fun v40_7 =>
  rd Try.prog (Instr.extract v40_7 0) noHp fun v41_9 =>
  rd Try.prog (Instr.extract v40_7 1) noHp fun v42_10 =>
  arun Try.prog (Instr.alloc 79 true (Go.Value.tuple #[])) h fun v10_11 h1 =>
  (rrun Try.prog (Instr.lookup 71 v36_3 v39_6 true) h1 = some v40_7 ∧ rrun Try.prog (Instr.loadAt 24 (env 3)) h1 = some v37_4 ∧ rrun Try.prog (Instr.loadAt 71 v35_2) h1 = some v36_3 ∧ True) ∧
  arun Try.prog (Instr.storeAt 79 v10_11 v41_9) h1 fun _ h2 =>
  (True) ∧
  K (((((((((((((env.set 33 (env 0)).set 34 (env 0)).set 35 v35_2).set 36 v36_3).set 37 v37_4).set 38 (env 9)).set 39 v39_6).set 40 v40_7).set 32 v40_7).set 41 v41_9).set 42 v42_10).set 10 v10_11).set 11 v42_10) h2)
@[congr] theorem babel_Babel_way_r7_congr {env : Env} {h : Hp} {K : Env → Hp → Prop} : babel_Babel_way_r7 env h K = babel_Babel_way_r7 env h K := rfl

/-- babel.go:139 -/
def babel_Babel_way_r8 (env : Env) (h : Hp) (K : Env → Hp → Prop) : Prop :=
  rd Try.prog (Op.unary Go.UnOp.not (env 11)) noHp fun v44_1 =>
  gd (yb v44_1 == some false) (fun h k => k (env 0) h) h fun v46_3 h1 =>
  gd (yb v44_1 == some false) (fun h k => rd Try.prog (Instr.fieldAt 79 (env 10) 1) noHp fun v => k v h) h1 fun v47_4 h2 =>
  gd (yb v44_1 == some false) (fun h k => rd Try.prog (Instr.loadAt 31 v47_4) h fun v => k v h) h2 fun v48_5 h3 =>
  gd (yb v44_1 == some false) (fun h k => Ok Try.prog 33 #[v48_5] h k) h3 fun v49_6 h4 =>
  gd (yb v44_1 == some false) (fun h k => rd Try.prog (Instr.extract v49_6 0) noHp fun v => k v h) h4 fun v50_7 h5 =>
  gd (yb v44_1 == some false) (fun h k => rd Try.prog (Instr.extract v49_6 1) noHp fun v => k v h) h5 fun v51_8 h6 =>
  gd (yb v44_1 == some false) (fun h k => Ok Try.prog 32 #[v46_3, v50_7, v51_8] h k) h6 fun v52_9 h7 =>
  gd (yb v44_1 == some false) (fun h k => rd Try.prog (Op.unary Go.UnOp.not v52_9) noHp fun v => k v h) h7 fun v53_10 h8 =>
  rd Try.prog (pck v44_1 (Go.Value.bool true) v53_10) noHp fun v54_11 =>
  K ((((((((((((env.set 43 (env 11)).set 44 v44_1).set 45 v44_1).set 46 v46_3).set 47 v47_4).set 48 v48_5).set 49 v49_6).set 50 v50_7).set 51 v51_8).set 52 v52_9).set 53 v53_10).set 54 v54_11) h8
@[congr] theorem babel_Babel_way_r8_congr {env : Env} {h : Hp} {K : Env → Hp → Prop} : babel_Babel_way_r8 env h K = babel_Babel_way_r8 env h K := rfl

/-- babel.go:142 -/
def babel_Babel_way_r9 (env : Env) (h : Hp) (K : Env → Hp → Prop) : Prop :=
  rd Try.prog (Instr.fieldAt 79 (env 10) 1) noHp fun v55_0 =>
  rd Try.prog (Instr.fieldAt 31 v55_0 3) noHp fun v56_1 =>
  rd Try.prog (Instr.loadAt 3 v56_1) h fun v57_2 =>
  rd Try.prog (Instr.fieldAt 79 (env 10) 0) noHp fun v58_3 =>
  rd Try.prog (Instr.loadAt 3 v58_3) h fun v59_4 =>
  Ok Try.prog 57 #[v57_2, v59_4] h fun v60_5 h1 =>
  rd Try.prog (Instr.fieldAt 79 (env 10) 1) noHp fun v61_6 =>
  rd Try.prog (Instr.fieldAt 31 v61_6 3) noHp fun v62_7 =>
  arun Try.prog (Instr.storeAt 3 v62_7 v60_5) h1 fun _ h2 =>
  rd Try.prog (Instr.fieldAt 79 (env 10) 1) noHp fun v63_9 =>
  rd Try.prog (Instr.fieldAt 31 v63_9 2) noHp fun v64_10 =>
  arun Try.prog (Instr.storeAt 3 v64_10 (Go.Value.int Go.IntKind.i64 400)) h2 fun _ h3 =>
  rd Try.prog (Instr.fieldAt 79 (env 10) 1) noHp fun v65_12 =>
  rd Try.prog (Instr.fieldAt 31 v65_12 7) noHp fun v66_13 =>
  arun Try.prog (Instr.storeAt 3 v66_13 (Go.Value.int Go.IntKind.i64 0)) h3 fun _ h4 =>
  K ((((((((((((env.set 55 v55_0).set 56 v56_1).set 57 v57_2).set 58 v58_3).set 59 v59_4).set 60 v60_5).set 61 v61_6).set 62 v62_7).set 63 v63_9).set 64 v64_10).set 65 v65_12).set 66 v66_13) h4
@[congr] theorem babel_Babel_way_r9_congr {env : Env} {h : Hp} {K : Env → Hp → Prop} : babel_Babel_way_r9 env h K = babel_Babel_way_r9 env h K := rfl

/-- babel.go:143 -/
def babel_Babel_way_r10 (env : Env) (h : Hp) (K : Env → Hp → Prop) : Prop :=
  rd Try.prog (Instr.fieldAt 79 (env 10) 1) noHp fun v67_0 =>
  rd Try.prog (Instr.fieldAt 31 v67_0 3) noHp fun v68_1 =>
  rd Try.prog (Instr.loadAt 3 v68_1) h fun v69_2 =>
  rd Try.prog (bop Go.BinOp.lss 3 (Go.Operand.tmp 69) (Go.Operand.const (Go.Value.int Go.IntKind.i64 65535)) v69_2 (Go.Value.int Go.IntKind.i64 65535)) noHp fun v70_3 =>
  gd (yb v70_3 == some true) (fun h k => k (env 6) h) h fun v72_5 h1 =>
  gd (yb v70_3 == some true) (fun h k => rd Try.prog (Op.unary Go.UnOp.not v72_5) noHp fun v => k v h) h1 fun v73_6 h2 =>
  gd (yb v70_3 == some true) (fun h k => k v73_6 h) h2 fun v74_7 h3 =>
  gd (yb v74_7 == some false) (fun h k => rd Try.prog (Instr.fieldAt 79 (env 10) 1) noHp fun v => k v h) h3 fun v75_8 h4 =>
  gd (yb v74_7 == some false) (fun h k => rd Try.prog (Instr.fieldAt 31 v75_8 3) noHp fun v => k v h) h4 fun v76_9 h5 =>
  gd (yb v74_7 == some false) (fun h k => rd Try.prog (Instr.loadAt 3 v76_9) h fun v => k v h) h5 fun v77_10 h6 =>
  gd (yb v74_7 == some false) (fun h k => rd Try.prog (Instr.fieldAt 31 (env 4) 3) noHp fun v => k v h) h6 fun v78_11 h7 =>
  gd (yb v74_7 == some false) (fun h k => rd Try.prog (Instr.loadAt 3 v78_11) h fun v => k v h) h7 fun v79_12 h8 =>
  gd (yb v74_7 == some false) (fun h k => rd Try.prog (bop Go.BinOp.lss 3 (Go.Operand.tmp 77) (Go.Operand.tmp 79) v77_10 v79_12) noHp fun v => k v h) h8 fun v80_13 h9 =>
  gd (yb v70_3 == some true) (fun h k => rd Try.prog (pck v74_7 (Go.Value.bool true) v80_13) noHp fun v => k v h) h9 fun v81_14 h10 =>
  rd Try.prog (pck v70_3 v81_14 (Go.Value.bool false)) noHp fun v82_15 =>
  K ((((((((((((((((env.set 67 v67_0).set 68 v68_1).set 69 v69_2).set 70 v70_3).set 71 v70_3).set 72 v72_5).set 73 v73_6).set 74 v74_7).set 75 v75_8).set 76 v76_9).set 77 v77_10).set 78 v78_11).set 79 v79_12).set 80 v80_13).set 81 v81_14).set 82 v82_15) h10
@[congr] theorem babel_Babel_way_r10_congr {env : Env} {h : Hp} {K : Env → Hp → Prop} : babel_Babel_way_r10 env h K = babel_Babel_way_r10 env h K := rfl

/-- babel.go:144 -/
def babel_Babel_way_r11 (env : Env) (h : Hp) (K : Env → Hp → Prop) : Prop :=
  rd Try.prog (Instr.fieldAt 79 (env 10) 1) noHp fun v83_0 =>
  rd Try.prog (Instr.loadAt 31 v83_0) h fun v84_1 =>
  arun Try.prog (Instr.storeAt 31 (env 4) v84_1) h fun _ h1 =>
  K (((((env.set 83 v83_0).set 84 v84_1).set 85 (env 9)).set 5 (env 9)).set 6 (Go.Value.bool true)) h1
@[congr] theorem babel_Babel_way_r11_congr {env : Env} {h : Hp} {K : Env → Hp → Prop} : babel_Babel_way_r11 env h K = babel_Babel_way_r11 env h K := rfl

/-- babel.go:137 -/
def babel_Babel_way_r12 (env : Env) (h : Hp) (K : Env → Hp → Prop) : Prop :=
  rd Try.prog (bop Go.BinOp.add 3 (Go.Operand.tmp 30) (Go.Operand.const (Go.Value.int Go.IntKind.i64 1)) (env 9) (Go.Value.int Go.IntKind.i64 1)) noHp fun v31_1 =>
  K (((env.set 30 (env 9)).set 31 v31_1).set 9 v31_1) h
@[congr] theorem babel_Babel_way_r12_congr {env : Env} {h : Hp} {K : Env → Hp → Prop} : babel_Babel_way_r12 env h K = babel_Babel_way_r12 env h K := rfl

def babel_Babel_way_L0 : Den := (sq (sq (rg babel_Babel_way_r6) (cnd (Go.Operand.tmp 29) (ex .normal) (ex (.exit 0)))) (sq (blk 1 (sq (rg babel_Babel_way_r7) (sq (sq (rg babel_Babel_way_r8) (cnd (Go.Operand.tmp 54) (ex (.exit 1)) (ex .normal))) (sq (rg babel_Babel_way_r9) (sq (rg babel_Babel_way_r10) (cnd (Go.Operand.tmp 82) (rg babel_Babel_way_r11) (ex .normal))))))) (rg babel_Babel_way_r12)))

/-- babel.go:147 -/
def babel_Babel_way_r13 (env : Env) (h : Hp) (K : Env → Hp → Prop) : Prop :=
  rd Try.prog (Instr.loadAt 31 (env 4)) h fun v86_0 =>
  arun Try.prog (Instr.storeAt 31 (env 4) v86_0) h fun _ h1 =>
  K (((((env.set 86 v86_0).set 87 (env 5)).set 88 (env 6)).set 5 (env 5)).set 6 (env 6)) h1
@[congr] theorem babel_Babel_way_r13_congr {env : Env} {h : Hp} {K : Env → Hp → Prop} : babel_Babel_way_r13 env h K = babel_Babel_way_r13 env h K := rfl

def babel_Babel_way_D : Den := (sq (rg babel_Babel_way_r0) (sq (sq (rg babel_Babel_way_r1) (sq (rg babel_Babel_way_r2) (cnd (Go.Operand.tmp 21) (sq (rg babel_Babel_way_r3) (sq (rg babel_Babel_way_r4) (ex .ret))) (ex .normal)))) (sq (sq (rg babel_Babel_way_r5) (blk 0 (lp babel_Babel_way_L0))) (sq (rg babel_Babel_way_r13) (ex .ret)))))

theorem babel_Babel_way_eq : (den Try.prog 89 babel_Babel_way_code).1 = babel_Babel_way_D := by kernel_rfl

theorem babel_Babel_way_ok {args : Array Value} {h : Hp} {Q : Value → Hp → Prop} (hn : args.size ≤ 89) (D : babel_Babel_way_D (fin Try.prog [(Go.ResultVar.cell 4 31), (Go.ResultVar.tmp 5), (Go.ResultVar.tmp 6)] Q) (env0 args) h) : Ok Try.prog 35 args h Q :=
  ok_of_den progIsOk Try.func35 (c := babel_Babel_way_code) (by kernel_rfl) hn (by show (den Try.prog 89 babel_Babel_way_code).1 _ _ _; rw [babel_Babel_way_eq]; exact D)

/-! ### (*octroi/babel.Babel).Know: function 36 -/
noncomputable def babel_Babel_Know_code : Code := match Try.f36.body with | some c => c | none => .skip

/-- babel.go:222 -/
def babel_Babel_Know_r0 (env : Env) (h : Hp) (K : Env → Hp → Prop) : Prop :=
  arun Try.prog (Instr.box 24 (env 1)) h fun v6_0 h1 =>
  K (env.set 6 v6_0) h1
@[congr] theorem babel_Babel_Know_r0_congr {env : Env} {h : Hp} {K : Env → Hp → Prop} : babel_Babel_Know_r0 env h K = babel_Babel_Know_r0 env h K := rfl

/-- babel.go:223 -/
def babel_Babel_Know_r1 (env : Env) (h : Hp) (K : Env → Hp → Prop) : Prop :=
  rd Try.prog (Instr.loadAt 24 (env 6)) h fun v12_0 =>
  rd Try.prog (Instr.build 83 #[(0, v12_0), (1, (env 2))]) noHp fun v14_2 =>
  rd Try.prog (Instr.build 85 #[(0, (env 3)), (1, (env 4))]) noHp fun v17_5 =>
  arun Try.prog (Instr.alloc 83 true (Go.Value.tuple #[])) h fun v10_6 h1 =>
  arun Try.prog (Instr.alloc 85 true (Go.Value.tuple #[])) h1 fun v11_7 h2 =>
  arun Try.prog (Instr.storeAt 83 v10_6 v14_2) h2 fun _ h3 =>
  arun Try.prog (Instr.storeAt 85 v11_7 v17_5) h3 fun _ h4 =>
  K ((((((((env.set 12 v12_0).set 13 (env 2)).set 14 v14_2).set 15 (env 3)).set 16 (env 4)).set 17 v17_5).set 10 v10_6).set 11 v11_7) h4
@[congr] theorem babel_Babel_Know_r1_congr {env : Env} {h : Hp} {K : Env → Hp → Prop} : babel_Babel_Know_r1 env h K = babel_Babel_Know_r1 env h K := rfl

/-- babel.go:224 -/
def babel_Babel_Know_r2 (env : Env) (h : Hp) (K : Env → Hp → Prop) : Prop :=
  rd Try.prog (Instr.loadAt 24 (env 6)) h fun v18_0 =>
  Ok Try.prog 31 #[v18_0] h fun v19_1 h1 =>
  gd (yb v19_1 == some true) (fun h k => k (env 4) h) h1 fun v21_3 h2 =>
  gd (yb v19_1 == some true) (fun h k => rd Try.prog (bop Go.BinOp.geq 3 (Go.Operand.tmp 21) (Go.Operand.const (Go.Value.int Go.IntKind.i64 0)) v21_3 (Go.Value.int Go.IntKind.i64 0)) noHp fun v => k v h) h2 fun v22_4 h3 =>
  rd Try.prog (pck v19_1 v22_4 (Go.Value.bool false)) noHp fun v23_5 =>
  gd (yb v23_5 == some true) (fun h k => k (env 4) h) h3 fun v25_7 h4 =>
  gd (yb v23_5 == some true) (fun h k => rd Try.prog (bop Go.BinOp.lss 3 (Go.Operand.tmp 25) (Go.Operand.const (Go.Value.int Go.IntKind.i64 65535)) v25_7 (Go.Value.int Go.IntKind.i64 65535)) noHp fun v => k v h) h4 fun v26_8 h5 =>
  rd Try.prog (pck v23_5 v26_8 (Go.Value.bool false)) noHp fun v27_9 =>
  gd (yb v27_9 == some true) (fun h k => k (env 0) h) h5 fun v29_11 h6 =>
  gd (yb v27_9 == some true) (fun h k => rd Try.prog (Instr.loadAt 83 (env 10)) h fun v => k v h) h6 fun v30_12 h7 =>
  gd (yb v27_9 == some true) (fun h k => rd Try.prog (Instr.loadAt 85 (env 11)) h fun v => k v h) h7 fun v31_13 h8 =>
  gd (yb v27_9 == some true) (fun h k => Ok Try.prog 32 #[v29_11, v30_12, v31_13] h k) h8 fun v32_14 h9 =>
  rd Try.prog (pck v27_9 v32_14 (Go.Value.bool false)) noHp fun v33_15 =>
  K ((((((((((((((((env.set 18 v18_0).set 19 v19_1).set 20 v19_1).set 21 v21_3).set 22 v22_4).set 23 v23_5).set 24 v23_5).set 25 v25_7).set 26 v26_8).set 27 v27_9).set 28 v27_9).set 29 v29_11).set 30 v30_12).set 31 v31_13).set 32 v32_14).set 33 v33_15) h9
@[congr] theorem babel_Babel_Know_r2_congr {env : Env} {h : Hp} {K : Env → Hp → Prop} : babel_Babel_Know_r2 env h K = babel_Babel_Know_r2 env h K := rfl

/-- babel.go:225 (in any order) -/
def babel_Babel_Know_r3 (env : Env) (h : Hp) (K : Env → Hp → Prop) : Prop :=
  nck (env 0) (
  rd Try.prog (Instr.fieldAt 74 (env 0) 6) noHp fun v36_2 =>
  rd Try.prog (Instr.loadAt 72 v36_2) h fun v37_3 =>
  rd Try.prog (Instr.loadAt 83 (env 10)) h fun v38_4 =>
  rd Try.prog (Instr.loadAt 85 (env 11)) h fun v39_5 =>
  arun Try.prog (Instr.mapUpdate 72 v37_3 v38_4 v39_5) h fun _ h1 =>
  (True) ∧
  K ((((((env.set 34 (env 0)).set 35 (env 0)).set 36 v36_2).set 37 v37_3).set 38 v38_4).set 39 v39_5) h1)
@[congr] theorem babel_Babel_Know_r3_congr {env : Env} {h : Hp} {K : Env → Hp → Prop} : babel_Babel_Know_r3 env h K = babel_Babel_Know_r3 env h K := rfl

def babel_Babel_Know_D : Den := (sq (rg babel_Babel_Know_r0) (sq (rg babel_Babel_Know_r1) (sq (rg babel_Babel_Know_r2) (cnd (Go.Operand.tmp 33) (rg babel_Babel_Know_r3) (ex .normal)))))

theorem babel_Babel_Know_eq : (den Try.prog 40 babel_Babel_Know_code).1 = babel_Babel_Know_D := by kernel_rfl

theorem babel_Babel_Know_ok {args : Array Value} {h : Hp} {Q : Value → Hp → Prop} (hn : args.size ≤ 40) (D : babel_Babel_Know_D (fin Try.prog [] Q) (env0 args) h) : Ok Try.prog 36 args h Q :=
  ok_of_den progIsOk Try.func36 (c := babel_Babel_Know_code) (by kernel_rfl) hn (by show (den Try.prog 40 babel_Babel_Know_code).1 _ _ _; rw [babel_Babel_Know_eq]; exact D)

/-! ### (*octroi/babel.Babel).Own: function 37 -/
noncomputable def babel_Babel_Own_code : Code := match Try.f37.body with | some c => c | none => .skip

/-- babel.go:61 -/
def babel_Babel_Own_r0 (env : Env) (h : Hp) (K : Env → Hp → Prop) : Prop :=
  arun Try.prog (Instr.box 24 (env 1)) h fun v5_0 h1 =>
  K ((env.set 5 v5_0).set 8 (Go.Value.int Go.IntKind.i64 0)) h1
@[congr] theorem babel_Babel_Own_r0_congr {env : Env} {h : Hp} {K : Env → Hp → Prop} : babel_Babel_Own_r0 env h K = babel_Babel_Own_r0 env h K := rfl

/-- babel.go:62 (in any order) -/
def babel_Babel_Own_r1 (env : Env) (h : Hp) (K : Env → Hp → Prop) : Prop :=
  nck (env 0) (
  rd Try.prog (Instr.fieldAt 74 (env 0) 4) noHp fun v14_2 =>
  rd Try.prog (Instr.loadAt 70 v14_2) h fun v15_3 =>
  rd Try.prog (Instr.loadAt 24 (env 5)) h fun v16_4 =>
  rd Try.prog (Instr.lookup 70 v15_3 v16_4 true) h fun v17_5 =>
  rd Try.prog (Instr.extract v17_5 0) noHp fun v18_7 =>
  rd Try.prog (Instr.extract v17_5 1) noHp fun v19_8 =>
  arun Try.prog (Instr.alloc 31 true (Go.Value.tuple #[])) h fun v9_9 h1 =>
  (rrun Try.prog (Instr.lookup 70 v15_3 v16_4 true) h1 = some v17_5 ∧ rrun Try.prog (Instr.loadAt 24 (env 5)) h1 = some v16_4 ∧ rrun Try.prog (Instr.loadAt 70 v14_2) h1 = some v15_3 ∧ True) ∧
  arun Try.prog (Instr.storeAt 31 v9_9 v18_7) h1 fun _ h2 =>
  (True) ∧
  K (((((((((((env.set 12 (env 0)).set 13 (env 0)).set 14 v14_2).set 15 v15_3).set 16 v16_4).set 17 v17_5).set 11 v17_5).set 18 v18_7).set 19 v19_8).set 9 v9_9).set 10 v19_8) h2)
@[congr] theorem babel_Babel_Own_r1_congr {env : Env} {h : Hp} {K : Env → Hp → Prop} : babel_Babel_Own_r1 env h K = babel_Babel_Own_r1 env h K := rfl

/-- babel.go:64 -/
def babel_Babel_Own_r2 (env : Env) (h : Hp) (K : Env → Hp → Prop) : Prop :=
  rd Try.prog (Instr.loadAt 24 (env 5)) h fun v21_0 =>
  Ok Try.prog 31 #[v21_0] h fun v22_1 h1 =>
  rd Try.prog (Op.unary Go.UnOp.not v22_1) noHp fun v23_2 =>
  gd (yb v23_2 == some false) (fun h k => k (env 2) h) h1 fun v25_4 h2 =>
  gd (yb v23_2 == some false) (fun h k => rd Try.prog (bop Go.BinOp.lss 3 (Go.Operand.tmp 25) (Go.Operand.const (Go.Value.int Go.IntKind.i64 0)) v25_4 (Go.Value.int Go.IntKind.i64 0)) noHp fun v => k v h) h2 fun v26_5 h3 =>
  rd Try.prog (pck v23_2 (Go.Value.bool true) v26_5) noHp fun v27_6 =>
  gd (yb v27_6 == some false) (fun h k => k (env 2) h) h3 fun v29_8 h4 =>
  gd (yb v27_6 == some false) (fun h k => rd Try.prog (bop Go.BinOp.geq 3 (Go.Operand.tmp 29) (Go.Operand.const (Go.Value.int Go.IntKind.i64 65535)) v29_8 (Go.Value.int Go.IntKind.i64 65535)) noHp fun v => k v h) h4 fun v30_9 h5 =>
  rd Try.prog (pck v27_6 (Go.Value.bool true) v30_9) noHp fun v31_10 =>
  K ((((((((((((env.set 21 v21_0).set 22 v22_1).set 23 v23_2).set 24 v23_2).set 25 v25_4).set 26 v26_5).set 27 v27_6).set 28 v27_6).set 29 v29_8).set 30 v30_9).set 31 v31_10).set 20 v31_10) h5
@[congr] theorem babel_Babel_Own_r2_congr {env : Env} {h : Hp} {K : Env → Hp → Prop} : babel_Babel_Own_r2 env h K = babel_Babel_Own_r2 env h K := rfl

/-- babel.go:65 -/
def babel_Babel_Own_r3 (env : Env) (h : Hp) (K : Env → Hp → Prop) : Prop :=
  K (env.set 8 (Go.Value.int Go.IntKind.i64 1)) h
@[congr] theorem babel_Babel_Own_r3_congr {env : Env} {h : Hp} {K : Env → Hp → Prop} : babel_Babel_Own_r3 env h K = babel_Babel_Own_r3 env h K := rfl

/-- babel.go:66 -/
def babel_Babel_Own_r4 (env : Env) (h : Hp) (K : Env → Hp → Prop) : Prop :=
  nck (env 0) (
  rd Try.prog (Instr.fieldAt 74 (env 0) 1) noHp fun v36_3 =>
  rd Try.prog (Instr.loadAt 3 v36_3) h fun v37_4 =>
  Ok Try.prog 17 #[(env 3), v37_4] h fun v38_5 h1 =>
  K (((((((env.set 33 (env 3)).set 34 (env 0)).set 35 (env 0)).set 36 v36_3).set 37 v37_4).set 38 v38_5).set 32 v38_5) h1)
@[congr] theorem babel_Babel_Own_r4_congr {env : Env} {h : Hp} {K : Env → Hp → Prop} : babel_Babel_Own_r4 env h K = babel_Babel_Own_r4 env h K := rfl

/-- babel.go:67 -/
def babel_Babel_Own_r5 (env : Env) (h : Hp) (K : Env → Hp → Prop) : Prop :=
  K (env.set 8 (Go.Value.int Go.IntKind.i64 6)) h
@[congr] theorem babel_Babel_Own_r5_congr {env : Env} {h : Hp} {K : Env → Hp → Prop} : babel_Babel_Own_r5 env h K = babel_Babel_Own_r5 env h K := rfl

/-- babel.go:68 -/
def babel_Babel_Own_r6 (env : Env) (h : Hp) (K : Env → Hp → Prop) : Prop :=
  rd Try.prog (Op.unary Go.UnOp.not (env 10)) noHp fun v41_1 =>
  gd (yb v41_1 == some true) (fun h k => k (env 0) h) h fun v43_3 h1 =>
  gd (yb v41_1 == some true) (fun h k => nck v43_3 (k v43_3 h)) h1 fun v44_4 h2 =>
  gd (yb v41_1 == some true) (fun h k => rd Try.prog (Instr.fieldAt 74 v44_4 4) noHp fun v => k v h) h2 fun v45_5 h3 =>
  gd (yb v41_1 == some true) (fun h k => rd Try.prog (Instr.loadAt 70 v45_5) h fun v => k v h) h3 fun v46_6 h4 =>
  gd (yb v41_1 == some true) (fun h k => rd Try.prog (Builtin.len_ #[70] 3 #[v46_6]) h fun v => k v h) h4 fun v47_7 h5 =>
  gd (yb v41_1 == some true) (fun h k => rd Try.prog (bop Go.BinOp.geq 3 (Go.Operand.tmp 47) (Go.Operand.const (Go.Value.int Go.IntKind.i64 64)) v47_7 (Go.Value.int Go.IntKind.i64 64)) noHp fun v => k v h) h5 fun v48_8 h6 =>
  rd Try.prog (pck v41_1 v48_8 (Go.Value.bool false)) noHp fun v49_9 =>
  K (((((((((((env.set 40 (env 10)).set 41 v41_1).set 42 v41_1).set 43 v43_3).set 44 v44_4).set 45 v45_5).set 46 v46_6).set 47 v47_7).set 48 v48_8).set 49 v49_9).set 39 v49_9) h6
@[congr] theorem babel_Babel_Own_r6_congr {env : Env} {h : Hp} {K : Env → Hp → Prop} : babel_Babel_Own_r6 env h K = babel_Babel_Own_r6 env h K := rfl

/-- babel.go:69 -/
def babel_Babel_Own_r7 (env : Env) (h : Hp) (K : Env → Hp → Prop) : Prop :=
  K (env.set 8 (Go.Value.int Go.IntKind.i64 4)) h
@[congr] theorem babel_Babel_Own_r7_congr {env : Env} {h : Hp} {K : Env → Hp → Prop} : babel_Babel_Own_r7 env h K = babel_Babel_Own_r7 env h K := rfl

/-- babel.go:71 (in any order) -/
def babel_Babel_Own_r8 (env : Env) (h : Hp) (K : Env → Hp → Prop) : Prop :=
  nck (env 0) (
  rd Try.prog (Instr.fieldAt 74 (env 0) 4) noHp fun v52_2 =>
  rd Try.prog (Instr.loadAt 70 v52_2) h fun v53_3 =>
  rd Try.prog (Instr.loadAt 24 (env 5)) h fun v54_4 =>
  rd Try.prog (Instr.loadAt 24 (env 5)) h fun v56_6 =>
  nck (env 0) (
  rd Try.prog (Instr.fieldAt 74 (env 0) 0) noHp fun v59_9 =>
  rd Try.prog (Instr.loadAt 28 v59_9) h fun v60_10 =>
  rd Try.prog (Instr.build 31 #[(0, (Go.Value.int Go.IntKind.i64 2)), (2, (Go.Value.int Go.IntKind.i64 400)), (3, (env 2)), (4, v56_6), (5, v60_10), (6, (env 3))]) noHp fun v62_12 =>
  arun Try.prog (Instr.mapUpdate 70 v53_3 v54_4 v62_12) h fun _ h1 =>
  (True) ∧
  K (((((((((((((env.set 50 (env 0)).set 51 (env 0)).set 52 v52_2).set 53 v53_3).set 54 v54_4).set 55 (env 2)).set 56 v56_6).set 57 (env 0)).set 58 (env 0)).set 59 v59_9).set 60 v60_10).set 61 (env 3)).set 62 v62_12) h1))
@[congr] theorem babel_Babel_Own_r8_congr {env : Env} {h : Hp} {K : Env → Hp → Prop} : babel_Babel_Own_r8 env h K = babel_Babel_Own_r8 env h K := rfl

/-- babel.go:72 -/
def babel_Babel_Own_r9 (env : Env) (h : Hp) (K : Env → Hp → Prop) : Prop :=
  K (env.set 8 (Go.Value.int Go.IntKind.i64 0)) h
@[congr] theorem babel_Babel_Own_r9_congr {env : Env} {h : Hp} {K : Env → Hp → Prop} : babel_Babel_Own_r9 env h K = babel_Babel_Own_r9 env h K := rfl

def babel_Babel_Own_D : Den := (sq (rg babel_Babel_Own_r0) (sq (rg babel_Babel_Own_r1) (sq (blk 0 (sq (rg babel_Babel_Own_r2) (cnd (Go.Operand.tmp 20) (sq (rg babel_Babel_Own_r3) (ex .ret)) (sq (rg babel_Babel_Own_r4) (cnd (Go.Operand.tmp 32) (sq (rg babel_Babel_Own_r5) (ex .ret)) (sq (rg babel_Babel_Own_r6) (cnd (Go.Operand.tmp 39) (sq (rg babel_Babel_Own_r7) (ex .ret)) (ex .normal)))))))) (sq (rg babel_Babel_Own_r8) (sq (rg babel_Babel_Own_r9) (ex .ret))))))

theorem babel_Babel_Own_eq : (den Try.prog 63 babel_Babel_Own_code).1 = babel_Babel_Own_D := by kernel_rfl

theorem babel_Babel_Own_ok {args : Array Value} {h : Hp} {Q : Value → Hp → Prop} (hn : args.size ≤ 63) (D : babel_Babel_Own_D (fin Try.prog [(Go.ResultVar.tmp 8)] Q) (env0 args) h) : Ok Try.prog 37 args h Q :=
  ok_of_den progIsOk Try.func37 (c := babel_Babel_Own_code) (by kernel_rfl) hn (by show (den Try.prog 63 babel_Babel_Own_code).1 _ _ _; rw [babel_Babel_Own_eq]; exact D)

/-! ### (*octroi/babel.Babel).Raise: function 38 -/
noncomputable def babel_Babel_Raise_code : Code := match Try.f38.body with | some c => c | none => .skip

/-- babel.go:85 -/
def babel_Babel_Raise_r0 (env : Env) (h : Hp) (K : Env → Hp → Prop) : Prop :=
  K (env.set 2 (Go.Value.int Go.IntKind.u16 0)) h
@[congr] theorem babel_Babel_Raise_r0_congr {env : Env} {h : Hp} {K : Env → Hp → Prop} : babel_Babel_Raise_r0 env h K = babel_Babel_Raise_r0 env h K := rfl

/-- babel.go:86 -/
def babel_Babel_Raise_r1 (env : Env) (h : Hp) (K : Env → Hp → Prop) : Prop :=
  nck (env 0) (
  rd Try.prog (Instr.fieldAt 74 (env 0) 3) noHp fun v5_2 =>
  rd Try.prog (Instr.loadAt 29 v5_2) h fun v6_3 =>
  rd Try.prog (bop Go.BinOp.add 29 (Go.Operand.tmp 6) (Go.Operand.const (Go.Value.int Go.IntKind.u16 1)) v6_3 (Go.Value.int Go.IntKind.u16 1)) noHp fun v7_4 =>
  nck (env 0) (
  rd Try.prog (Instr.fieldAt 74 (env 0) 3) noHp fun v9_6 =>
  arun Try.prog (Instr.storeAt 29 v9_6 v7_4) h fun _ h1 =>
  K (((((((env.set 3 (env 0)).set 4 (env 0)).set 5 v5_2).set 6 v6_3).set 7 v7_4).set 8 (env 0)).set 9 v9_6) h1))
@[congr] theorem babel_Babel_Raise_r1_congr {env : Env} {h : Hp} {K : Env → Hp → Prop} : babel_Babel_Raise_r1 env h K = babel_Babel_Raise_r1 env h K := rfl

/-- babel.go:87 -/
def babel_Babel_Raise_r2 (env : Env) (h : Hp) (K : Env → Hp → Prop) : Prop :=
  nck (env 0) (
  rd Try.prog (Instr.fieldAt 74 (env 0) 3) noHp fun v12_2 =>
  rd Try.prog (Instr.loadAt 29 v12_2) h fun v13_3 =>
  K (((((env.set 10 (env 0)).set 11 (env 0)).set 12 v12_2).set 13 v13_3).set 2 v13_3) h)
@[congr] theorem babel_Babel_Raise_r2_congr {env : Env} {h : Hp} {K : Env → Hp → Prop} : babel_Babel_Raise_r2 env h K = babel_Babel_Raise_r2 env h K := rfl

def babel_Babel_Raise_D : Den := (sq (rg babel_Babel_Raise_r0) (sq (rg babel_Babel_Raise_r1) (sq (rg babel_Babel_Raise_r2) (ex .ret))))

theorem babel_Babel_Raise_eq : (den Try.prog 14 babel_Babel_Raise_code).1 = babel_Babel_Raise_D := by kernel_rfl

theorem babel_Babel_Raise_ok {args : Array Value} {h : Hp} {Q : Value → Hp → Prop} (hn : args.size ≤ 14) (D : babel_Babel_Raise_D (fin Try.prog [(Go.ResultVar.tmp 2)] Q) (env0 args) h) : Ok Try.prog 38 args h Q :=
  ok_of_den progIsOk Try.func38 (c := babel_Babel_Raise_code) (by kernel_rfl) hn (by show (den Try.prog 14 babel_Babel_Raise_code).1 _ _ _; rw [babel_Babel_Raise_eq]; exact D)

/-! ### octroi/tags.may: function 39 -/
noncomputable def tags_may_code : Code := match Try.f39.body with | some c => c | none => .skip

/-- tags.go:7 -/
def tags_may_r0 (env : Env) (h : Hp) (K : Env → Hp → Prop) : Prop :=
  K (env.set 2 (Go.Value.bool false)) h
@[congr] theorem tags_may_r0_congr {env : Env} {h : Hp} {K : Env → Hp → Prop} : tags_may_r0 env h K = tags_may_r0 env h K := rfl

/-- tags.go:7 -/
def tags_may_r1 (env : Env) (h : Hp) (K : Env → Hp → Prop) : Prop :=
  rd Try.prog (bop Go.BinOp.geq 3 (Go.Operand.tmp 3) (Go.Operand.const (Go.Value.int Go.IntKind.i64 0)) (env 0) (Go.Value.int Go.IntKind.i64 0)) noHp fun v4_1 =>
  gd (yb v4_1 == some true) (fun h k => k (env 0) h) h fun v6_3 h1 =>
  gd (yb v4_1 == some true) (fun h k => rd Try.prog (bop Go.BinOp.lss 3 (Go.Operand.tmp 6) (Go.Operand.const (Go.Value.int Go.IntKind.i64 16)) v6_3 (Go.Value.int Go.IntKind.i64 16)) noHp fun v => k v h) h1 fun v7_4 h2 =>
  rd Try.prog (pck v4_1 v7_4 (Go.Value.bool false)) noHp fun v8_5 =>
  K (((((((env.set 3 (env 0)).set 4 v4_1).set 5 v4_1).set 6 v6_3).set 7 v7_4).set 8 v8_5).set 2 v8_5) h2
@[congr] theorem tags_may_r1_congr {env : Env} {h : Hp} {K : Env → Hp → Prop} : tags_may_r1 env h K = tags_may_r1 env h K := rfl

def tags_may_D : Den := (sq (rg tags_may_r0) (sq (rg tags_may_r1) (ex .ret)))

theorem tags_may_eq : (den Try.prog 9 tags_may_code).1 = tags_may_D := by kernel_rfl

theorem tags_may_ok {args : Array Value} {h : Hp} {Q : Value → Hp → Prop} (hn : args.size ≤ 9) (D : tags_may_D (fin Try.prog [(Go.ResultVar.tmp 2)] Q) (env0 args) h) : Ok Try.prog 39 args h Q :=
  ok_of_den progIsOk Try.func39 (c := tags_may_code) (by kernel_rfl) hn (by show (den Try.prog 9 tags_may_code).1 _ _ _; rw [tags_may_eq]; exact D)

/-! ### (*octroi/octroiref17.Babel).Own: function 40 -/
noncomputable def octroiref17_Babel_Own_code : Code := match Try.f40.body with | some c => c | none => .skip

/-- ref.go:65 -/
def octroiref17_Babel_Own_r0 (env : Env) (h : Hp) (K : Env → Hp → Prop) : Prop :=
  arun Try.prog (Instr.box 24 (env 1)) h fun v5_0 h1 =>
  K ((env.set 5 v5_0).set 8 (Go.Value.int Go.IntKind.i64 0)) h1
@[congr] theorem octroiref17_Babel_Own_r0_congr {env : Env} {h : Hp} {K : Env → Hp → Prop} : octroiref17_Babel_Own_r0 env h K = octroiref17_Babel_Own_r0 env h K := rfl

/-- ref.go:66 -/
def octroiref17_Babel_Own_r1 (env : Env) (h : Hp) (K : Env → Hp → Prop) : Prop :=
  rd Try.prog (Instr.loadAt 24 (env 5)) h fun v12_0 =>
  Ok Try.prog 58 #[v12_0] h fun v13_1 h1 =>
  K (((env.set 12 v12_0).set 13 v13_1).set 9 v13_1) h1
@[congr] theorem octroiref17_Babel_Own_r1_congr {env : Env} {h : Hp} {K : Env → Hp → Prop} : octroiref17_Babel_Own_r1 env h K = octroiref17_Babel_Own_r1 env h K := rfl

/-- ref.go:67 -/
def octroiref17_Babel_Own_r2 (env : Env) (h : Hp) (K : Env → Hp → Prop) : Prop :=
  rd Try.prog (Op.unary Go.UnOp.not (env 9)) noHp fun v15_1 =>
  gd (yb v15_1 == some false) (fun h k => k (env 2) h) h fun v17_3 h1 =>
  gd (yb v15_1 == some false) (fun h k => rd Try.prog (bop Go.BinOp.lss 3 (Go.Operand.tmp 17) (Go.Operand.const (Go.Value.int Go.IntKind.i64 0)) v17_3 (Go.Value.int Go.IntKind.i64 0)) noHp fun v => k v h) h1 fun v18_4 h2 =>
  rd Try.prog (pck v15_1 (Go.Value.bool true) v18_4) noHp fun v19_5 =>
  gd (yb v19_5 == some false) (fun h k => k (env 2) h) h2 fun v21_7 h3 =>
  gd (yb v19_5 == some false) (fun h k => rd Try.prog (bop Go.BinOp.geq 3 (Go.Operand.tmp 21) (Go.Operand.const (Go.Value.int Go.IntKind.i64 65535)) v21_7 (Go.Value.int Go.IntKind.i64 65535)) noHp fun v => k v h) h3 fun v22_8 h4 =>
  rd Try.prog (pck v19_5 (Go.Value.bool true) v22_8) noHp fun v23_9 =>
  K ((((((((((env.set 14 (env 9)).set 15 v15_1).set 16 v15_1).set 17 v17_3).set 18 v18_4).set 19 v19_5).set 20 v19_5).set 21 v21_7).set 22 v22_8).set 23 v23_9) h4
@[congr] theorem octroiref17_Babel_Own_r2_congr {env : Env} {h : Hp} {K : Env → Hp → Prop} : octroiref17_Babel_Own_r2 env h K = octroiref17_Babel_Own_r2 env h K := rfl

/-- ref.go:68 -/
def octroiref17_Babel_Own_r3 (env : Env) (h : Hp) (K : Env → Hp → Prop) : Prop :=
  K (env.set 8 (Go.Value.int Go.IntKind.i64 1)) h
@[congr] theorem octroiref17_Babel_Own_r3_congr {env : Env} {h : Hp} {K : Env → Hp → Prop} : octroiref17_Babel_Own_r3 env h K = octroiref17_Babel_Own_r3 env h K := rfl

/-- ref.go:70 -/
def octroiref17_Babel_Own_r4 (env : Env) (h : Hp) (K : Env → Hp → Prop) : Prop :=
  nck (env 0) (
  rd Try.prog (Instr.fieldAt 67 (env 0) 1) noHp fun v27_3 =>
  rd Try.prog (Instr.loadAt 3 v27_3) h fun v28_4 =>
  Ok Try.prog 59 #[(env 3), v28_4] h fun v29_5 h1 =>
  K (((((((env.set 24 (env 3)).set 25 (env 0)).set 26 (env 0)).set 27 v27_3).set 28 v28_4).set 29 v29_5).set 10 v29_5) h1)
@[congr] theorem octroiref17_Babel_Own_r4_congr {env : Env} {h : Hp} {K : Env → Hp → Prop} : octroiref17_Babel_Own_r4 env h K = octroiref17_Babel_Own_r4 env h K := rfl

/-- ref.go:71 -/
def octroiref17_Babel_Own_r5 (env : Env) (h : Hp) (K : Env → Hp → Prop) : Prop :=
  K (env.set 30 (env 10)) h
@[congr] theorem octroiref17_Babel_Own_r5_congr {env : Env} {h : Hp} {K : Env → Hp → Prop} : octroiref17_Babel_Own_r5 env h K = octroiref17_Babel_Own_r5 env h K := rfl

/-- ref.go:72 -/
def octroiref17_Babel_Own_r6 (env : Env) (h : Hp) (K : Env → Hp → Prop) : Prop :=
  K (env.set 8 (Go.Value.int Go.IntKind.i64 6)) h
@[congr] theorem octroiref17_Babel_Own_r6_congr {env : Env} {h : Hp} {K : Env → Hp → Prop} : octroiref17_Babel_Own_r6 env h K = octroiref17_Babel_Own_r6 env h K := rfl

/-- ref.go:74 -/
def octroiref17_Babel_Own_r7 (env : Env) (h : Hp) (K : Env → Hp → Prop) : Prop :=
  rd Try.prog (Instr.loadAt 24 (env 5)) h fun v32_1 =>
  Ok Try.prog 60 #[(env 0), v32_1] h fun v33_2 h1 =>
  K ((((env.set 31 (env 0)).set 32 v32_1).set 33 v33_2).set 11 v33_2) h1
@[congr] theorem octroiref17_Babel_Own_r7_congr {env : Env} {h : Hp} {K : Env → Hp → Prop} : octroiref17_Babel_Own_r7 env h K = octroiref17_Babel_Own_r7 env h K := rfl

/-- ref.go:75 -/
def octroiref17_Babel_Own_r8 (env : Env) (h : Hp) (K : Env → Hp → Prop) : Prop :=
  rd Try.prog (bop Go.BinOp.geq 3 (Go.Operand.tmp 34) (Go.Operand.const (Go.Value.int Go.IntKind.i64 0)) (env 11) (Go.Value.int Go.IntKind.i64 0)) noHp fun v35_1 =>
  K ((env.set 34 (env 11)).set 35 v35_1) h
@[congr] theorem octroiref17_Babel_Own_r8_congr {env : Env} {h : Hp} {K : Env → Hp → Prop} : octroiref17_Babel_Own_r8 env h K = octroiref17_Babel_Own_r8 env h K := rfl

/-- ref.go:76 (in any order) -/
def octroiref17_Babel_Own_r9 (env : Env) (h : Hp) (K : Env → Hp → Prop) : Prop :=
  nck (env 0) (
  rd Try.prog (Instr.fieldAt 67 (env 0) 4) noHp fun v38_2 =>
  rd Try.prog (Instr.loadAt 63 v38_2) h fun v39_3 =>
  rd Try.prog (Instr.loadAt 24 (env 5)) h fun v41_5 =>
  rd Try.prog (Instr.build 112 #[(0, v41_5), (1, (env 2)), (2, (env 3))]) noHp fun v44_8 =>
  rd Try.prog (Instr.indexAt 63 v39_3 (env 11)) noHp fun v45_9 =>
  arun Try.prog (Instr.storeAt 112 v45_9 v44_8) h fun _ h1 =>
  (True) ∧
  K ((((((((((env.set 36 (env 0)).set 37 (env 0)).set 38 v38_2).set 39 v39_3).set 40 (env 11)).set 41 v41_5).set 42 (env 2)).set 43 (env 3)).set 44 v44_8).set 45 v45_9) h1)
@[congr] theorem octroiref17_Babel_Own_r9_congr {env : Env} {h : Hp} {K : Env → Hp → Prop} : octroiref17_Babel_Own_r9 env h K = octroiref17_Babel_Own_r9 env h K := rfl

/-- ref.go:77 -/
def octroiref17_Babel_Own_r10 (env : Env) (h : Hp) (K : Env → Hp → Prop) : Prop :=
  K (env.set 8 (Go.Value.int Go.IntKind.i64 0)) h
@[congr] theorem octroiref17_Babel_Own_r10_congr {env : Env} {h : Hp} {K : Env → Hp → Prop} : octroiref17_Babel_Own_r10 env h K = octroiref17_Babel_Own_r10 env h K := rfl

/-- ref.go:79 -/
def octroiref17_Babel_Own_r11 (env : Env) (h : Hp) (K : Env → Hp → Prop) : Prop :=
  nck (env 0) (
  rd Try.prog (Instr.fieldAt 67 (env 0) 4) noHp fun v48_2 =>
  rd Try.prog (Instr.loadAt 63 v48_2) h fun v49_3 =>
  rd Try.prog (Builtin.len_ #[63] 3 #[v49_3]) h fun v50_4 =>
  rd Try.prog (bop Go.BinOp.geq 3 (Go.Operand.tmp 50) (Go.Operand.const (Go.Value.int Go.IntKind.i64 64)) v50_4 (Go.Value.int Go.IntKind.i64 64)) noHp fun v51_5 =>
  K ((((((env.set 46 (env 0)).set 47 (env 0)).set 48 v48_2).set 49 v49_3).set 50 v50_4).set 51 v51_5) h)
@[congr] theorem octroiref17_Babel_Own_r11_congr {env : Env} {h : Hp} {K : Env → Hp → Prop} : octroiref17_Babel_Own_r11 env h K = octroiref17_Babel_Own_r11 env h K := rfl

/-- ref.go:80 -/
def octroiref17_Babel_Own_r12 (env : Env) (h : Hp) (K : Env → Hp → Prop) : Prop :=
  K (env.set 8 (Go.Value.int Go.IntKind.i64 4)) h
@[congr] theorem octroiref17_Babel_Own_r12_congr {env : Env} {h : Hp} {K : Env → Hp → Prop} : octroiref17_Babel_Own_r12 env h K = octroiref17_Babel_Own_r12 env h K := rfl

/-- ref.go:82 (in any order) -/
def octroiref17_Babel_Own_r13 (env : Env) (h : Hp) (K : Env → Hp → Prop) : Prop :=
  nck (env 0) (
  rd Try.prog (Instr.fieldAt 67 (env 0) 4) noHp fun v55_3 =>
  rd Try.prog (Instr.loadAt 63 v55_3) h fun v56_4 =>
  rd Try.prog (Instr.loadAt 24 (env 5)) h fun v57_5 =>
  rd Try.prog (Instr.build 112 #[(0, v57_5), (1, (env 2)), (2, (env 3))]) noHp fun v60_8 =>
  arun Try.prog (Instr.buildSlice 63 1 #[(0, v60_8)]) h fun v61_9 h1 =>
  (rrun Try.prog (Instr.loadAt 63 v55_3) h1 = some v56_4 ∧ True) ∧
  arun Try.prog (Builtin.append_ #[63, 63] 63 #[v56_4, v61_9]) h1 fun v62_10 h2 =>
  (True) ∧
  nck (env 0) (
  rd Try.prog (Instr.fieldAt 67 (env 0) 4) noHp fun v64_12 =>
  arun Try.prog (Instr.storeAt 63 v64_12 v62_10) h2 fun _ h3 =>
  (True) ∧
  K (((((((((((((env.set 52 (env 0)).set 53 (env 0)).set 54 (env 0)).set 55 v55_3).set 56 v56_4).set 57 v57_5).set 58 (env 2)).set 59 (env 3)).set 60 v60_8).set 61 v61_9).set 62 v62_10).set 63 (env 0)).set 64 v64_12) h3))
@[congr] theorem octroiref17_Babel_Own_r13_congr {env : Env} {h : Hp} {K : Env → Hp → Prop} : octroiref17_Babel_Own_r13 env h K = octroiref17_Babel_Own_r13 env h K := rfl

/-- ref.go:83 -/
def octroiref17_Babel_Own_r14 (env : Env) (h : Hp) (K : Env → Hp → Prop) : Prop :=
  K (env.set 8 (Go.Value.int Go.IntKind.i64 0)) h
@[congr] theorem octroiref17_Babel_Own_r14_congr {env : Env} {h : Hp} {K : Env → Hp → Prop} : octroiref17_Babel_Own_r14 env h K = octroiref17_Babel_Own_r14 env h K := rfl

def octroiref17_Babel_Own_D : Den := (sq (rg octroiref17_Babel_Own_r0) (sq (rg octroiref17_Babel_Own_r1) (sq (sq (rg octroiref17_Babel_Own_r2) (cnd (Go.Operand.tmp 23) (sq (rg octroiref17_Babel_Own_r3) (ex .ret)) (ex .normal))) (sq (rg octroiref17_Babel_Own_r4) (sq (sq (rg octroiref17_Babel_Own_r5) (cnd (Go.Operand.tmp 30) (sq (rg octroiref17_Babel_Own_r6) (ex .ret)) (ex .normal))) (sq (rg octroiref17_Babel_Own_r7) (sq (sq (rg octroiref17_Babel_Own_r8) (cnd (Go.Operand.tmp 35) (sq (rg octroiref17_Babel_Own_r9) (sq (rg octroiref17_Babel_Own_r10) (ex .ret))) (ex .normal))) (sq (sq (rg octroiref17_Babel_Own_r11) (cnd (Go.Operand.tmp 51) (sq (rg octroiref17_Babel_Own_r12) (ex .ret)) (ex .normal))) (sq (rg octroiref17_Babel_Own_r13) (sq (rg octroiref17_Babel_Own_r14) (ex .ret)))))))))))

theorem octroiref17_Babel_Own_eq : (den Try.prog 65 octroiref17_Babel_Own_code).1 = octroiref17_Babel_Own_D := by kernel_rfl

theorem octroiref17_Babel_Own_ok {args : Array Value} {h : Hp} {Q : Value → Hp → Prop} (hn : args.size ≤ 65) (D : octroiref17_Babel_Own_D (fin Try.prog [(Go.ResultVar.tmp 8)] Q) (env0 args) h) : Ok Try.prog 40 args h Q :=
  ok_of_den progIsOk Try.func40 (c := octroiref17_Babel_Own_code) (by kernel_rfl) hn (by show (den Try.prog 65 octroiref17_Babel_Own_code).1 _ _ _; rw [octroiref17_Babel_Own_eq]; exact D)

/-! ### (*octroi/octroiref17.Babel).Drop: function 41 -/
noncomputable def octroiref17_Babel_Drop_code : Code := match Try.f41.body with | some c => c | none => .skip

/-- ref.go:87 -/
def octroiref17_Babel_Drop_r0 (env : Env) (h : Hp) (K : Env → Hp → Prop) : Prop :=
  arun Try.prog (Instr.box 24 (env 1)) h fun v3_0 h1 =>
  K ((env.set 3 v3_0).set 4 (Go.Value.int Go.IntKind.i64 0)) h1
@[congr] theorem octroiref17_Babel_Drop_r0_congr {env : Env} {h : Hp} {K : Env → Hp → Prop} : octroiref17_Babel_Drop_r0 env h K = octroiref17_Babel_Drop_r0 env h K := rfl

/-- ref.go:88 -/
def octroiref17_Babel_Drop_r1 (env : Env) (h : Hp) (K : Env → Hp → Prop) : Prop :=
  rd Try.prog (Instr.loadAt 24 (env 3)) h fun v8_1 =>
  Ok Try.prog 60 #[(env 0), v8_1] h fun v9_2 h1 =>
  K ((((env.set 7 (env 0)).set 8 v8_1).set 9 v9_2).set 5 v9_2) h1
@[congr] theorem octroiref17_Babel_Drop_r1_congr {env : Env} {h : Hp} {K : Env → Hp → Prop} : octroiref17_Babel_Drop_r1 env h K = octroiref17_Babel_Drop_r1 env h K := rfl

/-- ref.go:89 -/
def octroiref17_Babel_Drop_r2 (env : Env) (h : Hp) (K : Env → Hp → Prop) : Prop :=
  rd Try.prog (bop Go.BinOp.lss 3 (Go.Operand.tmp 10) (Go.Operand.const (Go.Value.int Go.IntKind.i64 0)) (env 5) (Go.Value.int Go.IntKind.i64 0)) noHp fun v11_1 =>
  K ((env.set 10 (env 5)).set 11 v11_1) h
@[congr] theorem octroiref17_Babel_Drop_r2_congr {env : Env} {h : Hp} {K : Env → Hp → Prop} : octroiref17_Babel_Drop_r2 env h K = octroiref17_Babel_Drop_r2 env h K := rfl

/-- ref.go:90 -/
def octroiref17_Babel_Drop_r3 (env : Env) (h : Hp) (K : Env → Hp → Prop) : Prop :=
  K (env.set 4 (Go.Value.int Go.IntKind.i64 5)) h
@[congr] theorem octroiref17_Babel_Drop_r3_congr {env : Env} {h : Hp} {K : Env → Hp → Prop} : octroiref17_Babel_Drop_r3 env h K = octroiref17_Babel_Drop_r3 env h K := rfl

/-- ref.go:92 -/
def octroiref17_Babel_Drop_r4 (env : Env) (h : Hp) (K : Env → Hp → Prop) : Prop :=
  nck (env 0) (
  rd Try.prog (Instr.fieldAt 67 (env 0) 4) noHp fun v14_2 =>
  rd Try.prog (Instr.loadAt 63 v14_2) h fun v15_3 =>
  rd Try.prog (Instr.sliceAt 63 v15_3 none (some (env 5)) none) noHp fun v17_5 =>
  arun Try.prog (Builtin.append_ #[63, 63] 63 #[(Go.Value.slice none 0 0), v17_5]) h fun v18_6 h1 =>
  K ((((((((env.set 12 (env 0)).set 13 (env 0)).set 14 v14_2).set 15 v15_3).set 16 (env 5)).set 17 v17_5).set 18 v18_6).set 6 v18_6) h1)
@[congr] theorem octroiref17_Babel_Drop_r4_congr {env : Env} {h : Hp} {K : Env → Hp → Prop} : octroiref17_Babel_Drop_r4 env h K = octroiref17_Babel_Drop_r4 env h K := rfl

/-- ref.go:93 -/
def octroiref17_Babel_Drop_r5 (env : Env) (h : Hp) (K : Env → Hp → Prop) : Prop :=
  nck (env 0) (
  rd Try.prog (Instr.fieldAt 67 (env 0) 4) noHp fun v22_3 =>
  rd Try.prog (Instr.loadAt 63 v22_3) h fun v23_4 =>
  rd Try.prog (bop Go.BinOp.add 3 (Go.Operand.tmp 24) (Go.Operand.const (Go.Value.int Go.IntKind.i64 1)) (env 5) (Go.Value.int Go.IntKind.i64 1)) noHp fun v25_6 =>
  rd Try.prog (Instr.sliceAt 63 v23_4 (some v25_6) none none) noHp fun v26_7 =>
  arun Try.prog (Builtin.append_ #[63, 63] 63 #[(env 6), v26_7]) h fun v27_8 h1 =>
  K ((((((((((env.set 19 (env 6)).set 20 (env 0)).set 21 (env 0)).set 22 v22_3).set 23 v23_4).set 24 (env 5)).set 25 v25_6).set 26 v26_7).set 27 v27_8).set 6 v27_8) h1)
@[congr] theorem octroiref17_Babel_Drop_r5_congr {env : Env} {h : Hp} {K : Env → Hp → Prop} : octroiref17_Babel_Drop_r5 env h K = octroiref17_Babel_Drop_r5 env h K := rfl

/-- ref.go:94 -/
def octroiref17_Babel_Drop_r6 (env : Env) (h : Hp) (K : Env → Hp → Prop) : Prop :=
  nck (env 0) (
  rd Try.prog (Instr.fieldAt 67 (env 0) 4) noHp fun v31_3 =>
  arun Try.prog (Instr.storeAt 63 v31_3 (env 6)) h fun _ h1 =>
  K ((((env.set 28 (env 0)).set 29 (env 6)).set 30 (env 0)).set 31 v31_3) h1)
@[congr] theorem octroiref17_Babel_Drop_r6_congr {env : Env} {h : Hp} {K : Env → Hp → Prop} : octroiref17_Babel_Drop_r6 env h K = octroiref17_Babel_Drop_r6 env h K := rfl

/-- ref.go:95 -/
def octroiref17_Babel_Drop_r7 (env : Env) (h : Hp) (K : Env → Hp → Prop) : Prop :=
  K (env.set 4 (Go.Value.int Go.IntKind.i64 0)) h
@[congr] theorem octroiref17_Babel_Drop_r7_congr {env : Env} {h : Hp} {K : Env → Hp → Prop} : octroiref17_Babel_Drop_r7 env h K = octroiref17_Babel_Drop_r7 env h K := rfl

def octroiref17_Babel_Drop_D : Den := (sq (rg octroiref17_Babel_Drop_r0) (sq (rg octroiref17_Babel_Drop_r1) (sq (sq (rg octroiref17_Babel_Drop_r2) (cnd (Go.Operand.tmp 11) (sq (rg octroiref17_Babel_Drop_r3) (ex .ret)) (ex .normal))) (sq (rg octroiref17_Babel_Drop_r4) (sq (rg octroiref17_Babel_Drop_r5) (sq (rg octroiref17_Babel_Drop_r6) (sq (rg octroiref17_Babel_Drop_r7) (ex .ret))))))))

theorem octroiref17_Babel_Drop_eq : (den Try.prog 32 octroiref17_Babel_Drop_code).1 = octroiref17_Babel_Drop_D := by kernel_rfl

theorem octroiref17_Babel_Drop_ok {args : Array Value} {h : Hp} {Q : Value → Hp → Prop} (hn : args.size ≤ 32) (D : octroiref17_Babel_Drop_D (fin Try.prog [(Go.ResultVar.tmp 4)] Q) (env0 args) h) : Ok Try.prog 41 args h Q :=
  ok_of_den progIsOk Try.func41 (c := octroiref17_Babel_Drop_code) (by kernel_rfl) hn (by show (den Try.prog 32 octroiref17_Babel_Drop_code).1 _ _ _; rw [octroiref17_Babel_Drop_eq]; exact D)

/-! ### (*octroi/octroiref17.Babel).Raise: function 42 -/
noncomputable def octroiref17_Babel_Raise_code : Code := match Try.f42.body with | some c => c | none => .skip

/-- ref.go:99 -/
def octroiref17_Babel_Raise_r0 (env : Env) (h : Hp) (K : Env → Hp → Prop) : Prop :=
  K (env.set 2 (Go.Value.int Go.IntKind.u16 0)) h
@[congr] theorem octroiref17_Babel_Raise_r0_congr {env : Env} {h : Hp} {K : Env → Hp → Prop} : octroiref17_Babel_Raise_r0 env h K = octroiref17_Babel_Raise_r0 env h K := rfl

/-- ref.go:100 -/
def octroiref17_Babel_Raise_r1 (env : Env) (h : Hp) (K : Env → Hp → Prop) : Prop :=
  nck (env 0) (
  rd Try.prog (Instr.fieldAt 67 (env 0) 3) noHp fun v5_2 =>
  rd Try.prog (Instr.loadAt 29 v5_2) h fun v6_3 =>
  rd Try.prog (bop Go.BinOp.add 29 (Go.Operand.tmp 6) (Go.Operand.const (Go.Value.int Go.IntKind.u16 1)) v6_3 (Go.Value.int Go.IntKind.u16 1)) noHp fun v7_4 =>
  nck (env 0) (
  rd Try.prog (Instr.fieldAt 67 (env 0) 3) noHp fun v9_6 =>
  arun Try.prog (Instr.storeAt 29 v9_6 v7_4) h fun _ h1 =>
  K (((((((env.set 3 (env 0)).set 4 (env 0)).set 5 v5_2).set 6 v6_3).set 7 v7_4).set 8 (env 0)).set 9 v9_6) h1))
@[congr] theorem octroiref17_Babel_Raise_r1_congr {env : Env} {h : Hp} {K : Env → Hp → Prop} : octroiref17_Babel_Raise_r1 env h K = octroiref17_Babel_Raise_r1 env h K := rfl

/-- ref.go:101 -/
def octroiref17_Babel_Raise_r2 (env : Env) (h : Hp) (K : Env → Hp → Prop) : Prop :=
  nck (env 0) (
  rd Try.prog (Instr.fieldAt 67 (env 0) 3) noHp fun v12_2 =>
  rd Try.prog (Instr.loadAt 29 v12_2) h fun v13_3 =>
  K (((((env.set 10 (env 0)).set 11 (env 0)).set 12 v12_2).set 13 v13_3).set 2 v13_3) h)
@[congr] theorem octroiref17_Babel_Raise_r2_congr {env : Env} {h : Hp} {K : Env → Hp → Prop} : octroiref17_Babel_Raise_r2 env h K = octroiref17_Babel_Raise_r2 env h K := rfl

def octroiref17_Babel_Raise_D : Den := (sq (rg octroiref17_Babel_Raise_r0) (sq (rg octroiref17_Babel_Raise_r1) (sq (rg octroiref17_Babel_Raise_r2) (ex .ret))))

theorem octroiref17_Babel_Raise_eq : (den Try.prog 14 octroiref17_Babel_Raise_code).1 = octroiref17_Babel_Raise_D := by kernel_rfl

theorem octroiref17_Babel_Raise_ok {args : Array Value} {h : Hp} {Q : Value → Hp → Prop} (hn : args.size ≤ 14) (D : octroiref17_Babel_Raise_D (fin Try.prog [(Go.ResultVar.tmp 2)] Q) (env0 args) h) : Ok Try.prog 42 args h Q :=
  ok_of_den progIsOk Try.func42 (c := octroiref17_Babel_Raise_code) (by kernel_rfl) hn (by show (den Try.prog 14 octroiref17_Babel_Raise_code).1 _ _ _; rw [octroiref17_Babel_Raise_eq]; exact D)

/-! ### (*octroi/octroiref17.Babel).Hear: function 43 -/
noncomputable def octroiref17_Babel_Hear_code : Code := match Try.f43.body with | some c => c | none => .skip

/-- ref.go:152 -/
def octroiref17_Babel_Hear_r0 (env : Env) (h : Hp) (K : Env → Hp → Prop) : Prop :=
  arun Try.prog (Instr.box 31 (env 3)) h fun v7_0 h1 =>
  K (((env.set 7 v7_0).set 8 (Go.Value.bool false)).set 9 (Go.Value.int Go.IntKind.i64 0)) h1
@[congr] theorem octroiref17_Babel_Hear_r0_congr {env : Env} {h : Hp} {K : Env → Hp → Prop} : octroiref17_Babel_Hear_r0 env h K = octroiref17_Babel_Hear_r0 env h K := rfl

/-- ref.go:153 -/
def octroiref17_Babel_Hear_r1 (env : Env) (h : Hp) (K : Env → Hp → Prop) : Prop :=
  rd Try.prog (Instr.fieldAt 31 (env 7) 4) noHp fun v14_0 =>
  rd Try.prog (Instr.loadAt 24 v14_0) h fun v15_1 =>
  Ok Try.prog 58 #[v15_1] h fun v16_2 h1 =>
  K ((((env.set 14 v14_0).set 15 v15_1).set 16 v16_2).set 10 v16_2) h1
@[congr] theorem octroiref17_Babel_Hear_r1_congr {env : Env} {h : Hp} {K : Env → Hp → Prop} : octroiref17_Babel_Hear_r1 env h K = octroiref17_Babel_Hear_r1 env h K := rfl

/-- ref.go:154 -/
def octroiref17_Babel_Hear_r2 (env : Env) (h : Hp) (K : Env → Hp → Prop) : Prop :=
  rd Try.prog (bop Go.BinOp.lss 3 (Go.Operand.tmp 17) (Go.Operand.const (Go.Value.int Go.IntKind.i64 1)) (env 1) (Go.Value.int Go.IntKind.i64 1)) noHp fun v18_1 =>
  gd (yb v18_1 == some false) (fun h k => k (env 1) h) h fun v20_3 h1 =>
  gd (yb v18_1 == some false) (fun h k => rd Try.prog (bop Go.BinOp.gtr 3 (Go.Operand.tmp 20) (Go.Operand.const (Go.Value.int Go.IntKind.i64 32)) v20_3 (Go.Value.int Go.IntKind.i64 32)) noHp fun v => k v h) h1 fun v21_4 h2 =>
  rd Try.prog (pck v18_1 (Go.Value.bool true) v21_4) noHp fun v22_5 =>
  gd (yb v22_5 == some false) (fun h k => k (env 2) h) h2 fun v24_7 h3 =>
  gd (yb v22_5 == some false) (fun h k => rd Try.prog (bop Go.BinOp.lss 3 (Go.Operand.tmp 24) (Go.Operand.const (Go.Value.int Go.IntKind.i64 1)) v24_7 (Go.Value.int Go.IntKind.i64 1)) noHp fun v => k v h) h3 fun v25_8 h4 =>
  rd Try.prog (pck v22_5 (Go.Value.bool true) v25_8) noHp fun v26_9 =>
  gd (yb v26_9 == some false) (fun h k => k (env 2) h) h4 fun v28_11 h5 =>
  gd (yb v26_9 == some false) (fun h k => rd Try.prog (bop Go.BinOp.gtr 3 (Go.Operand.tmp 28) (Go.Operand.const (Go.Value.int Go.IntKind.i64 65535)) v28_11 (Go.Value.int Go.IntKind.i64 65535)) noHp fun v => k v h) h5 fun v29_12 h6 =>
  rd Try.prog (pck v26_9 (Go.Value.bool true) v29_12) noHp fun v30_13 =>
  gd (yb v30_13 == some false) (fun h k => rd Try.prog (Instr.fieldAt 31 (env 7) 0) noHp fun v => k v h) h6 fun v32_15 h7 =>
  gd (yb v30_13 == some false) (fun h k => rd Try.prog (Instr.loadAt 3 v32_15) h fun v => k v h) h7 fun v33_16 h8 =>
  gd (yb v30_13 == some false) (fun h k => rd Try.prog (bop Go.BinOp.neq 3 (Go.Operand.tmp 33) (Go.Operand.const (Go.Value.int Go.IntKind.i64 2)) v33_16 (Go.Value.int Go.IntKind.i64 2)) noHp fun v => k v h) h8 fun v34_17 h9 =>
  rd Try.prog (pck v30_13 (Go.Value.bool true) v34_17) noHp fun v35_18 =>
  gd (yb v35_18 == some false) (fun h k => k (env 10) h) h9 fun v37_20 h10 =>
  gd (yb v35_18 == some false) (fun h k => rd Try.prog (Op.unary Go.UnOp.not v37_20) noHp fun v => k v h) h10 fun v38_21 h11 =>
  rd Try.prog (pck v35_18 (Go.Value.bool true) v38_21) noHp fun v39_22 =>
  gd (yb v39_22 == some false) (fun h k => rd Try.prog (Instr.fieldAt 31 (env 7) 3) noHp fun v => k v h) h11 fun v41_24 h12 =>
  gd (yb v39_22 == some false) (fun h k => rd Try.prog (Instr.loadAt 3 v41_24) h fun v => k v h) h12 fun v42_25 h13 =>
  gd (yb v39_22 == some false) (fun h k => rd Try.prog (bop Go.BinOp.lss 3 (Go.Operand.tmp 42) (Go.Operand.const (Go.Value.int Go.IntKind.i64 0)) v42_25 (Go.Value.int Go.IntKind.i64 0)) noHp fun v => k v h) h13 fun v43_26 h14 =>
  rd Try.prog (pck v39_22 (Go.Value.bool true) v43_26) noHp fun v44_27 =>
  gd (yb v44_27 == some false) (fun h k => rd Try.prog (Instr.fieldAt 31 (env 7) 3) noHp fun v => k v h) h14 fun v46_29 h15 =>
  gd (yb v44_27 == some false) (fun h k => rd Try.prog (Instr.loadAt 3 v46_29) h fun v => k v h) h15 fun v47_30 h16 =>
  gd (yb v44_27 == some false) (fun h k => rd Try.prog (bop Go.BinOp.gtr 3 (Go.Operand.tmp 47) (Go.Operand.const (Go.Value.int Go.IntKind.i64 65535)) v47_30 (Go.Value.int Go.IntKind.i64 65535)) noHp fun v => k v h) h16 fun v48_31 h17 =>
  rd Try.prog (pck v44_27 (Go.Value.bool true) v48_31) noHp fun v49_32 =>
  K (((((((((((((((((((((((((((((((((env.set 17 (env 1)).set 18 v18_1).set 19 v18_1).set 20 v20_3).set 21 v21_4).set 22 v22_5).set 23 v22_5).set 24 v24_7).set 25 v25_8).set 26 v26_9).set 27 v26_9).set 28 v28_11).set 29 v29_12).set 30 v30_13).set 31 v30_13).set 32 v32_15).set 33 v33_16).set 34 v34_17).set 35 v35_18).set 36 v35_18).set 37 v37_20).set 38 v38_21).set 39 v39_22).set 40 v39_22).set 41 v41_24).set 42 v42_25).set 43 v43_26).set 44 v44_27).set 45 v44_27).set 46 v46_29).set 47 v47_30).set 48 v48_31).set 49 v49_32) h17
@[congr] theorem octroiref17_Babel_Hear_r2_congr {env : Env} {h : Hp} {K : Env → Hp → Prop} : octroiref17_Babel_Hear_r2 env h K = octroiref17_Babel_Hear_r2 env h K := rfl

/-- ref.go:155 -/
def octroiref17_Babel_Hear_r3 (env : Env) (h : Hp) (K : Env → Hp → Prop) : Prop :=
  K ((env.set 8 (Go.Value.bool false)).set 9 (Go.Value.int Go.IntKind.i64 1)) h
@[congr] theorem octroiref17_Babel_Hear_r3_congr {env : Env} {h : Hp} {K : Env → Hp → Prop} : octroiref17_Babel_Hear_r3 env h K = octroiref17_Babel_Hear_r3 env h K := rfl

/-- ref.go:157 (in any order) -/
def octroiref17_Babel_Hear_r4 (env : Env) (h : Hp) (K : Env → Hp → Prop) : Prop :=
  rd Try.prog (Instr.fieldAt 31 (env 7) 6) noHp fun v50_0 =>
  rd Try.prog (Instr.loadAt 29 v50_0) h fun v51_1 =>
  nck (env 0) (
  rd Try.prog (Instr.fieldAt 67 (env 0) 1) noHp fun v54_4 =>
  rd Try.prog (Instr.loadAt 3 v54_4) h fun v55_5 =>
  Ok Try.prog 59 #[v51_1, v55_5] h fun v56_6 h1 =>
  (True) ∧
  K ((((((((env.set 50 v50_0).set 51 v51_1).set 52 (env 0)).set 53 (env 0)).set 54 v54_4).set 55 v55_5).set 56 v56_6).set 11 v56_6) h1)
@[congr] theorem octroiref17_Babel_Hear_r4_congr {env : Env} {h : Hp} {K : Env → Hp → Prop} : octroiref17_Babel_Hear_r4 env h K = octroiref17_Babel_Hear_r4 env h K := rfl

/-- ref.go:158 -/
def octroiref17_Babel_Hear_r5 (env : Env) (h : Hp) (K : Env → Hp → Prop) : Prop :=
  K (env.set 57 (env 11)) h
@[congr] theorem octroiref17_Babel_Hear_r5_congr {env : Env} {h : Hp} {K : Env → Hp → Prop} : octroiref17_Babel_Hear_r5 env h K = octroiref17_Babel_Hear_r5 env h K := rfl

/-- ref.go:159 -/
def octroiref17_Babel_Hear_r6 (env : Env) (h : Hp) (K : Env → Hp → Prop) : Prop :=
  K ((env.set 8 (Go.Value.bool false)).set 9 (Go.Value.int Go.IntKind.i64 6)) h
@[congr] theorem octroiref17_Babel_Hear_r6_congr {env : Env} {h : Hp} {K : Env → Hp → Prop} : octroiref17_Babel_Hear_r6 env h K = octroiref17_Babel_Hear_r6 env h K := rfl

/-- ref.go:161 (in any order) -/
def octroiref17_Babel_Hear_r7 (env : Env) (h : Hp) (K : Env → Hp → Prop) : Prop :=
  rd Try.prog (Instr.fieldAt 31 (env 7) 5) noHp fun v58_0 =>
  rd Try.prog (Instr.loadAt 28 v58_0) h fun v59_1 =>
  nck (env 0) (
  rd Try.prog (Instr.fieldAt 67 (env 0) 0) noHp fun v62_4 =>
  rd Try.prog (Instr.loadAt 28 v62_4) h fun v63_5 =>
  rd Try.prog (bop Go.BinOp.eql 28 (Go.Operand.tmp 59) (Go.Operand.tmp 63) v59_1 v63_5) noHp fun v64_6 =>
  K (((((((env.set 58 v58_0).set 59 v59_1).set 60 (env 0)).set 61 (env 0)).set 62 v62_4).set 63 v63_5).set 64 v64_6) h)
@[congr] theorem octroiref17_Babel_Hear_r7_congr {env : Env} {h : Hp} {K : Env → Hp → Prop} : octroiref17_Babel_Hear_r7 env h K = octroiref17_Babel_Hear_r7 env h K := rfl

/-- ref.go:162 -/
def octroiref17_Babel_Hear_r8 (env : Env) (h : Hp) (K : Env → Hp → Prop) : Prop :=
  K ((env.set 8 (Go.Value.bool false)).set 9 (Go.Value.int Go.IntKind.i64 0)) h
@[congr] theorem octroiref17_Babel_Hear_r8_congr {env : Env} {h : Hp} {K : Env → Hp → Prop} : octroiref17_Babel_Hear_r8 env h K = octroiref17_Babel_Hear_r8 env h K := rfl

/-- ref.go:164 -/
def octroiref17_Babel_Hear_r9 (env : Env) (h : Hp) (K : Env → Hp → Prop) : Prop :=
  rd Try.prog (Instr.fieldAt 31 (env 7) 4) noHp fun v66_1 =>
  rd Try.prog (Instr.loadAt 24 v66_1) h fun v67_2 =>
  rd Try.prog (Instr.fieldAt 31 (env 7) 5) noHp fun v68_3 =>
  rd Try.prog (Instr.loadAt 28 v68_3) h fun v69_4 =>
  rd Try.prog (Instr.fieldAt 31 (env 7) 1) noHp fun v70_5 =>
  rd Try.prog (Instr.loadAt 29 v70_5) h fun v71_6 =>
  rd Try.prog (Instr.fieldAt 31 (env 7) 3) noHp fun v72_7 =>
  rd Try.prog (Instr.loadAt 3 v72_7) h fun v73_8 =>
  Ok Try.prog 61 #[(env 0), v67_2, v69_4, v71_6, v73_8] h fun v74_9 h1 =>
  K (((((((((((env.set 65 (env 0)).set 66 v66_1).set 67 v67_2).set 68 v68_3).set 69 v69_4).set 70 v70_5).set 71 v71_6).set 72 v72_7).set 73 v73_8).set 74 v74_9).set 12 v74_9) h1
@[congr] theorem octroiref17_Babel_Hear_r9_congr {env : Env} {h : Hp} {K : Env → Hp → Prop} : octroiref17_Babel_Hear_r9 env h K = octroiref17_Babel_Hear_r9 env h K := rfl

/-- ref.go:165 -/
def octroiref17_Babel_Hear_r10 (env : Env) (h : Hp) (K : Env → Hp → Prop) : Prop :=
  rd Try.prog (Instr.fieldAt 31 (env 7) 4) noHp fun v76_1 =>
  rd Try.prog (Instr.loadAt 24 v76_1) h fun v77_2 =>
  Ok Try.prog 62 #[(env 0), v77_2, (env 1)] h fun v79_4 h1 =>
  K ((((((env.set 75 (env 0)).set 76 v76_1).set 77 v77_2).set 78 (env 1)).set 79 v79_4).set 13 v79_4) h1
@[congr] theorem octroiref17_Babel_Hear_r10_congr {env : Env} {h : Hp} {K : Env → Hp → Prop} : octroiref17_Babel_Hear_r10 env h K = octroiref17_Babel_Hear_r10 env h K := rfl

/-- ref.go:166 -/
def octroiref17_Babel_Hear_r11 (env : Env) (h : Hp) (K : Env → Hp → Prop) : Prop :=
  rd Try.prog (Instr.fieldAt 31 (env 7) 3) noHp fun v80_0 =>
  rd Try.prog (Instr.loadAt 3 v80_0) h fun v81_1 =>
  rd Try.prog (bop Go.BinOp.eql 3 (Go.Operand.tmp 81) (Go.Operand.const (Go.Value.int Go.IntKind.i64 65535)) v81_1 (Go.Value.int Go.IntKind.i64 65535)) noHp fun v82_2 =>
  gd (yb v82_2 == some false) (fun h k => k (env 12) h) h fun v84_4 h1 =>
  gd (yb v82_2 == some false) (fun h k => rd Try.prog (Op.unary Go.UnOp.not v84_4) noHp fun v => k v h) h1 fun v85_5 h2 =>
  rd Try.prog (pck v82_2 (Go.Value.bool true) v85_5) noHp fun v86_6 =>
  K (((((((env.set 80 v80_0).set 81 v81_1).set 82 v82_2).set 83 v82_2).set 84 v84_4).set 85 v85_5).set 86 v86_6) h2
@[congr] theorem octroiref17_Babel_Hear_r11_congr {env : Env} {h : Hp} {K : Env → Hp → Prop} : octroiref17_Babel_Hear_r11 env h K = octroiref17_Babel_Hear_r11 env h K := rfl

/-- ref.go:167 -/
def octroiref17_Babel_Hear_r12 (env : Env) (h : Hp) (K : Env → Hp → Prop) : Prop :=
  K (((env.set 87 (env 13)).set 8 (env 13)).set 9 (Go.Value.int Go.IntKind.i64 0)) h
@[congr] theorem octroiref17_Babel_Hear_r12_congr {env : Env} {h : Hp} {K : Env → Hp → Prop} : octroiref17_Babel_Hear_r12 env h K = octroiref17_Babel_Hear_r12 env h K := rfl

/-- ref.go:169 (in any order) -/
def octroiref17_Babel_Hear_r13 (env : Env) (h : Hp) (K : Env → Hp → Prop) : Prop :=
  rd Try.prog (Op.unary Go.UnOp.not (env 13)) noHp fun v89_1 =>
  gd (yb v89_1 == some true) (fun h k => k (env 0) h) h fun v91_3 h1 =>
  gd (yb v89_1 == some true) (fun h k => nck v91_3 (k v91_3 h)) h1 fun v92_4 h2 =>
  gd (yb v89_1 == some true) (fun h k => rd Try.prog (Instr.fieldAt 67 v92_4 5) noHp fun v => k v h) h2 fun v93_5 h3 =>
  gd (yb v89_1 == some true) (fun h k => rd Try.prog (Instr.loadAt 64 v93_5) h fun v => k v h) h3 fun v94_6 h4 =>
  gd (yb v89_1 == some true) (fun h k => rd Try.prog (Builtin.len_ #[64] 3 #[v94_6]) h fun v => k v h) h4 fun v95_7 h5 =>
  gd (yb v89_1 == some true) (fun h k => k (env 0) h) h5 fun v96_8 h6 =>
  gd (yb v89_1 == some true) (fun h k => nck v96_8 (k v96_8 h)) h6 fun v97_9 h7 =>
  gd (yb v89_1 == some true) (fun h k => rd Try.prog (Instr.fieldAt 67 v97_9 2) noHp fun v => k v h) h7 fun v98_10 h8 =>
  gd (yb v89_1 == some true) (fun h k => rd Try.prog (Instr.loadAt 3 v98_10) h fun v => k v h) h8 fun v99_11 h9 =>
  gd (yb v89_1 == some true) (fun h k => rd Try.prog (bop Go.BinOp.geq 3 (Go.Operand.tmp 95) (Go.Operand.tmp 99) v95_7 v99_11) noHp fun v => k v h) h9 fun v100_12 h10 =>
  rd Try.prog (pck v89_1 v100_12 (Go.Value.bool false)) noHp fun v101_13 =>
  K ((((((((((((((env.set 88 (env 13)).set 89 v89_1).set 90 v89_1).set 91 v91_3).set 92 v92_4).set 93 v93_5).set 94 v94_6).set 95 v95_7).set 96 v96_8).set 97 v97_9).set 98 v98_10).set 99 v99_11).set 100 v100_12).set 101 v101_13) h10
@[congr] theorem octroiref17_Babel_Hear_r13_congr {env : Env} {h : Hp} {K : Env → Hp → Prop} : octroiref17_Babel_Hear_r13 env h K = octroiref17_Babel_Hear_r13 env h K := rfl

/-- ref.go:170 -/
def octroiref17_Babel_Hear_r14 (env : Env) (h : Hp) (K : Env → Hp → Prop) : Prop :=
  K ((env.set 8 (Go.Value.bool false)).set 9 (Go.Value.int Go.IntKind.i64 4)) h
@[congr] theorem octroiref17_Babel_Hear_r14_congr {env : Env} {h : Hp} {K : Env → Hp → Prop} : octroiref17_Babel_Hear_r14 env h K = octroiref17_Babel_Hear_r14 env h K := rfl

/-- ref.go:172 (in any order) -/
def octroiref17_Babel_Hear_r15 (env : Env) (h : Hp) (K : Env → Hp → Prop) : Prop :=
  nck (env 0) (
  rd Try.prog (Instr.fieldAt 67 (env 0) 5) noHp fun v105_3 =>
  rd Try.prog (Instr.loadAt 64 v105_3) h fun v106_4 =>
  rd Try.prog (Instr.fieldAt 31 (env 7) 4) noHp fun v107_5 =>
  rd Try.prog (Instr.loadAt 24 v107_5) h fun v108_6 =>
  rd Try.prog (Instr.loadAt 31 (env 7)) h fun v111_9 =>
  rd Try.prog (Instr.build 116 #[(0, v108_6), (1, (env 1)), (2, (env 2)), (3, v111_9)]) noHp fun v112_10 =>
  arun Try.prog (Instr.buildSlice 64 1 #[(0, v112_10)]) h fun v113_11 h1 =>
  (rrun Try.prog (Instr.loadAt 64 v105_3) h1 = some v106_4 ∧ True) ∧
  arun Try.prog (Builtin.append_ #[64, 64] 64 #[v106_4, v113_11]) h1 fun v114_12 h2 =>
  (True) ∧
  nck (env 0) (
  rd Try.prog (Instr.fieldAt 67 (env 0) 5) noHp fun v116_14 =>
  arun Try.prog (Instr.storeAt 64 v116_14 v114_12) h2 fun _ h3 =>
  (True) ∧
  K (((((((((((((((env.set 102 (env 0)).set 103 (env 0)).set 104 (env 0)).set 105 v105_3).set 106 v106_4).set 107 v107_5).set 108 v108_6).set 109 (env 1)).set 110 (env 2)).set 111 v111_9).set 112 v112_10).set 113 v113_11).set 114 v114_12).set 115 (env 0)).set 116 v116_14) h3))
@[congr] theorem octroiref17_Babel_Hear_r15_congr {env : Env} {h : Hp} {K : Env → Hp → Prop} : octroiref17_Babel_Hear_r15 env h K = octroiref17_Babel_Hear_r15 env h K := rfl

/-- ref.go:173 -/
def octroiref17_Babel_Hear_r16 (env : Env) (h : Hp) (K : Env → Hp → Prop) : Prop :=
  K ((env.set 8 (Go.Value.bool true)).set 9 (Go.Value.int Go.IntKind.i64 0)) h
@[congr] theorem octroiref17_Babel_Hear_r16_congr {env : Env} {h : Hp} {K : Env → Hp → Prop} : octroiref17_Babel_Hear_r16 env h K = octroiref17_Babel_Hear_r16 env h K := rfl

def octroiref17_Babel_Hear_D : Den := (sq (rg octroiref17_Babel_Hear_r0) (sq (rg octroiref17_Babel_Hear_r1) (sq (sq (rg octroiref17_Babel_Hear_r2) (cnd (Go.Operand.tmp 49) (sq (rg octroiref17_Babel_Hear_r3) (ex .ret)) (ex .normal))) (sq (rg octroiref17_Babel_Hear_r4) (sq (sq (rg octroiref17_Babel_Hear_r5) (cnd (Go.Operand.tmp 57) (sq (rg octroiref17_Babel_Hear_r6) (ex .ret)) (ex .normal))) (sq (sq (rg octroiref17_Babel_Hear_r7) (cnd (Go.Operand.tmp 64) (sq (rg octroiref17_Babel_Hear_r8) (ex .ret)) (ex .normal))) (sq (rg octroiref17_Babel_Hear_r9) (sq (rg octroiref17_Babel_Hear_r10) (sq (sq (rg octroiref17_Babel_Hear_r11) (cnd (Go.Operand.tmp 86) (sq (rg octroiref17_Babel_Hear_r12) (ex .ret)) (ex .normal))) (sq (sq (rg octroiref17_Babel_Hear_r13) (cnd (Go.Operand.tmp 101) (sq (rg octroiref17_Babel_Hear_r14) (ex .ret)) (ex .normal))) (sq (rg octroiref17_Babel_Hear_r15) (sq (rg octroiref17_Babel_Hear_r16) (ex .ret)))))))))))))

theorem octroiref17_Babel_Hear_eq : (den Try.prog 117 octroiref17_Babel_Hear_code).1 = octroiref17_Babel_Hear_D := by kernel_rfl

theorem octroiref17_Babel_Hear_ok {args : Array Value} {h : Hp} {Q : Value → Hp → Prop} (hn : args.size ≤ 117) (D : octroiref17_Babel_Hear_D (fin Try.prog [(Go.ResultVar.tmp 8), (Go.ResultVar.tmp 9)] Q) (env0 args) h) : Ok Try.prog 43 args h Q :=
  ok_of_den progIsOk Try.func43 (c := octroiref17_Babel_Hear_code) (by kernel_rfl) hn (by show (den Try.prog 117 octroiref17_Babel_Hear_code).1 _ _ _; rw [octroiref17_Babel_Hear_eq]; exact D)

/-! ### (*octroi/octroiref17.Babel).Lose: function 44 -/
noncomputable def octroiref17_Babel_Lose_code : Code := match Try.f44.body with | some c => c | none => .skip

/-- ref.go:178 -/
def octroiref17_Babel_Lose_r0 (env : Env) (h : Hp) (K : Env → Hp → Prop) : Prop :=
  K (env.set 4 (Go.Value.slice none 0 0)) h
@[congr] theorem octroiref17_Babel_Lose_r0_congr {env : Env} {h : Hp} {K : Env → Hp → Prop} : octroiref17_Babel_Lose_r0 env h K = octroiref17_Babel_Lose_r0 env h K := rfl

/-- ref.go:179 -/
def octroiref17_Babel_Lose_r1 (env : Env) (h : Hp) (K : Env → Hp → Prop) : Prop :=
  K (env.set 5 (Go.Value.int Go.IntKind.i64 0)) h
@[congr] theorem octroiref17_Babel_Lose_r1_congr {env : Env} {h : Hp} {K : Env → Hp → Prop} : octroiref17_Babel_Lose_r1 env h K = octroiref17_Babel_Lose_r1 env h K := rfl

/-- ref.go:179 -/
def octroiref17_Babel_Lose_r2 (env : Env) (h : Hp) (K : Env → Hp → Prop) : Prop :=
  nck (env 0) (
  rd Try.prog (Instr.fieldAt 67 (env 0) 5) noHp fun v9_3 =>
  rd Try.prog (Instr.loadAt 64 v9_3) h fun v10_4 =>
  rd Try.prog (Builtin.len_ #[64] 3 #[v10_4]) h fun v11_5 =>
  rd Try.prog (bop Go.BinOp.lss 3 (Go.Operand.tmp 6) (Go.Operand.tmp 11) (env 5) v11_5) noHp fun v12_6 =>
  K (((((((env.set 6 (env 5)).set 7 (env 0)).set 8 (env 0)).set 9 v9_3).set 10 v10_4).set 11 v11_5).set 12 v12_6) h)
@[congr] theorem octroiref17_Babel_Lose_r2_congr {env : Env} {h : Hp} {K : Env → Hp → Prop} : octroiref17_Babel_Lose_r2 env h K = octroiref17_Babel_Lose_r2 env h K := rfl

/-- ref.go:180 -/
def octroiref17_Babel_Lose_r3 (env : Env) (h : Hp) (K : Env → Hp → Prop) : Prop :=
  nck (env 0) (
  rd Try.prog (Instr.fieldAt 67 (env 0) 5) noHp fun v17_2 =>
  rd Try.prog (Instr.loadAt 64 v17_2) h fun v18_3 =>
  rd Try.prog (Instr.indexAt 64 v18_3 (env 5)) noHp fun v20_5 =>
  rd Try.prog (Instr.fieldAt 116 v20_5 1) noHp fun v21_6 =>
  rd Try.prog (Instr.loadAt 3 v21_6) h fun v22_7 =>
  rd Try.prog (bop Go.BinOp.neq 3 (Go.Operand.tmp 22) (Go.Operand.tmp 23) v22_7 (env 1)) noHp fun v24_9 =>
  K ((((((((((env.set 15 (env 0)).set 16 (env 0)).set 17 v17_2).set 18 v18_3).set 19 (env 5)).set 20 v20_5).set 21 v21_6).set 22 v22_7).set 23 (env 1)).set 24 v24_9) h)
@[congr] theorem octroiref17_Babel_Lose_r3_congr {env : Env} {h : Hp} {K : Env → Hp → Prop} : octroiref17_Babel_Lose_r3 env h K = octroiref17_Babel_Lose_r3 env h K := rfl

/-- ref.go:181 -/
def octroiref17_Babel_Lose_r4 (env : Env) (h : Hp) (K : Env → Hp → Prop) : Prop :=
  nck (env 0) (
  rd Try.prog (Instr.fieldAt 67 (env 0) 5) noHp fun v28_3 =>
  rd Try.prog (Instr.loadAt 64 v28_3) h fun v29_4 =>
  rd Try.prog (Instr.indexAt 64 v29_4 (env 5)) noHp fun v31_6 =>
  rd Try.prog (Instr.loadAt 116 v31_6) h fun v32_7 =>
  arun Try.prog (Instr.buildSlice 64 1 #[(0, v32_7)]) h fun v33_8 h1 =>
  arun Try.prog (Builtin.append_ #[64, 64] 64 #[(env 4), v33_8]) h1 fun v34_9 h2 =>
  K (((((((((((env.set 25 (env 4)).set 26 (env 0)).set 27 (env 0)).set 28 v28_3).set 29 v29_4).set 30 (env 5)).set 31 v31_6).set 32 v32_7).set 33 v33_8).set 34 v34_9).set 4 v34_9) h2)
@[congr] theorem octroiref17_Babel_Lose_r4_congr {env : Env} {h : Hp} {K : Env → Hp → Prop} : octroiref17_Babel_Lose_r4 env h K = octroiref17_Babel_Lose_r4 env h K := rfl

/-- ref.go:179 -/
def octroiref17_Babel_Lose_r5 (env : Env) (h : Hp) (K : Env → Hp → Prop) : Prop :=
  rd Try.prog (bop Go.BinOp.add 3 (Go.Operand.tmp 13) (Go.Operand.const (Go.Value.int Go.IntKind.i64 1)) (env 5) (Go.Value.int Go.IntKind.i64 1)) noHp fun v14_1 =>
  K (((env.set 13 (env 5)).set 14 v14_1).set 5 v14_1) h
@[congr] theorem octroiref17_Babel_Lose_r5_congr {env : Env} {h : Hp} {K : Env → Hp → Prop} : octroiref17_Babel_Lose_r5 env h K = octroiref17_Babel_Lose_r5 env h K := rfl

def octroiref17_Babel_Lose_L0 : Den := (sq (sq (rg octroiref17_Babel_Lose_r2) (cnd (Go.Operand.tmp 12) (ex .normal) (ex (.exit 0)))) (sq (blk 1 (sq (rg octroiref17_Babel_Lose_r3) (cnd (Go.Operand.tmp 24) (rg octroiref17_Babel_Lose_r4) (ex .normal)))) (rg octroiref17_Babel_Lose_r5)))

/-- ref.go:184 -/
def octroiref17_Babel_Lose_r6 (env : Env) (h : Hp) (K : Env → Hp → Prop) : Prop :=
  nck (env 0) (
  rd Try.prog (Instr.fieldAt 67 (env 0) 5) noHp fun v38_3 =>
  arun Try.prog (Instr.storeAt 64 v38_3 (env 4)) h fun _ h1 =>
  K ((((env.set 35 (env 0)).set 36 (env 4)).set 37 (env 0)).set 38 v38_3) h1)
@[congr] theorem octroiref17_Babel_Lose_r6_congr {env : Env} {h : Hp} {K : Env → Hp → Prop} : octroiref17_Babel_Lose_r6 env h K = octroiref17_Babel_Lose_r6 env h K := rfl

def octroiref17_Babel_Lose_D : Den := (sq (rg octroiref17_Babel_Lose_r0) (sq (sq (rg octroiref17_Babel_Lose_r1) (blk 0 (lp octroiref17_Babel_Lose_L0))) (rg octroiref17_Babel_Lose_r6)))

theorem octroiref17_Babel_Lose_eq : (den Try.prog 39 octroiref17_Babel_Lose_code).1 = octroiref17_Babel_Lose_D := by kernel_rfl

theorem octroiref17_Babel_Lose_ok {args : Array Value} {h : Hp} {Q : Value → Hp → Prop} (hn : args.size ≤ 39) (D : octroiref17_Babel_Lose_D (fin Try.prog [] Q) (env0 args) h) : Ok Try.prog 44 args h Q :=
  ok_of_den progIsOk Try.func44 (c := octroiref17_Babel_Lose_code) (by kernel_rfl) hn (by show (den Try.prog 39 octroiref17_Babel_Lose_code).1 _ _ _; rw [octroiref17_Babel_Lose_eq]; exact D)

/-! ### (*octroi/octroiref17.Babel).Know: function 45 -/
noncomputable def octroiref17_Babel_Know_code : Code := match Try.f45.body with | some c => c | none => .skip

/-- ref.go:122 -/
def octroiref17_Babel_Know_r0 (env : Env) (h : Hp) (K : Env → Hp → Prop) : Prop :=
  arun Try.prog (Instr.box 24 (env 1)) h fun v6_0 h1 =>
  K (env.set 6 v6_0) h1
@[congr] theorem octroiref17_Babel_Know_r0_congr {env : Env} {h : Hp} {K : Env → Hp → Prop} : octroiref17_Babel_Know_r0 env h K = octroiref17_Babel_Know_r0 env h K := rfl

/-- ref.go:123 -/
def octroiref17_Babel_Know_r1 (env : Env) (h : Hp) (K : Env → Hp → Prop) : Prop :=
  rd Try.prog (Instr.loadAt 24 (env 6)) h fun v13_0 =>
  Ok Try.prog 58 #[v13_0] h fun v14_1 h1 =>
  K (((env.set 13 v13_0).set 14 v14_1).set 10 v14_1) h1
@[congr] theorem octroiref17_Babel_Know_r1_congr {env : Env} {h : Hp} {K : Env → Hp → Prop} : octroiref17_Babel_Know_r1 env h K = octroiref17_Babel_Know_r1 env h K := rfl

/-- ref.go:124 -/
def octroiref17_Babel_Know_r2 (env : Env) (h : Hp) (K : Env → Hp → Prop) : Prop :=
  rd Try.prog (Instr.loadAt 24 (env 6)) h fun v16_1 =>
  Ok Try.prog 61 #[(env 0), v16_1, (env 2), (env 3), (env 4)] h fun v20_5 h1 =>
  K (((((((env.set 15 (env 0)).set 16 v16_1).set 17 (env 2)).set 18 (env 3)).set 19 (env 4)).set 20 v20_5).set 11 v20_5) h1
@[congr] theorem octroiref17_Babel_Know_r2_congr {env : Env} {h : Hp} {K : Env → Hp → Prop} : octroiref17_Babel_Know_r2 env h K = octroiref17_Babel_Know_r2 env h K := rfl

/-- ref.go:125 -/
def octroiref17_Babel_Know_r3 (env : Env) (h : Hp) (K : Env → Hp → Prop) : Prop :=
  rd Try.prog (Op.unary Go.UnOp.not (env 10)) noHp fun v22_1 =>
  gd (yb v22_1 == some false) (fun h k => k (env 4) h) h fun v24_3 h1 =>
  gd (yb v22_1 == some false) (fun h k => rd Try.prog (bop Go.BinOp.lss 3 (Go.Operand.tmp 24) (Go.Operand.const (Go.Value.int Go.IntKind.i64 0)) v24_3 (Go.Value.int Go.IntKind.i64 0)) noHp fun v => k v h) h1 fun v25_4 h2 =>
  rd Try.prog (pck v22_1 (Go.Value.bool true) v25_4) noHp fun v26_5 =>
  gd (yb v26_5 == some false) (fun h k => k (env 4) h) h2 fun v28_7 h3 =>
  gd (yb v26_5 == some false) (fun h k => rd Try.prog (bop Go.BinOp.geq 3 (Go.Operand.tmp 28) (Go.Operand.const (Go.Value.int Go.IntKind.i64 65535)) v28_7 (Go.Value.int Go.IntKind.i64 65535)) noHp fun v => k v h) h3 fun v29_8 h4 =>
  rd Try.prog (pck v26_5 (Go.Value.bool true) v29_8) noHp fun v30_9 =>
  gd (yb v30_9 == some false) (fun h k => k (env 11) h) h4 fun v32_11 h5 =>
  gd (yb v30_9 == some false) (fun h k => rd Try.prog (Op.unary Go.UnOp.not v32_11) noHp fun v => k v h) h5 fun v33_12 h6 =>
  rd Try.prog (pck v30_9 (Go.Value.bool true) v33_12) noHp fun v34_13 =>
  K ((((((((((((((env.set 21 (env 10)).set 22 v22_1).set 23 v22_1).set 24 v24_3).set 25 v25_4).set 26 v26_5).set 27 v26_5).set 28 v28_7).set 29 v29_8).set 30 v30_9).set 31 v30_9).set 32 v32_11).set 33 v33_12).set 34 v34_13) h6
@[congr] theorem octroiref17_Babel_Know_r3_congr {env : Env} {h : Hp} {K : Env → Hp → Prop} : octroiref17_Babel_Know_r3 env h K = octroiref17_Babel_Know_r3 env h K := rfl

/-- ref.go:128 -/
def octroiref17_Babel_Know_r4 (env : Env) (h : Hp) (K : Env → Hp → Prop) : Prop :=
  K (env.set 12 (Go.Value.int Go.IntKind.i64 0)) h
@[congr] theorem octroiref17_Babel_Know_r4_congr {env : Env} {h : Hp} {K : Env → Hp → Prop} : octroiref17_Babel_Know_r4 env h K = octroiref17_Babel_Know_r4 env h K := rfl

/-- ref.go:128 -/
def octroiref17_Babel_Know_r5 (env : Env) (h : Hp) (K : Env → Hp → Prop) : Prop :=
  nck (env 0) (
  rd Try.prog (Instr.fieldAt 67 (env 0) 6) noHp fun v38_3 =>
  rd Try.prog (Instr.loadAt 65 v38_3) h fun v39_4 =>
  rd Try.prog (Builtin.len_ #[65] 3 #[v39_4]) h fun v40_5 =>
  rd Try.prog (bop Go.BinOp.lss 3 (Go.Operand.tmp 35) (Go.Operand.tmp 40) (env 12) v40_5) noHp fun v41_6 =>
  K (((((((env.set 35 (env 12)).set 36 (env 0)).set 37 (env 0)).set 38 v38_3).set 39 v39_4).set 40 v40_5).set 41 v41_6) h)
@[congr] theorem octroiref17_Babel_Know_r5_congr {env : Env} {h : Hp} {K : Env → Hp → Prop} : octroiref17_Babel_Know_r5 env h K = octroiref17_Babel_Know_r5 env h K := rfl

/-- ref.go:129 (in any order) -/
def octroiref17_Babel_Know_r6 (env : Env) (h : Hp) (K : Env → Hp → Prop) : Prop :=
  nck (env 0) (
  rd Try.prog (Instr.fieldAt 67 (env 0) 6) noHp fun v46_2 =>
  rd Try.prog (Instr.loadAt 65 v46_2) h fun v47_3 =>
  rd Try.prog (Instr.indexAt 65 v47_3 (env 12)) noHp fun v49_5 =>
  rd Try.prog (Instr.fieldAt 99 v49_5 0) noHp fun v50_6 =>
  rd Try.prog (Instr.loadAt 24 v50_6) h fun v51_7 =>
  rd Try.prog (Instr.loadAt 24 (env 6)) h fun v52_8 =>
  rd Try.prog (bop Go.BinOp.eql 24 (Go.Operand.tmp 51) (Go.Operand.tmp 52) v51_7 v52_8) noHp fun v53_9 =>
  gd (yb v53_9 == some true) (fun h k => k (env 0) h) h fun v55_11 h1 =>
  gd (yb v53_9 == some true) (fun h k => nck v55_11 (k v55_11 h)) h1 fun v56_12 h2 =>
  gd (yb v53_9 == some true) (fun h k => rd Try.prog (Instr.fieldAt 67 v56_12 6) noHp fun v => k v h) h2 fun v57_13 h3 =>
  gd (yb v53_9 == some true) (fun h k => rd Try.prog (Instr.loadAt 65 v57_13) h fun v => k v h) h3 fun v58_14 h4 =>
  gd (yb v53_9 == some true) (fun h k => k (env 12) h) h4 fun v59_15 h5 =>
  gd (yb v53_9 == some true) (fun h k => rd Try.prog (Instr.indexAt 65 v58_14 v59_15) noHp fun v => k v h) h5 fun v60_16 h6 =>
  gd (yb v53_9 == some true) (fun h k => rd Try.prog (Instr.fieldAt 99 v60_16 1) noHp fun v => k v h) h6 fun v61_17 h7 =>
  gd (yb v53_9 == some true) (fun h k => rd Try.prog (Instr.loadAt 28 v61_17) h fun v => k v h) h7 fun v62_18 h8 =>
  gd (yb v53_9 == some true) (fun h k => k (env 2) h) h8 fun v63_19 h9 =>
  gd (yb v53_9 == some true) (fun h k => rd Try.prog (bop Go.BinOp.eql 28 (Go.Operand.tmp 62) (Go.Operand.tmp 63) v62_18 v63_19) noHp fun v => k v h) h9 fun v64_20 h10 =>
  rd Try.prog (pck v53_9 v64_20 (Go.Value.bool false)) noHp fun v65_21 =>
  K ((((((((((((((((((((((env.set 44 (env 0)).set 45 (env 0)).set 46 v46_2).set 47 v47_3).set 48 (env 12)).set 49 v49_5).set 50 v50_6).set 51 v51_7).set 52 v52_8).set 53 v53_9).set 54 v53_9).set 55 v55_11).set 56 v56_12).set 57 v57_13).set 58 v58_14).set 59 v59_15).set 60 v60_16).set 61 v61_17).set 62 v62_18).set 63 v63_19).set 64 v64_20).set 65 v65_21) h10)
@[congr] theorem octroiref17_Babel_Know_r6_congr {env : Env} {h : Hp} {K : Env → Hp → Prop} : octroiref17_Babel_Know_r6 env h K = octroiref17_Babel_Know_r6 env h K := rfl

/-- ref.go:130 -/
def octroiref17_Babel_Know_r7 (env : Env) (h : Hp) (K : Env → Hp → Prop) : Prop :=
  nck (env 0) (
  rd Try.prog (Instr.fieldAt 67 (env 0) 6) noHp fun v68_2 =>
  rd Try.prog (Instr.loadAt 65 v68_2) h fun v69_3 =>
  rd Try.prog (Instr.indexAt 65 v69_3 (env 12)) noHp fun v72_6 =>
  rd Try.prog (Instr.fieldAt 99 v72_6 2) noHp fun v73_7 =>
  arun Try.prog (Instr.storeAt 29 v73_7 (env 3)) h fun _ h1 =>
  K ((((((((env.set 66 (env 0)).set 67 (env 0)).set 68 v68_2).set 69 v69_3).set 70 (env 12)).set 71 (env 3)).set 72 v72_6).set 73 v73_7) h1)
@[congr] theorem octroiref17_Babel_Know_r7_congr {env : Env} {h : Hp} {K : Env → Hp → Prop} : octroiref17_Babel_Know_r7 env h K = octroiref17_Babel_Know_r7 env h K := rfl

/-- ref.go:131 -/
def octroiref17_Babel_Know_r8 (env : Env) (h : Hp) (K : Env → Hp → Prop) : Prop :=
  nck (env 0) (
  rd Try.prog (Instr.fieldAt 67 (env 0) 6) noHp fun v76_2 =>
  rd Try.prog (Instr.loadAt 65 v76_2) h fun v77_3 =>
  rd Try.prog (Instr.indexAt 65 v77_3 (env 12)) noHp fun v80_6 =>
  rd Try.prog (Instr.fieldAt 99 v80_6 3) noHp fun v81_7 =>
  arun Try.prog (Instr.storeAt 3 v81_7 (env 4)) h fun _ h1 =>
  K ((((((((env.set 74 (env 0)).set 75 (env 0)).set 76 v76_2).set 77 v77_3).set 78 (env 12)).set 79 (env 4)).set 80 v80_6).set 81 v81_7) h1)
@[congr] theorem octroiref17_Babel_Know_r8_congr {env : Env} {h : Hp} {K : Env → Hp → Prop} : octroiref17_Babel_Know_r8 env h K = octroiref17_Babel_Know_r8 env h K := rfl

/-- ref.go:128 -/
def octroiref17_Babel_Know_r9 (env : Env) (h : Hp) (K : Env → Hp → Prop) : Prop :=
  rd Try.prog (bop Go.BinOp.add 3 (Go.Operand.tmp 42) (Go.Operand.const (Go.Value.int Go.IntKind.i64 1)) (env 12) (Go.Value.int Go.IntKind.i64 1)) noHp fun v43_1 =>
  K (((env.set 42 (env 12)).set 43 v43_1).set 12 v43_1) h
@[congr] theorem octroiref17_Babel_Know_r9_congr {env : Env} {h : Hp} {K : Env → Hp → Prop} : octroiref17_Babel_Know_r9 env h K = octroiref17_Babel_Know_r9 env h K := rfl

def octroiref17_Babel_Know_L0 : Den := (sq (sq (rg octroiref17_Babel_Know_r5) (cnd (Go.Operand.tmp 41) (ex .normal) (ex (.exit 0)))) (sq (blk 1 (sq (rg octroiref17_Babel_Know_r6) (cnd (Go.Operand.tmp 65) (sq (rg octroiref17_Babel_Know_r7) (sq (rg octroiref17_Babel_Know_r8) (ex .ret))) (ex .normal)))) (rg octroiref17_Babel_Know_r9)))

/-- ref.go:135 (in any order) -/
def octroiref17_Babel_Know_r10 (env : Env) (h : Hp) (K : Env → Hp → Prop) : Prop :=
  nck (env 0) (
  rd Try.prog (Instr.fieldAt 67 (env 0) 6) noHp fun v85_3 =>
  rd Try.prog (Instr.loadAt 65 v85_3) h fun v86_4 =>
  rd Try.prog (Instr.loadAt 24 (env 6)) h fun v87_5 =>
  rd Try.prog (Instr.build 99 #[(0, v87_5), (1, (env 2)), (2, (env 3)), (3, (env 4))]) noHp fun v91_9 =>
  arun Try.prog (Instr.buildSlice 65 1 #[(0, v91_9)]) h fun v92_10 h1 =>
  (rrun Try.prog (Instr.loadAt 65 v85_3) h1 = some v86_4 ∧ True) ∧
  arun Try.prog (Builtin.append_ #[65, 65] 65 #[v86_4, v92_10]) h1 fun v93_11 h2 =>
  (True) ∧
  nck (env 0) (
  rd Try.prog (Instr.fieldAt 67 (env 0) 6) noHp fun v95_13 =>
  arun Try.prog (Instr.storeAt 65 v95_13 v93_11) h2 fun _ h3 =>
  (True) ∧
  K ((((((((((((((env.set 82 (env 0)).set 83 (env 0)).set 84 (env 0)).set 85 v85_3).set 86 v86_4).set 87 v87_5).set 88 (env 2)).set 89 (env 3)).set 90 (env 4)).set 91 v91_9).set 92 v92_10).set 93 v93_11).set 94 (env 0)).set 95 v95_13) h3))
@[congr] theorem octroiref17_Babel_Know_r10_congr {env : Env} {h : Hp} {K : Env → Hp → Prop} : octroiref17_Babel_Know_r10 env h K = octroiref17_Babel_Know_r10 env h K := rfl

def octroiref17_Babel_Know_D : Den := (sq (rg octroiref17_Babel_Know_r0) (sq (rg octroiref17_Babel_Know_r1) (sq (rg octroiref17_Babel_Know_r2) (sq (sq (rg octroiref17_Babel_Know_r3) (cnd (Go.Operand.tmp 34) (ex .ret) (ex .normal))) (sq (sq (rg octroiref17_Babel_Know_r4) (blk 0 (lp octroiref17_Babel_Know_L0))) (rg octroiref17_Babel_Know_r10))))))

theorem octroiref17_Babel_Know_eq : (den Try.prog 96 octroiref17_Babel_Know_code).1 = octroiref17_Babel_Know_D := by kernel_rfl

theorem octroiref17_Babel_Know_ok {args : Array Value} {h : Hp} {Q : Value → Hp → Prop} (hn : args.size ≤ 96) (D : octroiref17_Babel_Know_D (fin Try.prog [] Q) (env0 args) h) : Ok Try.prog 45 args h Q :=
  ok_of_den progIsOk Try.func45 (c := octroiref17_Babel_Know_code) (by kernel_rfl) hn (by show (den Try.prog 96 octroiref17_Babel_Know_code).1 _ _ _; rw [octroiref17_Babel_Know_eq]; exact D)

/-! ### (*octroi/octroiref17.Babel).prefixes: function 46 -/
noncomputable def octroiref17_Babel_prefixes_code : Code := match Try.f46.body with | some c => c | none => .skip

/-- ref.go:221 -/
def octroiref17_Babel_prefixes_r0 (env : Env) (h : Hp) (K : Env → Hp → Prop) : Prop :=
  K (env.set 2 (Go.Value.slice none 0 0)) h
@[congr] theorem octroiref17_Babel_prefixes_r0_congr {env : Env} {h : Hp} {K : Env → Hp → Prop} : octroiref17_Babel_prefixes_r0 env h K = octroiref17_Babel_prefixes_r0 env h K := rfl

/-- ref.go:222 -/
def octroiref17_Babel_prefixes_r1 (env : Env) (h : Hp) (K : Env → Hp → Prop) : Prop :=
  K (env.set 3 (Go.Value.slice none 0 0)) h
@[congr] theorem octroiref17_Babel_prefixes_r1_congr {env : Env} {h : Hp} {K : Env → Hp → Prop} : octroiref17_Babel_prefixes_r1 env h K = octroiref17_Babel_prefixes_r1 env h K := rfl

/-- ref.go:223 -/
def octroiref17_Babel_prefixes_r2 (env : Env) (h : Hp) (K : Env → Hp → Prop) : Prop :=
  K (env.set 4 (Go.Value.int Go.IntKind.i64 0)) h
@[congr] theorem octroiref17_Babel_prefixes_r2_congr {env : Env} {h : Hp} {K : Env → Hp → Prop} : octroiref17_Babel_prefixes_r2 env h K = octroiref17_Babel_prefixes_r2 env h K := rfl

/-- ref.go:223 -/
def octroiref17_Babel_prefixes_r3 (env : Env) (h : Hp) (K : Env → Hp → Prop) : Prop :=
  nck (env 0) (
  rd Try.prog (Instr.fieldAt 67 (env 0) 4) noHp fun v15_3 =>
  rd Try.prog (Instr.loadAt 63 v15_3) h fun v16_4 =>
  rd Try.prog (Builtin.len_ #[63] 3 #[v16_4]) h fun v17_5 =>
  rd Try.prog (bop Go.BinOp.lss 3 (Go.Operand.tmp 12) (Go.Operand.tmp 17) (env 4) v17_5) noHp fun v18_6 =>
  K (((((((env.set 12 (env 4)).set 13 (env 0)).set 14 (env 0)).set 15 v15_3).set 16 v16_4).set 17 v17_5).set 18 v18_6) h)
@[congr] theorem octroiref17_Babel_prefixes_r3_congr {env : Env} {h : Hp} {K : Env → Hp → Prop} : octroiref17_Babel_prefixes_r3 env h K = octroiref17_Babel_prefixes_r3 env h K := rfl

/-- ref.go:224 -/
def octroiref17_Babel_prefixes_r4 (env : Env) (h : Hp) (K : Env → Hp → Prop) : Prop :=
  nck (env 0) (
  rd Try.prog (Instr.fieldAt 67 (env 0) 4) noHp fun v24_3 =>
  rd Try.prog (Instr.loadAt 63 v24_3) h fun v25_4 =>
  rd Try.prog (Instr.indexAt 63 v25_4 (env 4)) noHp fun v27_6 =>
  rd Try.prog (Instr.fieldAt 112 v27_6 0) noHp fun v28_7 =>
  rd Try.prog (Instr.loadAt 24 v28_7) h fun v29_8 =>
  arun Try.prog (Instr.buildSlice 88 1 #[(0, v29_8)]) h fun v30_9 h1 =>
  arun Try.prog (Builtin.append_ #[88, 88] 88 #[(env 3), v30_9]) h1 fun v31_10 h2 =>
  K ((((((((((((env.set 21 (env 3)).set 22 (env 0)).set 23 (env 0)).set 24 v24_3).set 25 v25_4).set 26 (env 4)).set 27 v27_6).set 28 v28_7).set 29 v29_8).set 30 v30_9).set 31 v31_10).set 3 v31_10) h2)
@[congr] theorem octroiref17_Babel_prefixes_r4_congr {env : Env} {h : Hp} {K : Env → Hp → Prop} : octroiref17_Babel_prefixes_r4 env h K = octroiref17_Babel_prefixes_r4 env h K := rfl

/-- ref.go:223 -/
def octroiref17_Babel_prefixes_r5 (env : Env) (h : Hp) (K : Env → Hp → Prop) : Prop :=
  rd Try.prog (bop Go.BinOp.add 3 (Go.Operand.tmp 19) (Go.Operand.const (Go.Value.int Go.IntKind.i64 1)) (env 4) (Go.Value.int Go.IntKind.i64 1)) noHp fun v20_1 =>
  K (((env.set 19 (env 4)).set 20 v20_1).set 4 v20_1) h
@[congr] theorem octroiref17_Babel_prefixes_r5_congr {env : Env} {h : Hp} {K : Env → Hp → Prop} : octroiref17_Babel_prefixes_r5 env h K = octroiref17_Babel_prefixes_r5 env h K := rfl

def octroiref17_Babel_prefixes_L0 : Den := (sq (sq (rg octroiref17_Babel_prefixes_r3) (cnd (Go.Operand.tmp 18) (ex .normal) (ex (.exit 0)))) (sq (blk 1 (rg octroiref17_Babel_prefixes_r4)) (rg octroiref17_Babel_prefixes_r5)))

/-- ref.go:226 -/
def octroiref17_Babel_prefixes_r6 (env : Env) (h : Hp) (K : Env → Hp → Prop) : Prop :=
  K (env.set 5 (Go.Value.int Go.IntKind.i64 0)) h
@[congr] theorem octroiref17_Babel_prefixes_r6_congr {env : Env} {h : Hp} {K : Env → Hp → Prop} : octroiref17_Babel_prefixes_r6 env h K = octroiref17_Babel_prefixes_r6 env h K := rfl

/-- ref.go:226 -/
def octroiref17_Babel_prefixes_r7 (env : Env) (h : Hp) (K : Env → Hp → Prop) : Prop :=
  nck (env 0) (
  rd Try.prog (Instr.fieldAt 67 (env 0) 5) noHp fun v35_3 =>
  rd Try.prog (Instr.loadAt 64 v35_3) h fun v36_4 =>
  rd Try.prog (Builtin.len_ #[64] 3 #[v36_4]) h fun v37_5 =>
  rd Try.prog (bop Go.BinOp.lss 3 (Go.Operand.tmp 32) (Go.Operand.tmp 37) (env 5) v37_5) noHp fun v38_6 =>
  K (((((((env.set 32 (env 5)).set 33 (env 0)).set 34 (env 0)).set 35 v35_3).set 36 v36_4).set 37 v37_5).set 38 v38_6) h)
@[congr] theorem octroiref17_Babel_prefixes_r7_congr {env : Env} {h : Hp} {K : Env → Hp → Prop} : octroiref17_Babel_prefixes_r7 env h K = octroiref17_Babel_prefixes_r7 env h K := rfl

/-- ref.go:227 -/
def octroiref17_Babel_prefixes_r8 (env : Env) (h : Hp) (K : Env → Hp → Prop) : Prop :=
  nck (env 0) (
  rd Try.prog (Instr.fieldAt 67 (env 0) 5) noHp fun v44_3 =>
  rd Try.prog (Instr.loadAt 64 v44_3) h fun v45_4 =>
  rd Try.prog (Instr.indexAt 64 v45_4 (env 5)) noHp fun v47_6 =>
  rd Try.prog (Instr.fieldAt 116 v47_6 0) noHp fun v48_7 =>
  rd Try.prog (Instr.loadAt 24 v48_7) h fun v49_8 =>
  arun Try.prog (Instr.buildSlice 88 1 #[(0, v49_8)]) h fun v50_9 h1 =>
  arun Try.prog (Builtin.append_ #[88, 88] 88 #[(env 3), v50_9]) h1 fun v51_10 h2 =>
  K ((((((((((((env.set 41 (env 3)).set 42 (env 0)).set 43 (env 0)).set 44 v44_3).set 45 v45_4).set 46 (env 5)).set 47 v47_6).set 48 v48_7).set 49 v49_8).set 50 v50_9).set 51 v51_10).set 3 v51_10) h2)
@[congr] theorem octroiref17_Babel_prefixes_r8_congr {env : Env} {h : Hp} {K : Env → Hp → Prop} : octroiref17_Babel_prefixes_r8 env h K = octroiref17_Babel_prefixes_r8 env h K := rfl

/-- ref.go:226 -/
def octroiref17_Babel_prefixes_r9 (env : Env) (h : Hp) (K : Env → Hp → Prop) : Prop :=
  rd Try.prog (bop Go.BinOp.add 3 (Go.Operand.tmp 39) (Go.Operand.const (Go.Value.int Go.IntKind.i64 1)) (env 5) (Go.Value.int Go.IntKind.i64 1)) noHp fun v40_1 =>
  K (((env.set 39 (env 5)).set 40 v40_1).set 5 v40_1) h
@[congr] theorem octroiref17_Babel_prefixes_r9_congr {env : Env} {h : Hp} {K : Env → Hp → Prop} : octroiref17_Babel_prefixes_r9 env h K = octroiref17_Babel_prefixes_r9 env h K := rfl

def octroiref17_Babel_prefixes_L1 : Den := (sq (sq (rg octroiref17_Babel_prefixes_r7) (cnd (Go.Operand.tmp 38) (ex .normal) (ex (.exit 2)))) (sq (blk 3 (rg octroiref17_Babel_prefixes_r8)) (rg octroiref17_Babel_prefixes_r9)))

/-- ref.go:229 -/
def octroiref17_Babel_prefixes_r10 (env : Env) (h : Hp) (K : Env → Hp → Prop) : Prop :=
  K (env.set 6 (Go.Value.int Go.IntKind.i64 0)) h
@[congr] theorem octroiref17_Babel_prefixes_r10_congr {env : Env} {h : Hp} {K : Env → Hp → Prop} : octroiref17_Babel_prefixes_r10 env h K = octroiref17_Babel_prefixes_r10 env h K := rfl

/-- ref.go:229 -/
def octroiref17_Babel_prefixes_r11 (env : Env) (h : Hp) (K : Env → Hp → Prop) : Prop :=
  nck (env 0) (
  rd Try.prog (Instr.fieldAt 67 (env 0) 7) noHp fun v55_3 =>
  rd Try.prog (Instr.loadAt 40 v55_3) h fun v56_4 =>
  rd Try.prog (Builtin.len_ #[40] 3 #[v56_4]) h fun v57_5 =>
  rd Try.prog (bop Go.BinOp.lss 3 (Go.Operand.tmp 52) (Go.Operand.tmp 57) (env 6) v57_5) noHp fun v58_6 =>
  K (((((((env.set 52 (env 6)).set 53 (env 0)).set 54 (env 0)).set 55 v55_3).set 56 v56_4).set 57 v57_5).set 58 v58_6) h)
@[congr] theorem octroiref17_Babel_prefixes_r11_congr {env : Env} {h : Hp} {K : Env → Hp → Prop} : octroiref17_Babel_prefixes_r11 env h K = octroiref17_Babel_prefixes_r11 env h K := rfl

/-- ref.go:230 -/
def octroiref17_Babel_prefixes_r12 (env : Env) (h : Hp) (K : Env → Hp → Prop) : Prop :=
  nck (env 0) (
  rd Try.prog (Instr.fieldAt 67 (env 0) 7) noHp fun v64_3 =>
  rd Try.prog (Instr.loadAt 40 v64_3) h fun v65_4 =>
  rd Try.prog (Instr.indexAt 40 v65_4 (env 6)) noHp fun v67_6 =>
  rd Try.prog (Instr.fieldAt 31 v67_6 4) noHp fun v68_7 =>
  rd Try.prog (Instr.loadAt 24 v68_7) h fun v69_8 =>
  arun Try.prog (Instr.buildSlice 88 1 #[(0, v69_8)]) h fun v70_9 h1 =>
  arun Try.prog (Builtin.append_ #[88, 88] 88 #[(env 3), v70_9]) h1 fun v71_10 h2 =>
  K ((((((((((((env.set 61 (env 3)).set 62 (env 0)).set 63 (env 0)).set 64 v64_3).set 65 v65_4).set 66 (env 6)).set 67 v67_6).set 68 v68_7).set 69 v69_8).set 70 v70_9).set 71 v71_10).set 3 v71_10) h2)
@[congr] theorem octroiref17_Babel_prefixes_r12_congr {env : Env} {h : Hp} {K : Env → Hp → Prop} : octroiref17_Babel_prefixes_r12 env h K = octroiref17_Babel_prefixes_r12 env h K := rfl

/-- ref.go:229 -/
def octroiref17_Babel_prefixes_r13 (env : Env) (h : Hp) (K : Env → Hp → Prop) : Prop :=
  rd Try.prog (bop Go.BinOp.add 3 (Go.Operand.tmp 59) (Go.Operand.const (Go.Value.int Go.IntKind.i64 1)) (env 6) (Go.Value.int Go.IntKind.i64 1)) noHp fun v60_1 =>
  K (((env.set 59 (env 6)).set 60 v60_1).set 6 v60_1) h
@[congr] theorem octroiref17_Babel_prefixes_r13_congr {env : Env} {h : Hp} {K : Env → Hp → Prop} : octroiref17_Babel_prefixes_r13 env h K = octroiref17_Babel_prefixes_r13 env h K := rfl

def octroiref17_Babel_prefixes_L2 : Den := (sq (sq (rg octroiref17_Babel_prefixes_r11) (cnd (Go.Operand.tmp 58) (ex .normal) (ex (.exit 4)))) (sq (blk 5 (rg octroiref17_Babel_prefixes_r12)) (rg octroiref17_Babel_prefixes_r13)))

/-- ref.go:232 -/
def octroiref17_Babel_prefixes_r14 (env : Env) (h : Hp) (K : Env → Hp → Prop) : Prop :=
  K (env.set 7 (Go.Value.slice none 0 0)) h
@[congr] theorem octroiref17_Babel_prefixes_r14_congr {env : Env} {h : Hp} {K : Env → Hp → Prop} : octroiref17_Babel_prefixes_r14 env h K = octroiref17_Babel_prefixes_r14 env h K := rfl

/-- ref.go:233 -/
def octroiref17_Babel_prefixes_r15 (env : Env) (h : Hp) (K : Env → Hp → Prop) : Prop :=
  K (env.set 8 (Go.Value.int Go.IntKind.i64 0)) h
@[congr] theorem octroiref17_Babel_prefixes_r15_congr {env : Env} {h : Hp} {K : Env → Hp → Prop} : octroiref17_Babel_prefixes_r15 env h K = octroiref17_Babel_prefixes_r15 env h K := rfl

/-- ref.go:233 -/
def octroiref17_Babel_prefixes_r16 (env : Env) (h : Hp) (K : Env → Hp → Prop) : Prop :=
  rd Try.prog (Builtin.len_ #[88] 3 #[(env 3)]) h fun v74_2 =>
  rd Try.prog (bop Go.BinOp.lss 3 (Go.Operand.tmp 72) (Go.Operand.tmp 74) (env 8) v74_2) noHp fun v75_3 =>
  K ((((env.set 72 (env 8)).set 73 (env 3)).set 74 v74_2).set 75 v75_3) h
@[congr] theorem octroiref17_Babel_prefixes_r16_congr {env : Env} {h : Hp} {K : Env → Hp → Prop} : octroiref17_Babel_prefixes_r16 env h K = octroiref17_Babel_prefixes_r16 env h K := rfl

/-- ref.go:234 -/
def octroiref17_Babel_prefixes_r17 (env : Env) (h : Hp) (K : Env → Hp → Prop) : Prop :=
  K (env.set 9 (Go.Value.int Go.IntKind.i64 0)) h
@[congr] theorem octroiref17_Babel_prefixes_r17_congr {env : Env} {h : Hp} {K : Env → Hp → Prop} : octroiref17_Babel_prefixes_r17 env h K = octroiref17_Babel_prefixes_r17 env h K := rfl

/-- ref.go:235 -/
def octroiref17_Babel_prefixes_r18 (env : Env) (h : Hp) (K : Env → Hp → Prop) : Prop :=
  rd Try.prog (Builtin.len_ #[88] 3 #[(env 7)]) h fun v80_2 =>
  rd Try.prog (bop Go.BinOp.lss 3 (Go.Operand.tmp 78) (Go.Operand.tmp 80) (env 9) v80_2) noHp fun v81_3 =>
  K ((((env.set 78 (env 9)).set 79 (env 7)).set 80 v80_2).set 81 v81_3) h
@[congr] theorem octroiref17_Babel_prefixes_r18_congr {env : Env} {h : Hp} {K : Env → Hp → Prop} : octroiref17_Babel_prefixes_r18 env h K = octroiref17_Babel_prefixes_r18 env h K := rfl

/-- ref.go:236 (in any order) -/
def octroiref17_Babel_prefixes_r19 (env : Env) (h : Hp) (K : Env → Hp → Prop) : Prop :=
  rd Try.prog (Instr.indexAt 88 (env 7) (env 9)) noHp fun v84_2 =>
  rd Try.prog (Instr.loadAt 24 v84_2) h fun v85_3 =>
  rd Try.prog (Instr.indexAt 88 (env 3) (env 8)) noHp fun v88_6 =>
  rd Try.prog (Instr.loadAt 24 v88_6) h fun v89_7 =>
  Ok Try.prog 63 #[v85_3, v89_7] h fun v90_8 h1 =>
  (True) ∧
  K ((((((((((env.set 82 (env 7)).set 83 (env 9)).set 84 v84_2).set 85 v85_3).set 86 (env 3)).set 87 (env 8)).set 88 v88_6).set 89 v89_7).set 90 v90_8).set 10 v90_8) h1
@[congr] theorem octroiref17_Babel_prefixes_r19_congr {env : Env} {h : Hp} {K : Env → Hp → Prop} : octroiref17_Babel_prefixes_r19 env h K = octroiref17_Babel_prefixes_r19 env h K := rfl

/-- ref.go:237 -/
def octroiref17_Babel_prefixes_r20 (env : Env) (h : Hp) (K : Env → Hp → Prop) : Prop :=
  rd Try.prog (Op.unary Go.UnOp.not (env 10)) noHp fun v92_1 =>
  K ((env.set 91 (env 10)).set 92 v92_1) h
@[congr] theorem octroiref17_Babel_prefixes_r20_congr {env : Env} {h : Hp} {K : Env → Hp → Prop} : octroiref17_Babel_prefixes_r20 env h K = octroiref17_Babel_prefixes_r20 env h K := rfl

/-- ref.go:240 -/
def octroiref17_Babel_prefixes_r21 (env : Env) (h : Hp) (K : Env → Hp → Prop) : Prop :=
  rd Try.prog (bop Go.BinOp.add 3 (Go.Operand.tmp 93) (Go.Operand.const (Go.Value.int Go.IntKind.i64 1)) (env 9) (Go.Value.int Go.IntKind.i64 1)) noHp fun v94_1 =>
  K (((env.set 93 (env 9)).set 94 v94_1).set 9 v94_1) h
@[congr] theorem octroiref17_Babel_prefixes_r21_congr {env : Env} {h : Hp} {K : Env → Hp → Prop} : octroiref17_Babel_prefixes_r21 env h K = octroiref17_Babel_prefixes_r21 env h K := rfl

def octroiref17_Babel_prefixes_L3 : Den := (sq (sq (rg octroiref17_Babel_prefixes_r18) (cnd (Go.Operand.tmp 81) (ex .normal) (ex (.exit 8)))) (blk 9 (sq (rg octroiref17_Babel_prefixes_r19) (sq (sq (rg octroiref17_Babel_prefixes_r20) (cnd (Go.Operand.tmp 92) (ex (.exit 8)) (ex .normal))) (rg octroiref17_Babel_prefixes_r21)))))

/-- ref.go:242 (in any order) -/
def octroiref17_Babel_prefixes_r22 (env : Env) (h : Hp) (K : Env → Hp → Prop) : Prop :=
  rd Try.prog (Builtin.len_ #[88] 3 #[(env 7)]) h fun v97_2 =>
  rd Try.prog (bop Go.BinOp.lss 3 (Go.Operand.tmp 95) (Go.Operand.tmp 97) (env 9) v97_2) noHp fun v98_3 =>
  gd (yb v98_3 == some true) (fun h k => k (env 7) h) h fun v100_5 h1 =>
  gd (yb v98_3 == some true) (fun h k => k (env 9) h) h1 fun v101_6 h2 =>
  gd (yb v98_3 == some true) (fun h k => rd Try.prog (Instr.indexAt 88 v100_5 v101_6) noHp fun v => k v h) h2 fun v102_7 h3 =>
  gd (yb v98_3 == some true) (fun h k => rd Try.prog (Instr.loadAt 24 v102_7) h fun v => k v h) h3 fun v103_8 h4 =>
  gd (yb v98_3 == some true) (fun h k => k (env 3) h) h4 fun v104_9 h5 =>
  gd (yb v98_3 == some true) (fun h k => k (env 8) h) h5 fun v105_10 h6 =>
  gd (yb v98_3 == some true) (fun h k => rd Try.prog (Instr.indexAt 88 v104_9 v105_10) noHp fun v => k v h) h6 fun v106_11 h7 =>
  gd (yb v98_3 == some true) (fun h k => rd Try.prog (Instr.loadAt 24 v106_11) h fun v => k v h) h7 fun v107_12 h8 =>
  gd (yb v98_3 == some true) (fun h k => rd Try.prog (bop Go.BinOp.eql 24 (Go.Operand.tmp 103) (Go.Operand.tmp 107) v103_8 v107_12) noHp fun v => k v h) h8 fun v108_13 h9 =>
  rd Try.prog (pck v98_3 v108_13 (Go.Value.bool false)) noHp fun v109_14 =>
  K (((((((((((((((env.set 95 (env 9)).set 96 (env 7)).set 97 v97_2).set 98 v98_3).set 99 v98_3).set 100 v100_5).set 101 v101_6).set 102 v102_7).set 103 v103_8).set 104 v104_9).set 105 v105_10).set 106 v106_11).set 107 v107_12).set 108 v108_13).set 109 v109_14) h9
@[congr] theorem octroiref17_Babel_prefixes_r22_congr {env : Env} {h : Hp} {K : Env → Hp → Prop} : octroiref17_Babel_prefixes_r22 env h K = octroiref17_Babel_prefixes_r22 env h K := rfl

/-- ref.go:245 -/
def octroiref17_Babel_prefixes_r23 (env : Env) (h : Hp) (K : Env → Hp → Prop) : Prop :=
  rd Try.prog (Instr.sliceAt 88 (env 7) none (some (env 9)) none) noHp fun v112_2 =>
  arun Try.prog (Builtin.append_ #[88, 88] 88 #[(Go.Value.slice none 0 0), v112_2]) h fun v113_3 h1 =>
  K (((((env.set 110 (env 7)).set 111 (env 9)).set 112 v112_2).set 113 v113_3).set 11 v113_3) h1
@[congr] theorem octroiref17_Babel_prefixes_r23_congr {env : Env} {h : Hp} {K : Env → Hp → Prop} : octroiref17_Babel_prefixes_r23 env h K = octroiref17_Babel_prefixes_r23 env h K := rfl

/-- ref.go:246 -/
def octroiref17_Babel_prefixes_r24 (env : Env) (h : Hp) (K : Env → Hp → Prop) : Prop :=
  rd Try.prog (Instr.indexAt 88 (env 3) (env 8)) noHp fun v117_3 =>
  rd Try.prog (Instr.loadAt 24 v117_3) h fun v118_4 =>
  arun Try.prog (Instr.buildSlice 88 1 #[(0, v118_4)]) h fun v119_5 h1 =>
  arun Try.prog (Builtin.append_ #[88, 88] 88 #[(env 11), v119_5]) h1 fun v120_6 h2 =>
  K ((((((((env.set 114 (env 11)).set 115 (env 3)).set 116 (env 8)).set 117 v117_3).set 118 v118_4).set 119 v119_5).set 120 v120_6).set 11 v120_6) h2
@[congr] theorem octroiref17_Babel_prefixes_r24_congr {env : Env} {h : Hp} {K : Env → Hp → Prop} : octroiref17_Babel_prefixes_r24 env h K = octroiref17_Babel_prefixes_r24 env h K := rfl

/-- ref.go:247 -/
def octroiref17_Babel_prefixes_r25 (env : Env) (h : Hp) (K : Env → Hp → Prop) : Prop :=
  rd Try.prog (Instr.sliceAt 88 (env 7) (some (env 9)) none none) noHp fun v124_3 =>
  arun Try.prog (Builtin.append_ #[88, 88] 88 #[(env 11), v124_3]) h fun v125_4 h1 =>
  K ((((((env.set 121 (env 11)).set 122 (env 7)).set 123 (env 9)).set 124 v124_3).set 125 v125_4).set 11 v125_4) h1
@[congr] theorem octroiref17_Babel_prefixes_r25_congr {env : Env} {h : Hp} {K : Env → Hp → Prop} : octroiref17_Babel_prefixes_r25 env h K = octroiref17_Babel_prefixes_r25 env h K := rfl

/-- ref.go:248 -/
def octroiref17_Babel_prefixes_r26 (env : Env) (h : Hp) (K : Env → Hp → Prop) : Prop :=
  K ((env.set 126 (env 11)).set 7 (env 11)) h
@[congr] theorem octroiref17_Babel_prefixes_r26_congr {env : Env} {h : Hp} {K : Env → Hp → Prop} : octroiref17_Babel_prefixes_r26 env h K = octroiref17_Babel_prefixes_r26 env h K := rfl

/-- ref.go:233 -/
def octroiref17_Babel_prefixes_r27 (env : Env) (h : Hp) (K : Env → Hp → Prop) : Prop :=
  rd Try.prog (bop Go.BinOp.add 3 (Go.Operand.tmp 76) (Go.Operand.const (Go.Value.int Go.IntKind.i64 1)) (env 8) (Go.Value.int Go.IntKind.i64 1)) noHp fun v77_1 =>
  K (((env.set 76 (env 8)).set 77 v77_1).set 8 v77_1) h
@[congr] theorem octroiref17_Babel_prefixes_r27_congr {env : Env} {h : Hp} {K : Env → Hp → Prop} : octroiref17_Babel_prefixes_r27 env h K = octroiref17_Babel_prefixes_r27 env h K := rfl

def octroiref17_Babel_prefixes_L4 : Den := (sq (sq (rg octroiref17_Babel_prefixes_r16) (cnd (Go.Operand.tmp 75) (ex .normal) (ex (.exit 6)))) (sq (blk 7 (sq (rg octroiref17_Babel_prefixes_r17) (sq (blk 8 (lp octroiref17_Babel_prefixes_L3)) (sq (sq (rg octroiref17_Babel_prefixes_r22) (cnd (Go.Operand.tmp 109) (ex (.exit 7)) (ex .normal))) (sq (rg octroiref17_Babel_prefixes_r23) (sq (rg octroiref17_Babel_prefixes_r24) (sq (rg octroiref17_Babel_prefixes_r25) (rg octroiref17_Babel_prefixes_r26)))))))) (rg octroiref17_Babel_prefixes_r27)))

/-- ref.go:250 -/
def octroiref17_Babel_prefixes_r28 (env : Env) (h : Hp) (K : Env → Hp → Prop) : Prop :=
  K ((env.set 127 (env 7)).set 2 (env 7)) h
@[congr] theorem octroiref17_Babel_prefixes_r28_congr {env : Env} {h : Hp} {K : Env → Hp → Prop} : octroiref17_Babel_prefixes_r28 env h K = octroiref17_Babel_prefixes_r28 env h K := rfl

def octroiref17_Babel_prefixes_D : Den := (sq (rg octroiref17_Babel_prefixes_r0) (sq (rg octroiref17_Babel_prefixes_r1) (sq (sq (rg octroiref17_Babel_prefixes_r2) (blk 0 (lp octroiref17_Babel_prefixes_L0))) (sq (sq (rg octroiref17_Babel_prefixes_r6) (blk 2 (lp octroiref17_Babel_prefixes_L1))) (sq (sq (rg octroiref17_Babel_prefixes_r10) (blk 4 (lp octroiref17_Babel_prefixes_L2))) (sq (rg octroiref17_Babel_prefixes_r14) (sq (sq (rg octroiref17_Babel_prefixes_r15) (blk 6 (lp octroiref17_Babel_prefixes_L4))) (sq (rg octroiref17_Babel_prefixes_r28) (ex .ret)))))))))

theorem octroiref17_Babel_prefixes_eq : (den Try.prog 128 octroiref17_Babel_prefixes_code).1 = octroiref17_Babel_prefixes_D := by kernel_rfl

theorem octroiref17_Babel_prefixes_ok {args : Array Value} {h : Hp} {Q : Value → Hp → Prop} (hn : args.size ≤ 128) (D : octroiref17_Babel_prefixes_D (fin Try.prog [(Go.ResultVar.tmp 2)] Q) (env0 args) h) : Ok Try.prog 46 args h Q :=
  ok_of_den progIsOk Try.func46 (c := octroiref17_Babel_prefixes_code) (by kernel_rfl) hn (by show (den Try.prog 128 octroiref17_Babel_prefixes_code).1 _ _ _; rw [octroiref17_Babel_prefixes_eq]; exact D)

end Go.Proofs.Ytchbipkoifmmdaa
