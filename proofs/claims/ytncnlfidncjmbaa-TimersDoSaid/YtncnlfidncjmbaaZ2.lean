/- Printed by wip/kit/gen.py out of the translation: formulas of Go functions, and that they are these functions'. -/
import Derived.Test.YtncnlfidncjmbaaChecked
import Derived.Test.YtncnlfidncjmbaaZ1

namespace Go.Proofs.Ytncnlfidncjmbaa
open Go

set_option maxRecDepth 100000
set_option linter.unusedVariables false

theorem progIsOk : progOk Try.prog = true := by kernel_rfl

/-! ### octroi/octroilaw10.TimersFull: function 3 -/
noncomputable def octroilaw10_TimersFull_code : Code := match Try.f3.body with | some c => c | none => .skip

/-- more.go:28 -/
def octroilaw10_TimersFull_r0 (env : Env) (h : Hp) (K : Env → Hp → Prop) : Prop :=
  K (env.set 4 (Go.Value.bool false)) h
@[congr] theorem octroilaw10_TimersFull_r0_congr {env : Env} {h : Hp} {K : Env → Hp → Prop} : octroilaw10_TimersFull_r0 env h K = octroilaw10_TimersFull_r0 env h K := rfl

/-- more.go:29 -/
def octroilaw10_TimersFull_r1 (env : Env) (h : Hp) (K : Env → Hp → Prop) : Prop :=
  Ok Try.prog 8 #[] h fun v12_0 h1 =>
  K ((env.set 12 v12_0).set 5 v12_0) h1
@[congr] theorem octroilaw10_TimersFull_r1_congr {env : Env} {h : Hp} {K : Env → Hp → Prop} : octroilaw10_TimersFull_r1 env h K = octroilaw10_TimersFull_r1 env h K := rfl

/-- more.go:30 -/
def octroilaw10_TimersFull_r2 (env : Env) (h : Hp) (K : Env → Hp → Prop) : Prop :=
  Ok Try.prog 9 #[] h fun v13_0 h1 =>
  K ((env.set 13 v13_0).set 6 v13_0) h1
@[congr] theorem octroilaw10_TimersFull_r2_congr {env : Env} {h : Hp} {K : Env → Hp → Prop} : octroilaw10_TimersFull_r2 env h K = octroilaw10_TimersFull_r2 env h K := rfl

/-- more.go:31 -/
def octroilaw10_TimersFull_r3 (env : Env) (h : Hp) (K : Env → Hp → Prop) : Prop :=
  rd Try.prog (Op.unary Go.UnOp.not (env 5)) noHp fun v15_1 =>
  gd (yb v15_1 == some false) (fun h k => k (env 6) h) h fun v17_3 h1 =>
  gd (yb v15_1 == some false) (fun h k => rd Try.prog (bop Go.BinOp.eql 23 (Go.Operand.tmp 17) (Go.Operand.const (Go.Value.pointer none)) v17_3 (Go.Value.pointer none)) noHp fun v => k v h) h1 fun v18_4 h2 =>
  rd Try.prog (pck v15_1 (Go.Value.bool true) v18_4) noHp fun v19_5 =>
  gd (yb v19_5 == some false) (fun h k => k (env 1) h) h2 fun v21_7 h3 =>
  gd (yb v19_5 == some false) (fun h k => rd Try.prog (bop Go.BinOp.lss 3 (Go.Operand.tmp 21) (Go.Operand.const (Go.Value.int Go.IntKind.i64 0)) v21_7 (Go.Value.int Go.IntKind.i64 0)) noHp fun v => k v h) h3 fun v22_8 h4 =>
  rd Try.prog (pck v19_5 (Go.Value.bool true) v22_8) noHp fun v23_9 =>
  gd (yb v23_9 == some false) (fun h k => k (env 1) h) h4 fun v25_11 h5 =>
  gd (yb v23_9 == some false) (fun h k => rd Try.prog (bop Go.BinOp.gtr 3 (Go.Operand.tmp 25) (Go.Operand.const (Go.Value.int Go.IntKind.i64 1000)) v25_11 (Go.Value.int Go.IntKind.i64 1000)) noHp fun v => k v h) h5 fun v26_12 h6 =>
  rd Try.prog (pck v23_9 (Go.Value.bool true) v26_12) noHp fun v27_13 =>
  gd (yb v27_13 == some false) (fun h k => k (env 0) h) h6 fun v29_15 h7 =>
  gd (yb v27_13 == some false) (fun h k => rd Try.prog (bop Go.BinOp.geq 3 (Go.Operand.tmp 29) (Go.Operand.const (Go.Value.int Go.IntKind.i64 0)) v29_15 (Go.Value.int Go.IntKind.i64 0)) noHp fun v => k v h) h7 fun v30_16 h8 =>
  gd (yb v27_13 == some false) (fun h k => k v30_16 h) h8 fun v31_17 h9 =>
  gd (yb v31_17 == some true) (fun h k => k (env 0) h) h9 fun v32_18 h10 =>
  gd (yb v31_17 == some true) (fun h k => rd Try.prog (bop Go.BinOp.lss 3 (Go.Operand.tmp 32) (Go.Operand.const (Go.Value.int Go.IntKind.i64 256)) v32_18 (Go.Value.int Go.IntKind.i64 256)) noHp fun v => k v h) h10 fun v33_19 h11 =>
  gd (yb v27_13 == some false) (fun h k => rd Try.prog (pck v31_17 v33_19 (Go.Value.bool false)) noHp fun v => k v h) h11 fun v34_20 h12 =>
  rd Try.prog (pck v27_13 (Go.Value.bool true) v34_20) noHp fun v35_21 =>
  K ((((((((((((((((((((((env.set 14 (env 5)).set 15 v15_1).set 16 v15_1).set 17 v17_3).set 18 v18_4).set 19 v19_5).set 20 v19_5).set 21 v21_7).set 22 v22_8).set 23 v23_9).set 24 v23_9).set 25 v25_11).set 26 v26_12).set 27 v27_13).set 28 v27_13).set 29 v29_15).set 30 v30_16).set 31 v31_17).set 32 v32_18).set 33 v33_19).set 34 v34_20).set 35 v35_21) h12
@[congr] theorem octroilaw10_TimersFull_r3_congr {env : Env} {h : Hp} {K : Env → Hp → Prop} : octroilaw10_TimersFull_r3 env h K = octroilaw10_TimersFull_r3 env h K := rfl

/-- more.go:32 -/
def octroilaw10_TimersFull_r4 (env : Env) (h : Hp) (K : Env → Hp → Prop) : Prop :=
  gd (yb (env 5) == some true) (fun h k => k (env 6) h) h fun v38_2 h1 =>
  gd (yb (env 5) == some true) (fun h k => rd Try.prog (bop Go.BinOp.neq 23 (Go.Operand.tmp 38) (Go.Operand.const (Go.Value.pointer none)) v38_2 (Go.Value.pointer none)) noHp fun v => k v h) h1 fun v39_3 h2 =>
  rd Try.prog (pck (env 5) v39_3 (Go.Value.bool false)) noHp fun v40_4 =>
  K ((((((env.set 36 (env 5)).set 37 (env 5)).set 38 v38_2).set 39 v39_3).set 40 v40_4).set 4 v40_4) h2
@[congr] theorem octroilaw10_TimersFull_r4_congr {env : Env} {h : Hp} {K : Env → Hp → Prop} : octroilaw10_TimersFull_r4 env h K = octroilaw10_TimersFull_r4 env h K := rfl

/-- more.go:34 -/
def octroilaw10_TimersFull_r5 (env : Env) (h : Hp) (K : Env → Hp → Prop) : Prop :=
  K (env.set 7 (Go.Value.int Go.IntKind.i64 0)) h
@[congr] theorem octroilaw10_TimersFull_r5_congr {env : Env} {h : Hp} {K : Env → Hp → Prop} : octroilaw10_TimersFull_r5 env h K = octroilaw10_TimersFull_r5 env h K := rfl

/-- more.go:34 -/
def octroilaw10_TimersFull_r6 (env : Env) (h : Hp) (K : Env → Hp → Prop) : Prop :=
  rd Try.prog (bop Go.BinOp.lss 3 (Go.Operand.tmp 41) (Go.Operand.const (Go.Value.int Go.IntKind.i64 256)) (env 7) (Go.Value.int Go.IntKind.i64 256)) noHp fun v42_1 =>
  K ((env.set 41 (env 7)).set 42 v42_1) h
@[congr] theorem octroilaw10_TimersFull_r6_congr {env : Env} {h : Hp} {K : Env → Hp → Prop} : octroilaw10_TimersFull_r6 env h K = octroilaw10_TimersFull_r6 env h K := rfl

/-- more.go:35 -/
def octroilaw10_TimersFull_r7 (env : Env) (h : Hp) (K : Env → Hp → Prop) : Prop :=
  rd Try.prog (bop Go.BinOp.add 3 (Go.Operand.const (Go.Value.int Go.IntKind.i64 10)) (Go.Operand.tmp 47) (Go.Value.int Go.IntKind.i64 10) (env 7)) noHp fun v48_3 =>
  Ok Try.prog 10 #[(env 6), (env 7), v48_3] h fun v49_4 h1 =>
  rd Try.prog (bop Go.BinOp.neq 25 (Go.Operand.tmp 49) (Go.Operand.const (Go.Value.int Go.IntKind.i64 0)) v49_4 (Go.Value.int Go.IntKind.i64 0)) noHp fun v50_5 =>
  K ((((((env.set 45 (env 6)).set 46 (env 7)).set 47 (env 7)).set 48 v48_3).set 49 v49_4).set 50 v50_5) h1
@[congr] theorem octroilaw10_TimersFull_r7_congr {env : Env} {h : Hp} {K : Env → Hp → Prop} : octroilaw10_TimersFull_r7 env h K = octroilaw10_TimersFull_r7 env h K := rfl

/-- more.go:36 -/
def octroilaw10_TimersFull_r8 (env : Env) (h : Hp) (K : Env → Hp → Prop) : Prop :=
  K (env.set 4 (Go.Value.bool false)) h
@[congr] theorem octroilaw10_TimersFull_r8_congr {env : Env} {h : Hp} {K : Env → Hp → Prop} : octroilaw10_TimersFull_r8 env h K = octroilaw10_TimersFull_r8 env h K := rfl

/-- more.go:34 -/
def octroilaw10_TimersFull_r9 (env : Env) (h : Hp) (K : Env → Hp → Prop) : Prop :=
  rd Try.prog (bop Go.BinOp.add 3 (Go.Operand.tmp 43) (Go.Operand.const (Go.Value.int Go.IntKind.i64 1)) (env 7) (Go.Value.int Go.IntKind.i64 1)) noHp fun v44_1 =>
  K (((env.set 43 (env 7)).set 44 v44_1).set 7 v44_1) h
@[congr] theorem octroilaw10_TimersFull_r9_congr {env : Env} {h : Hp} {K : Env → Hp → Prop} : octroilaw10_TimersFull_r9 env h K = octroilaw10_TimersFull_r9 env h K := rfl

def octroilaw10_TimersFull_L0 : Den := (sq (sq (rg octroilaw10_TimersFull_r6) (cnd (Go.Operand.tmp 42) (ex .normal) (ex (.exit 0)))) (sq (blk 1 (sq (rg octroilaw10_TimersFull_r7) (cnd (Go.Operand.tmp 50) (sq (rg octroilaw10_TimersFull_r8) (ex .ret)) (ex .normal)))) (rg octroilaw10_TimersFull_r9)))

/-- more.go:39 -/
def octroilaw10_TimersFull_r10 (env : Env) (h : Hp) (K : Env → Hp → Prop) : Prop :=
  Ok Try.prog 10 #[(env 6), (env 0), (env 1)] h fun v54_3 h1 =>
  K (((((env.set 51 (env 6)).set 52 (env 0)).set 53 (env 1)).set 54 v54_3).set 8 v54_3) h1
@[congr] theorem octroilaw10_TimersFull_r10_congr {env : Env} {h : Hp} {K : Env → Hp → Prop} : octroilaw10_TimersFull_r10 env h K = octroilaw10_TimersFull_r10 env h K := rfl

/-- more.go:40 -/
def octroilaw10_TimersFull_r11 (env : Env) (h : Hp) (K : Env → Hp → Prop) : Prop :=
  Ok Try.prog 10 #[(env 6), (Go.Value.int Go.IntKind.i64 0), (Go.Value.int Go.IntKind.i64 5)] h fun v56_1 h1 =>
  K (((env.set 55 (env 6)).set 56 v56_1).set 9 v56_1) h1
@[congr] theorem octroilaw10_TimersFull_r11_congr {env : Env} {h : Hp} {K : Env → Hp → Prop} : octroilaw10_TimersFull_r11 env h K = octroilaw10_TimersFull_r11 env h K := rfl

/-- more.go:41 -/
def octroilaw10_TimersFull_r12 (env : Env) (h : Hp) (K : Env → Hp → Prop) : Prop :=
  Ok Try.prog 11 #[(env 6), (Go.Value.int Go.IntKind.i64 5)] h fun v58_1 h1 =>
  K (((env.set 57 (env 6)).set 58 v58_1).set 10 v58_1) h1
@[congr] theorem octroilaw10_TimersFull_r12_congr {env : Env} {h : Hp} {K : Env → Hp → Prop} : octroilaw10_TimersFull_r12 env h K = octroilaw10_TimersFull_r12 env h K := rfl

/-- more.go:42 -/
def octroilaw10_TimersFull_r13 (env : Env) (h : Hp) (K : Env → Hp → Prop) : Prop :=
  Ok Try.prog 10 #[(env 6), (env 0), (env 1)] h fun v62_3 h1 =>
  K (((((env.set 59 (env 6)).set 60 (env 0)).set 61 (env 1)).set 62 v62_3).set 11 v62_3) h1
@[congr] theorem octroilaw10_TimersFull_r13_congr {env : Env} {h : Hp} {K : Env → Hp → Prop} : octroilaw10_TimersFull_r13 env h K = octroilaw10_TimersFull_r13 env h K := rfl

/-- more.go:43 -/
def octroilaw10_TimersFull_r14 (env : Env) (h : Hp) (K : Env → Hp → Prop) : Prop :=
  rd Try.prog (bop Go.BinOp.eql 25 (Go.Operand.tmp 63) (Go.Operand.const (Go.Value.int Go.IntKind.i64 4)) (env 8) (Go.Value.int Go.IntKind.i64 4)) noHp fun v64_1 =>
  gd (yb v64_1 == some true) (fun h k => k (env 9) h) h fun v66_3 h1 =>
  gd (yb v64_1 == some true) (fun h k => rd Try.prog (bop Go.BinOp.eql 25 (Go.Operand.tmp 66) (Go.Operand.const (Go.Value.int Go.IntKind.i64 0)) v66_3 (Go.Value.int Go.IntKind.i64 0)) noHp fun v => k v h) h1 fun v67_4 h2 =>
  rd Try.prog (pck v64_1 v67_4 (Go.Value.bool false)) noHp fun v68_5 =>
  gd (yb v68_5 == some true) (fun h k => k (env 10) h) h2 fun v70_7 h3 =>
  gd (yb v68_5 == some true) (fun h k => rd Try.prog (Builtin.len_ #[27] 3 #[v70_7]) h fun v => k v h) h3 fun v71_8 h4 =>
  gd (yb v68_5 == some true) (fun h k => rd Try.prog (bop Go.BinOp.eql 3 (Go.Operand.tmp 71) (Go.Operand.const (Go.Value.int Go.IntKind.i64 1)) v71_8 (Go.Value.int Go.IntKind.i64 1)) noHp fun v => k v h) h4 fun v72_9 h5 =>
  rd Try.prog (pck v68_5 v72_9 (Go.Value.bool false)) noHp fun v73_10 =>
  gd (yb v73_10 == some true) (fun h k => k (env 11) h) h5 fun v75_12 h6 =>
  gd (yb v73_10 == some true) (fun h k => rd Try.prog (bop Go.BinOp.eql 25 (Go.Operand.tmp 75) (Go.Operand.const (Go.Value.int Go.IntKind.i64 0)) v75_12 (Go.Value.int Go.IntKind.i64 0)) noHp fun v => k v h) h6 fun v76_13 h7 =>
  rd Try.prog (pck v73_10 v76_13 (Go.Value.bool false)) noHp fun v77_14 =>
  gd (yb v77_14 == some true) (fun h k => k (env 6) h) h7 fun v79_16 h8 =>
  gd (yb v77_14 == some true) (fun h k => Ok Try.prog 12 #[v79_16] h k) h8 fun v80_17 h9 =>
  gd (yb v77_14 == some true) (fun h k => rd Try.prog (bop Go.BinOp.eql 3 (Go.Operand.tmp 80) (Go.Operand.const (Go.Value.int Go.IntKind.i64 256)) v80_17 (Go.Value.int Go.IntKind.i64 256)) noHp fun v => k v h) h9 fun v81_18 h10 =>
  rd Try.prog (pck v77_14 v81_18 (Go.Value.bool false)) noHp fun v82_19 =>
  K (((((((((((((((((((((env.set 63 (env 8)).set 64 v64_1).set 65 v64_1).set 66 v66_3).set 67 v67_4).set 68 v68_5).set 69 v68_5).set 70 v70_7).set 71 v71_8).set 72 v72_9).set 73 v73_10).set 74 v73_10).set 75 v75_12).set 76 v76_13).set 77 v77_14).set 78 v77_14).set 79 v79_16).set 80 v80_17).set 81 v81_18).set 82 v82_19).set 4 v82_19) h10
@[congr] theorem octroilaw10_TimersFull_r14_congr {env : Env} {h : Hp} {K : Env → Hp → Prop} : octroilaw10_TimersFull_r14 env h K = octroilaw10_TimersFull_r14 env h K := rfl

def octroilaw10_TimersFull_D : Den := (sq (rg octroilaw10_TimersFull_r0) (sq (rg octroilaw10_TimersFull_r1) (sq (rg octroilaw10_TimersFull_r2) (sq (sq (rg octroilaw10_TimersFull_r3) (cnd (Go.Operand.tmp 35) (sq (rg octroilaw10_TimersFull_r4) (ex .ret)) (ex .normal))) (sq (sq (rg octroilaw10_TimersFull_r5) (blk 0 (lp octroilaw10_TimersFull_L0))) (sq (rg octroilaw10_TimersFull_r10) (sq (rg octroilaw10_TimersFull_r11) (sq (rg octroilaw10_TimersFull_r12) (sq (rg octroilaw10_TimersFull_r13) (sq (rg octroilaw10_TimersFull_r14) (ex .ret)))))))))))

theorem octroilaw10_TimersFull_eq : (den Try.prog 83 octroilaw10_TimersFull_code).1 = octroilaw10_TimersFull_D := by kernel_rfl

theorem octroilaw10_TimersFull_ok {args : Array Value} {h : Hp} {Q : Value → Hp → Prop} (hn : args.size ≤ 83) (D : octroilaw10_TimersFull_D (fin Try.prog [(Go.ResultVar.tmp 4)] Q) (env0 args) h) : Ok Try.prog 3 args h Q :=
  ok_of_den progIsOk Try.func3 (c := octroilaw10_TimersFull_code) (by kernel_rfl) hn (by show (den Try.prog 83 octroilaw10_TimersFull_code).1 _ _ _; rw [octroilaw10_TimersFull_eq]; exact D)

/-! ### octroi/octroilaw10.TimersOnce: function 4 -/
noncomputable def octroilaw10_TimersOnce_code : Code := match Try.f4.body with | some c => c | none => .skip

/-- law.go:53 -/
def octroilaw10_TimersOnce_r0 (env : Env) (h : Hp) (K : Env → Hp → Prop) : Prop :=
  K (env.set 8 (Go.Value.bool false)) h
@[congr] theorem octroilaw10_TimersOnce_r0_congr {env : Env} {h : Hp} {K : Env → Hp → Prop} : octroilaw10_TimersOnce_r0 env h K = octroilaw10_TimersOnce_r0 env h K := rfl

/-- law.go:54 -/
def octroilaw10_TimersOnce_r1 (env : Env) (h : Hp) (K : Env → Hp → Prop) : Prop :=
  Ok Try.prog 8 #[] h fun v18_0 h1 =>
  K ((env.set 18 v18_0).set 9 v18_0) h1
@[congr] theorem octroilaw10_TimersOnce_r1_congr {env : Env} {h : Hp} {K : Env → Hp → Prop} : octroilaw10_TimersOnce_r1 env h K = octroilaw10_TimersOnce_r1 env h K := rfl

/-- law.go:55 -/
def octroilaw10_TimersOnce_r2 (env : Env) (h : Hp) (K : Env → Hp → Prop) : Prop :=
  Ok Try.prog 9 #[] h fun v19_0 h1 =>
  K ((env.set 19 v19_0).set 10 v19_0) h1
@[congr] theorem octroilaw10_TimersOnce_r2_congr {env : Env} {h : Hp} {K : Env → Hp → Prop} : octroilaw10_TimersOnce_r2 env h K = octroilaw10_TimersOnce_r2 env h K := rfl

/-- law.go:56 -/
def octroilaw10_TimersOnce_r3 (env : Env) (h : Hp) (K : Env → Hp → Prop) : Prop :=
  rd Try.prog (Op.unary Go.UnOp.not (env 9)) noHp fun v21_1 =>
  gd (yb v21_1 == some false) (fun h k => k (env 10) h) h fun v23_3 h1 =>
  gd (yb v21_1 == some false) (fun h k => rd Try.prog (bop Go.BinOp.eql 23 (Go.Operand.tmp 23) (Go.Operand.const (Go.Value.pointer none)) v23_3 (Go.Value.pointer none)) noHp fun v => k v h) h1 fun v24_4 h2 =>
  rd Try.prog (pck v21_1 (Go.Value.bool true) v24_4) noHp fun v25_5 =>
  gd (yb v25_5 == some false) (fun h k => k (env 0) h) h2 fun v27_7 h3 =>
  gd (yb v25_5 == some false) (fun h k => rd Try.prog (Builtin.len_ #[31] 3 #[v27_7]) h fun v => k v h) h3 fun v28_8 h4 =>
  gd (yb v25_5 == some false) (fun h k => rd Try.prog (bop Go.BinOp.gtr 3 (Go.Operand.tmp 28) (Go.Operand.const (Go.Value.int Go.IntKind.i64 200)) v28_8 (Go.Value.int Go.IntKind.i64 200)) noHp fun v => k v h) h4 fun v29_9 h5 =>
  rd Try.prog (pck v25_5 (Go.Value.bool true) v29_9) noHp fun v30_10 =>
  gd (yb v30_10 == some false) (fun h k => k (env 3) h) h5 fun v32_12 h6 =>
  gd (yb v30_10 == some false) (fun h k => rd Try.prog (Builtin.len_ #[32] 3 #[v32_12]) h fun v => k v h) h6 fun v33_13 h7 =>
  gd (yb v30_10 == some false) (fun h k => rd Try.prog (bop Go.BinOp.gtr 3 (Go.Operand.tmp 33) (Go.Operand.const (Go.Value.int Go.IntKind.i64 100)) v33_13 (Go.Value.int Go.IntKind.i64 100)) noHp fun v => k v h) h7 fun v34_14 h8 =>
  rd Try.prog (pck v30_10 (Go.Value.bool true) v34_14) noHp fun v35_15 =>
  gd (yb v35_15 == some false) (fun h k => k (env 2) h) h8 fun v37_17 h9 =>
  gd (yb v35_15 == some false) (fun h k => rd Try.prog (bop Go.BinOp.lss 3 (Go.Operand.tmp 37) (Go.Operand.const (Go.Value.int Go.IntKind.i64 0)) v37_17 (Go.Value.int Go.IntKind.i64 0)) noHp fun v => k v h) h9 fun v38_18 h10 =>
  rd Try.prog (pck v35_15 (Go.Value.bool true) v38_18) noHp fun v39_19 =>
  gd (yb v39_19 == some false) (fun h k => k (env 2) h) h10 fun v41_21 h11 =>
  gd (yb v39_19 == some false) (fun h k => rd Try.prog (bop Go.BinOp.gtr 3 (Go.Operand.tmp 41) (Go.Operand.const (Go.Value.int Go.IntKind.i64 1000000)) v41_21 (Go.Value.int Go.IntKind.i64 1000000)) noHp fun v => k v h) h11 fun v42_22 h12 =>
  rd Try.prog (pck v39_19 (Go.Value.bool true) v42_22) noHp fun v43_23 =>
  K ((((((((((((((((((((((((env.set 20 (env 9)).set 21 v21_1).set 22 v21_1).set 23 v23_3).set 24 v24_4).set 25 v25_5).set 26 v25_5).set 27 v27_7).set 28 v28_8).set 29 v29_9).set 30 v30_10).set 31 v30_10).set 32 v32_12).set 33 v33_13).set 34 v34_14).set 35 v35_15).set 36 v35_15).set 37 v37_17).set 38 v38_18).set 39 v39_19).set 40 v39_19).set 41 v41_21).set 42 v42_22).set 43 v43_23) h12
@[congr] theorem octroilaw10_TimersOnce_r3_congr {env : Env} {h : Hp} {K : Env → Hp → Prop} : octroilaw10_TimersOnce_r3 env h K = octroilaw10_TimersOnce_r3 env h K := rfl

/-- law.go:57 -/
def octroilaw10_TimersOnce_r4 (env : Env) (h : Hp) (K : Env → Hp → Prop) : Prop :=
  gd (yb (env 9) == some true) (fun h k => k (env 10) h) h fun v46_2 h1 =>
  gd (yb (env 9) == some true) (fun h k => rd Try.prog (bop Go.BinOp.neq 23 (Go.Operand.tmp 46) (Go.Operand.const (Go.Value.pointer none)) v46_2 (Go.Value.pointer none)) noHp fun v => k v h) h1 fun v47_3 h2 =>
  rd Try.prog (pck (env 9) v47_3 (Go.Value.bool false)) noHp fun v48_4 =>
  K ((((((env.set 44 (env 9)).set 45 (env 9)).set 46 v46_2).set 47 v47_3).set 48 v48_4).set 8 v48_4) h2
@[congr] theorem octroilaw10_TimersOnce_r4_congr {env : Env} {h : Hp} {K : Env → Hp → Prop} : octroilaw10_TimersOnce_r4 env h K = octroilaw10_TimersOnce_r4 env h K := rfl

/-- law.go:59 -/
def octroilaw10_TimersOnce_r5 (env : Env) (h : Hp) (K : Env → Hp → Prop) : Prop :=
  Ok Try.prog 10 #[(env 10), (env 1), (env 2)] h fun v52_3 h1 =>
  K (((((env.set 49 (env 10)).set 50 (env 1)).set 51 (env 2)).set 52 v52_3).set 11 v52_3) h1
@[congr] theorem octroilaw10_TimersOnce_r5_congr {env : Env} {h : Hp} {K : Env → Hp → Prop} : octroilaw10_TimersOnce_r5 env h K = octroilaw10_TimersOnce_r5 env h K := rfl

/-- law.go:60 -/
def octroilaw10_TimersOnce_r6 (env : Env) (h : Hp) (K : Env → Hp → Prop) : Prop :=
  K (env.set 12 (Go.Value.int Go.IntKind.i64 0)) h
@[congr] theorem octroilaw10_TimersOnce_r6_congr {env : Env} {h : Hp} {K : Env → Hp → Prop} : octroilaw10_TimersOnce_r6 env h K = octroilaw10_TimersOnce_r6 env h K := rfl

/-- law.go:60 -/
def octroilaw10_TimersOnce_r7 (env : Env) (h : Hp) (K : Env → Hp → Prop) : Prop :=
  rd Try.prog (Builtin.len_ #[31] 3 #[(env 0)]) h fun v55_2 =>
  rd Try.prog (bop Go.BinOp.lss 3 (Go.Operand.tmp 53) (Go.Operand.tmp 55) (env 12) v55_2) noHp fun v56_3 =>
  K ((((env.set 53 (env 12)).set 54 (env 0)).set 55 v55_2).set 56 v56_3) h
@[congr] theorem octroilaw10_TimersOnce_r7_congr {env : Env} {h : Hp} {K : Env → Hp → Prop} : octroilaw10_TimersOnce_r7 env h K = octroilaw10_TimersOnce_r7 env h K := rfl

/-- law.go:61 -/
def octroilaw10_TimersOnce_r8 (env : Env) (h : Hp) (K : Env → Hp → Prop) : Prop :=
  rd Try.prog (Instr.indexAt 31 (env 0) (env 12)) noHp fun v61_2 =>
  rd Try.prog (Instr.fieldAt 34 v61_2 1) noHp fun v62_3 =>
  rd Try.prog (Instr.loadAt 3 v62_3) h fun v63_4 =>
  rd Try.prog (bop Go.BinOp.eql 3 (Go.Operand.tmp 63) (Go.Operand.tmp 64) v63_4 (env 1)) noHp fun v65_6 =>
  K (((((((env.set 59 (env 0)).set 60 (env 12)).set 61 v61_2).set 62 v62_3).set 63 v63_4).set 64 (env 1)).set 65 v65_6) h
@[congr] theorem octroilaw10_TimersOnce_r8_congr {env : Env} {h : Hp} {K : Env → Hp → Prop} : octroilaw10_TimersOnce_r8 env h K = octroilaw10_TimersOnce_r8 env h K := rfl

/-- law.go:64 -/
def octroilaw10_TimersOnce_r9 (env : Env) (h : Hp) (K : Env → Hp → Prop) : Prop :=
  rd Try.prog (Instr.indexAt 31 (env 0) (env 12)) noHp fun v68_2 =>
  rd Try.prog (Instr.fieldAt 34 v68_2 0) noHp fun v69_3 =>
  rd Try.prog (Instr.loadAt 3 v69_3) h fun v70_4 =>
  rd Try.prog (bop Go.BinOp.eql 3 (Go.Operand.tmp 70) (Go.Operand.const (Go.Value.int Go.IntKind.i64 0)) v70_4 (Go.Value.int Go.IntKind.i64 0)) noHp fun v71_5 =>
  K ((((((env.set 66 (env 0)).set 67 (env 12)).set 68 v68_2).set 69 v69_3).set 70 v70_4).set 71 v71_5) h
@[congr] theorem octroilaw10_TimersOnce_r9_congr {env : Env} {h : Hp} {K : Env → Hp → Prop} : octroilaw10_TimersOnce_r9 env h K = octroilaw10_TimersOnce_r9 env h K := rfl

/-- law.go:65 (in any order) -/
def octroilaw10_TimersOnce_r10 (env : Env) (h : Hp) (K : Env → Hp → Prop) : Prop :=
  rd Try.prog (Instr.indexAt 31 (env 0) (env 12)) noHp fun v75_3 =>
  rd Try.prog (Instr.fieldAt 34 v75_3 1) noHp fun v76_4 =>
  rd Try.prog (Instr.loadAt 3 v76_4) h fun v77_5 =>
  rd Try.prog (Instr.indexAt 31 (env 0) (env 12)) noHp fun v80_8 =>
  rd Try.prog (Instr.fieldAt 34 v80_8 2) noHp fun v81_9 =>
  rd Try.prog (Instr.loadAt 3 v81_9) h fun v82_10 =>
  Ok Try.prog 10 #[(env 10), v77_5, v82_10] h fun v83_11 h1 =>
  (True) ∧
  K ((((((((((((env.set 72 (env 10)).set 73 (env 0)).set 74 (env 12)).set 75 v75_3).set 76 v76_4).set 77 v77_5).set 78 (env 0)).set 79 (env 12)).set 80 v80_8).set 81 v81_9).set 82 v82_10).set 83 v83_11) h1
@[congr] theorem octroilaw10_TimersOnce_r10_congr {env : Env} {h : Hp} {K : Env → Hp → Prop} : octroilaw10_TimersOnce_r10 env h K = octroilaw10_TimersOnce_r10 env h K := rfl

/-- law.go:67 -/
def octroilaw10_TimersOnce_r11 (env : Env) (h : Hp) (K : Env → Hp → Prop) : Prop :=
  rd Try.prog (Instr.indexAt 31 (env 0) (env 12)) noHp fun v86_2 =>
  rd Try.prog (Instr.fieldAt 34 v86_2 0) noHp fun v87_3 =>
  rd Try.prog (Instr.loadAt 3 v87_3) h fun v88_4 =>
  rd Try.prog (bop Go.BinOp.eql 3 (Go.Operand.tmp 88) (Go.Operand.const (Go.Value.int Go.IntKind.i64 1)) v88_4 (Go.Value.int Go.IntKind.i64 1)) noHp fun v89_5 =>
  K ((((((env.set 84 (env 0)).set 85 (env 12)).set 86 v86_2).set 87 v87_3).set 88 v88_4).set 89 v89_5) h
@[congr] theorem octroilaw10_TimersOnce_r11_congr {env : Env} {h : Hp} {K : Env → Hp → Prop} : octroilaw10_TimersOnce_r11 env h K = octroilaw10_TimersOnce_r11 env h K := rfl

/-- law.go:68 -/
def octroilaw10_TimersOnce_r12 (env : Env) (h : Hp) (K : Env → Hp → Prop) : Prop :=
  rd Try.prog (Instr.indexAt 31 (env 0) (env 12)) noHp fun v93_3 =>
  rd Try.prog (Instr.fieldAt 34 v93_3 1) noHp fun v94_4 =>
  rd Try.prog (Instr.loadAt 3 v94_4) h fun v95_5 =>
  Ok Try.prog 13 #[(env 10), v95_5] h fun v96_6 h1 =>
  K (((((((env.set 90 (env 10)).set 91 (env 0)).set 92 (env 12)).set 93 v93_3).set 94 v94_4).set 95 v95_5).set 96 v96_6) h1
@[congr] theorem octroilaw10_TimersOnce_r12_congr {env : Env} {h : Hp} {K : Env → Hp → Prop} : octroilaw10_TimersOnce_r12 env h K = octroilaw10_TimersOnce_r12 env h K := rfl

/-- law.go:60 -/
def octroilaw10_TimersOnce_r13 (env : Env) (h : Hp) (K : Env → Hp → Prop) : Prop :=
  rd Try.prog (bop Go.BinOp.add 3 (Go.Operand.tmp 57) (Go.Operand.const (Go.Value.int Go.IntKind.i64 1)) (env 12) (Go.Value.int Go.IntKind.i64 1)) noHp fun v58_1 =>
  K (((env.set 57 (env 12)).set 58 v58_1).set 12 v58_1) h
@[congr] theorem octroilaw10_TimersOnce_r13_congr {env : Env} {h : Hp} {K : Env → Hp → Prop} : octroilaw10_TimersOnce_r13 env h K = octroilaw10_TimersOnce_r13 env h K := rfl

def octroilaw10_TimersOnce_L0 : Den := (sq (sq (rg octroilaw10_TimersOnce_r7) (cnd (Go.Operand.tmp 56) (ex .normal) (ex (.exit 0)))) (sq (blk 1 (sq (sq (rg octroilaw10_TimersOnce_r8) (cnd (Go.Operand.tmp 65) (ex (.exit 1)) (ex .normal))) (sq (sq (rg octroilaw10_TimersOnce_r9) (cnd (Go.Operand.tmp 71) (rg octroilaw10_TimersOnce_r10) (ex .normal))) (sq (rg octroilaw10_TimersOnce_r11) (cnd (Go.Operand.tmp 89) (rg octroilaw10_TimersOnce_r12) (ex .normal)))))) (rg octroilaw10_TimersOnce_r13)))

/-- law.go:71 -/
def octroilaw10_TimersOnce_r14 (env : Env) (h : Hp) (K : Env → Hp → Prop) : Prop :=
  K (env.set 13 (Go.Value.int Go.IntKind.i64 0)) h
@[congr] theorem octroilaw10_TimersOnce_r14_congr {env : Env} {h : Hp} {K : Env → Hp → Prop} : octroilaw10_TimersOnce_r14 env h K = octroilaw10_TimersOnce_r14 env h K := rfl

/-- law.go:72 -/
def octroilaw10_TimersOnce_r15 (env : Env) (h : Hp) (K : Env → Hp → Prop) : Prop :=
  K (env.set 14 (Go.Value.int Go.IntKind.i64 0)) h
@[congr] theorem octroilaw10_TimersOnce_r15_congr {env : Env} {h : Hp} {K : Env → Hp → Prop} : octroilaw10_TimersOnce_r15 env h K = octroilaw10_TimersOnce_r15 env h K := rfl

/-- law.go:73 -/
def octroilaw10_TimersOnce_r16 (env : Env) (h : Hp) (K : Env → Hp → Prop) : Prop :=
  K (env.set 15 (Go.Value.int Go.IntKind.i64 0)) h
@[congr] theorem octroilaw10_TimersOnce_r16_congr {env : Env} {h : Hp} {K : Env → Hp → Prop} : octroilaw10_TimersOnce_r16 env h K = octroilaw10_TimersOnce_r16 env h K := rfl

/-- law.go:73 -/
def octroilaw10_TimersOnce_r17 (env : Env) (h : Hp) (K : Env → Hp → Prop) : Prop :=
  rd Try.prog (Builtin.len_ #[32] 3 #[(env 3)]) h fun v99_2 =>
  rd Try.prog (bop Go.BinOp.lss 3 (Go.Operand.tmp 97) (Go.Operand.tmp 99) (env 15) v99_2) noHp fun v100_3 =>
  K ((((env.set 97 (env 15)).set 98 (env 3)).set 99 v99_2).set 100 v100_3) h
@[congr] theorem octroilaw10_TimersOnce_r17_congr {env : Env} {h : Hp} {K : Env → Hp → Prop} : octroilaw10_TimersOnce_r17 env h K = octroilaw10_TimersOnce_r17 env h K := rfl

/-- law.go:74 -/
def octroilaw10_TimersOnce_r18 (env : Env) (h : Hp) (K : Env → Hp → Prop) : Prop :=
  rd Try.prog (Instr.indexAt 32 (env 3) (env 15)) noHp fun v105_2 =>
  rd Try.prog (Instr.loadAt 3 v105_2) h fun v106_3 =>
  rd Try.prog (bop Go.BinOp.lss 3 (Go.Operand.tmp 106) (Go.Operand.const (Go.Value.int Go.IntKind.i64 0)) v106_3 (Go.Value.int Go.IntKind.i64 0)) noHp fun v107_4 =>
  gd (yb v107_4 == some false) (fun h k => k (env 3) h) h fun v109_6 h1 =>
  gd (yb v107_4 == some false) (fun h k => k (env 15) h) h1 fun v110_7 h2 =>
  gd (yb v107_4 == some false) (fun h k => rd Try.prog (Instr.indexAt 32 v109_6 v110_7) noHp fun v => k v h) h2 fun v111_8 h3 =>
  gd (yb v107_4 == some false) (fun h k => rd Try.prog (Instr.loadAt 3 v111_8) h fun v => k v h) h3 fun v112_9 h4 =>
  gd (yb v107_4 == some false) (fun h k => rd Try.prog (bop Go.BinOp.gtr 3 (Go.Operand.tmp 112) (Go.Operand.const (Go.Value.int Go.IntKind.i64 1000000)) v112_9 (Go.Value.int Go.IntKind.i64 1000000)) noHp fun v => k v h) h4 fun v113_10 h5 =>
  rd Try.prog (pck v107_4 (Go.Value.bool true) v113_10) noHp fun v114_11 =>
  K ((((((((((((env.set 103 (env 3)).set 104 (env 15)).set 105 v105_2).set 106 v106_3).set 107 v107_4).set 108 v107_4).set 109 v109_6).set 110 v110_7).set 111 v111_8).set 112 v112_9).set 113 v113_10).set 114 v114_11) h5
@[congr] theorem octroilaw10_TimersOnce_r18_congr {env : Env} {h : Hp} {K : Env → Hp → Prop} : octroilaw10_TimersOnce_r18 env h K = octroilaw10_TimersOnce_r18 env h K := rfl

/-- law.go:75 -/
def octroilaw10_TimersOnce_r19 (env : Env) (h : Hp) (K : Env → Hp → Prop) : Prop :=
  K (env.set 8 (Go.Value.bool true)) h
@[congr] theorem octroilaw10_TimersOnce_r19_congr {env : Env} {h : Hp} {K : Env → Hp → Prop} : octroilaw10_TimersOnce_r19 env h K = octroilaw10_TimersOnce_r19 env h K := rfl

/-- law.go:77 -/
def octroilaw10_TimersOnce_r20 (env : Env) (h : Hp) (K : Env → Hp → Prop) : Prop :=
  rd Try.prog (Instr.indexAt 32 (env 3) (env 15)) noHp fun v118_3 =>
  rd Try.prog (Instr.loadAt 3 v118_3) h fun v119_4 =>
  rd Try.prog (bop Go.BinOp.add 3 (Go.Operand.tmp 115) (Go.Operand.tmp 119) (env 13) v119_4) noHp fun v120_5 =>
  K (((((((env.set 115 (env 13)).set 116 (env 3)).set 117 (env 15)).set 118 v118_3).set 119 v119_4).set 120 v120_5).set 13 v120_5) h
@[congr] theorem octroilaw10_TimersOnce_r20_congr {env : Env} {h : Hp} {K : Env → Hp → Prop} : octroilaw10_TimersOnce_r20 env h K = octroilaw10_TimersOnce_r20 env h K := rfl

/-- law.go:78 -/
def octroilaw10_TimersOnce_r21 (env : Env) (h : Hp) (K : Env → Hp → Prop) : Prop :=
  Ok Try.prog 11 #[(env 10), (env 13)] h fun v123_2 h1 =>
  K ((((env.set 121 (env 10)).set 122 (env 13)).set 123 v123_2).set 16 v123_2) h1
@[congr] theorem octroilaw10_TimersOnce_r21_congr {env : Env} {h : Hp} {K : Env → Hp → Prop} : octroilaw10_TimersOnce_r21 env h K = octroilaw10_TimersOnce_r21 env h K := rfl

/-- law.go:79 -/
def octroilaw10_TimersOnce_r22 (env : Env) (h : Hp) (K : Env → Hp → Prop) : Prop :=
  K (env.set 17 (Go.Value.int Go.IntKind.i64 0)) h
@[congr] theorem octroilaw10_TimersOnce_r22_congr {env : Env} {h : Hp} {K : Env → Hp → Prop} : octroilaw10_TimersOnce_r22 env h K = octroilaw10_TimersOnce_r22 env h K := rfl

/-- law.go:79 -/
def octroilaw10_TimersOnce_r23 (env : Env) (h : Hp) (K : Env → Hp → Prop) : Prop :=
  rd Try.prog (Builtin.len_ #[27] 3 #[(env 16)]) h fun v126_2 =>
  rd Try.prog (bop Go.BinOp.lss 3 (Go.Operand.tmp 124) (Go.Operand.tmp 126) (env 17) v126_2) noHp fun v127_3 =>
  K ((((env.set 124 (env 17)).set 125 (env 16)).set 126 v126_2).set 127 v127_3) h
@[congr] theorem octroilaw10_TimersOnce_r23_congr {env : Env} {h : Hp} {K : Env → Hp → Prop} : octroilaw10_TimersOnce_r23 env h K = octroilaw10_TimersOnce_r23 env h K := rfl

/-- law.go:80 -/
def octroilaw10_TimersOnce_r24 (env : Env) (h : Hp) (K : Env → Hp → Prop) : Prop :=
  rd Try.prog (Instr.indexAt 27 (env 16) (env 17)) noHp fun v132_2 =>
  rd Try.prog (Instr.fieldAt 37 v132_2 0) noHp fun v133_3 =>
  rd Try.prog (Instr.loadAt 3 v133_3) h fun v134_4 =>
  rd Try.prog (bop Go.BinOp.eql 3 (Go.Operand.tmp 134) (Go.Operand.tmp 135) v134_4 (env 1)) noHp fun v136_6 =>
  K (((((((env.set 130 (env 16)).set 131 (env 17)).set 132 v132_2).set 133 v133_3).set 134 v134_4).set 135 (env 1)).set 136 v136_6) h
@[congr] theorem octroilaw10_TimersOnce_r24_congr {env : Env} {h : Hp} {K : Env → Hp → Prop} : octroilaw10_TimersOnce_r24 env h K = octroilaw10_TimersOnce_r24 env h K := rfl

/-- law.go:81 -/
def octroilaw10_TimersOnce_r25 (env : Env) (h : Hp) (K : Env → Hp → Prop) : Prop :=
  rd Try.prog (bop Go.BinOp.add 3 (Go.Operand.tmp 137) (Go.Operand.const (Go.Value.int Go.IntKind.i64 1)) (env 14) (Go.Value.int Go.IntKind.i64 1)) noHp fun v138_1 =>
  K (((env.set 137 (env 14)).set 138 v138_1).set 14 v138_1) h
@[congr] theorem octroilaw10_TimersOnce_r25_congr {env : Env} {h : Hp} {K : Env → Hp → Prop} : octroilaw10_TimersOnce_r25 env h K = octroilaw10_TimersOnce_r25 env h K := rfl

/-- law.go:82 -/
def octroilaw10_TimersOnce_r26 (env : Env) (h : Hp) (K : Env → Hp → Prop) : Prop :=
  rd Try.prog (Instr.indexAt 27 (env 16) (env 17)) noHp fun v141_2 =>
  rd Try.prog (Instr.fieldAt 37 v141_2 1) noHp fun v142_3 =>
  rd Try.prog (Instr.loadAt 3 v142_3) h fun v143_4 =>
  rd Try.prog (bop Go.BinOp.neq 3 (Go.Operand.tmp 143) (Go.Operand.tmp 144) v143_4 (env 2)) noHp fun v145_6 =>
  gd (yb v145_6 == some false) (fun h k => k (env 13) h) h fun v147_8 h1 =>
  gd (yb v145_6 == some false) (fun h k => k (env 2) h) h1 fun v148_9 h2 =>
  gd (yb v145_6 == some false) (fun h k => rd Try.prog (bop Go.BinOp.lss 3 (Go.Operand.tmp 147) (Go.Operand.tmp 148) v147_8 v148_9) noHp fun v => k v h) h2 fun v149_10 h3 =>
  rd Try.prog (pck v145_6 (Go.Value.bool true) v149_10) noHp fun v150_11 =>
  K ((((((((((((env.set 139 (env 16)).set 140 (env 17)).set 141 v141_2).set 142 v142_3).set 143 v143_4).set 144 (env 2)).set 145 v145_6).set 146 v145_6).set 147 v147_8).set 148 v148_9).set 149 v149_10).set 150 v150_11) h3
@[congr] theorem octroilaw10_TimersOnce_r26_congr {env : Env} {h : Hp} {K : Env → Hp → Prop} : octroilaw10_TimersOnce_r26 env h K = octroilaw10_TimersOnce_r26 env h K := rfl

/-- law.go:83 -/
def octroilaw10_TimersOnce_r27 (env : Env) (h : Hp) (K : Env → Hp → Prop) : Prop :=
  K (env.set 8 (Go.Value.bool false)) h
@[congr] theorem octroilaw10_TimersOnce_r27_congr {env : Env} {h : Hp} {K : Env → Hp → Prop} : octroilaw10_TimersOnce_r27 env h K = octroilaw10_TimersOnce_r27 env h K := rfl

/-- law.go:79 -/
def octroilaw10_TimersOnce_r28 (env : Env) (h : Hp) (K : Env → Hp → Prop) : Prop :=
  rd Try.prog (bop Go.BinOp.add 3 (Go.Operand.tmp 128) (Go.Operand.const (Go.Value.int Go.IntKind.i64 1)) (env 17) (Go.Value.int Go.IntKind.i64 1)) noHp fun v129_1 =>
  K (((env.set 128 (env 17)).set 129 v129_1).set 17 v129_1) h
@[congr] theorem octroilaw10_TimersOnce_r28_congr {env : Env} {h : Hp} {K : Env → Hp → Prop} : octroilaw10_TimersOnce_r28 env h K = octroilaw10_TimersOnce_r28 env h K := rfl

def octroilaw10_TimersOnce_L1 : Den := (sq (sq (rg octroilaw10_TimersOnce_r23) (cnd (Go.Operand.tmp 127) (ex .normal) (ex (.exit 4)))) (sq (blk 5 (sq (rg octroilaw10_TimersOnce_r24) (cnd (Go.Operand.tmp 136) (sq (rg octroilaw10_TimersOnce_r25) (sq (rg octroilaw10_TimersOnce_r26) (cnd (Go.Operand.tmp 150) (sq (rg octroilaw10_TimersOnce_r27) (ex .ret)) (ex .normal)))) (ex .normal)))) (rg octroilaw10_TimersOnce_r28)))

/-- law.go:87 -/
def octroilaw10_TimersOnce_r29 (env : Env) (h : Hp) (K : Env → Hp → Prop) : Prop :=
  rd Try.prog (bop Go.BinOp.eql 3 (Go.Operand.tmp 151) (Go.Operand.const (Go.Value.int Go.IntKind.i64 1)) (env 14) (Go.Value.int Go.IntKind.i64 1)) noHp fun v152_1 =>
  rd Try.prog (bop Go.BinOp.geq 3 (Go.Operand.tmp 153) (Go.Operand.tmp 154) (env 13) (env 2)) noHp fun v155_4 =>
  rd Try.prog (bop Go.BinOp.neq 4 (Go.Operand.tmp 152) (Go.Operand.tmp 155) v152_1 v155_4) noHp fun v156_5 =>
  K ((((((env.set 151 (env 14)).set 152 v152_1).set 153 (env 13)).set 154 (env 2)).set 155 v155_4).set 156 v156_5) h
@[congr] theorem octroilaw10_TimersOnce_r29_congr {env : Env} {h : Hp} {K : Env → Hp → Prop} : octroilaw10_TimersOnce_r29 env h K = octroilaw10_TimersOnce_r29 env h K := rfl

/-- law.go:88 -/
def octroilaw10_TimersOnce_r30 (env : Env) (h : Hp) (K : Env → Hp → Prop) : Prop :=
  K (env.set 8 (Go.Value.bool false)) h
@[congr] theorem octroilaw10_TimersOnce_r30_congr {env : Env} {h : Hp} {K : Env → Hp → Prop} : octroilaw10_TimersOnce_r30 env h K = octroilaw10_TimersOnce_r30 env h K := rfl

/-- law.go:73 -/
def octroilaw10_TimersOnce_r31 (env : Env) (h : Hp) (K : Env → Hp → Prop) : Prop :=
  rd Try.prog (bop Go.BinOp.add 3 (Go.Operand.tmp 101) (Go.Operand.const (Go.Value.int Go.IntKind.i64 1)) (env 15) (Go.Value.int Go.IntKind.i64 1)) noHp fun v102_1 =>
  K (((env.set 101 (env 15)).set 102 v102_1).set 15 v102_1) h
@[congr] theorem octroilaw10_TimersOnce_r31_congr {env : Env} {h : Hp} {K : Env → Hp → Prop} : octroilaw10_TimersOnce_r31 env h K = octroilaw10_TimersOnce_r31 env h K := rfl

def octroilaw10_TimersOnce_L2 : Den := (sq (sq (rg octroilaw10_TimersOnce_r17) (cnd (Go.Operand.tmp 100) (ex .normal) (ex (.exit 2)))) (sq (blk 3 (sq (sq (rg octroilaw10_TimersOnce_r18) (cnd (Go.Operand.tmp 114) (sq (rg octroilaw10_TimersOnce_r19) (ex .ret)) (ex .normal))) (sq (rg octroilaw10_TimersOnce_r20) (sq (rg octroilaw10_TimersOnce_r21) (sq (sq (rg octroilaw10_TimersOnce_r22) (blk 4 (lp octroilaw10_TimersOnce_L1))) (sq (rg octroilaw10_TimersOnce_r29) (cnd (Go.Operand.tmp 156) (sq (rg octroilaw10_TimersOnce_r30) (ex .ret)) (ex .normal)))))))) (rg octroilaw10_TimersOnce_r31)))

/-- law.go:91 -/
def octroilaw10_TimersOnce_r32 (env : Env) (h : Hp) (K : Env → Hp → Prop) : Prop :=
  rd Try.prog (bop Go.BinOp.eql 25 (Go.Operand.tmp 157) (Go.Operand.const (Go.Value.int Go.IntKind.i64 0)) (env 11) (Go.Value.int Go.IntKind.i64 0)) noHp fun v158_1 =>
  K (((env.set 157 (env 11)).set 158 v158_1).set 8 v158_1) h
@[congr] theorem octroilaw10_TimersOnce_r32_congr {env : Env} {h : Hp} {K : Env → Hp → Prop} : octroilaw10_TimersOnce_r32 env h K = octroilaw10_TimersOnce_r32 env h K := rfl

def octroilaw10_TimersOnce_D : Den := (sq (rg octroilaw10_TimersOnce_r0) (sq (rg octroilaw10_TimersOnce_r1) (sq (rg octroilaw10_TimersOnce_r2) (sq (sq (rg octroilaw10_TimersOnce_r3) (cnd (Go.Operand.tmp 43) (sq (rg octroilaw10_TimersOnce_r4) (ex .ret)) (ex .normal))) (sq (rg octroilaw10_TimersOnce_r5) (sq (sq (rg octroilaw10_TimersOnce_r6) (blk 0 (lp octroilaw10_TimersOnce_L0))) (sq (rg octroilaw10_TimersOnce_r14) (sq (rg octroilaw10_TimersOnce_r15) (sq (sq (rg octroilaw10_TimersOnce_r16) (blk 2 (lp octroilaw10_TimersOnce_L2))) (sq (rg octroilaw10_TimersOnce_r32) (ex .ret)))))))))))

theorem octroilaw10_TimersOnce_eq : (den Try.prog 159 octroilaw10_TimersOnce_code).1 = octroilaw10_TimersOnce_D := by kernel_rfl

theorem octroilaw10_TimersOnce_ok {args : Array Value} {h : Hp} {Q : Value → Hp → Prop} (hn : args.size ≤ 159) (D : octroilaw10_TimersOnce_D (fin Try.prog [(Go.ResultVar.tmp 8)] Q) (env0 args) h) : Ok Try.prog 4 args h Q :=
  ok_of_den progIsOk Try.func4 (c := octroilaw10_TimersOnce_code) (by kernel_rfl) hn (by show (den Try.prog 159 octroilaw10_TimersOnce_code).1 _ _ _; rw [octroilaw10_TimersOnce_eq]; exact D)

/-! ### octroi/octroilaw10.TimersMoved: function 5 -/
noncomputable def octroilaw10_TimersMoved_code : Code := match Try.f5.body with | some c => c | none => .skip

/-- more.go:9 -/
def octroilaw10_TimersMoved_r0 (env : Env) (h : Hp) (K : Env → Hp → Prop) : Prop :=
  K (env.set 10 (Go.Value.bool false)) h
@[congr] theorem octroilaw10_TimersMoved_r0_congr {env : Env} {h : Hp} {K : Env → Hp → Prop} : octroilaw10_TimersMoved_r0 env h K = octroilaw10_TimersMoved_r0 env h K := rfl

/-- more.go:10 -/
def octroilaw10_TimersMoved_r1 (env : Env) (h : Hp) (K : Env → Hp → Prop) : Prop :=
  Ok Try.prog 8 #[] h fun v14_0 h1 =>
  K ((env.set 14 v14_0).set 11 v14_0) h1
@[congr] theorem octroilaw10_TimersMoved_r1_congr {env : Env} {h : Hp} {K : Env → Hp → Prop} : octroilaw10_TimersMoved_r1 env h K = octroilaw10_TimersMoved_r1 env h K := rfl

/-- more.go:11 -/
def octroilaw10_TimersMoved_r2 (env : Env) (h : Hp) (K : Env → Hp → Prop) : Prop :=
  Ok Try.prog 9 #[] h fun v15_0 h1 =>
  K ((env.set 15 v15_0).set 12 v15_0) h1
@[congr] theorem octroilaw10_TimersMoved_r2_congr {env : Env} {h : Hp} {K : Env → Hp → Prop} : octroilaw10_TimersMoved_r2 env h K = octroilaw10_TimersMoved_r2 env h K := rfl

/-- more.go:12 -/
def octroilaw10_TimersMoved_r3 (env : Env) (h : Hp) (K : Env → Hp → Prop) : Prop :=
  rd Try.prog (Op.unary Go.UnOp.not (env 11)) noHp fun v17_1 =>
  gd (yb v17_1 == some false) (fun h k => k (env 12) h) h fun v19_3 h1 =>
  gd (yb v17_1 == some false) (fun h k => rd Try.prog (bop Go.BinOp.eql 23 (Go.Operand.tmp 19) (Go.Operand.const (Go.Value.pointer none)) v19_3 (Go.Value.pointer none)) noHp fun v => k v h) h1 fun v20_4 h2 =>
  rd Try.prog (pck v17_1 (Go.Value.bool true) v20_4) noHp fun v21_5 =>
  gd (yb v21_5 == some false) (fun h k => k (env 1) h) h2 fun v23_7 h3 =>
  gd (yb v21_5 == some false) (fun h k => rd Try.prog (bop Go.BinOp.lss 3 (Go.Operand.tmp 23) (Go.Operand.const (Go.Value.int Go.IntKind.i64 0)) v23_7 (Go.Value.int Go.IntKind.i64 0)) noHp fun v => k v h) h3 fun v24_8 h4 =>
  rd Try.prog (pck v21_5 (Go.Value.bool true) v24_8) noHp fun v25_9 =>
  gd (yb v25_9 == some false) (fun h k => k (env 1) h) h4 fun v27_11 h5 =>
  gd (yb v25_9 == some false) (fun h k => rd Try.prog (bop Go.BinOp.gtr 3 (Go.Operand.tmp 27) (Go.Operand.const (Go.Value.int Go.IntKind.i64 1000000)) v27_11 (Go.Value.int Go.IntKind.i64 1000000)) noHp fun v => k v h) h5 fun v28_12 h6 =>
  rd Try.prog (pck v25_9 (Go.Value.bool true) v28_12) noHp fun v29_13 =>
  gd (yb v29_13 == some false) (fun h k => k (env 2) h) h6 fun v31_15 h7 =>
  gd (yb v29_13 == some false) (fun h k => rd Try.prog (bop Go.BinOp.lss 3 (Go.Operand.tmp 31) (Go.Operand.const (Go.Value.int Go.IntKind.i64 0)) v31_15 (Go.Value.int Go.IntKind.i64 0)) noHp fun v => k v h) h7 fun v32_16 h8 =>
  rd Try.prog (pck v29_13 (Go.Value.bool true) v32_16) noHp fun v33_17 =>
  gd (yb v33_17 == some false) (fun h k => k (env 2) h) h8 fun v35_19 h9 =>
  gd (yb v33_17 == some false) (fun h k => rd Try.prog (bop Go.BinOp.gtr 3 (Go.Operand.tmp 35) (Go.Operand.const (Go.Value.int Go.IntKind.i64 1000000)) v35_19 (Go.Value.int Go.IntKind.i64 1000000)) noHp fun v => k v h) h9 fun v36_20 h10 =>
  rd Try.prog (pck v33_17 (Go.Value.bool true) v36_20) noHp fun v37_21 =>
  K ((((((((((((((((((((((env.set 16 (env 11)).set 17 v17_1).set 18 v17_1).set 19 v19_3).set 20 v20_4).set 21 v21_5).set 22 v21_5).set 23 v23_7).set 24 v24_8).set 25 v25_9).set 26 v25_9).set 27 v27_11).set 28 v28_12).set 29 v29_13).set 30 v29_13).set 31 v31_15).set 32 v32_16).set 33 v33_17).set 34 v33_17).set 35 v35_19).set 36 v36_20).set 37 v37_21) h10
@[congr] theorem octroilaw10_TimersMoved_r3_congr {env : Env} {h : Hp} {K : Env → Hp → Prop} : octroilaw10_TimersMoved_r3 env h K = octroilaw10_TimersMoved_r3 env h K := rfl

/-- more.go:13 -/
def octroilaw10_TimersMoved_r4 (env : Env) (h : Hp) (K : Env → Hp → Prop) : Prop :=
  gd (yb (env 11) == some true) (fun h k => k (env 12) h) h fun v40_2 h1 =>
  gd (yb (env 11) == some true) (fun h k => rd Try.prog (bop Go.BinOp.neq 23 (Go.Operand.tmp 40) (Go.Operand.const (Go.Value.pointer none)) v40_2 (Go.Value.pointer none)) noHp fun v => k v h) h1 fun v41_3 h2 =>
  rd Try.prog (pck (env 11) v41_3 (Go.Value.bool false)) noHp fun v42_4 =>
  K ((((((env.set 38 (env 11)).set 39 (env 11)).set 40 v40_2).set 41 v41_3).set 42 v42_4).set 10 v42_4) h2
@[congr] theorem octroilaw10_TimersMoved_r4_congr {env : Env} {h : Hp} {K : Env → Hp → Prop} : octroilaw10_TimersMoved_r4 env h K = octroilaw10_TimersMoved_r4 env h K := rfl

/-- more.go:15 -/
def octroilaw10_TimersMoved_r5 (env : Env) (h : Hp) (K : Env → Hp → Prop) : Prop :=
  Ok Try.prog 10 #[(env 12), (env 0), (env 1)] h fun v46_3 h1 =>
  K ((((env.set 43 (env 12)).set 44 (env 0)).set 45 (env 1)).set 46 v46_3) h1
@[congr] theorem octroilaw10_TimersMoved_r5_congr {env : Env} {h : Hp} {K : Env → Hp → Prop} : octroilaw10_TimersMoved_r5 env h K = octroilaw10_TimersMoved_r5 env h K := rfl

/-- more.go:16 -/
def octroilaw10_TimersMoved_r6 (env : Env) (h : Hp) (K : Env → Hp → Prop) : Prop :=
  Ok Try.prog 10 #[(env 12), (env 0), (env 2)] h fun v50_3 h1 =>
  K ((((env.set 47 (env 12)).set 48 (env 0)).set 49 (env 2)).set 50 v50_3) h1
@[congr] theorem octroilaw10_TimersMoved_r6_congr {env : Env} {h : Hp} {K : Env → Hp → Prop} : octroilaw10_TimersMoved_r6 env h K = octroilaw10_TimersMoved_r6 env h K := rfl

/-- more.go:17 -/
def octroilaw10_TimersMoved_r7 (env : Env) (h : Hp) (K : Env → Hp → Prop) : Prop :=
  K (env.set 51 (env 4)) h
@[congr] theorem octroilaw10_TimersMoved_r7_congr {env : Env} {h : Hp} {K : Env → Hp → Prop} : octroilaw10_TimersMoved_r7 env h K = octroilaw10_TimersMoved_r7 env h K := rfl

/-- more.go:18 -/
def octroilaw10_TimersMoved_r8 (env : Env) (h : Hp) (K : Env → Hp → Prop) : Prop :=
  Ok Try.prog 13 #[(env 12), (env 0)] h fun v54_2 h1 =>
  K (((env.set 52 (env 12)).set 53 (env 0)).set 54 v54_2) h1
@[congr] theorem octroilaw10_TimersMoved_r8_congr {env : Env} {h : Hp} {K : Env → Hp → Prop} : octroilaw10_TimersMoved_r8 env h K = octroilaw10_TimersMoved_r8 env h K := rfl

/-- more.go:20 -/
def octroilaw10_TimersMoved_r9 (env : Env) (h : Hp) (K : Env → Hp → Prop) : Prop :=
  Ok Try.prog 11 #[(env 12), (env 3)] h fun v57_2 h1 =>
  K ((((env.set 55 (env 12)).set 56 (env 3)).set 57 v57_2).set 13 v57_2) h1
@[congr] theorem octroilaw10_TimersMoved_r9_congr {env : Env} {h : Hp} {K : Env → Hp → Prop} : octroilaw10_TimersMoved_r9 env h K = octroilaw10_TimersMoved_r9 env h K := rfl

/-- more.go:21 -/
def octroilaw10_TimersMoved_r10 (env : Env) (h : Hp) (K : Env → Hp → Prop) : Prop :=
  gd (yb (env 4) == some false) (fun h k => k (env 3) h) h fun v60_2 h1 =>
  gd (yb (env 4) == some false) (fun h k => k (env 2) h) h1 fun v61_3 h2 =>
  gd (yb (env 4) == some false) (fun h k => rd Try.prog (bop Go.BinOp.lss 3 (Go.Operand.tmp 60) (Go.Operand.tmp 61) v60_2 v61_3) noHp fun v => k v h) h2 fun v62_4 h3 =>
  rd Try.prog (pck (env 4) (Go.Value.bool true) v62_4) noHp fun v63_5 =>
  K ((((((env.set 58 (env 4)).set 59 (env 4)).set 60 v60_2).set 61 v61_3).set 62 v62_4).set 63 v63_5) h3
@[congr] theorem octroilaw10_TimersMoved_r10_congr {env : Env} {h : Hp} {K : Env → Hp → Prop} : octroilaw10_TimersMoved_r10 env h K = octroilaw10_TimersMoved_r10 env h K := rfl

/-- more.go:22 -/
def octroilaw10_TimersMoved_r11 (env : Env) (h : Hp) (K : Env → Hp → Prop) : Prop :=
  rd Try.prog (Builtin.len_ #[27] 3 #[(env 13)]) h fun v65_1 =>
  rd Try.prog (bop Go.BinOp.eql 3 (Go.Operand.tmp 65) (Go.Operand.const (Go.Value.int Go.IntKind.i64 0)) v65_1 (Go.Value.int Go.IntKind.i64 0)) noHp fun v66_2 =>
  K ((((env.set 64 (env 13)).set 65 v65_1).set 66 v66_2).set 10 v66_2) h
@[congr] theorem octroilaw10_TimersMoved_r11_congr {env : Env} {h : Hp} {K : Env → Hp → Prop} : octroilaw10_TimersMoved_r11 env h K = octroilaw10_TimersMoved_r11 env h K := rfl

/-- more.go:24 -/
def octroilaw10_TimersMoved_r12 (env : Env) (h : Hp) (K : Env → Hp → Prop) : Prop :=
  rd Try.prog (Builtin.len_ #[27] 3 #[(env 13)]) h fun v68_1 =>
  rd Try.prog (bop Go.BinOp.eql 3 (Go.Operand.tmp 68) (Go.Operand.const (Go.Value.int Go.IntKind.i64 1)) v68_1 (Go.Value.int Go.IntKind.i64 1)) noHp fun v69_2 =>
  gd (yb v69_2 == some true) (fun h k => k (env 13) h) h fun v71_4 h1 =>
  gd (yb v69_2 == some true) (fun h k => rd Try.prog (Instr.indexAt 27 v71_4 (Go.Value.int Go.IntKind.i64 0)) noHp fun v => k v h) h1 fun v72_5 h2 =>
  gd (yb v69_2 == some true) (fun h k => rd Try.prog (Instr.fieldAt 37 v72_5 0) noHp fun v => k v h) h2 fun v73_6 h3 =>
  gd (yb v69_2 == some true) (fun h k => rd Try.prog (Instr.loadAt 3 v73_6) h fun v => k v h) h3 fun v74_7 h4 =>
  gd (yb v69_2 == some true) (fun h k => k (env 0) h) h4 fun v75_8 h5 =>
  gd (yb v69_2 == some true) (fun h k => rd Try.prog (bop Go.BinOp.eql 3 (Go.Operand.tmp 74) (Go.Operand.tmp 75) v74_7 v75_8) noHp fun v => k v h) h5 fun v76_9 h6 =>
  rd Try.prog (pck v69_2 v76_9 (Go.Value.bool false)) noHp fun v77_10 =>
  gd (yb v77_10 == some true) (fun h k => k (env 13) h) h6 fun v79_12 h7 =>
  gd (yb v77_10 == some true) (fun h k => rd Try.prog (Instr.indexAt 27 v79_12 (Go.Value.int Go.IntKind.i64 0)) noHp fun v => k v h) h7 fun v80_13 h8 =>
  gd (yb v77_10 == some true) (fun h k => rd Try.prog (Instr.fieldAt 37 v80_13 1) noHp fun v => k v h) h8 fun v81_14 h9 =>
  gd (yb v77_10 == some true) (fun h k => rd Try.prog (Instr.loadAt 3 v81_14) h fun v => k v h) h9 fun v82_15 h10 =>
  gd (yb v77_10 == some true) (fun h k => k (env 2) h) h10 fun v83_16 h11 =>
  gd (yb v77_10 == some true) (fun h k => rd Try.prog (bop Go.BinOp.eql 3 (Go.Operand.tmp 82) (Go.Operand.tmp 83) v82_15 v83_16) noHp fun v => k v h) h11 fun v84_17 h12 =>
  rd Try.prog (pck v77_10 v84_17 (Go.Value.bool false)) noHp fun v85_18 =>
  K ((((((((((((((((((((env.set 67 (env 13)).set 68 v68_1).set 69 v69_2).set 70 v69_2).set 71 v71_4).set 72 v72_5).set 73 v73_6).set 74 v74_7).set 75 v75_8).set 76 v76_9).set 77 v77_10).set 78 v77_10).set 79 v79_12).set 80 v80_13).set 81 v81_14).set 82 v82_15).set 83 v83_16).set 84 v84_17).set 85 v85_18).set 10 v85_18) h12
@[congr] theorem octroilaw10_TimersMoved_r12_congr {env : Env} {h : Hp} {K : Env → Hp → Prop} : octroilaw10_TimersMoved_r12 env h K = octroilaw10_TimersMoved_r12 env h K := rfl

def octroilaw10_TimersMoved_D : Den := (sq (rg octroilaw10_TimersMoved_r0) (sq (rg octroilaw10_TimersMoved_r1) (sq (rg octroilaw10_TimersMoved_r2) (sq (sq (rg octroilaw10_TimersMoved_r3) (cnd (Go.Operand.tmp 37) (sq (rg octroilaw10_TimersMoved_r4) (ex .ret)) (ex .normal))) (sq (rg octroilaw10_TimersMoved_r5) (sq (rg octroilaw10_TimersMoved_r6) (sq (sq (rg octroilaw10_TimersMoved_r7) (cnd (Go.Operand.tmp 51) (rg octroilaw10_TimersMoved_r8) (ex .normal))) (sq (rg octroilaw10_TimersMoved_r9) (sq (sq (rg octroilaw10_TimersMoved_r10) (cnd (Go.Operand.tmp 63) (sq (rg octroilaw10_TimersMoved_r11) (ex .ret)) (ex .normal))) (sq (rg octroilaw10_TimersMoved_r12) (ex .ret)))))))))))

theorem octroilaw10_TimersMoved_eq : (den Try.prog 86 octroilaw10_TimersMoved_code).1 = octroilaw10_TimersMoved_D := by kernel_rfl

theorem octroilaw10_TimersMoved_ok {args : Array Value} {h : Hp} {Q : Value → Hp → Prop} (hn : args.size ≤ 86) (D : octroilaw10_TimersMoved_D (fin Try.prog [(Go.ResultVar.tmp 10)] Q) (env0 args) h) : Ok Try.prog 5 args h Q :=
  ok_of_den progIsOk Try.func5 (c := octroilaw10_TimersMoved_code) (by kernel_rfl) hn (by show (den Try.prog 86 octroilaw10_TimersMoved_code).1 _ _ _; rw [octroilaw10_TimersMoved_eq]; exact D)

/-! ### octroi/octroilaw10.TimersOrder: function 6 -/
noncomputable def octroilaw10_TimersOrder_code : Code := match Try.f6.body with | some c => c | none => .skip

/-- law.go:95 -/
def octroilaw10_TimersOrder_r0 (env : Env) (h : Hp) (K : Env → Hp → Prop) : Prop :=
  K (env.set 4 (Go.Value.bool false)) h
@[congr] theorem octroilaw10_TimersOrder_r0_congr {env : Env} {h : Hp} {K : Env → Hp → Prop} : octroilaw10_TimersOrder_r0 env h K = octroilaw10_TimersOrder_r0 env h K := rfl

/-- law.go:96 -/
def octroilaw10_TimersOrder_r1 (env : Env) (h : Hp) (K : Env → Hp → Prop) : Prop :=
  Ok Try.prog 8 #[] h fun v13_0 h1 =>
  K ((env.set 13 v13_0).set 5 v13_0) h1
@[congr] theorem octroilaw10_TimersOrder_r1_congr {env : Env} {h : Hp} {K : Env → Hp → Prop} : octroilaw10_TimersOrder_r1 env h K = octroilaw10_TimersOrder_r1 env h K := rfl

/-- law.go:97 -/
def octroilaw10_TimersOrder_r2 (env : Env) (h : Hp) (K : Env → Hp → Prop) : Prop :=
  Ok Try.prog 9 #[] h fun v14_0 h1 =>
  K ((env.set 14 v14_0).set 6 v14_0) h1
@[congr] theorem octroilaw10_TimersOrder_r2_congr {env : Env} {h : Hp} {K : Env → Hp → Prop} : octroilaw10_TimersOrder_r2 env h K = octroilaw10_TimersOrder_r2 env h K := rfl

/-- law.go:98 -/
def octroilaw10_TimersOrder_r3 (env : Env) (h : Hp) (K : Env → Hp → Prop) : Prop :=
  rd Try.prog (Op.unary Go.UnOp.not (env 5)) noHp fun v16_1 =>
  gd (yb v16_1 == some false) (fun h k => k (env 6) h) h fun v18_3 h1 =>
  gd (yb v16_1 == some false) (fun h k => rd Try.prog (bop Go.BinOp.eql 23 (Go.Operand.tmp 18) (Go.Operand.const (Go.Value.pointer none)) v18_3 (Go.Value.pointer none)) noHp fun v => k v h) h1 fun v19_4 h2 =>
  rd Try.prog (pck v16_1 (Go.Value.bool true) v19_4) noHp fun v20_5 =>
  gd (yb v20_5 == some false) (fun h k => k (env 0) h) h2 fun v22_7 h3 =>
  gd (yb v20_5 == some false) (fun h k => rd Try.prog (Builtin.len_ #[31] 3 #[v22_7]) h fun v => k v h) h3 fun v23_8 h4 =>
  gd (yb v20_5 == some false) (fun h k => rd Try.prog (bop Go.BinOp.gtr 3 (Go.Operand.tmp 23) (Go.Operand.const (Go.Value.int Go.IntKind.i64 400)) v23_8 (Go.Value.int Go.IntKind.i64 400)) noHp fun v => k v h) h4 fun v24_9 h5 =>
  rd Try.prog (pck v20_5 (Go.Value.bool true) v24_9) noHp fun v25_10 =>
  K (((((((((((env.set 15 (env 5)).set 16 v16_1).set 17 v16_1).set 18 v18_3).set 19 v19_4).set 20 v20_5).set 21 v20_5).set 22 v22_7).set 23 v23_8).set 24 v24_9).set 25 v25_10) h5
@[congr] theorem octroilaw10_TimersOrder_r3_congr {env : Env} {h : Hp} {K : Env → Hp → Prop} : octroilaw10_TimersOrder_r3 env h K = octroilaw10_TimersOrder_r3 env h K := rfl

/-- law.go:99 -/
def octroilaw10_TimersOrder_r4 (env : Env) (h : Hp) (K : Env → Hp → Prop) : Prop :=
  gd (yb (env 5) == some true) (fun h k => k (env 6) h) h fun v28_2 h1 =>
  gd (yb (env 5) == some true) (fun h k => rd Try.prog (bop Go.BinOp.neq 23 (Go.Operand.tmp 28) (Go.Operand.const (Go.Value.pointer none)) v28_2 (Go.Value.pointer none)) noHp fun v => k v h) h1 fun v29_3 h2 =>
  rd Try.prog (pck (env 5) v29_3 (Go.Value.bool false)) noHp fun v30_4 =>
  K ((((((env.set 26 (env 5)).set 27 (env 5)).set 28 v28_2).set 29 v29_3).set 30 v30_4).set 4 v30_4) h2
@[congr] theorem octroilaw10_TimersOrder_r4_congr {env : Env} {h : Hp} {K : Env → Hp → Prop} : octroilaw10_TimersOrder_r4 env h K = octroilaw10_TimersOrder_r4 env h K := rfl

/-- law.go:101 -/
def octroilaw10_TimersOrder_r5 (env : Env) (h : Hp) (K : Env → Hp → Prop) : Prop :=
  K (env.set 7 (Go.Value.int Go.IntKind.i64 0)) h
@[congr] theorem octroilaw10_TimersOrder_r5_congr {env : Env} {h : Hp} {K : Env → Hp → Prop} : octroilaw10_TimersOrder_r5 env h K = octroilaw10_TimersOrder_r5 env h K := rfl

/-- law.go:101 -/
def octroilaw10_TimersOrder_r6 (env : Env) (h : Hp) (K : Env → Hp → Prop) : Prop :=
  rd Try.prog (Builtin.len_ #[31] 3 #[(env 0)]) h fun v33_2 =>
  rd Try.prog (bop Go.BinOp.lss 3 (Go.Operand.tmp 31) (Go.Operand.tmp 33) (env 7) v33_2) noHp fun v34_3 =>
  K ((((env.set 31 (env 7)).set 32 (env 0)).set 33 v33_2).set 34 v34_3) h
@[congr] theorem octroilaw10_TimersOrder_r6_congr {env : Env} {h : Hp} {K : Env → Hp → Prop} : octroilaw10_TimersOrder_r6 env h K = octroilaw10_TimersOrder_r6 env h K := rfl

/-- law.go:102 (in any order) -/
def octroilaw10_TimersOrder_r7 (env : Env) (h : Hp) (K : Env → Hp → Prop) : Prop :=
  rd Try.prog (Instr.indexAt 31 (env 0) (env 7)) noHp fun v40_3 =>
  rd Try.prog (Instr.fieldAt 34 v40_3 1) noHp fun v41_4 =>
  rd Try.prog (Instr.loadAt 3 v41_4) h fun v42_5 =>
  rd Try.prog (Instr.indexAt 31 (env 0) (env 7)) noHp fun v45_8 =>
  rd Try.prog (Instr.fieldAt 34 v45_8 2) noHp fun v46_9 =>
  rd Try.prog (Instr.loadAt 3 v46_9) h fun v47_10 =>
  Ok Try.prog 10 #[(env 6), v42_5, v47_10] h fun v48_11 h1 =>
  (True) ∧
  K ((((((((((((env.set 37 (env 6)).set 38 (env 0)).set 39 (env 7)).set 40 v40_3).set 41 v41_4).set 42 v42_5).set 43 (env 0)).set 44 (env 7)).set 45 v45_8).set 46 v46_9).set 47 v47_10).set 48 v48_11) h1
@[congr] theorem octroilaw10_TimersOrder_r7_congr {env : Env} {h : Hp} {K : Env → Hp → Prop} : octroilaw10_TimersOrder_r7 env h K = octroilaw10_TimersOrder_r7 env h K := rfl

/-- law.go:101 -/
def octroilaw10_TimersOrder_r8 (env : Env) (h : Hp) (K : Env → Hp → Prop) : Prop :=
  rd Try.prog (bop Go.BinOp.add 3 (Go.Operand.tmp 35) (Go.Operand.const (Go.Value.int Go.IntKind.i64 1)) (env 7) (Go.Value.int Go.IntKind.i64 1)) noHp fun v36_1 =>
  K (((env.set 35 (env 7)).set 36 v36_1).set 7 v36_1) h
@[congr] theorem octroilaw10_TimersOrder_r8_congr {env : Env} {h : Hp} {K : Env → Hp → Prop} : octroilaw10_TimersOrder_r8 env h K = octroilaw10_TimersOrder_r8 env h K := rfl

def octroilaw10_TimersOrder_L0 : Den := (sq (sq (rg octroilaw10_TimersOrder_r6) (cnd (Go.Operand.tmp 34) (ex .normal) (ex (.exit 0)))) (sq (blk 1 (rg octroilaw10_TimersOrder_r7)) (rg octroilaw10_TimersOrder_r8)))

/-- law.go:104 -/
def octroilaw10_TimersOrder_r9 (env : Env) (h : Hp) (K : Env → Hp → Prop) : Prop :=
  Ok Try.prog 12 #[(env 6)] h fun v50_1 h1 =>
  K (((env.set 49 (env 6)).set 50 v50_1).set 8 v50_1) h1
@[congr] theorem octroilaw10_TimersOrder_r9_congr {env : Env} {h : Hp} {K : Env → Hp → Prop} : octroilaw10_TimersOrder_r9 env h K = octroilaw10_TimersOrder_r9 env h K := rfl

/-- law.go:105 -/
def octroilaw10_TimersOrder_r10 (env : Env) (h : Hp) (K : Env → Hp → Prop) : Prop :=
  Ok Try.prog 11 #[(env 6), (env 1)] h fun v53_2 h1 =>
  K ((((env.set 51 (env 6)).set 52 (env 1)).set 53 v53_2).set 9 v53_2) h1
@[congr] theorem octroilaw10_TimersOrder_r10_congr {env : Env} {h : Hp} {K : Env → Hp → Prop} : octroilaw10_TimersOrder_r10 env h K = octroilaw10_TimersOrder_r10 env h K := rfl

/-- law.go:106 -/
def octroilaw10_TimersOrder_r11 (env : Env) (h : Hp) (K : Env → Hp → Prop) : Prop :=
  K (env.set 10 (Go.Value.int Go.IntKind.i64 0)) h
@[congr] theorem octroilaw10_TimersOrder_r11_congr {env : Env} {h : Hp} {K : Env → Hp → Prop} : octroilaw10_TimersOrder_r11 env h K = octroilaw10_TimersOrder_r11 env h K := rfl

/-- law.go:106 -/
def octroilaw10_TimersOrder_r12 (env : Env) (h : Hp) (K : Env → Hp → Prop) : Prop :=
  rd Try.prog (Builtin.len_ #[27] 3 #[(env 9)]) h fun v56_2 =>
  rd Try.prog (bop Go.BinOp.lss 3 (Go.Operand.tmp 54) (Go.Operand.tmp 56) (env 10) v56_2) noHp fun v57_3 =>
  K ((((env.set 54 (env 10)).set 55 (env 9)).set 56 v56_2).set 57 v57_3) h
@[congr] theorem octroilaw10_TimersOrder_r12_congr {env : Env} {h : Hp} {K : Env → Hp → Prop} : octroilaw10_TimersOrder_r12 env h K = octroilaw10_TimersOrder_r12 env h K := rfl

/-- law.go:107 (in any order) -/
def octroilaw10_TimersOrder_r13 (env : Env) (h : Hp) (K : Env → Hp → Prop) : Prop :=
  rd Try.prog (Instr.indexAt 27 (env 9) (env 10)) noHp fun v62_2 =>
  rd Try.prog (Instr.fieldAt 37 v62_2 1) noHp fun v63_3 =>
  rd Try.prog (Instr.loadAt 3 v63_3) h fun v64_4 =>
  rd Try.prog (bop Go.BinOp.gtr 3 (Go.Operand.tmp 64) (Go.Operand.tmp 65) v64_4 (env 1)) noHp fun v66_6 =>
  gd (yb v66_6 == some false) (fun h k => k (env 10) h) h fun v68_8 h1 =>
  gd (yb v66_6 == some false) (fun h k => rd Try.prog (bop Go.BinOp.gtr 3 (Go.Operand.tmp 68) (Go.Operand.const (Go.Value.int Go.IntKind.i64 0)) v68_8 (Go.Value.int Go.IntKind.i64 0)) noHp fun v => k v h) h1 fun v69_9 h2 =>
  gd (yb v66_6 == some false) (fun h k => k v69_9 h) h2 fun v70_10 h3 =>
  gd (yb v70_10 == some true) (fun h k => k (env 9) h) h3 fun v71_11 h4 =>
  gd (yb v70_10 == some true) (fun h k => k (env 10) h) h4 fun v72_12 h5 =>
  gd (yb v70_10 == some true) (fun h k => rd Try.prog (bop Go.BinOp.sub 3 (Go.Operand.tmp 72) (Go.Operand.const (Go.Value.int Go.IntKind.i64 1)) v72_12 (Go.Value.int Go.IntKind.i64 1)) noHp fun v => k v h) h5 fun v73_13 h6 =>
  gd (yb v70_10 == some true) (fun h k => rd Try.prog (Instr.indexAt 27 v71_11 v73_13) noHp fun v => k v h) h6 fun v74_14 h7 =>
  gd (yb v70_10 == some true) (fun h k => rd Try.prog (Instr.fieldAt 37 v74_14 1) noHp fun v => k v h) h7 fun v75_15 h8 =>
  gd (yb v70_10 == some true) (fun h k => rd Try.prog (Instr.loadAt 3 v75_15) h fun v => k v h) h8 fun v76_16 h9 =>
  gd (yb v70_10 == some true) (fun h k => k (env 9) h) h9 fun v77_17 h10 =>
  gd (yb v70_10 == some true) (fun h k => k (env 10) h) h10 fun v78_18 h11 =>
  gd (yb v70_10 == some true) (fun h k => rd Try.prog (Instr.indexAt 27 v77_17 v78_18) noHp fun v => k v h) h11 fun v79_19 h12 =>
  gd (yb v70_10 == some true) (fun h k => rd Try.prog (Instr.fieldAt 37 v79_19 1) noHp fun v => k v h) h12 fun v80_20 h13 =>
  gd (yb v70_10 == some true) (fun h k => rd Try.prog (Instr.loadAt 3 v80_20) h fun v => k v h) h13 fun v81_21 h14 =>
  gd (yb v70_10 == some true) (fun h k => rd Try.prog (bop Go.BinOp.gtr 3 (Go.Operand.tmp 76) (Go.Operand.tmp 81) v76_16 v81_21) noHp fun v => k v h) h14 fun v82_22 h15 =>
  gd (yb v70_10 == some true) (fun h k => k v82_22 h) h15 fun v83_23 h16 =>
  gd (yb v83_23 == some false) (fun h k => k (env 9) h) h16 fun v84_24 h17 =>
  gd (yb v83_23 == some false) (fun h k => k (env 10) h) h17 fun v85_25 h18 =>
  gd (yb v83_23 == some false) (fun h k => rd Try.prog (bop Go.BinOp.sub 3 (Go.Operand.tmp 85) (Go.Operand.const (Go.Value.int Go.IntKind.i64 1)) v85_25 (Go.Value.int Go.IntKind.i64 1)) noHp fun v => k v h) h18 fun v86_26 h19 =>
  gd (yb v83_23 == some false) (fun h k => rd Try.prog (Instr.indexAt 27 v84_24 v86_26) noHp fun v => k v h) h19 fun v87_27 h20 =>
  gd (yb v83_23 == some false) (fun h k => rd Try.prog (Instr.fieldAt 37 v87_27 1) noHp fun v => k v h) h20 fun v88_28 h21 =>
  gd (yb v83_23 == some false) (fun h k => rd Try.prog (Instr.loadAt 3 v88_28) h fun v => k v h) h21 fun v89_29 h22 =>
  gd (yb v83_23 == some false) (fun h k => k (env 9) h) h22 fun v90_30 h23 =>
  gd (yb v83_23 == some false) (fun h k => k (env 10) h) h23 fun v91_31 h24 =>
  gd (yb v83_23 == some false) (fun h k => rd Try.prog (Instr.indexAt 27 v90_30 v91_31) noHp fun v => k v h) h24 fun v92_32 h25 =>
  gd (yb v83_23 == some false) (fun h k => rd Try.prog (Instr.fieldAt 37 v92_32 1) noHp fun v => k v h) h25 fun v93_33 h26 =>
  gd (yb v83_23 == some false) (fun h k => rd Try.prog (Instr.loadAt 3 v93_33) h fun v => k v h) h26 fun v94_34 h27 =>
  gd (yb v83_23 == some false) (fun h k => rd Try.prog (bop Go.BinOp.eql 3 (Go.Operand.tmp 89) (Go.Operand.tmp 94) v89_29 v94_34) noHp fun v => k v h) h27 fun v95_35 h28 =>
  gd (yb v83_23 == some false) (fun h k => k v95_35 h) h28 fun v96_36 h29 =>
  gd (yb v96_36 == some true) (fun h k => k (env 9) h) h29 fun v97_37 h30 =>
  gd (yb v96_36 == some true) (fun h k => k (env 10) h) h30 fun v98_38 h31 =>
  gd (yb v96_36 == some true) (fun h k => rd Try.prog (bop Go.BinOp.sub 3 (Go.Operand.tmp 98) (Go.Operand.const (Go.Value.int Go.IntKind.i64 1)) v98_38 (Go.Value.int Go.IntKind.i64 1)) noHp fun v => k v h) h31 fun v99_39 h32 =>
  gd (yb v96_36 == some true) (fun h k => rd Try.prog (Instr.indexAt 27 v97_37 v99_39) noHp fun v => k v h) h32 fun v100_40 h33 =>
  gd (yb v96_36 == some true) (fun h k => rd Try.prog (Instr.fieldAt 37 v100_40 0) noHp fun v => k v h) h33 fun v101_41 h34 =>
  gd (yb v96_36 == some true) (fun h k => rd Try.prog (Instr.loadAt 3 v101_41) h fun v => k v h) h34 fun v102_42 h35 =>
  gd (yb v96_36 == some true) (fun h k => k (env 9) h) h35 fun v103_43 h36 =>
  gd (yb v96_36 == some true) (fun h k => k (env 10) h) h36 fun v104_44 h37 =>
  gd (yb v96_36 == some true) (fun h k => rd Try.prog (Instr.indexAt 27 v103_43 v104_44) noHp fun v => k v h) h37 fun v105_45 h38 =>
  gd (yb v96_36 == some true) (fun h k => rd Try.prog (Instr.fieldAt 37 v105_45 0) noHp fun v => k v h) h38 fun v106_46 h39 =>
  gd (yb v96_36 == some true) (fun h k => rd Try.prog (Instr.loadAt 3 v106_46) h fun v => k v h) h39 fun v107_47 h40 =>
  gd (yb v96_36 == some true) (fun h k => rd Try.prog (bop Go.BinOp.geq 3 (Go.Operand.tmp 102) (Go.Operand.tmp 107) v102_42 v107_47) noHp fun v => k v h) h40 fun v108_48 h41 =>
  gd (yb v83_23 == some false) (fun h k => rd Try.prog (pck v96_36 v108_48 (Go.Value.bool false)) noHp fun v => k v h) h41 fun v109_49 h42 =>
  gd (yb v70_10 == some true) (fun h k => rd Try.prog (pck v83_23 (Go.Value.bool true) v109_49) noHp fun v => k v h) h42 fun v110_50 h43 =>
  gd (yb v66_6 == some false) (fun h k => rd Try.prog (pck v70_10 v110_50 (Go.Value.bool false)) noHp fun v => k v h) h43 fun v111_51 h44 =>
  rd Try.prog (pck v66_6 (Go.Value.bool true) v111_51) noHp fun v112_52 =>
  K (((((((((((((((((((((((((((((((((((((((((((((((((((((env.set 60 (env 9)).set 61 (env 10)).set 62 v62_2).set 63 v63_3).set 64 v64_4).set 65 (env 1)).set 66 v66_6).set 67 v66_6).set 68 v68_8).set 69 v69_9).set 70 v70_10).set 71 v71_11).set 72 v72_12).set 73 v73_13).set 74 v74_14).set 75 v75_15).set 76 v76_16).set 77 v77_17).set 78 v78_18).set 79 v79_19).set 80 v80_20).set 81 v81_21).set 82 v82_22).set 83 v83_23).set 84 v84_24).set 85 v85_25).set 86 v86_26).set 87 v87_27).set 88 v88_28).set 89 v89_29).set 90 v90_30).set 91 v91_31).set 92 v92_32).set 93 v93_33).set 94 v94_34).set 95 v95_35).set 96 v96_36).set 97 v97_37).set 98 v98_38).set 99 v99_39).set 100 v100_40).set 101 v101_41).set 102 v102_42).set 103 v103_43).set 104 v104_44).set 105 v105_45).set 106 v106_46).set 107 v107_47).set 108 v108_48).set 109 v109_49).set 110 v110_50).set 111 v111_51).set 112 v112_52) h44
@[congr] theorem octroilaw10_TimersOrder_r13_congr {env : Env} {h : Hp} {K : Env → Hp → Prop} : octroilaw10_TimersOrder_r13 env h K = octroilaw10_TimersOrder_r13 env h K := rfl

/-- law.go:108 -/
def octroilaw10_TimersOrder_r14 (env : Env) (h : Hp) (K : Env → Hp → Prop) : Prop :=
  K (env.set 4 (Go.Value.bool false)) h
@[congr] theorem octroilaw10_TimersOrder_r14_congr {env : Env} {h : Hp} {K : Env → Hp → Prop} : octroilaw10_TimersOrder_r14 env h K = octroilaw10_TimersOrder_r14 env h K := rfl

/-- law.go:106 -/
def octroilaw10_TimersOrder_r15 (env : Env) (h : Hp) (K : Env → Hp → Prop) : Prop :=
  rd Try.prog (bop Go.BinOp.add 3 (Go.Operand.tmp 58) (Go.Operand.const (Go.Value.int Go.IntKind.i64 1)) (env 10) (Go.Value.int Go.IntKind.i64 1)) noHp fun v59_1 =>
  K (((env.set 58 (env 10)).set 59 v59_1).set 10 v59_1) h
@[congr] theorem octroilaw10_TimersOrder_r15_congr {env : Env} {h : Hp} {K : Env → Hp → Prop} : octroilaw10_TimersOrder_r15 env h K = octroilaw10_TimersOrder_r15 env h K := rfl

def octroilaw10_TimersOrder_L1 : Den := (sq (sq (rg octroilaw10_TimersOrder_r12) (cnd (Go.Operand.tmp 57) (ex .normal) (ex (.exit 2)))) (sq (blk 3 (sq (rg octroilaw10_TimersOrder_r13) (cnd (Go.Operand.tmp 112) (sq (rg octroilaw10_TimersOrder_r14) (ex .ret)) (ex .normal)))) (rg octroilaw10_TimersOrder_r15)))

/-- law.go:111 -/
def octroilaw10_TimersOrder_r16 (env : Env) (h : Hp) (K : Env → Hp → Prop) : Prop :=
  Ok Try.prog 14 #[(env 6)] h fun v115_1 h1 =>
  rd Try.prog (Instr.extract v115_1 0) noHp fun v116_3 =>
  rd Try.prog (Instr.extract v115_1 1) noHp fun v117_4 =>
  K (((((((env.set 114 (env 6)).set 115 v115_1).set 113 v115_1).set 116 v116_3).set 117 v117_4).set 11 v116_3).set 12 v117_4) h1
@[congr] theorem octroilaw10_TimersOrder_r16_congr {env : Env} {h : Hp} {K : Env → Hp → Prop} : octroilaw10_TimersOrder_r16 env h K = octroilaw10_TimersOrder_r16 env h K := rfl

/-- law.go:112 -/
def octroilaw10_TimersOrder_r17 (env : Env) (h : Hp) (K : Env → Hp → Prop) : Prop :=
  Ok Try.prog 12 #[(env 6)] h fun v119_1 h1 =>
  rd Try.prog (Builtin.len_ #[27] 3 #[(env 9)]) h1 fun v122_4 =>
  rd Try.prog (bop Go.BinOp.sub 3 (Go.Operand.tmp 120) (Go.Operand.tmp 122) (env 8) v122_4) noHp fun v123_5 =>
  rd Try.prog (bop Go.BinOp.eql 3 (Go.Operand.tmp 119) (Go.Operand.tmp 123) v119_1 v123_5) noHp fun v124_6 =>
  gd (yb v124_6 == some true) (fun h k => k (env 12) h) h1 fun v126_8 h2 =>
  gd (yb v124_6 == some true) (fun h k => k (env 6) h) h2 fun v127_9 h3 =>
  gd (yb v124_6 == some true) (fun h k => Ok Try.prog 12 #[v127_9] h k) h3 fun v128_10 h4 =>
  gd (yb v124_6 == some true) (fun h k => rd Try.prog (bop Go.BinOp.gtr 3 (Go.Operand.tmp 128) (Go.Operand.const (Go.Value.int Go.IntKind.i64 0)) v128_10 (Go.Value.int Go.IntKind.i64 0)) noHp fun v => k v h) h4 fun v129_11 h5 =>
  gd (yb v124_6 == some true) (fun h k => rd Try.prog (bop Go.BinOp.eql 4 (Go.Operand.tmp 126) (Go.Operand.tmp 129) v126_8 v129_11) noHp fun v => k v h) h5 fun v130_12 h6 =>
  rd Try.prog (pck v124_6 v130_12 (Go.Value.bool false)) noHp fun v131_13 =>
  gd (yb v131_13 == some true) (fun h k => k (env 12) h) h6 fun v133_15 h7 =>
  gd (yb v131_13 == some true) (fun h k => rd Try.prog (Op.unary Go.UnOp.not v133_15) noHp fun v => k v h) h7 fun v134_16 h8 =>
  gd (yb v131_13 == some true) (fun h k => k v134_16 h) h8 fun v135_17 h9 =>
  gd (yb v135_17 == some false) (fun h k => k (env 11) h) h9 fun v136_18 h10 =>
  gd (yb v135_17 == some false) (fun h k => k (env 1) h) h10 fun v137_19 h11 =>
  gd (yb v135_17 == some false) (fun h k => rd Try.prog (bop Go.BinOp.gtr 3 (Go.Operand.tmp 136) (Go.Operand.tmp 137) v136_18 v137_19) noHp fun v => k v h) h11 fun v138_20 h12 =>
  gd (yb v131_13 == some true) (fun h k => rd Try.prog (pck v135_17 (Go.Value.bool true) v138_20) noHp fun v => k v h) h12 fun v139_21 h13 =>
  rd Try.prog (pck v131_13 v139_21 (Go.Value.bool false)) noHp fun v140_22 =>
  gd (yb v140_22 == some true) (fun h k => k (env 6) h) h13 fun v142_24 h14 =>
  gd (yb v140_22 == some true) (fun h k => k (env 1) h) h14 fun v143_25 h15 =>
  gd (yb v140_22 == some true) (fun h k => Ok Try.prog 11 #[v142_24, v143_25] h k) h15 fun v144_26 h16 =>
  gd (yb v140_22 == some true) (fun h k => rd Try.prog (Builtin.len_ #[27] 3 #[v144_26]) h fun v => k v h) h16 fun v145_27 h17 =>
  gd (yb v140_22 == some true) (fun h k => rd Try.prog (bop Go.BinOp.eql 3 (Go.Operand.tmp 145) (Go.Operand.const (Go.Value.int Go.IntKind.i64 0)) v145_27 (Go.Value.int Go.IntKind.i64 0)) noHp fun v => k v h) h17 fun v146_28 h18 =>
  rd Try.prog (pck v140_22 v146_28 (Go.Value.bool false)) noHp fun v147_29 =>
  K (((((((((((((((((((((((((((((((env.set 118 (env 6)).set 119 v119_1).set 120 (env 8)).set 121 (env 9)).set 122 v122_4).set 123 v123_5).set 124 v124_6).set 125 v124_6).set 126 v126_8).set 127 v127_9).set 128 v128_10).set 129 v129_11).set 130 v130_12).set 131 v131_13).set 132 v131_13).set 133 v133_15).set 134 v134_16).set 135 v135_17).set 136 v136_18).set 137 v137_19).set 138 v138_20).set 139 v139_21).set 140 v140_22).set 141 v140_22).set 142 v142_24).set 143 v143_25).set 144 v144_26).set 145 v145_27).set 146 v146_28).set 147 v147_29).set 4 v147_29) h18
@[congr] theorem octroilaw10_TimersOrder_r17_congr {env : Env} {h : Hp} {K : Env → Hp → Prop} : octroilaw10_TimersOrder_r17 env h K = octroilaw10_TimersOrder_r17 env h K := rfl

def octroilaw10_TimersOrder_D : Den := (sq (rg octroilaw10_TimersOrder_r0) (sq (rg octroilaw10_TimersOrder_r1) (sq (rg octroilaw10_TimersOrder_r2) (sq (sq (rg octroilaw10_TimersOrder_r3) (cnd (Go.Operand.tmp 25) (sq (rg octroilaw10_TimersOrder_r4) (ex .ret)) (ex .normal))) (sq (sq (rg octroilaw10_TimersOrder_r5) (blk 0 (lp octroilaw10_TimersOrder_L0))) (sq (rg octroilaw10_TimersOrder_r9) (sq (rg octroilaw10_TimersOrder_r10) (sq (sq (rg octroilaw10_TimersOrder_r11) (blk 2 (lp octroilaw10_TimersOrder_L1))) (sq (rg octroilaw10_TimersOrder_r16) (sq (rg octroilaw10_TimersOrder_r17) (ex .ret)))))))))))

theorem octroilaw10_TimersOrder_eq : (den Try.prog 148 octroilaw10_TimersOrder_code).1 = octroilaw10_TimersOrder_D := by kernel_rfl

theorem octroilaw10_TimersOrder_ok {args : Array Value} {h : Hp} {Q : Value → Hp → Prop} (hn : args.size ≤ 148) (D : octroilaw10_TimersOrder_D (fin Try.prog [(Go.ResultVar.tmp 4)] Q) (env0 args) h) : Ok Try.prog 6 args h Q :=
  ok_of_den progIsOk Try.func6 (c := octroilaw10_TimersOrder_code) (by kernel_rfl) hn (by show (den Try.prog 148 octroilaw10_TimersOrder_code).1 _ _ _; rw [octroilaw10_TimersOrder_eq]; exact D)

/-! ### octroi/octroilaw10.TimersDo: function 7 -/
noncomputable def octroilaw10_TimersDo_code : Code := match Try.f7.body with | some c => c | none => .skip

/-- law.go:27 -/
def octroilaw10_TimersDo_r0 (env : Env) (h : Hp) (K : Env → Hp → Prop) : Prop :=
  K (env.set 2 (Go.Value.bool false)) h
@[congr] theorem octroilaw10_TimersDo_r0_congr {env : Env} {h : Hp} {K : Env → Hp → Prop} : octroilaw10_TimersDo_r0 env h K = octroilaw10_TimersDo_r0 env h K := rfl

/-- law.go:28 -/
def octroilaw10_TimersDo_r1 (env : Env) (h : Hp) (K : Env → Hp → Prop) : Prop :=
  Ok Try.prog 8 #[] h fun v10_0 h1 =>
  K ((env.set 10 v10_0).set 3 v10_0) h1
@[congr] theorem octroilaw10_TimersDo_r1_congr {env : Env} {h : Hp} {K : Env → Hp → Prop} : octroilaw10_TimersDo_r1 env h K = octroilaw10_TimersDo_r1 env h K := rfl

/-- law.go:29 -/
def octroilaw10_TimersDo_r2 (env : Env) (h : Hp) (K : Env → Hp → Prop) : Prop :=
  Ok Try.prog 9 #[] h fun v11_0 h1 =>
  K ((env.set 11 v11_0).set 4 v11_0) h1
@[congr] theorem octroilaw10_TimersDo_r2_congr {env : Env} {h : Hp} {K : Env → Hp → Prop} : octroilaw10_TimersDo_r2 env h K = octroilaw10_TimersDo_r2 env h K := rfl

/-- law.go:30 -/
def octroilaw10_TimersDo_r3 (env : Env) (h : Hp) (K : Env → Hp → Prop) : Prop :=
  rd Try.prog (Op.unary Go.UnOp.not (env 3)) noHp fun v13_1 =>
  gd (yb v13_1 == some false) (fun h k => k (env 4) h) h fun v15_3 h1 =>
  gd (yb v13_1 == some false) (fun h k => rd Try.prog (bop Go.BinOp.eql 23 (Go.Operand.tmp 15) (Go.Operand.const (Go.Value.pointer none)) v15_3 (Go.Value.pointer none)) noHp fun v => k v h) h1 fun v16_4 h2 =>
  rd Try.prog (pck v13_1 (Go.Value.bool true) v16_4) noHp fun v17_5 =>
  gd (yb v17_5 == some false) (fun h k => k (env 0) h) h2 fun v19_7 h3 =>
  gd (yb v17_5 == some false) (fun h k => rd Try.prog (Builtin.len_ #[31] 3 #[v19_7]) h fun v => k v h) h3 fun v20_8 h4 =>
  gd (yb v17_5 == some false) (fun h k => rd Try.prog (bop Go.BinOp.gtr 3 (Go.Operand.tmp 20) (Go.Operand.const (Go.Value.int Go.IntKind.i64 400)) v20_8 (Go.Value.int Go.IntKind.i64 400)) noHp fun v => k v h) h4 fun v21_9 h5 =>
  rd Try.prog (pck v17_5 (Go.Value.bool true) v21_9) noHp fun v22_10 =>
  K (((((((((((env.set 12 (env 3)).set 13 v13_1).set 14 v13_1).set 15 v15_3).set 16 v16_4).set 17 v17_5).set 18 v17_5).set 19 v19_7).set 20 v20_8).set 21 v21_9).set 22 v22_10) h5
@[congr] theorem octroilaw10_TimersDo_r3_congr {env : Env} {h : Hp} {K : Env → Hp → Prop} : octroilaw10_TimersDo_r3 env h K = octroilaw10_TimersDo_r3 env h K := rfl

/-- law.go:31 -/
def octroilaw10_TimersDo_r4 (env : Env) (h : Hp) (K : Env → Hp → Prop) : Prop :=
  gd (yb (env 3) == some true) (fun h k => k (env 4) h) h fun v25_2 h1 =>
  gd (yb (env 3) == some true) (fun h k => rd Try.prog (bop Go.BinOp.neq 23 (Go.Operand.tmp 25) (Go.Operand.const (Go.Value.pointer none)) v25_2 (Go.Value.pointer none)) noHp fun v => k v h) h1 fun v26_3 h2 =>
  rd Try.prog (pck (env 3) v26_3 (Go.Value.bool false)) noHp fun v27_4 =>
  K ((((((env.set 23 (env 3)).set 24 (env 3)).set 25 v25_2).set 26 v26_3).set 27 v27_4).set 2 v27_4) h2
@[congr] theorem octroilaw10_TimersDo_r4_congr {env : Env} {h : Hp} {K : Env → Hp → Prop} : octroilaw10_TimersDo_r4 env h K = octroilaw10_TimersDo_r4 env h K := rfl

/-- law.go:33 -/
def octroilaw10_TimersDo_r5 (env : Env) (h : Hp) (K : Env → Hp → Prop) : Prop :=
  rd Try.prog (Instr.build 45 #[]) noHp fun v28_0 =>
  arun Try.prog (Instr.box 45 v28_0) h fun v29_1 h1 =>
  K (((env.set 28 v28_0).set 29 v29_1).set 5 v29_1) h1
@[congr] theorem octroilaw10_TimersDo_r5_congr {env : Env} {h : Hp} {K : Env → Hp → Prop} : octroilaw10_TimersDo_r5 env h K = octroilaw10_TimersDo_r5 env h K := rfl

/-- law.go:34 -/
def octroilaw10_TimersDo_r6 (env : Env) (h : Hp) (K : Env → Hp → Prop) : Prop :=
  K (env.set 6 (Go.Value.int Go.IntKind.i64 0)) h
@[congr] theorem octroilaw10_TimersDo_r6_congr {env : Env} {h : Hp} {K : Env → Hp → Prop} : octroilaw10_TimersDo_r6 env h K = octroilaw10_TimersDo_r6 env h K := rfl

/-- law.go:34 -/
def octroilaw10_TimersDo_r7 (env : Env) (h : Hp) (K : Env → Hp → Prop) : Prop :=
  rd Try.prog (Builtin.len_ #[31] 3 #[(env 0)]) h fun v32_2 =>
  rd Try.prog (bop Go.BinOp.lss 3 (Go.Operand.tmp 30) (Go.Operand.tmp 32) (env 6) v32_2) noHp fun v33_3 =>
  K ((((env.set 30 (env 6)).set 31 (env 0)).set 32 v32_2).set 33 v33_3) h
@[congr] theorem octroilaw10_TimersDo_r7_congr {env : Env} {h : Hp} {K : Env → Hp → Prop} : octroilaw10_TimersDo_r7 env h K = octroilaw10_TimersDo_r7 env h K := rfl

/-- law.go:35 -/
def octroilaw10_TimersDo_r8 (env : Env) (h : Hp) (K : Env → Hp → Prop) : Prop :=
  K (env.set 7 (Go.Value.bool true)) h
@[congr] theorem octroilaw10_TimersDo_r8_congr {env : Env} {h : Hp} {K : Env → Hp → Prop} : octroilaw10_TimersDo_r8 env h K = octroilaw10_TimersDo_r8 env h K := rfl

/-- law.go:36 -/
def octroilaw10_TimersDo_r9 (env : Env) (h : Hp) (K : Env → Hp → Prop) : Prop :=
  rd Try.prog (Instr.indexAt 31 (env 0) (env 6)) noHp fun v38_2 =>
  rd Try.prog (Instr.fieldAt 34 v38_2 0) noHp fun v39_3 =>
  rd Try.prog (Instr.loadAt 3 v39_3) h fun v40_4 =>
  K (((((env.set 36 (env 0)).set 37 (env 6)).set 38 v38_2).set 39 v39_3).set 40 v40_4) h
@[congr] theorem octroilaw10_TimersDo_r9_congr {env : Env} {h : Hp} {K : Env → Hp → Prop} : octroilaw10_TimersDo_r9 env h K = octroilaw10_TimersDo_r9 env h K := rfl

/-- law.go:37 -/
def octroilaw10_TimersDo_r10 (env : Env) (h : Hp) (K : Env → Hp → Prop) : Prop :=
  rd Try.prog (bop Go.BinOp.eql 3 (Go.Operand.tmp 40) (Go.Operand.const (Go.Value.int Go.IntKind.i64 0)) (env 40) (Go.Value.int Go.IntKind.i64 0)) noHp fun v42_0 =>
  K ((env.set 42 v42_0).set 41 v42_0) h
@[congr] theorem octroilaw10_TimersDo_r10_congr {env : Env} {h : Hp} {K : Env → Hp → Prop} : octroilaw10_TimersDo_r10 env h K = octroilaw10_TimersDo_r10 env h K := rfl

/-- law.go:38 (in any order) -/
def octroilaw10_TimersDo_r11 (env : Env) (h : Hp) (K : Env → Hp → Prop) : Prop :=
  rd Try.prog (Instr.indexAt 31 (env 0) (env 6)) noHp fun v46_3 =>
  rd Try.prog (Instr.fieldAt 34 v46_3 1) noHp fun v47_4 =>
  rd Try.prog (Instr.loadAt 3 v47_4) h fun v48_5 =>
  rd Try.prog (Instr.indexAt 31 (env 0) (env 6)) noHp fun v51_8 =>
  rd Try.prog (Instr.fieldAt 34 v51_8 2) noHp fun v52_9 =>
  rd Try.prog (Instr.loadAt 3 v52_9) h fun v53_10 =>
  rd Try.prog (Instr.indexAt 31 (env 0) (env 6)) noHp fun v58_14 =>
  rd Try.prog (Instr.fieldAt 34 v58_14 1) noHp fun v59_15 =>
  rd Try.prog (Instr.loadAt 3 v59_15) h fun v60_16 =>
  rd Try.prog (Instr.indexAt 31 (env 0) (env 6)) noHp fun v63_19 =>
  rd Try.prog (Instr.fieldAt 34 v63_19 2) noHp fun v64_20 =>
  rd Try.prog (Instr.loadAt 3 v64_20) h fun v65_21 =>
  Ok Try.prog 10 #[(env 4), v48_5, v53_10] h fun v54_22 h1 =>
  (rrun Try.prog (Instr.loadAt 3 v64_20) h1 = some v65_21 ∧ rrun Try.prog (Instr.loadAt 3 v59_15) h1 = some v60_16 ∧ True) ∧
  Ok Try.prog 15 #[(env 5), v60_16, v65_21] h1 fun v66_23 h2 =>
  (True) ∧
  rd Try.prog (bop Go.BinOp.eql 25 (Go.Operand.tmp 54) (Go.Operand.tmp 66) v54_22 v66_23) noHp fun v67_24 =>
  K ((((((((((((((((((((((((((env.set 43 (env 4)).set 44 (env 0)).set 45 (env 6)).set 46 v46_3).set 47 v47_4).set 48 v48_5).set 49 (env 0)).set 50 (env 6)).set 51 v51_8).set 52 v52_9).set 53 v53_10).set 55 (env 5)).set 56 (env 0)).set 57 (env 6)).set 58 v58_14).set 59 v59_15).set 60 v60_16).set 61 (env 0)).set 62 (env 6)).set 63 v63_19).set 64 v64_20).set 65 v65_21).set 54 v54_22).set 66 v66_23).set 67 v67_24).set 7 v67_24) h2
@[congr] theorem octroilaw10_TimersDo_r11_congr {env : Env} {h : Hp} {K : Env → Hp → Prop} : octroilaw10_TimersDo_r11 env h K = octroilaw10_TimersDo_r11 env h K := rfl

/-- law.go:39 -/
def octroilaw10_TimersDo_r12 (env : Env) (h : Hp) (K : Env → Hp → Prop) : Prop :=
  rd Try.prog (bop Go.BinOp.eql 3 (Go.Operand.tmp 40) (Go.Operand.const (Go.Value.int Go.IntKind.i64 1)) (env 40) (Go.Value.int Go.IntKind.i64 1)) noHp fun v69_0 =>
  K ((env.set 69 v69_0).set 68 v69_0) h
@[congr] theorem octroilaw10_TimersDo_r12_congr {env : Env} {h : Hp} {K : Env → Hp → Prop} : octroilaw10_TimersDo_r12 env h K = octroilaw10_TimersDo_r12 env h K := rfl

/-- law.go:40 (in any order) -/
def octroilaw10_TimersDo_r13 (env : Env) (h : Hp) (K : Env → Hp → Prop) : Prop :=
  rd Try.prog (Instr.indexAt 31 (env 0) (env 6)) noHp fun v73_3 =>
  rd Try.prog (Instr.fieldAt 34 v73_3 1) noHp fun v74_4 =>
  rd Try.prog (Instr.loadAt 3 v74_4) h fun v75_5 =>
  rd Try.prog (Instr.indexAt 31 (env 0) (env 6)) noHp fun v80_9 =>
  rd Try.prog (Instr.fieldAt 34 v80_9 1) noHp fun v81_10 =>
  rd Try.prog (Instr.loadAt 3 v81_10) h fun v82_11 =>
  Ok Try.prog 13 #[(env 4), v75_5] h fun v76_12 h1 =>
  (rrun Try.prog (Instr.loadAt 3 v81_10) h1 = some v82_11 ∧ True) ∧
  Ok Try.prog 16 #[(env 5), v82_11] h1 fun v83_13 h2 =>
  (True) ∧
  rd Try.prog (bop Go.BinOp.eql 25 (Go.Operand.tmp 76) (Go.Operand.tmp 83) v76_12 v83_13) noHp fun v84_14 =>
  K ((((((((((((((((env.set 70 (env 4)).set 71 (env 0)).set 72 (env 6)).set 73 v73_3).set 74 v74_4).set 75 v75_5).set 77 (env 5)).set 78 (env 0)).set 79 (env 6)).set 80 v80_9).set 81 v81_10).set 82 v82_11).set 76 v76_12).set 83 v83_13).set 84 v84_14).set 7 v84_14) h2
@[congr] theorem octroilaw10_TimersDo_r13_congr {env : Env} {h : Hp} {K : Env → Hp → Prop} : octroilaw10_TimersDo_r13 env h K = octroilaw10_TimersDo_r13 env h K := rfl

/-- law.go:41 -/
def octroilaw10_TimersDo_r14 (env : Env) (h : Hp) (K : Env → Hp → Prop) : Prop :=
  rd Try.prog (bop Go.BinOp.eql 3 (Go.Operand.tmp 40) (Go.Operand.const (Go.Value.int Go.IntKind.i64 2)) (env 40) (Go.Value.int Go.IntKind.i64 2)) noHp fun v86_0 =>
  K ((env.set 86 v86_0).set 85 v86_0) h
@[congr] theorem octroilaw10_TimersDo_r14_congr {env : Env} {h : Hp} {K : Env → Hp → Prop} : octroilaw10_TimersDo_r14 env h K = octroilaw10_TimersDo_r14 env h K := rfl

/-- law.go:42 (in any order) -/
def octroilaw10_TimersDo_r15 (env : Env) (h : Hp) (K : Env → Hp → Prop) : Prop :=
  rd Try.prog (Instr.indexAt 31 (env 0) (env 6)) noHp fun v90_3 =>
  rd Try.prog (Instr.fieldAt 34 v90_3 2) noHp fun v91_4 =>
  rd Try.prog (Instr.loadAt 3 v91_4) h fun v92_5 =>
  rd Try.prog (Instr.indexAt 31 (env 0) (env 6)) noHp fun v97_9 =>
  rd Try.prog (Instr.fieldAt 34 v97_9 2) noHp fun v98_10 =>
  rd Try.prog (Instr.loadAt 3 v98_10) h fun v99_11 =>
  Ok Try.prog 11 #[(env 4), v92_5] h fun v93_12 h1 =>
  (rrun Try.prog (Instr.loadAt 3 v98_10) h1 = some v99_11 ∧ True) ∧
  Ok Try.prog 18 #[(env 5), v99_11] h1 fun v100_13 h2 =>
  (True) ∧
  Ok Try.prog 17 #[v93_12, v100_13] h2 fun v101_14 h3 =>
  (True) ∧
  K ((((((((((((((((env.set 87 (env 4)).set 88 (env 0)).set 89 (env 6)).set 90 v90_3).set 91 v91_4).set 92 v92_5).set 94 (env 5)).set 95 (env 0)).set 96 (env 6)).set 97 v97_9).set 98 v98_10).set 99 v99_11).set 93 v93_12).set 100 v100_13).set 101 v101_14).set 7 v101_14) h3
@[congr] theorem octroilaw10_TimersDo_r15_congr {env : Env} {h : Hp} {K : Env → Hp → Prop} : octroilaw10_TimersDo_r15 env h K = octroilaw10_TimersDo_r15 env h K := rfl

/-- law.go:44 -/
def octroilaw10_TimersDo_r16 (env : Env) (h : Hp) (K : Env → Hp → Prop) : Prop :=
  Ok Try.prog 14 #[(env 4)] h fun v104_1 h1 =>
  rd Try.prog (Instr.extract v104_1 0) noHp fun v105_3 =>
  rd Try.prog (Instr.extract v104_1 1) noHp fun v106_4 =>
  K (((((((env.set 103 (env 4)).set 104 v104_1).set 102 v104_1).set 105 v105_3).set 106 v106_4).set 8 v105_3).set 9 v106_4) h1
@[congr] theorem octroilaw10_TimersDo_r16_congr {env : Env} {h : Hp} {K : Env → Hp → Prop} : octroilaw10_TimersDo_r16 env h K = octroilaw10_TimersDo_r16 env h K := rfl

/-- law.go:45 (in any order) -/
def octroilaw10_TimersDo_r17 (env : Env) (h : Hp) (K : Env → Hp → Prop) : Prop :=
  rd Try.prog (Op.unary Go.UnOp.not (env 7)) noHp fun v108_1 =>
  gd (yb v108_1 == some false) (fun h k => k (env 4) h) h fun v110_3 h1 =>
  gd (yb v108_1 == some false) (fun h k => k (env 5) h) h1 fun v112_4 h2 =>
  gd (yb v108_1 == some false) (fun h k => nck v112_4 (k v112_4 h)) h2 fun v113_5 h3 =>
  gd (yb v108_1 == some false) (fun h k => rd Try.prog (Instr.fieldAt 45 v113_5 0) noHp fun v => k v h) h3 fun v114_6 h4 =>
  gd (yb v108_1 == some false) (fun h k => rd Try.prog (Instr.loadAt 27 v114_6) h fun v => k v h) h4 fun v115_7 h5 =>
  gd (yb v108_1 == some false) (fun h k => rd Try.prog (Builtin.len_ #[27] 3 #[v115_7]) h fun v => k v h) h5 fun v116_8 h6 =>
  gd (yb v108_1 == some false) (fun h k => Ok Try.prog 12 #[v110_3] h k) h6 fun v111_9 h7 =>
  (((yb v108_1 == some false) = true → rrun Try.prog (Builtin.len_ #[27] 3 #[v115_7]) h7 = some v116_8) ∧ ((yb v108_1 == some false) = true → rrun Try.prog (Instr.loadAt 27 v114_6) h7 = some v115_7) ∧ True) ∧
  gd (yb v108_1 == some false) (fun h k => rd Try.prog (bop Go.BinOp.neq 3 (Go.Operand.tmp 111) (Go.Operand.tmp 116) v111_9 v116_8) noHp fun v => k v h) h7 fun v117_10 h8 =>
  rd Try.prog (pck v108_1 (Go.Value.bool true) v117_10) noHp fun v118_11 =>
  gd (yb v118_11 == some false) (fun h k => k (env 9) h) h8 fun v120_13 h9 =>
  gd (yb v118_11 == some false) (fun h k => k (env 5) h) h9 fun v121_14 h10 =>
  gd (yb v118_11 == some false) (fun h k => nck v121_14 (k v121_14 h)) h10 fun v122_15 h11 =>
  gd (yb v118_11 == some false) (fun h k => rd Try.prog (Instr.fieldAt 45 v122_15 0) noHp fun v => k v h) h11 fun v123_16 h12 =>
  gd (yb v118_11 == some false) (fun h k => rd Try.prog (Instr.loadAt 27 v123_16) h fun v => k v h) h12 fun v124_17 h13 =>
  gd (yb v118_11 == some false) (fun h k => rd Try.prog (Builtin.len_ #[27] 3 #[v124_17]) h fun v => k v h) h13 fun v125_18 h14 =>
  gd (yb v118_11 == some false) (fun h k => rd Try.prog (bop Go.BinOp.gtr 3 (Go.Operand.tmp 125) (Go.Operand.const (Go.Value.int Go.IntKind.i64 0)) v125_18 (Go.Value.int Go.IntKind.i64 0)) noHp fun v => k v h) h14 fun v126_19 h15 =>
  gd (yb v118_11 == some false) (fun h k => rd Try.prog (bop Go.BinOp.neq 4 (Go.Operand.tmp 120) (Go.Operand.tmp 126) v120_13 v126_19) noHp fun v => k v h) h15 fun v127_20 h16 =>
  rd Try.prog (pck v118_11 (Go.Value.bool true) v127_20) noHp fun v128_21 =>
  gd (yb v128_21 == some false) (fun h k => k (env 9) h) h16 fun v130_23 h17 =>
  gd (yb v128_21 == some false) (fun h k => k v130_23 h) h17 fun v131_24 h18 =>
  gd (yb v131_24 == some true) (fun h k => k (env 8) h) h18 fun v132_25 h19 =>
  gd (yb v131_24 == some true) (fun h k => k (env 5) h) h19 fun v133_26 h20 =>
  gd (yb v131_24 == some true) (fun h k => nck v133_26 (k v133_26 h)) h20 fun v134_27 h21 =>
  gd (yb v131_24 == some true) (fun h k => rd Try.prog (Instr.fieldAt 45 v134_27 0) noHp fun v => k v h) h21 fun v135_28 h22 =>
  gd (yb v131_24 == some true) (fun h k => rd Try.prog (Instr.loadAt 27 v135_28) h fun v => k v h) h22 fun v136_29 h23 =>
  gd (yb v131_24 == some true) (fun h k => rd Try.prog (Instr.indexAt 27 v136_29 (Go.Value.int Go.IntKind.i64 0)) noHp fun v => k v h) h23 fun v137_30 h24 =>
  gd (yb v131_24 == some true) (fun h k => rd Try.prog (Instr.fieldAt 37 v137_30 1) noHp fun v => k v h) h24 fun v138_31 h25 =>
  gd (yb v131_24 == some true) (fun h k => rd Try.prog (Instr.loadAt 3 v138_31) h fun v => k v h) h25 fun v139_32 h26 =>
  gd (yb v131_24 == some true) (fun h k => rd Try.prog (bop Go.BinOp.neq 3 (Go.Operand.tmp 132) (Go.Operand.tmp 139) v132_25 v139_32) noHp fun v => k v h) h26 fun v140_33 h27 =>
  gd (yb v128_21 == some false) (fun h k => rd Try.prog (pck v131_24 v140_33 (Go.Value.bool false)) noHp fun v => k v h) h27 fun v141_34 h28 =>
  rd Try.prog (pck v128_21 (Go.Value.bool true) v141_34) noHp fun v142_35 =>
  K ((((((((((((((((((((((((((((((((((((env.set 107 (env 7)).set 108 v108_1).set 109 v108_1).set 110 v110_3).set 112 v112_4).set 113 v113_5).set 114 v114_6).set 115 v115_7).set 116 v116_8).set 111 v111_9).set 117 v117_10).set 118 v118_11).set 119 v118_11).set 120 v120_13).set 121 v121_14).set 122 v122_15).set 123 v123_16).set 124 v124_17).set 125 v125_18).set 126 v126_19).set 127 v127_20).set 128 v128_21).set 129 v128_21).set 130 v130_23).set 131 v131_24).set 132 v132_25).set 133 v133_26).set 134 v134_27).set 135 v135_28).set 136 v136_29).set 137 v137_30).set 138 v138_31).set 139 v139_32).set 140 v140_33).set 141 v141_34).set 142 v142_35) h28
@[congr] theorem octroilaw10_TimersDo_r17_congr {env : Env} {h : Hp} {K : Env → Hp → Prop} : octroilaw10_TimersDo_r17 env h K = octroilaw10_TimersDo_r17 env h K := rfl

/-- law.go:46 -/
def octroilaw10_TimersDo_r18 (env : Env) (h : Hp) (K : Env → Hp → Prop) : Prop :=
  K (env.set 2 (Go.Value.bool false)) h
@[congr] theorem octroilaw10_TimersDo_r18_congr {env : Env} {h : Hp} {K : Env → Hp → Prop} : octroilaw10_TimersDo_r18 env h K = octroilaw10_TimersDo_r18 env h K := rfl

/-- law.go:34 -/
def octroilaw10_TimersDo_r19 (env : Env) (h : Hp) (K : Env → Hp → Prop) : Prop :=
  rd Try.prog (bop Go.BinOp.add 3 (Go.Operand.tmp 34) (Go.Operand.const (Go.Value.int Go.IntKind.i64 1)) (env 6) (Go.Value.int Go.IntKind.i64 1)) noHp fun v35_1 =>
  K (((env.set 34 (env 6)).set 35 v35_1).set 6 v35_1) h
@[congr] theorem octroilaw10_TimersDo_r19_congr {env : Env} {h : Hp} {K : Env → Hp → Prop} : octroilaw10_TimersDo_r19 env h K = octroilaw10_TimersDo_r19 env h K := rfl

def octroilaw10_TimersDo_L0 : Den := (sq (sq (rg octroilaw10_TimersDo_r7) (cnd (Go.Operand.tmp 33) (ex .normal) (ex (.exit 0)))) (sq (blk 1 (sq (rg octroilaw10_TimersDo_r8) (sq (sq (rg octroilaw10_TimersDo_r9) (blk 2 (sq (rg octroilaw10_TimersDo_r10) (cnd (Go.Operand.tmp 41) (rg octroilaw10_TimersDo_r11) (sq (rg octroilaw10_TimersDo_r12) (cnd (Go.Operand.tmp 68) (rg octroilaw10_TimersDo_r13) (sq (rg octroilaw10_TimersDo_r14) (cnd (Go.Operand.tmp 85) (rg octroilaw10_TimersDo_r15) (ex .normal))))))))) (sq (rg octroilaw10_TimersDo_r16) (sq (rg octroilaw10_TimersDo_r17) (cnd (Go.Operand.tmp 142) (sq (rg octroilaw10_TimersDo_r18) (ex .ret)) (ex .normal))))))) (rg octroilaw10_TimersDo_r19)))

/-- law.go:49 -/
def octroilaw10_TimersDo_r20 (env : Env) (h : Hp) (K : Env → Hp → Prop) : Prop :=
  K (env.set 2 (Go.Value.bool true)) h
@[congr] theorem octroilaw10_TimersDo_r20_congr {env : Env} {h : Hp} {K : Env → Hp → Prop} : octroilaw10_TimersDo_r20 env h K = octroilaw10_TimersDo_r20 env h K := rfl

def octroilaw10_TimersDo_D : Den := (sq (rg octroilaw10_TimersDo_r0) (sq (rg octroilaw10_TimersDo_r1) (sq (rg octroilaw10_TimersDo_r2) (sq (sq (rg octroilaw10_TimersDo_r3) (cnd (Go.Operand.tmp 22) (sq (rg octroilaw10_TimersDo_r4) (ex .ret)) (ex .normal))) (sq (rg octroilaw10_TimersDo_r5) (sq (sq (rg octroilaw10_TimersDo_r6) (blk 0 (lp octroilaw10_TimersDo_L0))) (sq (rg octroilaw10_TimersDo_r20) (ex .ret))))))))

theorem octroilaw10_TimersDo_eq : (den Try.prog 143 octroilaw10_TimersDo_code).1 = octroilaw10_TimersDo_D := by kernel_rfl

theorem octroilaw10_TimersDo_ok {args : Array Value} {h : Hp} {Q : Value → Hp → Prop} (hn : args.size ≤ 143) (D : octroilaw10_TimersDo_D (fin Try.prog [(Go.ResultVar.tmp 2)] Q) (env0 args) h) : Ok Try.prog 7 args h Q :=
  ok_of_den progIsOk Try.func7 (c := octroilaw10_TimersDo_code) (by kernel_rfl) hn (by show (den Try.prog 143 octroilaw10_TimersDo_code).1 _ _ _; rw [octroilaw10_TimersDo_eq]; exact D)

/-! ### octroi/octroilaw10.awake: function 8 -/
noncomputable def octroilaw10_awake_code : Code := match Try.f8.body with | some c => c | none => .skip

/-- law.go:14 -/
def octroilaw10_awake_r0 (env : Env) (h : Hp) (K : Env → Hp → Prop) : Prop :=
  K (env.set 0 (Go.Value.bool false)) h
@[congr] theorem octroilaw10_awake_r0_congr {env : Env} {h : Hp} {K : Env → Hp → Prop} : octroilaw10_awake_r0 env h K = octroilaw10_awake_r0 env h K := rfl

/-- law.go:15 -/
def octroilaw10_awake_r1 (env : Env) (h : Hp) (K : Env → Hp → Prop) : Prop :=
  Ok Try.prog 9 #[] h fun v3_0 h1 =>
  K ((env.set 3 v3_0).set 1 v3_0) h1
@[congr] theorem octroilaw10_awake_r1_congr {env : Env} {h : Hp} {K : Env → Hp → Prop} : octroilaw10_awake_r1 env h K = octroilaw10_awake_r1 env h K := rfl

/-- law.go:16 -/
def octroilaw10_awake_r2 (env : Env) (h : Hp) (K : Env → Hp → Prop) : Prop :=
  rd Try.prog (bop Go.BinOp.eql 23 (Go.Operand.tmp 4) (Go.Operand.const (Go.Value.pointer none)) (env 1) (Go.Value.pointer none)) noHp fun v5_1 =>
  K ((env.set 4 (env 1)).set 5 v5_1) h
@[congr] theorem octroilaw10_awake_r2_congr {env : Env} {h : Hp} {K : Env → Hp → Prop} : octroilaw10_awake_r2 env h K = octroilaw10_awake_r2 env h K := rfl

/-- law.go:17 -/
def octroilaw10_awake_r3 (env : Env) (h : Hp) (K : Env → Hp → Prop) : Prop :=
  K (env.set 0 (Go.Value.bool false)) h
@[congr] theorem octroilaw10_awake_r3_congr {env : Env} {h : Hp} {K : Env → Hp → Prop} : octroilaw10_awake_r3 env h K = octroilaw10_awake_r3 env h K := rfl

/-- law.go:19 -/
def octroilaw10_awake_r4 (env : Env) (h : Hp) (K : Env → Hp → Prop) : Prop :=
  Ok Try.prog 10 #[(env 1), (Go.Value.int Go.IntKind.i64 1), (Go.Value.int Go.IntKind.i64 10)] h fun v7_1 h1 =>
  K ((env.set 6 (env 1)).set 7 v7_1) h1
@[congr] theorem octroilaw10_awake_r4_congr {env : Env} {h : Hp} {K : Env → Hp → Prop} : octroilaw10_awake_r4 env h K = octroilaw10_awake_r4 env h K := rfl

/-- law.go:20 -/
def octroilaw10_awake_r5 (env : Env) (h : Hp) (K : Env → Hp → Prop) : Prop :=
  Ok Try.prog 10 #[(env 1), (Go.Value.int Go.IntKind.i64 2), (Go.Value.int Go.IntKind.i64 5)] h fun v9_1 h1 =>
  K ((env.set 8 (env 1)).set 9 v9_1) h1
@[congr] theorem octroilaw10_awake_r5_congr {env : Env} {h : Hp} {K : Env → Hp → Prop} : octroilaw10_awake_r5 env h K = octroilaw10_awake_r5 env h K := rfl

/-- law.go:21 -/
def octroilaw10_awake_r6 (env : Env) (h : Hp) (K : Env → Hp → Prop) : Prop :=
  Ok Try.prog 10 #[(env 1), (Go.Value.int Go.IntKind.i64 3), (Go.Value.int Go.IntKind.i64 10)] h fun v11_1 h1 =>
  K ((env.set 10 (env 1)).set 11 v11_1) h1
@[congr] theorem octroilaw10_awake_r6_congr {env : Env} {h : Hp} {K : Env → Hp → Prop} : octroilaw10_awake_r6 env h K = octroilaw10_awake_r6 env h K := rfl

/-- law.go:22 -/
def octroilaw10_awake_r7 (env : Env) (h : Hp) (K : Env → Hp → Prop) : Prop :=
  Ok Try.prog 11 #[(env 1), (Go.Value.int Go.IntKind.i64 10)] h fun v13_1 h1 =>
  K (((env.set 12 (env 1)).set 13 v13_1).set 2 v13_1) h1
@[congr] theorem octroilaw10_awake_r7_congr {env : Env} {h : Hp} {K : Env → Hp → Prop} : octroilaw10_awake_r7 env h K = octroilaw10_awake_r7 env h K := rfl

/-- law.go:23 -/
def octroilaw10_awake_r8 (env : Env) (h : Hp) (K : Env → Hp → Prop) : Prop :=
  rd Try.prog (Builtin.len_ #[27] 3 #[(env 2)]) h fun v15_1 =>
  rd Try.prog (bop Go.BinOp.eql 3 (Go.Operand.tmp 15) (Go.Operand.const (Go.Value.int Go.IntKind.i64 3)) v15_1 (Go.Value.int Go.IntKind.i64 3)) noHp fun v16_2 =>
  gd (yb v16_2 == some true) (fun h k => k (env 2) h) h fun v18_4 h1 =>
  gd (yb v16_2 == some true) (fun h k => rd Try.prog (Instr.indexAt 27 v18_4 (Go.Value.int Go.IntKind.i64 0)) noHp fun v => k v h) h1 fun v19_5 h2 =>
  gd (yb v16_2 == some true) (fun h k => rd Try.prog (Instr.loadAt 37 v19_5) h fun v => k v h) h2 fun v20_6 h3 =>
  gd (yb v16_2 == some true) (fun h k => rd Try.prog (Instr.build 37 #[(0, (Go.Value.int Go.IntKind.i64 2)), (1, (Go.Value.int Go.IntKind.i64 5))]) noHp fun v => k v h) h3 fun v21_7 h4 =>
  gd (yb v16_2 == some true) (fun h k => rd Try.prog (bop Go.BinOp.eql 37 (Go.Operand.tmp 20) (Go.Operand.tmp 21) v20_6 v21_7) noHp fun v => k v h) h4 fun v22_8 h5 =>
  rd Try.prog (pck v16_2 v22_8 (Go.Value.bool false)) noHp fun v23_9 =>
  gd (yb v23_9 == some true) (fun h k => k (env 2) h) h5 fun v25_11 h6 =>
  gd (yb v23_9 == some true) (fun h k => rd Try.prog (Instr.indexAt 27 v25_11 (Go.Value.int Go.IntKind.i64 2)) noHp fun v => k v h) h6 fun v26_12 h7 =>
  gd (yb v23_9 == some true) (fun h k => rd Try.prog (Instr.fieldAt 37 v26_12 0) noHp fun v => k v h) h7 fun v27_13 h8 =>
  gd (yb v23_9 == some true) (fun h k => rd Try.prog (Instr.loadAt 3 v27_13) h fun v => k v h) h8 fun v28_14 h9 =>
  gd (yb v23_9 == some true) (fun h k => rd Try.prog (bop Go.BinOp.eql 3 (Go.Operand.tmp 28) (Go.Operand.const (Go.Value.int Go.IntKind.i64 3)) v28_14 (Go.Value.int Go.IntKind.i64 3)) noHp fun v => k v h) h9 fun v29_15 h10 =>
  rd Try.prog (pck v23_9 v29_15 (Go.Value.bool false)) noHp fun v30_16 =>
  gd (yb v30_16 == some true) (fun h k => k (env 1) h) h10 fun v32_18 h11 =>
  gd (yb v30_16 == some true) (fun h k => Ok Try.prog 12 #[v32_18] h k) h11 fun v33_19 h12 =>
  gd (yb v30_16 == some true) (fun h k => rd Try.prog (bop Go.BinOp.eql 3 (Go.Operand.tmp 33) (Go.Operand.const (Go.Value.int Go.IntKind.i64 0)) v33_19 (Go.Value.int Go.IntKind.i64 0)) noHp fun v => k v h) h12 fun v34_20 h13 =>
  rd Try.prog (pck v30_16 v34_20 (Go.Value.bool false)) noHp fun v35_21 =>
  K (((((((((((((((((((((((env.set 14 (env 2)).set 15 v15_1).set 16 v16_2).set 17 v16_2).set 18 v18_4).set 19 v19_5).set 20 v20_6).set 21 v21_7).set 22 v22_8).set 23 v23_9).set 24 v23_9).set 25 v25_11).set 26 v26_12).set 27 v27_13).set 28 v28_14).set 29 v29_15).set 30 v30_16).set 31 v30_16).set 32 v32_18).set 33 v33_19).set 34 v34_20).set 35 v35_21).set 0 v35_21) h13
@[congr] theorem octroilaw10_awake_r8_congr {env : Env} {h : Hp} {K : Env → Hp → Prop} : octroilaw10_awake_r8 env h K = octroilaw10_awake_r8 env h K := rfl

def octroilaw10_awake_D : Den := (sq (rg octroilaw10_awake_r0) (sq (rg octroilaw10_awake_r1) (sq (sq (rg octroilaw10_awake_r2) (cnd (Go.Operand.tmp 5) (sq (rg octroilaw10_awake_r3) (ex .ret)) (ex .normal))) (sq (rg octroilaw10_awake_r4) (sq (rg octroilaw10_awake_r5) (sq (rg octroilaw10_awake_r6) (sq (rg octroilaw10_awake_r7) (sq (rg octroilaw10_awake_r8) (ex .ret)))))))))

theorem octroilaw10_awake_eq : (den Try.prog 36 octroilaw10_awake_code).1 = octroilaw10_awake_D := by kernel_rfl

theorem octroilaw10_awake_ok {args : Array Value} {h : Hp} {Q : Value → Hp → Prop} (hn : args.size ≤ 36) (D : octroilaw10_awake_D (fin Try.prog [(Go.ResultVar.tmp 0)] Q) (env0 args) h) : Ok Try.prog 8 args h Q :=
  ok_of_den progIsOk Try.func8 (c := octroilaw10_awake_code) (by kernel_rfl) hn (by show (den Try.prog 36 octroilaw10_awake_code).1 _ _ _; rw [octroilaw10_awake_eq]; exact D)

/-! ### octroi/timers.New: function 9 -/
noncomputable def timers_New_code : Code := match Try.f9.body with | some c => c | none => .skip

/-- timers.go:15 -/
def timers_New_r0 (env : Env) (h : Hp) (K : Env → Hp → Prop) : Prop :=
  K (env.set 0 (Go.Value.pointer none)) h
@[congr] theorem timers_New_r0_congr {env : Env} {h : Hp} {K : Env → Hp → Prop} : timers_New_r0 env h K = timers_New_r0 env h K := rfl

/-- timers.go:15 -/
def timers_New_r1 (env : Env) (h : Hp) (K : Env → Hp → Prop) : Prop :=
  arun Try.prog (Instr.makeMap 48 none) h fun v1_0 h1 =>
  rd Try.prog (Instr.build 50 #[(0, v1_0)]) noHp fun v2_1 =>
  arun Try.prog (Instr.box 50 v2_1) h1 fun v3_2 h2 =>
  K ((((env.set 1 v1_0).set 2 v2_1).set 3 v3_2).set 0 v3_2) h2
@[congr] theorem timers_New_r1_congr {env : Env} {h : Hp} {K : Env → Hp → Prop} : timers_New_r1 env h K = timers_New_r1 env h K := rfl

def timers_New_D : Den := (sq (rg timers_New_r0) (sq (rg timers_New_r1) (ex .ret)))

theorem timers_New_eq : (den Try.prog 4 timers_New_code).1 = timers_New_D := by kernel_rfl

theorem timers_New_ok {args : Array Value} {h : Hp} {Q : Value → Hp → Prop} (hn : args.size ≤ 4) (D : timers_New_D (fin Try.prog [(Go.ResultVar.tmp 0)] Q) (env0 args) h) : Ok Try.prog 9 args h Q :=
  ok_of_den progIsOk Try.func9 (c := timers_New_code) (by kernel_rfl) hn (by show (den Try.prog 4 timers_New_code).1 _ _ _; rw [timers_New_eq]; exact D)

/-! ### (*octroi/timers.Timers).Set: function 10 -/
noncomputable def timers_Timers_Set_code : Code := match Try.f10.body with | some c => c | none => .skip

/-- timers.go:18 -/
def timers_Timers_Set_r0 (env : Env) (h : Hp) (K : Env → Hp → Prop) : Prop :=
  K (env.set 6 (Go.Value.int Go.IntKind.i64 0)) h
@[congr] theorem timers_Timers_Set_r0_congr {env : Env} {h : Hp} {K : Env → Hp → Prop} : timers_Timers_Set_r0 env h K = timers_Timers_Set_r0 env h K := rfl

/-- timers.go:19 -/
def timers_Timers_Set_r1 (env : Env) (h : Hp) (K : Env → Hp → Prop) : Prop :=
  nck (env 0) (
  rd Try.prog (Instr.fieldAt 50 (env 0) 0) noHp fun v12_2 =>
  rd Try.prog (Instr.loadAt 48 v12_2) h fun v13_3 =>
  rd Try.prog (Instr.lookup 48 v13_3 (env 1) true) h fun v15_5 =>
  rd Try.prog (Instr.extract v15_5 0) noHp fun v16_7 =>
  rd Try.prog (Instr.extract v15_5 1) noHp fun v17_8 =>
  K (((((((((((env.set 10 (env 0)).set 11 (env 0)).set 12 v12_2).set 13 v13_3).set 14 (env 1)).set 15 v15_5).set 9 v15_5).set 16 v16_7).set 17 v17_8).set 7 v16_7).set 8 v17_8) h)
@[congr] theorem timers_Timers_Set_r1_congr {env : Env} {h : Hp} {K : Env → Hp → Prop} : timers_Timers_Set_r1 env h K = timers_Timers_Set_r1 env h K := rfl

/-- timers.go:21 -/
def timers_Timers_Set_r2 (env : Env) (h : Hp) (K : Env → Hp → Prop) : Prop :=
  rd Try.prog (bop Go.BinOp.lss 3 (Go.Operand.tmp 19) (Go.Operand.const (Go.Value.int Go.IntKind.i64 0)) (env 2) (Go.Value.int Go.IntKind.i64 0)) noHp fun v20_1 =>
  gd (yb v20_1 == some false) (fun h k => k (env 2) h) h fun v22_3 h1 =>
  gd (yb v20_1 == some false) (fun h k => rd Try.prog (bop Go.BinOp.gtr 3 (Go.Operand.tmp 22) (Go.Operand.const (Go.Value.int Go.IntKind.i64 1099511627776)) v22_3 (Go.Value.int Go.IntKind.i64 1099511627776)) noHp fun v => k v h) h1 fun v23_4 h2 =>
  rd Try.prog (pck v20_1 (Go.Value.bool true) v23_4) noHp fun v24_5 =>
  K (((((((env.set 19 (env 2)).set 20 v20_1).set 21 v20_1).set 22 v22_3).set 23 v23_4).set 24 v24_5).set 18 v24_5) h2
@[congr] theorem timers_Timers_Set_r2_congr {env : Env} {h : Hp} {K : Env → Hp → Prop} : timers_Timers_Set_r2 env h K = timers_Timers_Set_r2 env h K := rfl

/-- timers.go:22 -/
def timers_Timers_Set_r3 (env : Env) (h : Hp) (K : Env → Hp → Prop) : Prop :=
  K (env.set 6 (Go.Value.int Go.IntKind.i64 1)) h
@[congr] theorem timers_Timers_Set_r3_congr {env : Env} {h : Hp} {K : Env → Hp → Prop} : timers_Timers_Set_r3 env h K = timers_Timers_Set_r3 env h K := rfl

/-- timers.go:23 -/
def timers_Timers_Set_r4 (env : Env) (h : Hp) (K : Env → Hp → Prop) : Prop :=
  rd Try.prog (Op.unary Go.UnOp.not (env 8)) noHp fun v27_1 =>
  gd (yb v27_1 == some true) (fun h k => k (env 0) h) h fun v29_3 h1 =>
  gd (yb v27_1 == some true) (fun h k => nck v29_3 (k v29_3 h)) h1 fun v30_4 h2 =>
  gd (yb v27_1 == some true) (fun h k => rd Try.prog (Instr.fieldAt 50 v30_4 0) noHp fun v => k v h) h2 fun v31_5 h3 =>
  gd (yb v27_1 == some true) (fun h k => rd Try.prog (Instr.loadAt 48 v31_5) h fun v => k v h) h3 fun v32_6 h4 =>
  gd (yb v27_1 == some true) (fun h k => rd Try.prog (Builtin.len_ #[48] 3 #[v32_6]) h fun v => k v h) h4 fun v33_7 h5 =>
  gd (yb v27_1 == some true) (fun h k => rd Try.prog (bop Go.BinOp.geq 3 (Go.Operand.tmp 33) (Go.Operand.const (Go.Value.int Go.IntKind.i64 256)) v33_7 (Go.Value.int Go.IntKind.i64 256)) noHp fun v => k v h) h5 fun v34_8 h6 =>
  rd Try.prog (pck v27_1 v34_8 (Go.Value.bool false)) noHp fun v35_9 =>
  K (((((((((((env.set 26 (env 8)).set 27 v27_1).set 28 v27_1).set 29 v29_3).set 30 v30_4).set 31 v31_5).set 32 v32_6).set 33 v33_7).set 34 v34_8).set 35 v35_9).set 25 v35_9) h6
@[congr] theorem timers_Timers_Set_r4_congr {env : Env} {h : Hp} {K : Env → Hp → Prop} : timers_Timers_Set_r4 env h K = timers_Timers_Set_r4 env h K := rfl

/-- timers.go:24 -/
def timers_Timers_Set_r5 (env : Env) (h : Hp) (K : Env → Hp → Prop) : Prop :=
  K (env.set 6 (Go.Value.int Go.IntKind.i64 4)) h
@[congr] theorem timers_Timers_Set_r5_congr {env : Env} {h : Hp} {K : Env → Hp → Prop} : timers_Timers_Set_r5 env h K = timers_Timers_Set_r5 env h K := rfl

/-- timers.go:26 -/
def timers_Timers_Set_r6 (env : Env) (h : Hp) (K : Env → Hp → Prop) : Prop :=
  nck (env 0) (
  rd Try.prog (Instr.fieldAt 50 (env 0) 0) noHp fun v38_2 =>
  rd Try.prog (Instr.loadAt 48 v38_2) h fun v39_3 =>
  arun Try.prog (Instr.mapUpdate 48 v39_3 (env 1) (env 2)) h fun _ h1 =>
  K ((((((env.set 36 (env 0)).set 37 (env 0)).set 38 v38_2).set 39 v39_3).set 40 (env 1)).set 41 (env 2)) h1)
@[congr] theorem timers_Timers_Set_r6_congr {env : Env} {h : Hp} {K : Env → Hp → Prop} : timers_Timers_Set_r6 env h K = timers_Timers_Set_r6 env h K := rfl

/-- timers.go:27 -/
def timers_Timers_Set_r7 (env : Env) (h : Hp) (K : Env → Hp → Prop) : Prop :=
  K (env.set 6 (Go.Value.int Go.IntKind.i64 0)) h
@[congr] theorem timers_Timers_Set_r7_congr {env : Env} {h : Hp} {K : Env → Hp → Prop} : timers_Timers_Set_r7 env h K = timers_Timers_Set_r7 env h K := rfl

def timers_Timers_Set_D : Den := (sq (rg timers_Timers_Set_r0) (sq (rg timers_Timers_Set_r1) (sq (blk 0 (sq (rg timers_Timers_Set_r2) (cnd (Go.Operand.tmp 18) (sq (rg timers_Timers_Set_r3) (ex .ret)) (sq (rg timers_Timers_Set_r4) (cnd (Go.Operand.tmp 25) (sq (rg timers_Timers_Set_r5) (ex .ret)) (ex .normal)))))) (sq (rg timers_Timers_Set_r6) (sq (rg timers_Timers_Set_r7) (ex .ret))))))

theorem timers_Timers_Set_eq : (den Try.prog 42 timers_Timers_Set_code).1 = timers_Timers_Set_D := by kernel_rfl

theorem timers_Timers_Set_ok {args : Array Value} {h : Hp} {Q : Value → Hp → Prop} (hn : args.size ≤ 42) (D : timers_Timers_Set_D (fin Try.prog [(Go.ResultVar.tmp 6)] Q) (env0 args) h) : Ok Try.prog 10 args h Q :=
  ok_of_den progIsOk Try.func10 (c := timers_Timers_Set_code) (by kernel_rfl) hn (by show (den Try.prog 42 timers_Timers_Set_code).1 _ _ _; rw [timers_Timers_Set_eq]; exact D)

/-! ### (*octroi/timers.Timers).Due: function 11 -/
noncomputable def timers_Timers_Due_code : Code := match Try.f11.body with | some c => c | none => .skip

/-- timers.go:43 -/
def timers_Timers_Due_r0 (env : Env) (h : Hp) (K : Env → Hp → Prop) : Prop :=
  K (env.set 4 (Go.Value.slice none 0 0)) h
@[congr] theorem timers_Timers_Due_r0_congr {env : Env} {h : Hp} {K : Env → Hp → Prop} : timers_Timers_Due_r0 env h K = timers_Timers_Due_r0 env h K := rfl

/-- timers.go:44 -/
def timers_Timers_Due_r1 (env : Env) (h : Hp) (K : Env → Hp → Prop) : Prop :=
  K (env.set 5 (Go.Value.slice none 0 0)) h
@[congr] theorem timers_Timers_Due_r1_congr {env : Env} {h : Hp} {K : Env → Hp → Prop} : timers_Timers_Due_r1 env h K = timers_Timers_Due_r1 env h K := rfl

/-- timers.go:45 -/
def timers_Timers_Due_r2 (env : Env) (h : Hp) (K : Env → Hp → Prop) : Prop :=
  nck (env 0) (
  rd Try.prog (Instr.fieldAt 50 (env 0) 0) noHp fun v12_2 =>
  rd Try.prog (Instr.loadAt 48 v12_2) h fun v13_3 =>
  arun Try.prog (Instr.range 48 v13_3) h fun v14_4 h1 =>
  K (((((env.set 10 (env 0)).set 11 (env 0)).set 12 v12_2).set 13 v13_3).set 14 v14_4) h1)
@[congr] theorem timers_Timers_Due_r2_congr {env : Env} {h : Hp} {K : Env → Hp → Prop} : timers_Timers_Due_r2 env h K = timers_Timers_Due_r2 env h K := rfl

/-- timers.go:45 -/
def timers_Timers_Due_r3 (env : Env) (h : Hp) (K : Env → Hp → Prop) : Prop :=
  arun Try.prog (Instr.next (env 14) false 0) h fun v15_0 h1 =>
  rd Try.prog (Instr.extract v15_0 0) noHp fun v16_1 =>
  K ((env.set 15 v15_0).set 16 v16_1) h1
@[congr] theorem timers_Timers_Due_r3_congr {env : Env} {h : Hp} {K : Env → Hp → Prop} : timers_Timers_Due_r3 env h K = timers_Timers_Due_r3 env h K := rfl

/-- timers.go:45 -/
def timers_Timers_Due_r4 (env : Env) (h : Hp) (K : Env → Hp → Prop) : Prop :=
  arun Try.prog (Instr.entry (env 14)) h fun v17_0 h1 =>
  rd Try.prog (Instr.extract v17_0 0) noHp fun v18_1 =>
  rd Try.prog (Instr.extract v17_0 1) noHp fun v19_2 =>
  K (((((env.set 17 v17_0).set 18 v18_1).set 19 v19_2).set 6 v18_1).set 7 v19_2) h1
@[congr] theorem timers_Timers_Due_r4_congr {env : Env} {h : Hp} {K : Env → Hp → Prop} : timers_Timers_Due_r4 env h K = timers_Timers_Due_r4 env h K := rfl

/-- timers.go:46 -/
def timers_Timers_Due_r5 (env : Env) (h : Hp) (K : Env → Hp → Prop) : Prop :=
  rd Try.prog (bop Go.BinOp.leq 3 (Go.Operand.tmp 20) (Go.Operand.tmp 21) (env 7) (env 1)) noHp fun v22_2 =>
  K (((env.set 20 (env 7)).set 21 (env 1)).set 22 v22_2) h
@[congr] theorem timers_Timers_Due_r5_congr {env : Env} {h : Hp} {K : Env → Hp → Prop} : timers_Timers_Due_r5 env h K = timers_Timers_Due_r5 env h K := rfl

/-- timers.go:47 -/
def timers_Timers_Due_r6 (env : Env) (h : Hp) (K : Env → Hp → Prop) : Prop :=
  rd Try.prog (Instr.build 37 #[(0, (env 6)), (1, (env 7))]) noHp fun v26_3 =>
  arun Try.prog (Instr.buildSlice 27 1 #[(0, v26_3)]) h fun v27_4 h1 =>
  arun Try.prog (Builtin.append_ #[27, 27] 27 #[(env 5), v27_4]) h1 fun v28_5 h2 =>
  K (((((((env.set 23 (env 5)).set 24 (env 6)).set 25 (env 7)).set 26 v26_3).set 27 v27_4).set 28 v28_5).set 5 v28_5) h2
@[congr] theorem timers_Timers_Due_r6_congr {env : Env} {h : Hp} {K : Env → Hp → Prop} : timers_Timers_Due_r6 env h K = timers_Timers_Due_r6 env h K := rfl

def timers_Timers_Due_L0 : Den := (sq (rg timers_Timers_Due_r3) (sq (cnd (Go.Operand.tmp 16) (ex .normal) (ex (.exit 0))) (blk 1 (sq (rg timers_Timers_Due_r4) (sq (rg timers_Timers_Due_r5) (cnd (Go.Operand.tmp 22) (rg timers_Timers_Due_r6) (ex .normal)))))))

/-- timers.go:50 -/
def timers_Timers_Due_r7 (env : Env) (h : Hp) (K : Env → Hp → Prop) : Prop :=
  rd Try.prog (Builtin.len_ #[27] 3 #[(env 5)]) h fun v30_1 =>
  K (((env.set 29 (env 5)).set 30 v30_1).set 31 (Go.Value.int Go.IntKind.i64 0)) h
@[congr] theorem timers_Timers_Due_r7_congr {env : Env} {h : Hp} {K : Env → Hp → Prop} : timers_Timers_Due_r7 env h K = timers_Timers_Due_r7 env h K := rfl

/-- timers.go:50 -/
def timers_Timers_Due_r8 (env : Env) (h : Hp) (K : Env → Hp → Prop) : Prop :=
  rd Try.prog (bop Go.BinOp.lss 3 (Go.Operand.tmp 31) (Go.Operand.tmp 30) (env 31) (env 30)) noHp fun v32_0 =>
  K (env.set 32 v32_0) h
@[congr] theorem timers_Timers_Due_r8_congr {env : Env} {h : Hp} {K : Env → Hp → Prop} : timers_Timers_Due_r8 env h K = timers_Timers_Due_r8 env h K := rfl

/-- timers.go:50 -/
def timers_Timers_Due_r9 (env : Env) (h : Hp) (K : Env → Hp → Prop) : Prop :=
  rd Try.prog (Instr.indexAt 27 (env 29) (env 31)) noHp fun v33_0 =>
  rd Try.prog (Instr.loadAt 37 v33_0) h fun v34_1 =>
  arun Try.prog (Instr.alloc 37 true (Go.Value.tuple #[])) h fun v9_2 h1 =>
  arun Try.prog (Instr.storeAt 37 v9_2 v34_1) h1 fun _ h2 =>
  K (((env.set 33 v33_0).set 34 v34_1).set 9 v9_2) h2
@[congr] theorem timers_Timers_Due_r9_congr {env : Env} {h : Hp} {K : Env → Hp → Prop} : timers_Timers_Due_r9 env h K = timers_Timers_Due_r9 env h K := rfl

/-- timers.go:51 (in any order) -/
def timers_Timers_Due_r10 (env : Env) (h : Hp) (K : Env → Hp → Prop) : Prop :=
  nck (env 0) (
  rd Try.prog (Instr.fieldAt 50 (env 0) 0) noHp fun v37_2 =>
  rd Try.prog (Instr.loadAt 48 v37_2) h fun v38_3 =>
  rd Try.prog (Instr.fieldAt 37 (env 9) 0) noHp fun v39_4 =>
  rd Try.prog (Instr.loadAt 3 v39_4) h fun v40_5 =>
  arun Try.prog (Builtin.delete_ #[48, 3] 0 #[v38_3, v40_5]) h fun _ h1 =>
  (True) ∧
  K ((((((env.set 35 (env 0)).set 36 (env 0)).set 37 v37_2).set 38 v38_3).set 39 v39_4).set 40 v40_5) h1)
@[congr] theorem timers_Timers_Due_r10_congr {env : Env} {h : Hp} {K : Env → Hp → Prop} : timers_Timers_Due_r10 env h K = timers_Timers_Due_r10 env h K := rfl

/-- timers.go:50 -/
def timers_Timers_Due_r11 (env : Env) (h : Hp) (K : Env → Hp → Prop) : Prop :=
  rd Try.prog (bop Go.BinOp.add 3 (Go.Operand.tmp 31) (Go.Operand.const (Go.Value.int Go.IntKind.i64 1)) (env 31) (Go.Value.int Go.IntKind.i64 1)) noHp fun v41_0 =>
  K ((env.set 41 v41_0).set 31 v41_0) h
@[congr] theorem timers_Timers_Due_r11_congr {env : Env} {h : Hp} {K : Env → Hp → Prop} : timers_Timers_Due_r11 env h K = timers_Timers_Due_r11 env h K := rfl

def timers_Timers_Due_L1 : Den := (sq (rg timers_Timers_Due_r8) (sq (cnd (Go.Operand.tmp 32) (ex .normal) (ex (.exit 2))) (sq (blk 3 (sq (rg timers_Timers_Due_r9) (rg timers_Timers_Due_r10))) (rg timers_Timers_Due_r11))))

/-- timers.go:53 -/
def timers_Timers_Due_r12 (env : Env) (h : Hp) (K : Env → Hp → Prop) : Prop :=
  Ok Try.prog 19 #[(env 5), (Go.Value.func (Go.Fn.func 20) #[] #[])] h fun v43_1 h1 =>
  K ((env.set 42 (env 5)).set 43 v43_1) h1
@[congr] theorem timers_Timers_Due_r12_congr {env : Env} {h : Hp} {K : Env → Hp → Prop} : timers_Timers_Due_r12 env h K = timers_Timers_Due_r12 env h K := rfl

/-- timers.go:54 -/
def timers_Timers_Due_r13 (env : Env) (h : Hp) (K : Env → Hp → Prop) : Prop :=
  K ((env.set 44 (env 5)).set 4 (env 5)) h
@[congr] theorem timers_Timers_Due_r13_congr {env : Env} {h : Hp} {K : Env → Hp → Prop} : timers_Timers_Due_r13 env h K = timers_Timers_Due_r13 env h K := rfl

def timers_Timers_Due_D : Den := (sq (rg timers_Timers_Due_r0) (sq (rg timers_Timers_Due_r1) (sq (sq (rg timers_Timers_Due_r2) (blk 0 (lp timers_Timers_Due_L0))) (sq (sq (rg timers_Timers_Due_r7) (blk 2 (lp timers_Timers_Due_L1))) (sq (rg timers_Timers_Due_r12) (sq (rg timers_Timers_Due_r13) (ex .ret)))))))

theorem timers_Timers_Due_eq : (den Try.prog 45 timers_Timers_Due_code).1 = timers_Timers_Due_D := by kernel_rfl

theorem timers_Timers_Due_ok {args : Array Value} {h : Hp} {Q : Value → Hp → Prop} (hn : args.size ≤ 45) (D : timers_Timers_Due_D (fin Try.prog [(Go.ResultVar.tmp 4)] Q) (env0 args) h) : Ok Try.prog 11 args h Q :=
  ok_of_den progIsOk Try.func11 (c := timers_Timers_Due_code) (by kernel_rfl) hn (by show (den Try.prog 45 timers_Timers_Due_code).1 _ _ _; rw [timers_Timers_Due_eq]; exact D)

/-! ### (*octroi/timers.Timers).Len: function 12 -/
noncomputable def timers_Timers_Len_code : Code := match Try.f12.body with | some c => c | none => .skip

/-- timers.go:69 -/
def timers_Timers_Len_r0 (env : Env) (h : Hp) (K : Env → Hp → Prop) : Prop :=
  K (env.set 2 (Go.Value.int Go.IntKind.i64 0)) h
@[congr] theorem timers_Timers_Len_r0_congr {env : Env} {h : Hp} {K : Env → Hp → Prop} : timers_Timers_Len_r0 env h K = timers_Timers_Len_r0 env h K := rfl

/-- timers.go:69 -/
def timers_Timers_Len_r1 (env : Env) (h : Hp) (K : Env → Hp → Prop) : Prop :=
  nck (env 0) (
  rd Try.prog (Instr.fieldAt 50 (env 0) 0) noHp fun v5_2 =>
  rd Try.prog (Instr.loadAt 48 v5_2) h fun v6_3 =>
  rd Try.prog (Builtin.len_ #[48] 3 #[v6_3]) h fun v7_4 =>
  K ((((((env.set 3 (env 0)).set 4 (env 0)).set 5 v5_2).set 6 v6_3).set 7 v7_4).set 2 v7_4) h)
@[congr] theorem timers_Timers_Len_r1_congr {env : Env} {h : Hp} {K : Env → Hp → Prop} : timers_Timers_Len_r1 env h K = timers_Timers_Len_r1 env h K := rfl

def timers_Timers_Len_D : Den := (sq (rg timers_Timers_Len_r0) (sq (rg timers_Timers_Len_r1) (ex .ret)))

theorem timers_Timers_Len_eq : (den Try.prog 8 timers_Timers_Len_code).1 = timers_Timers_Len_D := by kernel_rfl

theorem timers_Timers_Len_ok {args : Array Value} {h : Hp} {Q : Value → Hp → Prop} (hn : args.size ≤ 8) (D : timers_Timers_Len_D (fin Try.prog [(Go.ResultVar.tmp 2)] Q) (env0 args) h) : Ok Try.prog 12 args h Q :=
  ok_of_den progIsOk Try.func12 (c := timers_Timers_Len_code) (by kernel_rfl) hn (by show (den Try.prog 8 timers_Timers_Len_code).1 _ _ _; rw [timers_Timers_Len_eq]; exact D)

/-! ### (*octroi/timers.Timers).Stop: function 13 -/
noncomputable def timers_Timers_Stop_code : Code := match Try.f13.body with | some c => c | none => .skip

/-- timers.go:31 -/
def timers_Timers_Stop_r0 (env : Env) (h : Hp) (K : Env → Hp → Prop) : Prop :=
  K (env.set 4 (Go.Value.int Go.IntKind.i64 0)) h
@[congr] theorem timers_Timers_Stop_r0_congr {env : Env} {h : Hp} {K : Env → Hp → Prop} : timers_Timers_Stop_r0 env h K = timers_Timers_Stop_r0 env h K := rfl

/-- timers.go:32 -/
def timers_Timers_Stop_r1 (env : Env) (h : Hp) (K : Env → Hp → Prop) : Prop :=
  nck (env 0) (
  rd Try.prog (Instr.fieldAt 50 (env 0) 0) noHp fun v10_2 =>
  rd Try.prog (Instr.loadAt 48 v10_2) h fun v11_3 =>
  rd Try.prog (Instr.lookup 48 v11_3 (env 1) true) h fun v13_5 =>
  rd Try.prog (Instr.extract v13_5 0) noHp fun v14_7 =>
  rd Try.prog (Instr.extract v13_5 1) noHp fun v15_8 =>
  K (((((((((((env.set 8 (env 0)).set 9 (env 0)).set 10 v10_2).set 11 v11_3).set 12 (env 1)).set 13 v13_5).set 7 v13_5).set 14 v14_7).set 15 v15_8).set 5 v14_7).set 6 v15_8) h)
@[congr] theorem timers_Timers_Stop_r1_congr {env : Env} {h : Hp} {K : Env → Hp → Prop} : timers_Timers_Stop_r1 env h K = timers_Timers_Stop_r1 env h K := rfl

/-- timers.go:32 -/
def timers_Timers_Stop_r2 (env : Env) (h : Hp) (K : Env → Hp → Prop) : Prop :=
  rd Try.prog (Op.unary Go.UnOp.not (env 6)) noHp fun v17_1 =>
  K ((env.set 16 (env 6)).set 17 v17_1) h
@[congr] theorem timers_Timers_Stop_r2_congr {env : Env} {h : Hp} {K : Env → Hp → Prop} : timers_Timers_Stop_r2 env h K = timers_Timers_Stop_r2 env h K := rfl

/-- timers.go:33 -/
def timers_Timers_Stop_r3 (env : Env) (h : Hp) (K : Env → Hp → Prop) : Prop :=
  K (env.set 4 (Go.Value.int Go.IntKind.i64 5)) h
@[congr] theorem timers_Timers_Stop_r3_congr {env : Env} {h : Hp} {K : Env → Hp → Prop} : timers_Timers_Stop_r3 env h K = timers_Timers_Stop_r3 env h K := rfl

/-- timers.go:35 -/
def timers_Timers_Stop_r4 (env : Env) (h : Hp) (K : Env → Hp → Prop) : Prop :=
  nck (env 0) (
  rd Try.prog (Instr.fieldAt 50 (env 0) 0) noHp fun v20_2 =>
  rd Try.prog (Instr.loadAt 48 v20_2) h fun v21_3 =>
  arun Try.prog (Builtin.delete_ #[48, 3] 0 #[v21_3, (env 1)]) h fun _ h1 =>
  K (((((env.set 18 (env 0)).set 19 (env 0)).set 20 v20_2).set 21 v21_3).set 22 (env 1)) h1)
@[congr] theorem timers_Timers_Stop_r4_congr {env : Env} {h : Hp} {K : Env → Hp → Prop} : timers_Timers_Stop_r4 env h K = timers_Timers_Stop_r4 env h K := rfl

/-- timers.go:36 -/
def timers_Timers_Stop_r5 (env : Env) (h : Hp) (K : Env → Hp → Prop) : Prop :=
  K (env.set 4 (Go.Value.int Go.IntKind.i64 0)) h
@[congr] theorem timers_Timers_Stop_r5_congr {env : Env} {h : Hp} {K : Env → Hp → Prop} : timers_Timers_Stop_r5 env h K = timers_Timers_Stop_r5 env h K := rfl

def timers_Timers_Stop_D : Den := (sq (rg timers_Timers_Stop_r0) (sq (sq (rg timers_Timers_Stop_r1) (sq (rg timers_Timers_Stop_r2) (cnd (Go.Operand.tmp 17) (sq (rg timers_Timers_Stop_r3) (ex .ret)) (ex .normal)))) (sq (rg timers_Timers_Stop_r4) (sq (rg timers_Timers_Stop_r5) (ex .ret)))))

theorem timers_Timers_Stop_eq : (den Try.prog 23 timers_Timers_Stop_code).1 = timers_Timers_Stop_D := by kernel_rfl

theorem timers_Timers_Stop_ok {args : Array Value} {h : Hp} {Q : Value → Hp → Prop} (hn : args.size ≤ 23) (D : timers_Timers_Stop_D (fin Try.prog [(Go.ResultVar.tmp 4)] Q) (env0 args) h) : Ok Try.prog 13 args h Q :=
  ok_of_den progIsOk Try.func13 (c := timers_Timers_Stop_code) (by kernel_rfl) hn (by show (den Try.prog 23 timers_Timers_Stop_code).1 _ _ _; rw [timers_Timers_Stop_eq]; exact D)

/-! ### (*octroi/timers.Timers).Next: function 14 -/
noncomputable def timers_Timers_Next_code : Code := match Try.f14.body with | some c => c | none => .skip

/-- timers.go:58 -/
def timers_Timers_Next_r0 (env : Env) (h : Hp) (K : Env → Hp → Prop) : Prop :=
  K ((env.set 2 (Go.Value.int Go.IntKind.i64 0)).set 3 (Go.Value.bool false)) h
@[congr] theorem timers_Timers_Next_r0_congr {env : Env} {h : Hp} {K : Env → Hp → Prop} : timers_Timers_Next_r0 env h K = timers_Timers_Next_r0 env h K := rfl

/-- timers.go:59 -/
def timers_Timers_Next_r1 (env : Env) (h : Hp) (K : Env → Hp → Prop) : Prop :=
  K ((env.set 4 (Go.Value.int Go.IntKind.i64 0)).set 5 (Go.Value.bool false)) h
@[congr] theorem timers_Timers_Next_r1_congr {env : Env} {h : Hp} {K : Env → Hp → Prop} : timers_Timers_Next_r1 env h K = timers_Timers_Next_r1 env h K := rfl

/-- timers.go:60 -/
def timers_Timers_Next_r2 (env : Env) (h : Hp) (K : Env → Hp → Prop) : Prop :=
  nck (env 0) (
  rd Try.prog (Instr.fieldAt 50 (env 0) 0) noHp fun v10_2 =>
  rd Try.prog (Instr.loadAt 48 v10_2) h fun v11_3 =>
  arun Try.prog (Instr.range 48 v11_3) h fun v12_4 h1 =>
  K (((((env.set 8 (env 0)).set 9 (env 0)).set 10 v10_2).set 11 v11_3).set 12 v12_4) h1)
@[congr] theorem timers_Timers_Next_r2_congr {env : Env} {h : Hp} {K : Env → Hp → Prop} : timers_Timers_Next_r2 env h K = timers_Timers_Next_r2 env h K := rfl

/-- timers.go:60 -/
def timers_Timers_Next_r3 (env : Env) (h : Hp) (K : Env → Hp → Prop) : Prop :=
  arun Try.prog (Instr.next (env 12) false 0) h fun v13_0 h1 =>
  rd Try.prog (Instr.extract v13_0 0) noHp fun v14_1 =>
  K ((env.set 13 v13_0).set 14 v14_1) h1
@[congr] theorem timers_Timers_Next_r3_congr {env : Env} {h : Hp} {K : Env → Hp → Prop} : timers_Timers_Next_r3 env h K = timers_Timers_Next_r3 env h K := rfl

/-- timers.go:60 -/
def timers_Timers_Next_r4 (env : Env) (h : Hp) (K : Env → Hp → Prop) : Prop :=
  arun Try.prog (Instr.entry (env 12)) h fun v15_0 h1 =>
  rd Try.prog (Instr.extract v15_0 1) noHp fun v16_1 =>
  K (((env.set 15 v15_0).set 16 v16_1).set 7 v16_1) h1
@[congr] theorem timers_Timers_Next_r4_congr {env : Env} {h : Hp} {K : Env → Hp → Prop} : timers_Timers_Next_r4 env h K = timers_Timers_Next_r4 env h K := rfl

/-- timers.go:61 -/
def timers_Timers_Next_r5 (env : Env) (h : Hp) (K : Env → Hp → Prop) : Prop :=
  rd Try.prog (Op.unary Go.UnOp.not (env 5)) noHp fun v18_1 =>
  gd (yb v18_1 == some false) (fun h k => k (env 7) h) h fun v20_3 h1 =>
  gd (yb v18_1 == some false) (fun h k => k (env 4) h) h1 fun v21_4 h2 =>
  gd (yb v18_1 == some false) (fun h k => rd Try.prog (bop Go.BinOp.lss 3 (Go.Operand.tmp 20) (Go.Operand.tmp 21) v20_3 v21_4) noHp fun v => k v h) h2 fun v22_5 h3 =>
  rd Try.prog (pck v18_1 (Go.Value.bool true) v22_5) noHp fun v23_6 =>
  K (((((((env.set 17 (env 5)).set 18 v18_1).set 19 v18_1).set 20 v20_3).set 21 v21_4).set 22 v22_5).set 23 v23_6) h3
@[congr] theorem timers_Timers_Next_r5_congr {env : Env} {h : Hp} {K : Env → Hp → Prop} : timers_Timers_Next_r5 env h K = timers_Timers_Next_r5 env h K := rfl

/-- timers.go:62 -/
def timers_Timers_Next_r6 (env : Env) (h : Hp) (K : Env → Hp → Prop) : Prop :=
  K (((env.set 24 (env 7)).set 4 (env 7)).set 5 (Go.Value.bool true)) h
@[congr] theorem timers_Timers_Next_r6_congr {env : Env} {h : Hp} {K : Env → Hp → Prop} : timers_Timers_Next_r6 env h K = timers_Timers_Next_r6 env h K := rfl

def timers_Timers_Next_L0 : Den := (sq (rg timers_Timers_Next_r3) (sq (cnd (Go.Operand.tmp 14) (ex .normal) (ex (.exit 0))) (blk 1 (sq (rg timers_Timers_Next_r4) (sq (rg timers_Timers_Next_r5) (cnd (Go.Operand.tmp 23) (rg timers_Timers_Next_r6) (ex .normal)))))))

/-- timers.go:65 -/
def timers_Timers_Next_r7 (env : Env) (h : Hp) (K : Env → Hp → Prop) : Prop :=
  K ((((env.set 25 (env 4)).set 26 (env 5)).set 2 (env 4)).set 3 (env 5)) h
@[congr] theorem timers_Timers_Next_r7_congr {env : Env} {h : Hp} {K : Env → Hp → Prop} : timers_Timers_Next_r7 env h K = timers_Timers_Next_r7 env h K := rfl

def timers_Timers_Next_D : Den := (sq (rg timers_Timers_Next_r0) (sq (rg timers_Timers_Next_r1) (sq (sq (rg timers_Timers_Next_r2) (blk 0 (lp timers_Timers_Next_L0))) (sq (rg timers_Timers_Next_r7) (ex .ret)))))

theorem timers_Timers_Next_eq : (den Try.prog 27 timers_Timers_Next_code).1 = timers_Timers_Next_D := by kernel_rfl

theorem timers_Timers_Next_ok {args : Array Value} {h : Hp} {Q : Value → Hp → Prop} (hn : args.size ≤ 27) (D : timers_Timers_Next_D (fin Try.prog [(Go.ResultVar.tmp 2), (Go.ResultVar.tmp 3)] Q) (env0 args) h) : Ok Try.prog 14 args h Q :=
  ok_of_den progIsOk Try.func14 (c := timers_Timers_Next_code) (by kernel_rfl) hn (by show (den Try.prog 27 timers_Timers_Next_code).1 _ _ _; rw [timers_Timers_Next_eq]; exact D)

/-! ### (*octroi/octroiref10.Timers).Set: function 15 -/
noncomputable def octroiref10_Timers_Set_code : Code := match Try.f15.body with | some c => c | none => .skip

/-- ref.go:25 -/
def octroiref10_Timers_Set_r0 (env : Env) (h : Hp) (K : Env → Hp → Prop) : Prop :=
  K (env.set 6 (Go.Value.int Go.IntKind.i64 0)) h
@[congr] theorem octroiref10_Timers_Set_r0_congr {env : Env} {h : Hp} {K : Env → Hp → Prop} : octroiref10_Timers_Set_r0 env h K = octroiref10_Timers_Set_r0 env h K := rfl

/-- ref.go:26 -/
def octroiref10_Timers_Set_r1 (env : Env) (h : Hp) (K : Env → Hp → Prop) : Prop :=
  rd Try.prog (bop Go.BinOp.lss 3 (Go.Operand.tmp 11) (Go.Operand.const (Go.Value.int Go.IntKind.i64 0)) (env 2) (Go.Value.int Go.IntKind.i64 0)) noHp fun v12_1 =>
  gd (yb v12_1 == some false) (fun h k => k (env 2) h) h fun v14_3 h1 =>
  gd (yb v12_1 == some false) (fun h k => rd Try.prog (bop Go.BinOp.gtr 3 (Go.Operand.tmp 14) (Go.Operand.const (Go.Value.int Go.IntKind.i64 1099511627776)) v14_3 (Go.Value.int Go.IntKind.i64 1099511627776)) noHp fun v => k v h) h1 fun v15_4 h2 =>
  rd Try.prog (pck v12_1 (Go.Value.bool true) v15_4) noHp fun v16_5 =>
  K ((((((env.set 11 (env 2)).set 12 v12_1).set 13 v12_1).set 14 v14_3).set 15 v15_4).set 16 v16_5) h2
@[congr] theorem octroiref10_Timers_Set_r1_congr {env : Env} {h : Hp} {K : Env → Hp → Prop} : octroiref10_Timers_Set_r1 env h K = octroiref10_Timers_Set_r1 env h K := rfl

/-- ref.go:27 -/
def octroiref10_Timers_Set_r2 (env : Env) (h : Hp) (K : Env → Hp → Prop) : Prop :=
  K (env.set 6 (Go.Value.int Go.IntKind.i64 1)) h
@[congr] theorem octroiref10_Timers_Set_r2_congr {env : Env} {h : Hp} {K : Env → Hp → Prop} : octroiref10_Timers_Set_r2 env h K = octroiref10_Timers_Set_r2 env h K := rfl

/-- ref.go:29 -/
def octroiref10_Timers_Set_r3 (env : Env) (h : Hp) (K : Env → Hp → Prop) : Prop :=
  Ok Try.prog 16 #[(env 0), (env 1)] h fun v19_2 h1 =>
  K ((((env.set 17 (env 0)).set 18 (env 1)).set 19 v19_2).set 7 v19_2) h1
@[congr] theorem octroiref10_Timers_Set_r3_congr {env : Env} {h : Hp} {K : Env → Hp → Prop} : octroiref10_Timers_Set_r3 env h K = octroiref10_Timers_Set_r3 env h K := rfl

/-- ref.go:30 -/
def octroiref10_Timers_Set_r4 (env : Env) (h : Hp) (K : Env → Hp → Prop) : Prop :=
  rd Try.prog (bop Go.BinOp.neq 25 (Go.Operand.tmp 20) (Go.Operand.const (Go.Value.int Go.IntKind.i64 0)) (env 7) (Go.Value.int Go.IntKind.i64 0)) noHp fun v21_1 =>
  gd (yb v21_1 == some true) (fun h k => k (env 0) h) h fun v23_3 h1 =>
  gd (yb v21_1 == some true) (fun h k => nck v23_3 (k v23_3 h)) h1 fun v24_4 h2 =>
  gd (yb v21_1 == some true) (fun h k => rd Try.prog (Instr.fieldAt 45 v24_4 0) noHp fun v => k v h) h2 fun v25_5 h3 =>
  gd (yb v21_1 == some true) (fun h k => rd Try.prog (Instr.loadAt 27 v25_5) h fun v => k v h) h3 fun v26_6 h4 =>
  gd (yb v21_1 == some true) (fun h k => rd Try.prog (Builtin.len_ #[27] 3 #[v26_6]) h fun v => k v h) h4 fun v27_7 h5 =>
  gd (yb v21_1 == some true) (fun h k => rd Try.prog (bop Go.BinOp.geq 3 (Go.Operand.tmp 27) (Go.Operand.const (Go.Value.int Go.IntKind.i64 256)) v27_7 (Go.Value.int Go.IntKind.i64 256)) noHp fun v => k v h) h5 fun v28_8 h6 =>
  rd Try.prog (pck v21_1 v28_8 (Go.Value.bool false)) noHp fun v29_9 =>
  K ((((((((((env.set 20 (env 7)).set 21 v21_1).set 22 v21_1).set 23 v23_3).set 24 v24_4).set 25 v25_5).set 26 v26_6).set 27 v27_7).set 28 v28_8).set 29 v29_9) h6
@[congr] theorem octroiref10_Timers_Set_r4_congr {env : Env} {h : Hp} {K : Env → Hp → Prop} : octroiref10_Timers_Set_r4 env h K = octroiref10_Timers_Set_r4 env h K := rfl

/-- ref.go:31 -/
def octroiref10_Timers_Set_r5 (env : Env) (h : Hp) (K : Env → Hp → Prop) : Prop :=
  K (env.set 6 (Go.Value.int Go.IntKind.i64 4)) h
@[congr] theorem octroiref10_Timers_Set_r5_congr {env : Env} {h : Hp} {K : Env → Hp → Prop} : octroiref10_Timers_Set_r5 env h K = octroiref10_Timers_Set_r5 env h K := rfl

/-- ref.go:33 -/
def octroiref10_Timers_Set_r6 (env : Env) (h : Hp) (K : Env → Hp → Prop) : Prop :=
  K (env.set 8 (Go.Value.slice none 0 0)) h
@[congr] theorem octroiref10_Timers_Set_r6_congr {env : Env} {h : Hp} {K : Env → Hp → Prop} : octroiref10_Timers_Set_r6 env h K = octroiref10_Timers_Set_r6 env h K := rfl

/-- ref.go:34 -/
def octroiref10_Timers_Set_r7 (env : Env) (h : Hp) (K : Env → Hp → Prop) : Prop :=
  K (env.set 9 (Go.Value.bool false)) h
@[congr] theorem octroiref10_Timers_Set_r7_congr {env : Env} {h : Hp} {K : Env → Hp → Prop} : octroiref10_Timers_Set_r7 env h K = octroiref10_Timers_Set_r7 env h K := rfl

/-- ref.go:35 -/
def octroiref10_Timers_Set_r8 (env : Env) (h : Hp) (K : Env → Hp → Prop) : Prop :=
  K (env.set 10 (Go.Value.int Go.IntKind.i64 0)) h
@[congr] theorem octroiref10_Timers_Set_r8_congr {env : Env} {h : Hp} {K : Env → Hp → Prop} : octroiref10_Timers_Set_r8 env h K = octroiref10_Timers_Set_r8 env h K := rfl

/-- ref.go:35 -/
def octroiref10_Timers_Set_r9 (env : Env) (h : Hp) (K : Env → Hp → Prop) : Prop :=
  nck (env 0) (
  rd Try.prog (Instr.fieldAt 45 (env 0) 0) noHp fun v33_3 =>
  rd Try.prog (Instr.loadAt 27 v33_3) h fun v34_4 =>
  rd Try.prog (Builtin.len_ #[27] 3 #[v34_4]) h fun v35_5 =>
  rd Try.prog (bop Go.BinOp.lss 3 (Go.Operand.tmp 30) (Go.Operand.tmp 35) (env 10) v35_5) noHp fun v36_6 =>
  K (((((((env.set 30 (env 10)).set 31 (env 0)).set 32 (env 0)).set 33 v33_3).set 34 v34_4).set 35 v35_5).set 36 v36_6) h)
@[congr] theorem octroiref10_Timers_Set_r9_congr {env : Env} {h : Hp} {K : Env → Hp → Prop} : octroiref10_Timers_Set_r9 env h K = octroiref10_Timers_Set_r9 env h K := rfl

/-- ref.go:36 -/
def octroiref10_Timers_Set_r10 (env : Env) (h : Hp) (K : Env → Hp → Prop) : Prop :=
  rd Try.prog (Op.unary Go.UnOp.not (env 9)) noHp fun v40_1 =>
  gd (yb v40_1 == some true) (fun h k => k (env 0) h) h fun v42_3 h1 =>
  gd (yb v40_1 == some true) (fun h k => nck v42_3 (k v42_3 h)) h1 fun v43_4 h2 =>
  gd (yb v40_1 == some true) (fun h k => rd Try.prog (Instr.fieldAt 45 v43_4 0) noHp fun v => k v h) h2 fun v44_5 h3 =>
  gd (yb v40_1 == some true) (fun h k => rd Try.prog (Instr.loadAt 27 v44_5) h fun v => k v h) h3 fun v45_6 h4 =>
  gd (yb v40_1 == some true) (fun h k => k (env 10) h) h4 fun v46_7 h5 =>
  gd (yb v40_1 == some true) (fun h k => rd Try.prog (Instr.indexAt 27 v45_6 v46_7) noHp fun v => k v h) h5 fun v47_8 h6 =>
  gd (yb v40_1 == some true) (fun h k => rd Try.prog (Instr.fieldAt 37 v47_8 1) noHp fun v => k v h) h6 fun v48_9 h7 =>
  gd (yb v40_1 == some true) (fun h k => rd Try.prog (Instr.loadAt 3 v48_9) h fun v => k v h) h7 fun v49_10 h8 =>
  gd (yb v40_1 == some true) (fun h k => k (env 2) h) h8 fun v50_11 h9 =>
  gd (yb v40_1 == some true) (fun h k => rd Try.prog (bop Go.BinOp.gtr 3 (Go.Operand.tmp 49) (Go.Operand.tmp 50) v49_10 v50_11) noHp fun v => k v h) h9 fun v51_12 h10 =>
  gd (yb v40_1 == some true) (fun h k => k v51_12 h) h10 fun v52_13 h11 =>
  gd (yb v52_13 == some false) (fun h k => k (env 0) h) h11 fun v53_14 h12 =>
  gd (yb v52_13 == some false) (fun h k => nck v53_14 (k v53_14 h)) h12 fun v54_15 h13 =>
  gd (yb v52_13 == some false) (fun h k => rd Try.prog (Instr.fieldAt 45 v54_15 0) noHp fun v => k v h) h13 fun v55_16 h14 =>
  gd (yb v52_13 == some false) (fun h k => rd Try.prog (Instr.loadAt 27 v55_16) h fun v => k v h) h14 fun v56_17 h15 =>
  gd (yb v52_13 == some false) (fun h k => k (env 10) h) h15 fun v57_18 h16 =>
  gd (yb v52_13 == some false) (fun h k => rd Try.prog (Instr.indexAt 27 v56_17 v57_18) noHp fun v => k v h) h16 fun v58_19 h17 =>
  gd (yb v52_13 == some false) (fun h k => rd Try.prog (Instr.fieldAt 37 v58_19 1) noHp fun v => k v h) h17 fun v59_20 h18 =>
  gd (yb v52_13 == some false) (fun h k => rd Try.prog (Instr.loadAt 3 v59_20) h fun v => k v h) h18 fun v60_21 h19 =>
  gd (yb v52_13 == some false) (fun h k => k (env 2) h) h19 fun v61_22 h20 =>
  gd (yb v52_13 == some false) (fun h k => rd Try.prog (bop Go.BinOp.eql 3 (Go.Operand.tmp 60) (Go.Operand.tmp 61) v60_21 v61_22) noHp fun v => k v h) h20 fun v62_23 h21 =>
  gd (yb v52_13 == some false) (fun h k => k v62_23 h) h21 fun v63_24 h22 =>
  gd (yb v63_24 == some true) (fun h k => k (env 0) h) h22 fun v64_25 h23 =>
  gd (yb v63_24 == some true) (fun h k => nck v64_25 (k v64_25 h)) h23 fun v65_26 h24 =>
  gd (yb v63_24 == some true) (fun h k => rd Try.prog (Instr.fieldAt 45 v65_26 0) noHp fun v => k v h) h24 fun v66_27 h25 =>
  gd (yb v63_24 == some true) (fun h k => rd Try.prog (Instr.loadAt 27 v66_27) h fun v => k v h) h25 fun v67_28 h26 =>
  gd (yb v63_24 == some true) (fun h k => k (env 10) h) h26 fun v68_29 h27 =>
  gd (yb v63_24 == some true) (fun h k => rd Try.prog (Instr.indexAt 27 v67_28 v68_29) noHp fun v => k v h) h27 fun v69_30 h28 =>
  gd (yb v63_24 == some true) (fun h k => rd Try.prog (Instr.fieldAt 37 v69_30 0) noHp fun v => k v h) h28 fun v70_31 h29 =>
  gd (yb v63_24 == some true) (fun h k => rd Try.prog (Instr.loadAt 3 v70_31) h fun v => k v h) h29 fun v71_32 h30 =>
  gd (yb v63_24 == some true) (fun h k => k (env 1) h) h30 fun v72_33 h31 =>
  gd (yb v63_24 == some true) (fun h k => rd Try.prog (bop Go.BinOp.gtr 3 (Go.Operand.tmp 71) (Go.Operand.tmp 72) v71_32 v72_33) noHp fun v => k v h) h31 fun v73_34 h32 =>
  gd (yb v52_13 == some false) (fun h k => rd Try.prog (pck v63_24 v73_34 (Go.Value.bool false)) noHp fun v => k v h) h32 fun v74_35 h33 =>
  gd (yb v40_1 == some true) (fun h k => rd Try.prog (pck v52_13 (Go.Value.bool true) v74_35) noHp fun v => k v h) h33 fun v75_36 h34 =>
  rd Try.prog (pck v40_1 v75_36 (Go.Value.bool false)) noHp fun v76_37 =>
  K ((((((((((((((((((((((((((((((((((((((env.set 39 (env 9)).set 40 v40_1).set 41 v40_1).set 42 v42_3).set 43 v43_4).set 44 v44_5).set 45 v45_6).set 46 v46_7).set 47 v47_8).set 48 v48_9).set 49 v49_10).set 50 v50_11).set 51 v51_12).set 52 v52_13).set 53 v53_14).set 54 v54_15).set 55 v55_16).set 56 v56_17).set 57 v57_18).set 58 v58_19).set 59 v59_20).set 60 v60_21).set 61 v61_22).set 62 v62_23).set 63 v63_24).set 64 v64_25).set 65 v65_26).set 66 v66_27).set 67 v67_28).set 68 v68_29).set 69 v69_30).set 70 v70_31).set 71 v71_32).set 72 v72_33).set 73 v73_34).set 74 v74_35).set 75 v75_36).set 76 v76_37) h34
@[congr] theorem octroiref10_Timers_Set_r10_congr {env : Env} {h : Hp} {K : Env → Hp → Prop} : octroiref10_Timers_Set_r10 env h K = octroiref10_Timers_Set_r10 env h K := rfl

/-- ref.go:37 -/
def octroiref10_Timers_Set_r11 (env : Env) (h : Hp) (K : Env → Hp → Prop) : Prop :=
  rd Try.prog (Instr.build 37 #[(0, (env 1)), (1, (env 2))]) noHp fun v80_3 =>
  arun Try.prog (Instr.buildSlice 27 1 #[(0, v80_3)]) h fun v81_4 h1 =>
  arun Try.prog (Builtin.append_ #[27, 27] 27 #[(env 8), v81_4]) h1 fun v82_5 h2 =>
  K (((((((env.set 77 (env 8)).set 78 (env 1)).set 79 (env 2)).set 80 v80_3).set 81 v81_4).set 82 v82_5).set 8 v82_5) h2
@[congr] theorem octroiref10_Timers_Set_r11_congr {env : Env} {h : Hp} {K : Env → Hp → Prop} : octroiref10_Timers_Set_r11 env h K = octroiref10_Timers_Set_r11 env h K := rfl

/-- ref.go:38 -/
def octroiref10_Timers_Set_r12 (env : Env) (h : Hp) (K : Env → Hp → Prop) : Prop :=
  K (env.set 9 (Go.Value.bool true)) h
@[congr] theorem octroiref10_Timers_Set_r12_congr {env : Env} {h : Hp} {K : Env → Hp → Prop} : octroiref10_Timers_Set_r12 env h K = octroiref10_Timers_Set_r12 env h K := rfl

/-- ref.go:40 -/
def octroiref10_Timers_Set_r13 (env : Env) (h : Hp) (K : Env → Hp → Prop) : Prop :=
  nck (env 0) (
  rd Try.prog (Instr.fieldAt 45 (env 0) 0) noHp fun v86_3 =>
  rd Try.prog (Instr.loadAt 27 v86_3) h fun v87_4 =>
  rd Try.prog (Instr.indexAt 27 v87_4 (env 10)) noHp fun v89_6 =>
  rd Try.prog (Instr.loadAt 37 v89_6) h fun v90_7 =>
  arun Try.prog (Instr.buildSlice 27 1 #[(0, v90_7)]) h fun v91_8 h1 =>
  arun Try.prog (Builtin.append_ #[27, 27] 27 #[(env 8), v91_8]) h1 fun v92_9 h2 =>
  K (((((((((((env.set 83 (env 8)).set 84 (env 0)).set 85 (env 0)).set 86 v86_3).set 87 v87_4).set 88 (env 10)).set 89 v89_6).set 90 v90_7).set 91 v91_8).set 92 v92_9).set 8 v92_9) h2)
@[congr] theorem octroiref10_Timers_Set_r13_congr {env : Env} {h : Hp} {K : Env → Hp → Prop} : octroiref10_Timers_Set_r13 env h K = octroiref10_Timers_Set_r13 env h K := rfl

/-- ref.go:35 -/
def octroiref10_Timers_Set_r14 (env : Env) (h : Hp) (K : Env → Hp → Prop) : Prop :=
  rd Try.prog (bop Go.BinOp.add 3 (Go.Operand.tmp 37) (Go.Operand.const (Go.Value.int Go.IntKind.i64 1)) (env 10) (Go.Value.int Go.IntKind.i64 1)) noHp fun v38_1 =>
  K (((env.set 37 (env 10)).set 38 v38_1).set 10 v38_1) h
@[congr] theorem octroiref10_Timers_Set_r14_congr {env : Env} {h : Hp} {K : Env → Hp → Prop} : octroiref10_Timers_Set_r14 env h K = octroiref10_Timers_Set_r14 env h K := rfl

def octroiref10_Timers_Set_L0 : Den := (sq (sq (rg octroiref10_Timers_Set_r9) (cnd (Go.Operand.tmp 36) (ex .normal) (ex (.exit 0)))) (sq (blk 1 (sq (sq (rg octroiref10_Timers_Set_r10) (cnd (Go.Operand.tmp 76) (sq (rg octroiref10_Timers_Set_r11) (rg octroiref10_Timers_Set_r12)) (ex .normal))) (rg octroiref10_Timers_Set_r13))) (rg octroiref10_Timers_Set_r14)))

/-- ref.go:42 -/
def octroiref10_Timers_Set_r15 (env : Env) (h : Hp) (K : Env → Hp → Prop) : Prop :=
  rd Try.prog (Op.unary Go.UnOp.not (env 9)) noHp fun v94_1 =>
  K ((env.set 93 (env 9)).set 94 v94_1) h
@[congr] theorem octroiref10_Timers_Set_r15_congr {env : Env} {h : Hp} {K : Env → Hp → Prop} : octroiref10_Timers_Set_r15 env h K = octroiref10_Timers_Set_r15 env h K := rfl

/-- ref.go:43 -/
def octroiref10_Timers_Set_r16 (env : Env) (h : Hp) (K : Env → Hp → Prop) : Prop :=
  rd Try.prog (Instr.build 37 #[(0, (env 1)), (1, (env 2))]) noHp fun v98_3 =>
  arun Try.prog (Instr.buildSlice 27 1 #[(0, v98_3)]) h fun v99_4 h1 =>
  arun Try.prog (Builtin.append_ #[27, 27] 27 #[(env 8), v99_4]) h1 fun v100_5 h2 =>
  K (((((((env.set 95 (env 8)).set 96 (env 1)).set 97 (env 2)).set 98 v98_3).set 99 v99_4).set 100 v100_5).set 8 v100_5) h2
@[congr] theorem octroiref10_Timers_Set_r16_congr {env : Env} {h : Hp} {K : Env → Hp → Prop} : octroiref10_Timers_Set_r16 env h K = octroiref10_Timers_Set_r16 env h K := rfl

/-- ref.go:45 -/
def octroiref10_Timers_Set_r17 (env : Env) (h : Hp) (K : Env → Hp → Prop) : Prop :=
  nck (env 0) (
  rd Try.prog (Instr.fieldAt 45 (env 0) 0) noHp fun v104_3 =>
  arun Try.prog (Instr.storeAt 27 v104_3 (env 8)) h fun _ h1 =>
  K ((((env.set 101 (env 0)).set 102 (env 8)).set 103 (env 0)).set 104 v104_3) h1)
@[congr] theorem octroiref10_Timers_Set_r17_congr {env : Env} {h : Hp} {K : Env → Hp → Prop} : octroiref10_Timers_Set_r17 env h K = octroiref10_Timers_Set_r17 env h K := rfl

/-- ref.go:46 -/
def octroiref10_Timers_Set_r18 (env : Env) (h : Hp) (K : Env → Hp → Prop) : Prop :=
  K (env.set 6 (Go.Value.int Go.IntKind.i64 0)) h
@[congr] theorem octroiref10_Timers_Set_r18_congr {env : Env} {h : Hp} {K : Env → Hp → Prop} : octroiref10_Timers_Set_r18 env h K = octroiref10_Timers_Set_r18 env h K := rfl

def octroiref10_Timers_Set_D : Den := (sq (rg octroiref10_Timers_Set_r0) (sq (sq (rg octroiref10_Timers_Set_r1) (cnd (Go.Operand.tmp 16) (sq (rg octroiref10_Timers_Set_r2) (ex .ret)) (ex .normal))) (sq (rg octroiref10_Timers_Set_r3) (sq (sq (rg octroiref10_Timers_Set_r4) (cnd (Go.Operand.tmp 29) (sq (rg octroiref10_Timers_Set_r5) (ex .ret)) (ex .normal))) (sq (rg octroiref10_Timers_Set_r6) (sq (rg octroiref10_Timers_Set_r7) (sq (sq (rg octroiref10_Timers_Set_r8) (blk 0 (lp octroiref10_Timers_Set_L0))) (sq (sq (rg octroiref10_Timers_Set_r15) (cnd (Go.Operand.tmp 94) (rg octroiref10_Timers_Set_r16) (ex .normal))) (sq (rg octroiref10_Timers_Set_r17) (sq (rg octroiref10_Timers_Set_r18) (ex .ret)))))))))))

theorem octroiref10_Timers_Set_eq : (den Try.prog 105 octroiref10_Timers_Set_code).1 = octroiref10_Timers_Set_D := by kernel_rfl

theorem octroiref10_Timers_Set_ok {args : Array Value} {h : Hp} {Q : Value → Hp → Prop} (hn : args.size ≤ 105) (D : octroiref10_Timers_Set_D (fin Try.prog [(Go.ResultVar.tmp 6)] Q) (env0 args) h) : Ok Try.prog 15 args h Q :=
  ok_of_den progIsOk Try.func15 (c := octroiref10_Timers_Set_code) (by kernel_rfl) hn (by show (den Try.prog 105 octroiref10_Timers_Set_code).1 _ _ _; rw [octroiref10_Timers_Set_eq]; exact D)

end Go.Proofs.Ytncnlfidncjmbaa
