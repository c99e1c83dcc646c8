/- Printed by wip/kit/gen.py out of the translation: formulas of Go functions, and that they are these functions'. -/
import Derived.Test.YtncnlfidncjmbaaZ2

namespace Go.Proofs.Ytncnlfidncjmbaa
open Go

set_option maxRecDepth 100000
set_option linter.unusedVariables false

/-! ### (*octroi/octroiref10.Timers).Stop: function 16 -/
noncomputable def octroiref10_Timers_Stop_code : Code := match Try.f16.body with | some c => c | none => .skip

/-- ref.go:10 -/
def octroiref10_Timers_Stop_r0 (env : Env) (h : Hp) (K : Env → Hp → Prop) : Prop :=
  K (env.set 4 (Go.Value.int Go.IntKind.i64 0)) h
@[congr] theorem octroiref10_Timers_Stop_r0_congr {env : Env} {h : Hp} {K : Env → Hp → Prop} : octroiref10_Timers_Stop_r0 env h K = octroiref10_Timers_Stop_r0 env h K := rfl

/-- ref.go:11 -/
def octroiref10_Timers_Stop_r1 (env : Env) (h : Hp) (K : Env → Hp → Prop) : Prop :=
  K (env.set 5 (Go.Value.slice none 0 0)) h
@[congr] theorem octroiref10_Timers_Stop_r1_congr {env : Env} {h : Hp} {K : Env → Hp → Prop} : octroiref10_Timers_Stop_r1 env h K = octroiref10_Timers_Stop_r1 env h K := rfl

/-- ref.go:12 -/
def octroiref10_Timers_Stop_r2 (env : Env) (h : Hp) (K : Env → Hp → Prop) : Prop :=
  K (env.set 6 (Go.Value.int Go.IntKind.i64 0)) h
@[congr] theorem octroiref10_Timers_Stop_r2_congr {env : Env} {h : Hp} {K : Env → Hp → Prop} : octroiref10_Timers_Stop_r2 env h K = octroiref10_Timers_Stop_r2 env h K := rfl

/-- ref.go:12 -/
def octroiref10_Timers_Stop_r3 (env : Env) (h : Hp) (K : Env → Hp → Prop) : Prop :=
  nck (env 0) (
  rd Try.prog (Instr.fieldAt 45 (env 0) 0) noHp fun v10_3 =>
  rd Try.prog (Instr.loadAt 27 v10_3) h fun v11_4 =>
  rd Try.prog (Builtin.len_ #[27] 3 #[v11_4]) h fun v12_5 =>
  rd Try.prog (bop Go.BinOp.lss 3 (Go.Operand.tmp 7) (Go.Operand.tmp 12) (env 6) v12_5) noHp fun v13_6 =>
  K (((((((env.set 7 (env 6)).set 8 (env 0)).set 9 (env 0)).set 10 v10_3).set 11 v11_4).set 12 v12_5).set 13 v13_6) h)
@[congr] theorem octroiref10_Timers_Stop_r3_congr {env : Env} {h : Hp} {K : Env → Hp → Prop} : octroiref10_Timers_Stop_r3 env h K = octroiref10_Timers_Stop_r3 env h K := rfl

/-- ref.go:13 -/
def octroiref10_Timers_Stop_r4 (env : Env) (h : Hp) (K : Env → Hp → Prop) : Prop :=
  nck (env 0) (
  rd Try.prog (Instr.fieldAt 45 (env 0) 0) noHp fun v18_2 =>
  rd Try.prog (Instr.loadAt 27 v18_2) h fun v19_3 =>
  rd Try.prog (Instr.indexAt 27 v19_3 (env 6)) noHp fun v21_5 =>
  rd Try.prog (Instr.fieldAt 37 v21_5 0) noHp fun v22_6 =>
  rd Try.prog (Instr.loadAt 3 v22_6) h fun v23_7 =>
  rd Try.prog (bop Go.BinOp.neq 3 (Go.Operand.tmp 23) (Go.Operand.tmp 24) v23_7 (env 1)) noHp fun v25_9 =>
  K ((((((((((env.set 16 (env 0)).set 17 (env 0)).set 18 v18_2).set 19 v19_3).set 20 (env 6)).set 21 v21_5).set 22 v22_6).set 23 v23_7).set 24 (env 1)).set 25 v25_9) h)
@[congr] theorem octroiref10_Timers_Stop_r4_congr {env : Env} {h : Hp} {K : Env → Hp → Prop} : octroiref10_Timers_Stop_r4 env h K = octroiref10_Timers_Stop_r4 env h K := rfl

/-- ref.go:14 -/
def octroiref10_Timers_Stop_r5 (env : Env) (h : Hp) (K : Env → Hp → Prop) : Prop :=
  nck (env 0) (
  rd Try.prog (Instr.fieldAt 45 (env 0) 0) noHp fun v29_3 =>
  rd Try.prog (Instr.loadAt 27 v29_3) h fun v30_4 =>
  rd Try.prog (Instr.indexAt 27 v30_4 (env 6)) noHp fun v32_6 =>
  rd Try.prog (Instr.loadAt 37 v32_6) h fun v33_7 =>
  arun Try.prog (Instr.buildSlice 27 1 #[(0, v33_7)]) h fun v34_8 h1 =>
  arun Try.prog (Builtin.append_ #[27, 27] 27 #[(env 5), v34_8]) h1 fun v35_9 h2 =>
  K (((((((((((env.set 26 (env 5)).set 27 (env 0)).set 28 (env 0)).set 29 v29_3).set 30 v30_4).set 31 (env 6)).set 32 v32_6).set 33 v33_7).set 34 v34_8).set 35 v35_9).set 5 v35_9) h2)
@[congr] theorem octroiref10_Timers_Stop_r5_congr {env : Env} {h : Hp} {K : Env → Hp → Prop} : octroiref10_Timers_Stop_r5 env h K = octroiref10_Timers_Stop_r5 env h K := rfl

/-- ref.go:12 -/
def octroiref10_Timers_Stop_r6 (env : Env) (h : Hp) (K : Env → Hp → Prop) : Prop :=
  rd Try.prog (bop Go.BinOp.add 3 (Go.Operand.tmp 14) (Go.Operand.const (Go.Value.int Go.IntKind.i64 1)) (env 6) (Go.Value.int Go.IntKind.i64 1)) noHp fun v15_1 =>
  K (((env.set 14 (env 6)).set 15 v15_1).set 6 v15_1) h
@[congr] theorem octroiref10_Timers_Stop_r6_congr {env : Env} {h : Hp} {K : Env → Hp → Prop} : octroiref10_Timers_Stop_r6 env h K = octroiref10_Timers_Stop_r6 env h K := rfl

def octroiref10_Timers_Stop_L0 : Den := (sq (sq (rg octroiref10_Timers_Stop_r3) (cnd (Go.Operand.tmp 13) (ex .normal) (ex (.exit 0)))) (sq (blk 1 (sq (rg octroiref10_Timers_Stop_r4) (cnd (Go.Operand.tmp 25) (rg octroiref10_Timers_Stop_r5) (ex .normal)))) (rg octroiref10_Timers_Stop_r6)))

/-- ref.go:17 -/
def octroiref10_Timers_Stop_r7 (env : Env) (h : Hp) (K : Env → Hp → Prop) : Prop :=
  rd Try.prog (Builtin.len_ #[27] 3 #[(env 5)]) h fun v37_1 =>
  nck (env 0) (
  rd Try.prog (Instr.fieldAt 45 (env 0) 0) noHp fun v40_4 =>
  rd Try.prog (Instr.loadAt 27 v40_4) h fun v41_5 =>
  rd Try.prog (Builtin.len_ #[27] 3 #[v41_5]) h fun v42_6 =>
  rd Try.prog (bop Go.BinOp.eql 3 (Go.Operand.tmp 37) (Go.Operand.tmp 42) v37_1 v42_6) noHp fun v43_7 =>
  K ((((((((env.set 36 (env 5)).set 37 v37_1).set 38 (env 0)).set 39 (env 0)).set 40 v40_4).set 41 v41_5).set 42 v42_6).set 43 v43_7) h)
@[congr] theorem octroiref10_Timers_Stop_r7_congr {env : Env} {h : Hp} {K : Env → Hp → Prop} : octroiref10_Timers_Stop_r7 env h K = octroiref10_Timers_Stop_r7 env h K := rfl

/-- ref.go:18 -/
def octroiref10_Timers_Stop_r8 (env : Env) (h : Hp) (K : Env → Hp → Prop) : Prop :=
  K (env.set 4 (Go.Value.int Go.IntKind.i64 5)) h
@[congr] theorem octroiref10_Timers_Stop_r8_congr {env : Env} {h : Hp} {K : Env → Hp → Prop} : octroiref10_Timers_Stop_r8 env h K = octroiref10_Timers_Stop_r8 env h K := rfl

/-- ref.go:20 -/
def octroiref10_Timers_Stop_r9 (env : Env) (h : Hp) (K : Env → Hp → Prop) : Prop :=
  nck (env 0) (
  rd Try.prog (Instr.fieldAt 45 (env 0) 0) noHp fun v47_3 =>
  arun Try.prog (Instr.storeAt 27 v47_3 (env 5)) h fun _ h1 =>
  K ((((env.set 44 (env 0)).set 45 (env 5)).set 46 (env 0)).set 47 v47_3) h1)
@[congr] theorem octroiref10_Timers_Stop_r9_congr {env : Env} {h : Hp} {K : Env → Hp → Prop} : octroiref10_Timers_Stop_r9 env h K = octroiref10_Timers_Stop_r9 env h K := rfl

/-- ref.go:21 -/
def octroiref10_Timers_Stop_r10 (env : Env) (h : Hp) (K : Env → Hp → Prop) : Prop :=
  K (env.set 4 (Go.Value.int Go.IntKind.i64 0)) h
@[congr] theorem octroiref10_Timers_Stop_r10_congr {env : Env} {h : Hp} {K : Env → Hp → Prop} : octroiref10_Timers_Stop_r10 env h K = octroiref10_Timers_Stop_r10 env h K := rfl

def octroiref10_Timers_Stop_D : Den := (sq (rg octroiref10_Timers_Stop_r0) (sq (rg octroiref10_Timers_Stop_r1) (sq (sq (rg octroiref10_Timers_Stop_r2) (blk 0 (lp octroiref10_Timers_Stop_L0))) (sq (sq (rg octroiref10_Timers_Stop_r7) (cnd (Go.Operand.tmp 43) (sq (rg octroiref10_Timers_Stop_r8) (ex .ret)) (ex .normal))) (sq (rg octroiref10_Timers_Stop_r9) (sq (rg octroiref10_Timers_Stop_r10) (ex .ret)))))))

theorem octroiref10_Timers_Stop_eq : (den Try.prog 48 octroiref10_Timers_Stop_code).1 = octroiref10_Timers_Stop_D := by kernel_rfl

theorem octroiref10_Timers_Stop_ok {args : Array Value} {h : Hp} {Q : Value → Hp → Prop} (hn : args.size ≤ 48) (D : octroiref10_Timers_Stop_D (fin Try.prog [(Go.ResultVar.tmp 4)] Q) (env0 args) h) : Ok Try.prog 16 args h Q :=
  ok_of_den progIsOk Try.func16 (c := octroiref10_Timers_Stop_code) (by kernel_rfl) hn (by show (den Try.prog 48 octroiref10_Timers_Stop_code).1 _ _ _; rw [octroiref10_Timers_Stop_eq]; exact D)

/-! ### octroi/octroiref10.Same: function 17 -/
noncomputable def octroiref10_Same_code : Code := match Try.f17.body with | some c => c | none => .skip

/-- ref.go:61 -/
def octroiref10_Same_r0 (env : Env) (h : Hp) (K : Env → Hp → Prop) : Prop :=
  K (env.set 4 (Go.Value.bool false)) h
@[congr] theorem octroiref10_Same_r0_congr {env : Env} {h : Hp} {K : Env → Hp → Prop} : octroiref10_Same_r0 env h K = octroiref10_Same_r0 env h K := rfl

/-- ref.go:62 -/
def octroiref10_Same_r1 (env : Env) (h : Hp) (K : Env → Hp → Prop) : Prop :=
  rd Try.prog (Builtin.len_ #[27] 3 #[(env 0)]) h fun v7_1 =>
  rd Try.prog (Builtin.len_ #[27] 3 #[(env 1)]) h fun v9_3 =>
  rd Try.prog (bop Go.BinOp.neq 3 (Go.Operand.tmp 7) (Go.Operand.tmp 9) v7_1 v9_3) noHp fun v10_4 =>
  K (((((env.set 6 (env 0)).set 7 v7_1).set 8 (env 1)).set 9 v9_3).set 10 v10_4) h
@[congr] theorem octroiref10_Same_r1_congr {env : Env} {h : Hp} {K : Env → Hp → Prop} : octroiref10_Same_r1 env h K = octroiref10_Same_r1 env h K := rfl

/-- ref.go:63 -/
def octroiref10_Same_r2 (env : Env) (h : Hp) (K : Env → Hp → Prop) : Prop :=
  K (env.set 4 (Go.Value.bool false)) h
@[congr] theorem octroiref10_Same_r2_congr {env : Env} {h : Hp} {K : Env → Hp → Prop} : octroiref10_Same_r2 env h K = octroiref10_Same_r2 env h K := rfl

/-- ref.go:65 -/
def octroiref10_Same_r3 (env : Env) (h : Hp) (K : Env → Hp → Prop) : Prop :=
  K (env.set 5 (Go.Value.int Go.IntKind.i64 0)) h
@[congr] theorem octroiref10_Same_r3_congr {env : Env} {h : Hp} {K : Env → Hp → Prop} : octroiref10_Same_r3 env h K = octroiref10_Same_r3 env h K := rfl

/-- ref.go:65 -/
def octroiref10_Same_r4 (env : Env) (h : Hp) (K : Env → Hp → Prop) : Prop :=
  rd Try.prog (Builtin.len_ #[27] 3 #[(env 0)]) h fun v13_2 =>
  rd Try.prog (bop Go.BinOp.lss 3 (Go.Operand.tmp 11) (Go.Operand.tmp 13) (env 5) v13_2) noHp fun v14_3 =>
  K ((((env.set 11 (env 5)).set 12 (env 0)).set 13 v13_2).set 14 v14_3) h
@[congr] theorem octroiref10_Same_r4_congr {env : Env} {h : Hp} {K : Env → Hp → Prop} : octroiref10_Same_r4 env h K = octroiref10_Same_r4 env h K := rfl

/-- ref.go:66 (in any order) -/
def octroiref10_Same_r5 (env : Env) (h : Hp) (K : Env → Hp → Prop) : Prop :=
  rd Try.prog (Instr.indexAt 27 (env 0) (env 5)) noHp fun v19_2 =>
  rd Try.prog (Instr.loadAt 37 v19_2) h fun v20_3 =>
  rd Try.prog (Instr.indexAt 27 (env 1) (env 5)) noHp fun v23_6 =>
  rd Try.prog (Instr.loadAt 37 v23_6) h fun v24_7 =>
  rd Try.prog (bop Go.BinOp.neq 37 (Go.Operand.tmp 20) (Go.Operand.tmp 24) v20_3 v24_7) noHp fun v25_8 =>
  K (((((((((env.set 17 (env 0)).set 18 (env 5)).set 19 v19_2).set 20 v20_3).set 21 (env 1)).set 22 (env 5)).set 23 v23_6).set 24 v24_7).set 25 v25_8) h
@[congr] theorem octroiref10_Same_r5_congr {env : Env} {h : Hp} {K : Env → Hp → Prop} : octroiref10_Same_r5 env h K = octroiref10_Same_r5 env h K := rfl

/-- ref.go:67 -/
def octroiref10_Same_r6 (env : Env) (h : Hp) (K : Env → Hp → Prop) : Prop :=
  K (env.set 4 (Go.Value.bool false)) h
@[congr] theorem octroiref10_Same_r6_congr {env : Env} {h : Hp} {K : Env → Hp → Prop} : octroiref10_Same_r6 env h K = octroiref10_Same_r6 env h K := rfl

/-- ref.go:65 -/
def octroiref10_Same_r7 (env : Env) (h : Hp) (K : Env → Hp → Prop) : Prop :=
  rd Try.prog (bop Go.BinOp.add 3 (Go.Operand.tmp 15) (Go.Operand.const (Go.Value.int Go.IntKind.i64 1)) (env 5) (Go.Value.int Go.IntKind.i64 1)) noHp fun v16_1 =>
  K (((env.set 15 (env 5)).set 16 v16_1).set 5 v16_1) h
@[congr] theorem octroiref10_Same_r7_congr {env : Env} {h : Hp} {K : Env → Hp → Prop} : octroiref10_Same_r7 env h K = octroiref10_Same_r7 env h K := rfl

def octroiref10_Same_L0 : Den := (sq (sq (rg octroiref10_Same_r4) (cnd (Go.Operand.tmp 14) (ex .normal) (ex (.exit 0)))) (sq (blk 1 (sq (rg octroiref10_Same_r5) (cnd (Go.Operand.tmp 25) (sq (rg octroiref10_Same_r6) (ex .ret)) (ex .normal)))) (rg octroiref10_Same_r7)))

/-- ref.go:70 -/
def octroiref10_Same_r8 (env : Env) (h : Hp) (K : Env → Hp → Prop) : Prop :=
  K (env.set 4 (Go.Value.bool true)) h
@[congr] theorem octroiref10_Same_r8_congr {env : Env} {h : Hp} {K : Env → Hp → Prop} : octroiref10_Same_r8 env h K = octroiref10_Same_r8 env h K := rfl

def octroiref10_Same_D : Den := (sq (rg octroiref10_Same_r0) (sq (sq (rg octroiref10_Same_r1) (cnd (Go.Operand.tmp 10) (sq (rg octroiref10_Same_r2) (ex .ret)) (ex .normal))) (sq (sq (rg octroiref10_Same_r3) (blk 0 (lp octroiref10_Same_L0))) (sq (rg octroiref10_Same_r8) (ex .ret)))))

theorem octroiref10_Same_eq : (den Try.prog 26 octroiref10_Same_code).1 = octroiref10_Same_D := by kernel_rfl

theorem octroiref10_Same_ok {args : Array Value} {h : Hp} {Q : Value → Hp → Prop} (hn : args.size ≤ 26) (D : octroiref10_Same_D (fin Try.prog [(Go.ResultVar.tmp 4)] Q) (env0 args) h) : Ok Try.prog 17 args h Q :=
  ok_of_den progIsOk Try.func17 (c := octroiref10_Same_code) (by kernel_rfl) hn (by show (den Try.prog 26 octroiref10_Same_code).1 _ _ _; rw [octroiref10_Same_eq]; exact D)

/-! ### (*octroi/octroiref10.Timers).Due: function 18 -/
noncomputable def octroiref10_Timers_Due_code : Code := match Try.f18.body with | some c => c | none => .skip

/-- ref.go:50 -/
def octroiref10_Timers_Due_r0 (env : Env) (h : Hp) (K : Env → Hp → Prop) : Prop :=
  K (env.set 4 (Go.Value.slice none 0 0)) h
@[congr] theorem octroiref10_Timers_Due_r0_congr {env : Env} {h : Hp} {K : Env → Hp → Prop} : octroiref10_Timers_Due_r0 env h K = octroiref10_Timers_Due_r0 env h K := rfl

/-- ref.go:51 -/
def octroiref10_Timers_Due_r1 (env : Env) (h : Hp) (K : Env → Hp → Prop) : Prop :=
  K (env.set 5 (Go.Value.int Go.IntKind.i64 0)) h
@[congr] theorem octroiref10_Timers_Due_r1_congr {env : Env} {h : Hp} {K : Env → Hp → Prop} : octroiref10_Timers_Due_r1 env h K = octroiref10_Timers_Due_r1 env h K := rfl

/-- ref.go:52 -/
def octroiref10_Timers_Due_r2 (env : Env) (h : Hp) (K : Env → Hp → Prop) : Prop :=
  nck (env 0) (
  rd Try.prog (Instr.fieldAt 45 (env 0) 0) noHp fun v10_3 =>
  rd Try.prog (Instr.loadAt 27 v10_3) h fun v11_4 =>
  rd Try.prog (Builtin.len_ #[27] 3 #[v11_4]) h fun v12_5 =>
  rd Try.prog (bop Go.BinOp.lss 3 (Go.Operand.tmp 7) (Go.Operand.tmp 12) (env 5) v12_5) noHp fun v13_6 =>
  gd (yb v13_6 == some true) (fun h k => k (env 0) h) h fun v15_8 h1 =>
  gd (yb v13_6 == some true) (fun h k => nck v15_8 (k v15_8 h)) h1 fun v16_9 h2 =>
  gd (yb v13_6 == some true) (fun h k => rd Try.prog (Instr.fieldAt 45 v16_9 0) noHp fun v => k v h) h2 fun v17_10 h3 =>
  gd (yb v13_6 == some true) (fun h k => rd Try.prog (Instr.loadAt 27 v17_10) h fun v => k v h) h3 fun v18_11 h4 =>
  gd (yb v13_6 == some true) (fun h k => k (env 5) h) h4 fun v19_12 h5 =>
  gd (yb v13_6 == some true) (fun h k => rd Try.prog (Instr.indexAt 27 v18_11 v19_12) noHp fun v => k v h) h5 fun v20_13 h6 =>
  gd (yb v13_6 == some true) (fun h k => rd Try.prog (Instr.fieldAt 37 v20_13 1) noHp fun v => k v h) h6 fun v21_14 h7 =>
  gd (yb v13_6 == some true) (fun h k => rd Try.prog (Instr.loadAt 3 v21_14) h fun v => k v h) h7 fun v22_15 h8 =>
  gd (yb v13_6 == some true) (fun h k => k (env 1) h) h8 fun v23_16 h9 =>
  gd (yb v13_6 == some true) (fun h k => rd Try.prog (bop Go.BinOp.leq 3 (Go.Operand.tmp 22) (Go.Operand.tmp 23) v22_15 v23_16) noHp fun v => k v h) h9 fun v24_17 h10 =>
  rd Try.prog (pck v13_6 v24_17 (Go.Value.bool false)) noHp fun v25_18 =>
  K (((((((((((((((((((env.set 7 (env 5)).set 8 (env 0)).set 9 (env 0)).set 10 v10_3).set 11 v11_4).set 12 v12_5).set 13 v13_6).set 14 v13_6).set 15 v15_8).set 16 v16_9).set 17 v17_10).set 18 v18_11).set 19 v19_12).set 20 v20_13).set 21 v21_14).set 22 v22_15).set 23 v23_16).set 24 v24_17).set 25 v25_18) h10)
@[congr] theorem octroiref10_Timers_Due_r2_congr {env : Env} {h : Hp} {K : Env → Hp → Prop} : octroiref10_Timers_Due_r2 env h K = octroiref10_Timers_Due_r2 env h K := rfl

/-- ref.go:53 -/
def octroiref10_Timers_Due_r3 (env : Env) (h : Hp) (K : Env → Hp → Prop) : Prop :=
  rd Try.prog (bop Go.BinOp.add 3 (Go.Operand.tmp 26) (Go.Operand.const (Go.Value.int Go.IntKind.i64 1)) (env 5) (Go.Value.int Go.IntKind.i64 1)) noHp fun v27_1 =>
  K (((env.set 26 (env 5)).set 27 v27_1).set 5 v27_1) h
@[congr] theorem octroiref10_Timers_Due_r3_congr {env : Env} {h : Hp} {K : Env → Hp → Prop} : octroiref10_Timers_Due_r3 env h K = octroiref10_Timers_Due_r3 env h K := rfl

def octroiref10_Timers_Due_L0 : Den := (sq (sq (rg octroiref10_Timers_Due_r2) (cnd (Go.Operand.tmp 25) (ex .normal) (ex (.exit 0)))) (blk 1 (rg octroiref10_Timers_Due_r3)))

/-- ref.go:55 -/
def octroiref10_Timers_Due_r4 (env : Env) (h : Hp) (K : Env → Hp → Prop) : Prop :=
  nck (env 0) (
  rd Try.prog (Instr.fieldAt 45 (env 0) 0) noHp fun v30_2 =>
  rd Try.prog (Instr.loadAt 27 v30_2) h fun v31_3 =>
  rd Try.prog (Instr.sliceAt 27 v31_3 none (some (env 5)) none) noHp fun v33_5 =>
  arun Try.prog (Builtin.append_ #[27, 27] 27 #[(Go.Value.slice none 0 0), v33_5]) h fun v34_6 h1 =>
  K ((((((((env.set 28 (env 0)).set 29 (env 0)).set 30 v30_2).set 31 v31_3).set 32 (env 5)).set 33 v33_5).set 34 v34_6).set 6 v34_6) h1)
@[congr] theorem octroiref10_Timers_Due_r4_congr {env : Env} {h : Hp} {K : Env → Hp → Prop} : octroiref10_Timers_Due_r4 env h K = octroiref10_Timers_Due_r4 env h K := rfl

/-- ref.go:56 -/
def octroiref10_Timers_Due_r5 (env : Env) (h : Hp) (K : Env → Hp → Prop) : Prop :=
  nck (env 0) (
  rd Try.prog (Instr.fieldAt 45 (env 0) 0) noHp fun v38_3 =>
  rd Try.prog (Instr.loadAt 27 v38_3) h fun v39_4 =>
  rd Try.prog (Instr.sliceAt 27 v39_4 (some (env 5)) none none) noHp fun v41_6 =>
  arun Try.prog (Builtin.append_ #[27, 27] 27 #[(Go.Value.slice none 0 0), v41_6]) h fun v42_7 h1 =>
  nck (env 0) (
  rd Try.prog (Instr.fieldAt 45 (env 0) 0) noHp fun v44_9 =>
  arun Try.prog (Instr.storeAt 27 v44_9 v42_7) h1 fun _ h2 =>
  K ((((((((((env.set 35 (env 0)).set 36 (env 0)).set 37 (env 0)).set 38 v38_3).set 39 v39_4).set 40 (env 5)).set 41 v41_6).set 42 v42_7).set 43 (env 0)).set 44 v44_9) h2))
@[congr] theorem octroiref10_Timers_Due_r5_congr {env : Env} {h : Hp} {K : Env → Hp → Prop} : octroiref10_Timers_Due_r5 env h K = octroiref10_Timers_Due_r5 env h K := rfl

/-- ref.go:57 -/
def octroiref10_Timers_Due_r6 (env : Env) (h : Hp) (K : Env → Hp → Prop) : Prop :=
  K ((env.set 45 (env 6)).set 4 (env 6)) h
@[congr] theorem octroiref10_Timers_Due_r6_congr {env : Env} {h : Hp} {K : Env → Hp → Prop} : octroiref10_Timers_Due_r6 env h K = octroiref10_Timers_Due_r6 env h K := rfl

def octroiref10_Timers_Due_D : Den := (sq (rg octroiref10_Timers_Due_r0) (sq (rg octroiref10_Timers_Due_r1) (sq (blk 0 (lp octroiref10_Timers_Due_L0)) (sq (rg octroiref10_Timers_Due_r4) (sq (rg octroiref10_Timers_Due_r5) (sq (rg octroiref10_Timers_Due_r6) (ex .ret)))))))

theorem octroiref10_Timers_Due_eq : (den Try.prog 46 octroiref10_Timers_Due_code).1 = octroiref10_Timers_Due_D := by kernel_rfl

theorem octroiref10_Timers_Due_ok {args : Array Value} {h : Hp} {Q : Value → Hp → Prop} (hn : args.size ≤ 46) (D : octroiref10_Timers_Due_D (fin Try.prog [(Go.ResultVar.tmp 4)] Q) (env0 args) h) : Ok Try.prog 18 args h Q :=
  ok_of_den progIsOk Try.func18 (c := octroiref10_Timers_Due_code) (by kernel_rfl) hn (by show (den Try.prog 46 octroiref10_Timers_Due_code).1 _ _ _; rw [octroiref10_Timers_Due_eq]; exact D)

/-! ### slices.SortFunc[[]octroi/api.Timer,octroi/api.Timer]: function 19 -/
noncomputable def slices_SortFunc_api_Timer_api_Timer_code : Code := match Try.f19.body with | some c => c | none => .skip

/-- sort.go:31 -/
def slices_SortFunc_api_Timer_api_Timer_r0 (env : Env) (h : Hp) (K : Env → Hp → Prop) : Prop :=
  rd Try.prog (Builtin.len_ #[27] 3 #[(env 0)]) h fun v6_1 =>
  K (((env.set 5 (env 0)).set 6 v6_1).set 4 v6_1) h
@[congr] theorem slices_SortFunc_api_Timer_api_Timer_r0_congr {env : Env} {h : Hp} {K : Env → Hp → Prop} : slices_SortFunc_api_Timer_api_Timer_r0 env h K = slices_SortFunc_api_Timer_api_Timer_r0 env h K := rfl

/-- sort.go:32 -/
def slices_SortFunc_api_Timer_api_Timer_r1 (env : Env) (h : Hp) (K : Env → Hp → Prop) : Prop :=
  rd Try.prog (convert 3 55 (env 4)) noHp fun v10_3 =>
  Ok Try.prog 22 #[v10_3] h fun v11_4 h1 =>
  Ok Try.prog 21 #[(env 0), (Go.Value.int Go.IntKind.i64 0), (env 4), v11_4, (env 1)] h1 fun v13_6 h2 =>
  K (((((((env.set 7 (env 0)).set 8 (env 4)).set 9 (env 4)).set 10 v10_3).set 11 v11_4).set 12 (env 1)).set 13 v13_6) h2
@[congr] theorem slices_SortFunc_api_Timer_api_Timer_r1_congr {env : Env} {h : Hp} {K : Env → Hp → Prop} : slices_SortFunc_api_Timer_api_Timer_r1 env h K = slices_SortFunc_api_Timer_api_Timer_r1 env h K := rfl

def slices_SortFunc_api_Timer_api_Timer_D : Den := (sq (rg slices_SortFunc_api_Timer_api_Timer_r0) (rg slices_SortFunc_api_Timer_api_Timer_r1))

theorem slices_SortFunc_api_Timer_api_Timer_eq : (den Try.prog 14 slices_SortFunc_api_Timer_api_Timer_code).1 = slices_SortFunc_api_Timer_api_Timer_D := by kernel_rfl

theorem slices_SortFunc_api_Timer_api_Timer_ok {args : Array Value} {h : Hp} {Q : Value → Hp → Prop} (hn : args.size ≤ 14) (D : slices_SortFunc_api_Timer_api_Timer_D (fin Try.prog [] Q) (env0 args) h) : Ok Try.prog 19 args h Q :=
  ok_of_den progIsOk Try.func19 (c := slices_SortFunc_api_Timer_api_Timer_code) (by kernel_rfl) hn (by show (den Try.prog 14 slices_SortFunc_api_Timer_api_Timer_code).1 _ _ _; rw [slices_SortFunc_api_Timer_api_Timer_eq]; exact D)

/-! ### octroi/timers.order: function 20 -/
noncomputable def timers_order_code : Code := match Try.f20.body with | some c => c | none => .skip

/-- timers.go:40 -/
def timers_order_r0 (env : Env) (h : Hp) (K : Env → Hp → Prop) : Prop :=
  arun Try.prog (Instr.box 37 (env 0)) h fun v2_0 h1 =>
  arun Try.prog (Instr.box 37 (env 1)) h1 fun v3_1 h2 =>
  K (((env.set 2 v2_0).set 3 v3_1).set 4 (Go.Value.int Go.IntKind.i64 0)) h2
@[congr] theorem timers_order_r0_congr {env : Env} {h : Hp} {K : Env → Hp → Prop} : timers_order_r0 env h K = timers_order_r0 env h K := rfl

/-- timers.go:40 (in any order) -/
def timers_order_r1 (env : Env) (h : Hp) (K : Env → Hp → Prop) : Prop :=
  rd Try.prog (Instr.fieldAt 37 (env 2) 1) noHp fun v5_0 =>
  rd Try.prog (Instr.loadAt 3 v5_0) h fun v6_1 =>
  rd Try.prog (Instr.fieldAt 37 (env 3) 1) noHp fun v7_2 =>
  rd Try.prog (Instr.loadAt 3 v7_2) h fun v8_3 =>
  rd Try.prog (Instr.fieldAt 37 (env 2) 0) noHp fun v10_4 =>
  rd Try.prog (Instr.loadAt 3 v10_4) h fun v11_5 =>
  rd Try.prog (Instr.fieldAt 37 (env 3) 0) noHp fun v12_6 =>
  rd Try.prog (Instr.loadAt 3 v12_6) h fun v13_7 =>
  Ok Try.prog 24 #[v6_1, v8_3] h fun v9_8 h1 =>
  (rrun Try.prog (Instr.loadAt 3 v12_6) h1 = some v13_7 ∧ rrun Try.prog (Instr.loadAt 3 v10_4) h1 = some v11_5 ∧ True) ∧
  Ok Try.prog 24 #[v11_5, v13_7] h1 fun v14_9 h2 =>
  (True) ∧
  arun Try.prog (Instr.buildSlice 32 2 #[(0, v9_8), (1, v14_9)]) h2 fun v15_10 h3 =>
  (True) ∧
  Ok Try.prog 23 #[v15_10] h3 fun v16_11 h4 =>
  (True) ∧
  K (((((((((((((env.set 5 v5_0).set 6 v6_1).set 7 v7_2).set 8 v8_3).set 10 v10_4).set 11 v11_5).set 12 v12_6).set 13 v13_7).set 9 v9_8).set 14 v14_9).set 15 v15_10).set 16 v16_11).set 4 v16_11) h4
@[congr] theorem timers_order_r1_congr {env : Env} {h : Hp} {K : Env → Hp → Prop} : timers_order_r1 env h K = timers_order_r1 env h K := rfl

def timers_order_D : Den := (sq (rg timers_order_r0) (sq (rg timers_order_r1) (ex .ret)))

theorem timers_order_eq : (den Try.prog 17 timers_order_code).1 = timers_order_D := by kernel_rfl

theorem timers_order_ok {args : Array Value} {h : Hp} {Q : Value → Hp → Prop} (hn : args.size ≤ 17) (D : timers_order_D (fin Try.prog [(Go.ResultVar.tmp 4)] Q) (env0 args) h) : Ok Try.prog 20 args h Q :=
  ok_of_den progIsOk Try.func20 (c := timers_order_code) (by kernel_rfl) hn (by show (den Try.prog 17 timers_order_code).1 _ _ _; rw [timers_order_eq]; exact D)

/-! ### slices.pdqsortCmpFunc[octroi/api.Timer]: function 21 -/
noncomputable def slices_pdqsortCmpFunc_api_Timer_code : Code := match Try.f21.body with | some c => c | none => .skip

/-- zsortanyfunc.go:65 -/
def slices_pdqsortCmpFunc_api_Timer_r0 (env : Env) (h : Hp) (K : Env → Hp → Prop) : Prop :=
  K (env.set 10 (Go.Value.bool true)) h
@[congr] theorem slices_pdqsortCmpFunc_api_Timer_r0_congr {env : Env} {h : Hp} {K : Env → Hp → Prop} : slices_pdqsortCmpFunc_api_Timer_r0 env h K = slices_pdqsortCmpFunc_api_Timer_r0 env h K := rfl

/-- zsortanyfunc.go:66 -/
def slices_pdqsortCmpFunc_api_Timer_r1 (env : Env) (h : Hp) (K : Env → Hp → Prop) : Prop :=
  K (env.set 11 (Go.Value.bool true)) h
@[congr] theorem slices_pdqsortCmpFunc_api_Timer_r1_congr {env : Env} {h : Hp} {K : Env → Hp → Prop} : slices_pdqsortCmpFunc_api_Timer_r1 env h K = slices_pdqsortCmpFunc_api_Timer_r1 env h K := rfl

/-- zsortanyfunc.go:70 -/
def slices_pdqsortCmpFunc_api_Timer_r2 (env : Env) (h : Hp) (K : Env → Hp → Prop) : Prop :=
  rd Try.prog (bop Go.BinOp.sub 3 (Go.Operand.tmp 21) (Go.Operand.tmp 22) (env 2) (env 1)) noHp fun v23_2 =>
  K ((((env.set 21 (env 2)).set 22 (env 1)).set 23 v23_2).set 12 v23_2) h
@[congr] theorem slices_pdqsortCmpFunc_api_Timer_r2_congr {env : Env} {h : Hp} {K : Env → Hp → Prop} : slices_pdqsortCmpFunc_api_Timer_r2 env h K = slices_pdqsortCmpFunc_api_Timer_r2 env h K := rfl

/-- zsortanyfunc.go:72 -/
def slices_pdqsortCmpFunc_api_Timer_r3 (env : Env) (h : Hp) (K : Env → Hp → Prop) : Prop :=
  rd Try.prog (bop Go.BinOp.leq 3 (Go.Operand.tmp 24) (Go.Operand.const (Go.Value.int Go.IntKind.i64 12)) (env 12) (Go.Value.int Go.IntKind.i64 12)) noHp fun v25_1 =>
  K ((env.set 24 (env 12)).set 25 v25_1) h
@[congr] theorem slices_pdqsortCmpFunc_api_Timer_r3_congr {env : Env} {h : Hp} {K : Env → Hp → Prop} : slices_pdqsortCmpFunc_api_Timer_r3 env h K = slices_pdqsortCmpFunc_api_Timer_r3 env h K := rfl

/-- zsortanyfunc.go:73 -/
def slices_pdqsortCmpFunc_api_Timer_r4 (env : Env) (h : Hp) (K : Env → Hp → Prop) : Prop :=
  Ok Try.prog 25 #[(env 0), (env 1), (env 2), (env 4)] h fun v30_4 h1 =>
  K (((((env.set 26 (env 0)).set 27 (env 1)).set 28 (env 2)).set 29 (env 4)).set 30 v30_4) h1
@[congr] theorem slices_pdqsortCmpFunc_api_Timer_r4_congr {env : Env} {h : Hp} {K : Env → Hp → Prop} : slices_pdqsortCmpFunc_api_Timer_r4 env h K = slices_pdqsortCmpFunc_api_Timer_r4 env h K := rfl

/-- zsortanyfunc.go:78 -/
def slices_pdqsortCmpFunc_api_Timer_r5 (env : Env) (h : Hp) (K : Env → Hp → Prop) : Prop :=
  rd Try.prog (bop Go.BinOp.eql 3 (Go.Operand.tmp 31) (Go.Operand.const (Go.Value.int Go.IntKind.i64 0)) (env 3) (Go.Value.int Go.IntKind.i64 0)) noHp fun v32_1 =>
  K ((env.set 31 (env 3)).set 32 v32_1) h
@[congr] theorem slices_pdqsortCmpFunc_api_Timer_r5_congr {env : Env} {h : Hp} {K : Env → Hp → Prop} : slices_pdqsortCmpFunc_api_Timer_r5 env h K = slices_pdqsortCmpFunc_api_Timer_r5 env h K := rfl

/-- zsortanyfunc.go:79 -/
def slices_pdqsortCmpFunc_api_Timer_r6 (env : Env) (h : Hp) (K : Env → Hp → Prop) : Prop :=
  Ok Try.prog 26 #[(env 0), (env 1), (env 2), (env 4)] h fun v37_4 h1 =>
  K (((((env.set 33 (env 0)).set 34 (env 1)).set 35 (env 2)).set 36 (env 4)).set 37 v37_4) h1
@[congr] theorem slices_pdqsortCmpFunc_api_Timer_r6_congr {env : Env} {h : Hp} {K : Env → Hp → Prop} : slices_pdqsortCmpFunc_api_Timer_r6 env h K = slices_pdqsortCmpFunc_api_Timer_r6 env h K := rfl

/-- zsortanyfunc.go:84 -/
def slices_pdqsortCmpFunc_api_Timer_r7 (env : Env) (h : Hp) (K : Env → Hp → Prop) : Prop :=
  rd Try.prog (Op.unary Go.UnOp.not (env 10)) noHp fun v39_1 =>
  K ((env.set 38 (env 10)).set 39 v39_1) h
@[congr] theorem slices_pdqsortCmpFunc_api_Timer_r7_congr {env : Env} {h : Hp} {K : Env → Hp → Prop} : slices_pdqsortCmpFunc_api_Timer_r7 env h K = slices_pdqsortCmpFunc_api_Timer_r7 env h K := rfl

/-- zsortanyfunc.go:85 -/
def slices_pdqsortCmpFunc_api_Timer_r8 (env : Env) (h : Hp) (K : Env → Hp → Prop) : Prop :=
  Ok Try.prog 27 #[(env 0), (env 1), (env 2), (env 4)] h fun v44_4 h1 =>
  K (((((env.set 40 (env 0)).set 41 (env 1)).set 42 (env 2)).set 43 (env 4)).set 44 v44_4) h1
@[congr] theorem slices_pdqsortCmpFunc_api_Timer_r8_congr {env : Env} {h : Hp} {K : Env → Hp → Prop} : slices_pdqsortCmpFunc_api_Timer_r8 env h K = slices_pdqsortCmpFunc_api_Timer_r8 env h K := rfl

/-- zsortanyfunc.go:86 -/
def slices_pdqsortCmpFunc_api_Timer_r9 (env : Env) (h : Hp) (K : Env → Hp → Prop) : Prop :=
  rd Try.prog (bop Go.BinOp.sub 3 (Go.Operand.tmp 45) (Go.Operand.const (Go.Value.int Go.IntKind.i64 1)) (env 3) (Go.Value.int Go.IntKind.i64 1)) noHp fun v46_1 =>
  K (((env.set 45 (env 3)).set 46 v46_1).set 3 v46_1) h
@[congr] theorem slices_pdqsortCmpFunc_api_Timer_r9_congr {env : Env} {h : Hp} {K : Env → Hp → Prop} : slices_pdqsortCmpFunc_api_Timer_r9 env h K = slices_pdqsortCmpFunc_api_Timer_r9 env h K := rfl

/-- zsortanyfunc.go:89 -/
def slices_pdqsortCmpFunc_api_Timer_r10 (env : Env) (h : Hp) (K : Env → Hp → Prop) : Prop :=
  Ok Try.prog 28 #[(env 0), (env 1), (env 2), (env 4)] h fun v52_4 h1 =>
  rd Try.prog (Instr.extract v52_4 0) noHp fun v53_6 =>
  rd Try.prog (Instr.extract v52_4 1) noHp fun v54_7 =>
  K ((((((((((env.set 48 (env 0)).set 49 (env 1)).set 50 (env 2)).set 51 (env 4)).set 52 v52_4).set 47 v52_4).set 53 v53_6).set 54 v54_7).set 13 v53_6).set 14 v54_7) h1
@[congr] theorem slices_pdqsortCmpFunc_api_Timer_r10_congr {env : Env} {h : Hp} {K : Env → Hp → Prop} : slices_pdqsortCmpFunc_api_Timer_r10 env h K = slices_pdqsortCmpFunc_api_Timer_r10 env h K := rfl

/-- zsortanyfunc.go:90 -/
def slices_pdqsortCmpFunc_api_Timer_r11 (env : Env) (h : Hp) (K : Env → Hp → Prop) : Prop :=
  rd Try.prog (bop Go.BinOp.eql 59 (Go.Operand.tmp 55) (Go.Operand.const (Go.Value.int Go.IntKind.i64 2)) (env 14) (Go.Value.int Go.IntKind.i64 2)) noHp fun v56_1 =>
  K ((env.set 55 (env 14)).set 56 v56_1) h
@[congr] theorem slices_pdqsortCmpFunc_api_Timer_r11_congr {env : Env} {h : Hp} {K : Env → Hp → Prop} : slices_pdqsortCmpFunc_api_Timer_r11 env h K = slices_pdqsortCmpFunc_api_Timer_r11 env h K := rfl

/-- zsortanyfunc.go:91 -/
def slices_pdqsortCmpFunc_api_Timer_r12 (env : Env) (h : Hp) (K : Env → Hp → Prop) : Prop :=
  Ok Try.prog 29 #[(env 0), (env 1), (env 2), (env 4)] h fun v61_4 h1 =>
  K (((((env.set 57 (env 0)).set 58 (env 1)).set 59 (env 2)).set 60 (env 4)).set 61 v61_4) h1
@[congr] theorem slices_pdqsortCmpFunc_api_Timer_r12_congr {env : Env} {h : Hp} {K : Env → Hp → Prop} : slices_pdqsortCmpFunc_api_Timer_r12 env h K = slices_pdqsortCmpFunc_api_Timer_r12 env h K := rfl

/-- zsortanyfunc.go:95 -/
def slices_pdqsortCmpFunc_api_Timer_r13 (env : Env) (h : Hp) (K : Env → Hp → Prop) : Prop :=
  rd Try.prog (bop Go.BinOp.sub 3 (Go.Operand.tmp 62) (Go.Operand.const (Go.Value.int Go.IntKind.i64 1)) (env 2) (Go.Value.int Go.IntKind.i64 1)) noHp fun v63_1 =>
  rd Try.prog (bop Go.BinOp.sub 3 (Go.Operand.tmp 64) (Go.Operand.tmp 65) (env 13) (env 1)) noHp fun v66_4 =>
  rd Try.prog (bop Go.BinOp.sub 3 (Go.Operand.tmp 63) (Go.Operand.tmp 66) v63_1 v66_4) noHp fun v67_5 =>
  K (((((((env.set 62 (env 2)).set 63 v63_1).set 64 (env 13)).set 65 (env 1)).set 66 v66_4).set 67 v67_5).set 13 v67_5) h
@[congr] theorem slices_pdqsortCmpFunc_api_Timer_r13_congr {env : Env} {h : Hp} {K : Env → Hp → Prop} : slices_pdqsortCmpFunc_api_Timer_r13 env h K = slices_pdqsortCmpFunc_api_Timer_r13 env h K := rfl

/-- zsortanyfunc.go:96 -/
def slices_pdqsortCmpFunc_api_Timer_r14 (env : Env) (h : Hp) (K : Env → Hp → Prop) : Prop :=
  K (env.set 14 (Go.Value.int Go.IntKind.i64 1)) h
@[congr] theorem slices_pdqsortCmpFunc_api_Timer_r14_congr {env : Env} {h : Hp} {K : Env → Hp → Prop} : slices_pdqsortCmpFunc_api_Timer_r14 env h K = slices_pdqsortCmpFunc_api_Timer_r14 env h K := rfl

/-- zsortanyfunc.go:100 -/
def slices_pdqsortCmpFunc_api_Timer_r15 (env : Env) (h : Hp) (K : Env → Hp → Prop) : Prop :=
  gd (yb (env 10) == some true) (fun h k => k (env 11) h) h fun v70_2 h1 =>
  rd Try.prog (pck (env 10) v70_2 (Go.Value.bool false)) noHp fun v71_3 =>
  gd (yb v71_3 == some true) (fun h k => k (env 14) h) h1 fun v73_5 h2 =>
  gd (yb v71_3 == some true) (fun h k => rd Try.prog (bop Go.BinOp.eql 59 (Go.Operand.tmp 73) (Go.Operand.const (Go.Value.int Go.IntKind.i64 1)) v73_5 (Go.Value.int Go.IntKind.i64 1)) noHp fun v => k v h) h2 fun v74_6 h3 =>
  rd Try.prog (pck v71_3 v74_6 (Go.Value.bool false)) noHp fun v75_7 =>
  K ((((((((env.set 68 (env 10)).set 69 (env 10)).set 70 v70_2).set 71 v71_3).set 72 v71_3).set 73 v73_5).set 74 v74_6).set 75 v75_7) h3
@[congr] theorem slices_pdqsortCmpFunc_api_Timer_r15_congr {env : Env} {h : Hp} {K : Env → Hp → Prop} : slices_pdqsortCmpFunc_api_Timer_r15 env h K = slices_pdqsortCmpFunc_api_Timer_r15 env h K := rfl

/-- zsortanyfunc.go:101 -/
def slices_pdqsortCmpFunc_api_Timer_r16 (env : Env) (h : Hp) (K : Env → Hp → Prop) : Prop :=
  Ok Try.prog 30 #[(env 0), (env 1), (env 2), (env 4)] h fun v80_4 h1 =>
  K (((((env.set 76 (env 0)).set 77 (env 1)).set 78 (env 2)).set 79 (env 4)).set 80 v80_4) h1
@[congr] theorem slices_pdqsortCmpFunc_api_Timer_r16_congr {env : Env} {h : Hp} {K : Env → Hp → Prop} : slices_pdqsortCmpFunc_api_Timer_r16 env h K = slices_pdqsortCmpFunc_api_Timer_r16 env h K := rfl

/-- zsortanyfunc.go:108 (in any order) -/
def slices_pdqsortCmpFunc_api_Timer_r17 (env : Env) (h : Hp) (K : Env → Hp → Prop) : Prop :=
  rd Try.prog (bop Go.BinOp.gtr 3 (Go.Operand.tmp 81) (Go.Operand.const (Go.Value.int Go.IntKind.i64 0)) (env 1) (Go.Value.int Go.IntKind.i64 0)) noHp fun v82_1 =>
  gd (yb v82_1 == some true) (fun h k => k (env 4) h) h fun v84_3 h1 =>
  gd (yb v82_1 == some true) (fun h k => k (env 0) h) h1 fun v85_4 h2 =>
  gd (yb v82_1 == some true) (fun h k => k (env 1) h) h2 fun v86_5 h3 =>
  gd (yb v82_1 == some true) (fun h k => rd Try.prog (bop Go.BinOp.sub 3 (Go.Operand.tmp 86) (Go.Operand.const (Go.Value.int Go.IntKind.i64 1)) v86_5 (Go.Value.int Go.IntKind.i64 1)) noHp fun v => k v h) h3 fun v87_6 h4 =>
  gd (yb v82_1 == some true) (fun h k => rd Try.prog (Instr.indexAt 27 v85_4 v87_6) noHp fun v => k v h) h4 fun v88_7 h5 =>
  gd (yb v82_1 == some true) (fun h k => rd Try.prog (Instr.loadAt 37 v88_7) h fun v => k v h) h5 fun v89_8 h6 =>
  gd (yb v82_1 == some true) (fun h k => k (env 0) h) h6 fun v90_9 h7 =>
  gd (yb v82_1 == some true) (fun h k => k (env 13) h) h7 fun v91_10 h8 =>
  gd (yb v82_1 == some true) (fun h k => rd Try.prog (Instr.indexAt 27 v90_9 v91_10) noHp fun v => k v h) h8 fun v92_11 h9 =>
  gd (yb v82_1 == some true) (fun h k => rd Try.prog (Instr.loadAt 37 v92_11) h fun v => k v h) h9 fun v93_12 h10 =>
  gd (yb v82_1 == some true) (fun h k => callV Try.prog v84_3 #[v89_8, v93_12] h k) h10 fun v94_13 h11 =>
  (True) ∧
  gd (yb v82_1 == some true) (fun h k => rd Try.prog (bop Go.BinOp.lss 3 (Go.Operand.tmp 94) (Go.Operand.const (Go.Value.int Go.IntKind.i64 0)) v94_13 (Go.Value.int Go.IntKind.i64 0)) noHp fun v => k v h) h11 fun v95_14 h12 =>
  gd (yb v82_1 == some true) (fun h k => rd Try.prog (Op.unary Go.UnOp.not v95_14) noHp fun v => k v h) h12 fun v96_15 h13 =>
  rd Try.prog (pck v82_1 v96_15 (Go.Value.bool false)) noHp fun v97_16 =>
  K (((((((((((((((((env.set 81 (env 1)).set 82 v82_1).set 83 v82_1).set 84 v84_3).set 85 v85_4).set 86 v86_5).set 87 v87_6).set 88 v88_7).set 89 v89_8).set 90 v90_9).set 91 v91_10).set 92 v92_11).set 93 v93_12).set 94 v94_13).set 95 v95_14).set 96 v96_15).set 97 v97_16) h13
@[congr] theorem slices_pdqsortCmpFunc_api_Timer_r17_congr {env : Env} {h : Hp} {K : Env → Hp → Prop} : slices_pdqsortCmpFunc_api_Timer_r17 env h K = slices_pdqsortCmpFunc_api_Timer_r17 env h K := rfl

/-- zsortanyfunc.go:109 -/
def slices_pdqsortCmpFunc_api_Timer_r18 (env : Env) (h : Hp) (K : Env → Hp → Prop) : Prop :=
  Ok Try.prog 31 #[(env 0), (env 1), (env 2), (env 13), (env 4)] h fun v103_5 h1 =>
  K (((((((env.set 98 (env 0)).set 99 (env 1)).set 100 (env 2)).set 101 (env 13)).set 102 (env 4)).set 103 v103_5).set 15 v103_5) h1
@[congr] theorem slices_pdqsortCmpFunc_api_Timer_r18_congr {env : Env} {h : Hp} {K : Env → Hp → Prop} : slices_pdqsortCmpFunc_api_Timer_r18 env h K = slices_pdqsortCmpFunc_api_Timer_r18 env h K := rfl

/-- zsortanyfunc.go:110 -/
def slices_pdqsortCmpFunc_api_Timer_r19 (env : Env) (h : Hp) (K : Env → Hp → Prop) : Prop :=
  K ((env.set 104 (env 15)).set 1 (env 15)) h
@[congr] theorem slices_pdqsortCmpFunc_api_Timer_r19_congr {env : Env} {h : Hp} {K : Env → Hp → Prop} : slices_pdqsortCmpFunc_api_Timer_r19 env h K = slices_pdqsortCmpFunc_api_Timer_r19 env h K := rfl

/-- zsortanyfunc.go:114 -/
def slices_pdqsortCmpFunc_api_Timer_r20 (env : Env) (h : Hp) (K : Env → Hp → Prop) : Prop :=
  Ok Try.prog 32 #[(env 0), (env 1), (env 2), (env 13), (env 4)] h fun v111_5 h1 =>
  rd Try.prog (Instr.extract v111_5 0) noHp fun v112_7 =>
  rd Try.prog (Instr.extract v111_5 1) noHp fun v113_8 =>
  K (((((((((((env.set 106 (env 0)).set 107 (env 1)).set 108 (env 2)).set 109 (env 13)).set 110 (env 4)).set 111 v111_5).set 105 v111_5).set 112 v112_7).set 113 v113_8).set 16 v112_7).set 17 v113_8) h1
@[congr] theorem slices_pdqsortCmpFunc_api_Timer_r20_congr {env : Env} {h : Hp} {K : Env → Hp → Prop} : slices_pdqsortCmpFunc_api_Timer_r20 env h K = slices_pdqsortCmpFunc_api_Timer_r20 env h K := rfl

/-- zsortanyfunc.go:115 -/
def slices_pdqsortCmpFunc_api_Timer_r21 (env : Env) (h : Hp) (K : Env → Hp → Prop) : Prop :=
  K ((env.set 114 (env 17)).set 11 (env 17)) h
@[congr] theorem slices_pdqsortCmpFunc_api_Timer_r21_congr {env : Env} {h : Hp} {K : Env → Hp → Prop} : slices_pdqsortCmpFunc_api_Timer_r21 env h K = slices_pdqsortCmpFunc_api_Timer_r21 env h K := rfl

/-- zsortanyfunc.go:117 -/
def slices_pdqsortCmpFunc_api_Timer_r22 (env : Env) (h : Hp) (K : Env → Hp → Prop) : Prop :=
  rd Try.prog (bop Go.BinOp.sub 3 (Go.Operand.tmp 115) (Go.Operand.tmp 116) (env 16) (env 1)) noHp fun v117_2 =>
  rd Try.prog (bop Go.BinOp.sub 3 (Go.Operand.tmp 118) (Go.Operand.tmp 119) (env 2) (env 16)) noHp fun v120_5 =>
  K ((((((((env.set 115 (env 16)).set 116 (env 1)).set 117 v117_2).set 118 (env 2)).set 119 (env 16)).set 120 v120_5).set 18 v117_2).set 19 v120_5) h
@[congr] theorem slices_pdqsortCmpFunc_api_Timer_r22_congr {env : Env} {h : Hp} {K : Env → Hp → Prop} : slices_pdqsortCmpFunc_api_Timer_r22 env h K = slices_pdqsortCmpFunc_api_Timer_r22 env h K := rfl

/-- zsortanyfunc.go:118 -/
def slices_pdqsortCmpFunc_api_Timer_r23 (env : Env) (h : Hp) (K : Env → Hp → Prop) : Prop :=
  rd Try.prog (bop Go.BinOp.quo 3 (Go.Operand.tmp 121) (Go.Operand.const (Go.Value.int Go.IntKind.i64 8)) (env 12) (Go.Value.int Go.IntKind.i64 8)) noHp fun v122_1 =>
  K (((env.set 121 (env 12)).set 122 v122_1).set 20 v122_1) h
@[congr] theorem slices_pdqsortCmpFunc_api_Timer_r23_congr {env : Env} {h : Hp} {K : Env → Hp → Prop} : slices_pdqsortCmpFunc_api_Timer_r23 env h K = slices_pdqsortCmpFunc_api_Timer_r23 env h K := rfl

/-- zsortanyfunc.go:119 -/
def slices_pdqsortCmpFunc_api_Timer_r24 (env : Env) (h : Hp) (K : Env → Hp → Prop) : Prop :=
  rd Try.prog (bop Go.BinOp.lss 3 (Go.Operand.tmp 123) (Go.Operand.tmp 124) (env 18) (env 19)) noHp fun v125_2 =>
  K (((env.set 123 (env 18)).set 124 (env 19)).set 125 v125_2) h
@[congr] theorem slices_pdqsortCmpFunc_api_Timer_r24_congr {env : Env} {h : Hp} {K : Env → Hp → Prop} : slices_pdqsortCmpFunc_api_Timer_r24 env h K = slices_pdqsortCmpFunc_api_Timer_r24 env h K := rfl

/-- zsortanyfunc.go:120 -/
def slices_pdqsortCmpFunc_api_Timer_r25 (env : Env) (h : Hp) (K : Env → Hp → Prop) : Prop :=
  rd Try.prog (bop Go.BinOp.geq 3 (Go.Operand.tmp 126) (Go.Operand.tmp 127) (env 18) (env 20)) noHp fun v128_2 =>
  K ((((env.set 126 (env 18)).set 127 (env 20)).set 128 v128_2).set 10 v128_2) h
@[congr] theorem slices_pdqsortCmpFunc_api_Timer_r25_congr {env : Env} {h : Hp} {K : Env → Hp → Prop} : slices_pdqsortCmpFunc_api_Timer_r25 env h K = slices_pdqsortCmpFunc_api_Timer_r25 env h K := rfl

/-- zsortanyfunc.go:121 -/
def slices_pdqsortCmpFunc_api_Timer_r26 (env : Env) (h : Hp) (K : Env → Hp → Prop) : Prop :=
  Ok Try.prog 21 #[(env 0), (env 1), (env 16), (env 3), (env 4)] h fun v134_5 h1 =>
  K ((((((env.set 129 (env 0)).set 130 (env 1)).set 131 (env 16)).set 132 (env 3)).set 133 (env 4)).set 134 v134_5) h1
@[congr] theorem slices_pdqsortCmpFunc_api_Timer_r26_congr {env : Env} {h : Hp} {K : Env → Hp → Prop} : slices_pdqsortCmpFunc_api_Timer_r26 env h K = slices_pdqsortCmpFunc_api_Timer_r26 env h K := rfl

/-- zsortanyfunc.go:122 -/
def slices_pdqsortCmpFunc_api_Timer_r27 (env : Env) (h : Hp) (K : Env → Hp → Prop) : Prop :=
  rd Try.prog (bop Go.BinOp.add 3 (Go.Operand.tmp 135) (Go.Operand.const (Go.Value.int Go.IntKind.i64 1)) (env 16) (Go.Value.int Go.IntKind.i64 1)) noHp fun v136_1 =>
  K (((env.set 135 (env 16)).set 136 v136_1).set 1 v136_1) h
@[congr] theorem slices_pdqsortCmpFunc_api_Timer_r27_congr {env : Env} {h : Hp} {K : Env → Hp → Prop} : slices_pdqsortCmpFunc_api_Timer_r27 env h K = slices_pdqsortCmpFunc_api_Timer_r27 env h K := rfl

/-- zsortanyfunc.go:124 -/
def slices_pdqsortCmpFunc_api_Timer_r28 (env : Env) (h : Hp) (K : Env → Hp → Prop) : Prop :=
  rd Try.prog (bop Go.BinOp.geq 3 (Go.Operand.tmp 137) (Go.Operand.tmp 138) (env 19) (env 20)) noHp fun v139_2 =>
  K ((((env.set 137 (env 19)).set 138 (env 20)).set 139 v139_2).set 10 v139_2) h
@[congr] theorem slices_pdqsortCmpFunc_api_Timer_r28_congr {env : Env} {h : Hp} {K : Env → Hp → Prop} : slices_pdqsortCmpFunc_api_Timer_r28 env h K = slices_pdqsortCmpFunc_api_Timer_r28 env h K := rfl

/-- zsortanyfunc.go:125 -/
def slices_pdqsortCmpFunc_api_Timer_r29 (env : Env) (h : Hp) (K : Env → Hp → Prop) : Prop :=
  rd Try.prog (bop Go.BinOp.add 3 (Go.Operand.tmp 141) (Go.Operand.const (Go.Value.int Go.IntKind.i64 1)) (env 16) (Go.Value.int Go.IntKind.i64 1)) noHp fun v142_2 =>
  Ok Try.prog 21 #[(env 0), v142_2, (env 2), (env 3), (env 4)] h fun v146_6 h1 =>
  K (((((((env.set 140 (env 0)).set 141 (env 16)).set 142 v142_2).set 143 (env 2)).set 144 (env 3)).set 145 (env 4)).set 146 v146_6) h1
@[congr] theorem slices_pdqsortCmpFunc_api_Timer_r29_congr {env : Env} {h : Hp} {K : Env → Hp → Prop} : slices_pdqsortCmpFunc_api_Timer_r29 env h K = slices_pdqsortCmpFunc_api_Timer_r29 env h K := rfl

/-- zsortanyfunc.go:126 -/
def slices_pdqsortCmpFunc_api_Timer_r30 (env : Env) (h : Hp) (K : Env → Hp → Prop) : Prop :=
  K ((env.set 147 (env 16)).set 2 (env 16)) h
@[congr] theorem slices_pdqsortCmpFunc_api_Timer_r30_congr {env : Env} {h : Hp} {K : Env → Hp → Prop} : slices_pdqsortCmpFunc_api_Timer_r30 env h K = slices_pdqsortCmpFunc_api_Timer_r30 env h K := rfl

def slices_pdqsortCmpFunc_api_Timer_L0 : Den := (blk 1 (sq (rg slices_pdqsortCmpFunc_api_Timer_r2) (sq (sq (rg slices_pdqsortCmpFunc_api_Timer_r3) (cnd (Go.Operand.tmp 25) (sq (rg slices_pdqsortCmpFunc_api_Timer_r4) (ex .ret)) (ex .normal))) (sq (sq (rg slices_pdqsortCmpFunc_api_Timer_r5) (cnd (Go.Operand.tmp 32) (sq (rg slices_pdqsortCmpFunc_api_Timer_r6) (ex .ret)) (ex .normal))) (sq (sq (rg slices_pdqsortCmpFunc_api_Timer_r7) (cnd (Go.Operand.tmp 39) (sq (rg slices_pdqsortCmpFunc_api_Timer_r8) (rg slices_pdqsortCmpFunc_api_Timer_r9)) (ex .normal))) (sq (rg slices_pdqsortCmpFunc_api_Timer_r10) (sq (sq (rg slices_pdqsortCmpFunc_api_Timer_r11) (cnd (Go.Operand.tmp 56) (sq (rg slices_pdqsortCmpFunc_api_Timer_r12) (sq (rg slices_pdqsortCmpFunc_api_Timer_r13) (rg slices_pdqsortCmpFunc_api_Timer_r14))) (ex .normal))) (sq (sq (rg slices_pdqsortCmpFunc_api_Timer_r15) (cnd (Go.Operand.tmp 75) (sq (rg slices_pdqsortCmpFunc_api_Timer_r16) (cnd (Go.Operand.tmp 80) (ex .ret) (ex .normal))) (ex .normal))) (sq (sq (rg slices_pdqsortCmpFunc_api_Timer_r17) (cnd (Go.Operand.tmp 97) (sq (rg slices_pdqsortCmpFunc_api_Timer_r18) (sq (rg slices_pdqsortCmpFunc_api_Timer_r19) (ex (.exit 1)))) (ex .normal))) (sq (rg slices_pdqsortCmpFunc_api_Timer_r20) (sq (rg slices_pdqsortCmpFunc_api_Timer_r21) (sq (rg slices_pdqsortCmpFunc_api_Timer_r22) (sq (rg slices_pdqsortCmpFunc_api_Timer_r23) (sq (rg slices_pdqsortCmpFunc_api_Timer_r24) (cnd (Go.Operand.tmp 125) (sq (rg slices_pdqsortCmpFunc_api_Timer_r25) (sq (rg slices_pdqsortCmpFunc_api_Timer_r26) (rg slices_pdqsortCmpFunc_api_Timer_r27))) (sq (rg slices_pdqsortCmpFunc_api_Timer_r28) (sq (rg slices_pdqsortCmpFunc_api_Timer_r29) (rg slices_pdqsortCmpFunc_api_Timer_r30))))))))))))))))))

def slices_pdqsortCmpFunc_api_Timer_D : Den := (sq (rg slices_pdqsortCmpFunc_api_Timer_r0) (sq (rg slices_pdqsortCmpFunc_api_Timer_r1) (blk 0 (lp slices_pdqsortCmpFunc_api_Timer_L0))))

theorem slices_pdqsortCmpFunc_api_Timer_eq : (den Try.prog 148 slices_pdqsortCmpFunc_api_Timer_code).1 = slices_pdqsortCmpFunc_api_Timer_D := by kernel_rfl

theorem slices_pdqsortCmpFunc_api_Timer_ok {args : Array Value} {h : Hp} {Q : Value → Hp → Prop} (hn : args.size ≤ 148) (D : slices_pdqsortCmpFunc_api_Timer_D (fin Try.prog [] Q) (env0 args) h) : Ok Try.prog 21 args h Q :=
  ok_of_den progIsOk Try.func21 (c := slices_pdqsortCmpFunc_api_Timer_code) (by kernel_rfl) hn (by show (den Try.prog 148 slices_pdqsortCmpFunc_api_Timer_code).1 _ _ _; rw [slices_pdqsortCmpFunc_api_Timer_eq]; exact D)

/-! ### math/bits.Len: function 22 -/
noncomputable def math_bits_Len_code : Code := match Try.f22.body with | some c => c | none => .skip

/-- bits.go:302 -/
def math_bits_Len_r0 (env : Env) (h : Hp) (K : Env → Hp → Prop) : Prop :=
  K (env.set 2 (Go.Value.int Go.IntKind.i64 0)) h
@[congr] theorem math_bits_Len_r0_congr {env : Env} {h : Hp} {K : Env → Hp → Prop} : math_bits_Len_r0 env h K = math_bits_Len_r0 env h K := rfl

/-- bits.go:304 -/
def math_bits_Len_r1 (env : Env) (h : Hp) (K : Env → Hp → Prop) : Prop :=
  rd Try.prog (convert 55 66 (env 0)) noHp fun v4_1 =>
  Ok Try.prog 33 #[v4_1] h fun v5_2 h1 =>
  K ((((env.set 3 (env 0)).set 4 v4_1).set 5 v5_2).set 2 v5_2) h1
@[congr] theorem math_bits_Len_r1_congr {env : Env} {h : Hp} {K : Env → Hp → Prop} : math_bits_Len_r1 env h K = math_bits_Len_r1 env h K := rfl

/-- bits.go:306 -/
def math_bits_Len_r2 (env : Env) (h : Hp) (K : Env → Hp → Prop) : Prop :=
  Ok Try.prog 34 #[(env 0)] h fun v7_1 h1 =>
  K (((env.set 6 (env 0)).set 7 v7_1).set 2 v7_1) h1
@[congr] theorem math_bits_Len_r2_congr {env : Env} {h : Hp} {K : Env → Hp → Prop} : math_bits_Len_r2 env h K = math_bits_Len_r2 env h K := rfl

def math_bits_Len_D : Den := (sq (rg math_bits_Len_r0) (sq (cnd (Go.Operand.const (Go.Value.bool false)) (sq (rg math_bits_Len_r1) (ex .ret)) (ex .normal)) (sq (rg math_bits_Len_r2) (ex .ret))))

theorem math_bits_Len_eq : (den Try.prog 8 math_bits_Len_code).1 = math_bits_Len_D := by kernel_rfl

theorem math_bits_Len_ok {args : Array Value} {h : Hp} {Q : Value → Hp → Prop} (hn : args.size ≤ 8) (D : math_bits_Len_D (fin Try.prog [(Go.ResultVar.tmp 2)] Q) (env0 args) h) : Ok Try.prog 22 args h Q :=
  ok_of_den progIsOk Try.func22 (c := math_bits_Len_code) (by kernel_rfl) hn (by show (den Try.prog 8 math_bits_Len_code).1 _ _ _; rw [math_bits_Len_eq]; exact D)

/-! ### cmp.Or[int]: function 23 -/
noncomputable def cmp_Or_int_code : Code := match Try.f23.body with | some c => c | none => .skip

/-- cmp.go:69 -/
def cmp_Or_int_r0 (env : Env) (h : Hp) (K : Env → Hp → Prop) : Prop :=
  K (env.set 2 (Go.Value.int Go.IntKind.i64 0)) h
@[congr] theorem cmp_Or_int_r0_congr {env : Env} {h : Hp} {K : Env → Hp → Prop} : cmp_Or_int_r0 env h K = cmp_Or_int_r0 env h K := rfl

/-- cmp.go:70 -/
def cmp_Or_int_r1 (env : Env) (h : Hp) (K : Env → Hp → Prop) : Prop :=
  K (env.set 3 (Go.Value.int Go.IntKind.i64 0)) h
@[congr] theorem cmp_Or_int_r1_congr {env : Env} {h : Hp} {K : Env → Hp → Prop} : cmp_Or_int_r1 env h K = cmp_Or_int_r1 env h K := rfl

/-- cmp.go:71 -/
def cmp_Or_int_r2 (env : Env) (h : Hp) (K : Env → Hp → Prop) : Prop :=
  rd Try.prog (Builtin.len_ #[32] 3 #[(env 0)]) h fun v7_1 =>
  K (((env.set 6 (env 0)).set 7 v7_1).set 8 (Go.Value.int Go.IntKind.i64 0)) h
@[congr] theorem cmp_Or_int_r2_congr {env : Env} {h : Hp} {K : Env → Hp → Prop} : cmp_Or_int_r2 env h K = cmp_Or_int_r2 env h K := rfl

/-- cmp.go:71 -/
def cmp_Or_int_r3 (env : Env) (h : Hp) (K : Env → Hp → Prop) : Prop :=
  rd Try.prog (bop Go.BinOp.lss 3 (Go.Operand.tmp 8) (Go.Operand.tmp 7) (env 8) (env 7)) noHp fun v9_0 =>
  K (env.set 9 v9_0) h
@[congr] theorem cmp_Or_int_r3_congr {env : Env} {h : Hp} {K : Env → Hp → Prop} : cmp_Or_int_r3 env h K = cmp_Or_int_r3 env h K := rfl

/-- cmp.go:71 -/
def cmp_Or_int_r4 (env : Env) (h : Hp) (K : Env → Hp → Prop) : Prop :=
  rd Try.prog (Instr.indexAt 32 (env 6) (env 8)) noHp fun v10_0 =>
  rd Try.prog (Instr.loadAt 3 v10_0) h fun v11_1 =>
  K (((env.set 10 v10_0).set 11 v11_1).set 5 v11_1) h
@[congr] theorem cmp_Or_int_r4_congr {env : Env} {h : Hp} {K : Env → Hp → Prop} : cmp_Or_int_r4 env h K = cmp_Or_int_r4 env h K := rfl

/-- cmp.go:72 -/
def cmp_Or_int_r5 (env : Env) (h : Hp) (K : Env → Hp → Prop) : Prop :=
  rd Try.prog (bop Go.BinOp.neq 3 (Go.Operand.tmp 12) (Go.Operand.tmp 13) (env 5) (env 3)) noHp fun v14_2 =>
  K (((env.set 12 (env 5)).set 13 (env 3)).set 14 v14_2) h
@[congr] theorem cmp_Or_int_r5_congr {env : Env} {h : Hp} {K : Env → Hp → Prop} : cmp_Or_int_r5 env h K = cmp_Or_int_r5 env h K := rfl

/-- cmp.go:73 -/
def cmp_Or_int_r6 (env : Env) (h : Hp) (K : Env → Hp → Prop) : Prop :=
  K ((env.set 15 (env 5)).set 2 (env 5)) h
@[congr] theorem cmp_Or_int_r6_congr {env : Env} {h : Hp} {K : Env → Hp → Prop} : cmp_Or_int_r6 env h K = cmp_Or_int_r6 env h K := rfl

/-- cmp.go:71 -/
def cmp_Or_int_r7 (env : Env) (h : Hp) (K : Env → Hp → Prop) : Prop :=
  rd Try.prog (bop Go.BinOp.add 3 (Go.Operand.tmp 8) (Go.Operand.const (Go.Value.int Go.IntKind.i64 1)) (env 8) (Go.Value.int Go.IntKind.i64 1)) noHp fun v16_0 =>
  K ((env.set 16 v16_0).set 8 v16_0) h
@[congr] theorem cmp_Or_int_r7_congr {env : Env} {h : Hp} {K : Env → Hp → Prop} : cmp_Or_int_r7 env h K = cmp_Or_int_r7 env h K := rfl

def cmp_Or_int_L0 : Den := (sq (rg cmp_Or_int_r3) (sq (cnd (Go.Operand.tmp 9) (ex .normal) (ex (.exit 0))) (sq (blk 1 (sq (rg cmp_Or_int_r4) (sq (rg cmp_Or_int_r5) (cnd (Go.Operand.tmp 14) (sq (rg cmp_Or_int_r6) (ex .ret)) (ex .normal))))) (rg cmp_Or_int_r7))))

/-- cmp.go:76 -/
def cmp_Or_int_r8 (env : Env) (h : Hp) (K : Env → Hp → Prop) : Prop :=
  K ((env.set 17 (env 3)).set 2 (env 3)) h
@[congr] theorem cmp_Or_int_r8_congr {env : Env} {h : Hp} {K : Env → Hp → Prop} : cmp_Or_int_r8 env h K = cmp_Or_int_r8 env h K := rfl

def cmp_Or_int_D : Den := (sq (rg cmp_Or_int_r0) (sq (rg cmp_Or_int_r1) (sq (sq (rg cmp_Or_int_r2) (blk 0 (lp cmp_Or_int_L0))) (sq (rg cmp_Or_int_r8) (ex .ret)))))

theorem cmp_Or_int_eq : (den Try.prog 18 cmp_Or_int_code).1 = cmp_Or_int_D := by kernel_rfl

theorem cmp_Or_int_ok {args : Array Value} {h : Hp} {Q : Value → Hp → Prop} (hn : args.size ≤ 18) (D : cmp_Or_int_D (fin Try.prog [(Go.ResultVar.tmp 2)] Q) (env0 args) h) : Ok Try.prog 23 args h Q :=
  ok_of_den progIsOk Try.func23 (c := cmp_Or_int_code) (by kernel_rfl) hn (by show (den Try.prog 18 cmp_Or_int_code).1 _ _ _; rw [cmp_Or_int_eq]; exact D)

/-! ### cmp.Compare[int]: function 24 -/
noncomputable def cmp_Compare_int_code : Code := match Try.f24.body with | some c => c | none => .skip

/-- cmp.go:40 -/
def cmp_Compare_int_r0 (env : Env) (h : Hp) (K : Env → Hp → Prop) : Prop :=
  K (env.set 4 (Go.Value.int Go.IntKind.i64 0)) h
@[congr] theorem cmp_Compare_int_r0_congr {env : Env} {h : Hp} {K : Env → Hp → Prop} : cmp_Compare_int_r0 env h K = cmp_Compare_int_r0 env h K := rfl

/-- cmp.go:41 -/
def cmp_Compare_int_r1 (env : Env) (h : Hp) (K : Env → Hp → Prop) : Prop :=
  Ok Try.prog 35 #[(env 0)] h fun v8_1 h1 =>
  K (((env.set 7 (env 0)).set 8 v8_1).set 5 v8_1) h1
@[congr] theorem cmp_Compare_int_r1_congr {env : Env} {h : Hp} {K : Env → Hp → Prop} : cmp_Compare_int_r1 env h K = cmp_Compare_int_r1 env h K := rfl

/-- cmp.go:42 -/
def cmp_Compare_int_r2 (env : Env) (h : Hp) (K : Env → Hp → Prop) : Prop :=
  Ok Try.prog 35 #[(env 1)] h fun v10_1 h1 =>
  K (((env.set 9 (env 1)).set 10 v10_1).set 6 v10_1) h1
@[congr] theorem cmp_Compare_int_r2_congr {env : Env} {h : Hp} {K : Env → Hp → Prop} : cmp_Compare_int_r2 env h K = cmp_Compare_int_r2 env h K := rfl

/-- cmp.go:43 -/
def cmp_Compare_int_r3 (env : Env) (h : Hp) (K : Env → Hp → Prop) : Prop :=
  K (env.set 11 (env 5)) h
@[congr] theorem cmp_Compare_int_r3_congr {env : Env} {h : Hp} {K : Env → Hp → Prop} : cmp_Compare_int_r3 env h K = cmp_Compare_int_r3 env h K := rfl

/-- cmp.go:44 -/
def cmp_Compare_int_r4 (env : Env) (h : Hp) (K : Env → Hp → Prop) : Prop :=
  K (env.set 12 (env 6)) h
@[congr] theorem cmp_Compare_int_r4_congr {env : Env} {h : Hp} {K : Env → Hp → Prop} : cmp_Compare_int_r4 env h K = cmp_Compare_int_r4 env h K := rfl

/-- cmp.go:45 -/
def cmp_Compare_int_r5 (env : Env) (h : Hp) (K : Env → Hp → Prop) : Prop :=
  K (env.set 4 (Go.Value.int Go.IntKind.i64 0)) h
@[congr] theorem cmp_Compare_int_r5_congr {env : Env} {h : Hp} {K : Env → Hp → Prop} : cmp_Compare_int_r5 env h K = cmp_Compare_int_r5 env h K := rfl

/-- cmp.go:47 -/
def cmp_Compare_int_r6 (env : Env) (h : Hp) (K : Env → Hp → Prop) : Prop :=
  K (env.set 4 (Go.Value.int Go.IntKind.i64 (-1))) h
@[congr] theorem cmp_Compare_int_r6_congr {env : Env} {h : Hp} {K : Env → Hp → Prop} : cmp_Compare_int_r6 env h K = cmp_Compare_int_r6 env h K := rfl

/-- cmp.go:49 -/
def cmp_Compare_int_r7 (env : Env) (h : Hp) (K : Env → Hp → Prop) : Prop :=
  K (env.set 13 (env 6)) h
@[congr] theorem cmp_Compare_int_r7_congr {env : Env} {h : Hp} {K : Env → Hp → Prop} : cmp_Compare_int_r7 env h K = cmp_Compare_int_r7 env h K := rfl

/-- cmp.go:50 -/
def cmp_Compare_int_r8 (env : Env) (h : Hp) (K : Env → Hp → Prop) : Prop :=
  K (env.set 4 (Go.Value.int Go.IntKind.i64 1)) h
@[congr] theorem cmp_Compare_int_r8_congr {env : Env} {h : Hp} {K : Env → Hp → Prop} : cmp_Compare_int_r8 env h K = cmp_Compare_int_r8 env h K := rfl

/-- cmp.go:52 -/
def cmp_Compare_int_r9 (env : Env) (h : Hp) (K : Env → Hp → Prop) : Prop :=
  rd Try.prog (bop Go.BinOp.lss 3 (Go.Operand.tmp 14) (Go.Operand.tmp 15) (env 0) (env 1)) noHp fun v16_2 =>
  K (((env.set 14 (env 0)).set 15 (env 1)).set 16 v16_2) h
@[congr] theorem cmp_Compare_int_r9_congr {env : Env} {h : Hp} {K : Env → Hp → Prop} : cmp_Compare_int_r9 env h K = cmp_Compare_int_r9 env h K := rfl

/-- cmp.go:53 -/
def cmp_Compare_int_r10 (env : Env) (h : Hp) (K : Env → Hp → Prop) : Prop :=
  K (env.set 4 (Go.Value.int Go.IntKind.i64 (-1))) h
@[congr] theorem cmp_Compare_int_r10_congr {env : Env} {h : Hp} {K : Env → Hp → Prop} : cmp_Compare_int_r10 env h K = cmp_Compare_int_r10 env h K := rfl

/-- cmp.go:55 -/
def cmp_Compare_int_r11 (env : Env) (h : Hp) (K : Env → Hp → Prop) : Prop :=
  rd Try.prog (bop Go.BinOp.gtr 3 (Go.Operand.tmp 17) (Go.Operand.tmp 18) (env 0) (env 1)) noHp fun v19_2 =>
  K (((env.set 17 (env 0)).set 18 (env 1)).set 19 v19_2) h
@[congr] theorem cmp_Compare_int_r11_congr {env : Env} {h : Hp} {K : Env → Hp → Prop} : cmp_Compare_int_r11 env h K = cmp_Compare_int_r11 env h K := rfl

/-- cmp.go:56 -/
def cmp_Compare_int_r12 (env : Env) (h : Hp) (K : Env → Hp → Prop) : Prop :=
  K (env.set 4 (Go.Value.int Go.IntKind.i64 1)) h
@[congr] theorem cmp_Compare_int_r12_congr {env : Env} {h : Hp} {K : Env → Hp → Prop} : cmp_Compare_int_r12 env h K = cmp_Compare_int_r12 env h K := rfl

/-- cmp.go:58 -/
def cmp_Compare_int_r13 (env : Env) (h : Hp) (K : Env → Hp → Prop) : Prop :=
  K (env.set 4 (Go.Value.int Go.IntKind.i64 0)) h
@[congr] theorem cmp_Compare_int_r13_congr {env : Env} {h : Hp} {K : Env → Hp → Prop} : cmp_Compare_int_r13 env h K = cmp_Compare_int_r13 env h K := rfl

def cmp_Compare_int_D : Den := (sq (rg cmp_Compare_int_r0) (sq (rg cmp_Compare_int_r1) (sq (rg cmp_Compare_int_r2) (sq (sq (rg cmp_Compare_int_r3) (cnd (Go.Operand.tmp 11) (sq (sq (rg cmp_Compare_int_r4) (cnd (Go.Operand.tmp 12) (sq (rg cmp_Compare_int_r5) (ex .ret)) (ex .normal))) (sq (rg cmp_Compare_int_r6) (ex .ret))) (ex .normal))) (sq (sq (rg cmp_Compare_int_r7) (cnd (Go.Operand.tmp 13) (sq (rg cmp_Compare_int_r8) (ex .ret)) (ex .normal))) (sq (sq (rg cmp_Compare_int_r9) (cnd (Go.Operand.tmp 16) (sq (rg cmp_Compare_int_r10) (ex .ret)) (ex .normal))) (sq (sq (rg cmp_Compare_int_r11) (cnd (Go.Operand.tmp 19) (sq (rg cmp_Compare_int_r12) (ex .ret)) (ex .normal))) (sq (rg cmp_Compare_int_r13) (ex .ret)))))))))

theorem cmp_Compare_int_eq : (den Try.prog 20 cmp_Compare_int_code).1 = cmp_Compare_int_D := by kernel_rfl

theorem cmp_Compare_int_ok {args : Array Value} {h : Hp} {Q : Value → Hp → Prop} (hn : args.size ≤ 20) (D : cmp_Compare_int_D (fin Try.prog [(Go.ResultVar.tmp 4)] Q) (env0 args) h) : Ok Try.prog 24 args h Q :=
  ok_of_den progIsOk Try.func24 (c := cmp_Compare_int_code) (by kernel_rfl) hn (by show (den Try.prog 20 cmp_Compare_int_code).1 _ _ _; rw [cmp_Compare_int_eq]; exact D)

/-! ### slices.insertionSortCmpFunc[octroi/api.Timer]: function 25 -/
noncomputable def slices_insertionSortCmpFunc_api_Timer_code : Code := match Try.f25.body with | some c => c | none => .skip

/-- zsortanyfunc.go:11 -/
def slices_insertionSortCmpFunc_api_Timer_r0 (env : Env) (h : Hp) (K : Env → Hp → Prop) : Prop :=
  rd Try.prog (bop Go.BinOp.add 3 (Go.Operand.tmp 10) (Go.Operand.const (Go.Value.int Go.IntKind.i64 1)) (env 1) (Go.Value.int Go.IntKind.i64 1)) noHp fun v11_1 =>
  K (((env.set 10 (env 1)).set 11 v11_1).set 8 v11_1) h
@[congr] theorem slices_insertionSortCmpFunc_api_Timer_r0_congr {env : Env} {h : Hp} {K : Env → Hp → Prop} : slices_insertionSortCmpFunc_api_Timer_r0 env h K = slices_insertionSortCmpFunc_api_Timer_r0 env h K := rfl

/-- zsortanyfunc.go:11 -/
def slices_insertionSortCmpFunc_api_Timer_r1 (env : Env) (h : Hp) (K : Env → Hp → Prop) : Prop :=
  rd Try.prog (bop Go.BinOp.lss 3 (Go.Operand.tmp 12) (Go.Operand.tmp 13) (env 8) (env 2)) noHp fun v14_2 =>
  K (((env.set 12 (env 8)).set 13 (env 2)).set 14 v14_2) h
@[congr] theorem slices_insertionSortCmpFunc_api_Timer_r1_congr {env : Env} {h : Hp} {K : Env → Hp → Prop} : slices_insertionSortCmpFunc_api_Timer_r1 env h K = slices_insertionSortCmpFunc_api_Timer_r1 env h K := rfl

/-- zsortanyfunc.go:12 -/
def slices_insertionSortCmpFunc_api_Timer_r2 (env : Env) (h : Hp) (K : Env → Hp → Prop) : Prop :=
  K ((env.set 17 (env 8)).set 9 (env 8)) h
@[congr] theorem slices_insertionSortCmpFunc_api_Timer_r2_congr {env : Env} {h : Hp} {K : Env → Hp → Prop} : slices_insertionSortCmpFunc_api_Timer_r2 env h K = slices_insertionSortCmpFunc_api_Timer_r2 env h K := rfl

/-- zsortanyfunc.go:12 (in any order) -/
def slices_insertionSortCmpFunc_api_Timer_r3 (env : Env) (h : Hp) (K : Env → Hp → Prop) : Prop :=
  rd Try.prog (bop Go.BinOp.gtr 3 (Go.Operand.tmp 18) (Go.Operand.tmp 19) (env 9) (env 1)) noHp fun v20_2 =>
  gd (yb v20_2 == some true) (fun h k => k (env 3) h) h fun v22_4 h1 =>
  gd (yb v20_2 == some true) (fun h k => k (env 0) h) h1 fun v23_5 h2 =>
  gd (yb v20_2 == some true) (fun h k => k (env 9) h) h2 fun v24_6 h3 =>
  gd (yb v20_2 == some true) (fun h k => rd Try.prog (Instr.indexAt 27 v23_5 v24_6) noHp fun v => k v h) h3 fun v25_7 h4 =>
  gd (yb v20_2 == some true) (fun h k => rd Try.prog (Instr.loadAt 37 v25_7) h fun v => k v h) h4 fun v26_8 h5 =>
  gd (yb v20_2 == some true) (fun h k => k (env 0) h) h5 fun v27_9 h6 =>
  gd (yb v20_2 == some true) (fun h k => k (env 9) h) h6 fun v28_10 h7 =>
  gd (yb v20_2 == some true) (fun h k => rd Try.prog (bop Go.BinOp.sub 3 (Go.Operand.tmp 28) (Go.Operand.const (Go.Value.int Go.IntKind.i64 1)) v28_10 (Go.Value.int Go.IntKind.i64 1)) noHp fun v => k v h) h7 fun v29_11 h8 =>
  gd (yb v20_2 == some true) (fun h k => rd Try.prog (Instr.indexAt 27 v27_9 v29_11) noHp fun v => k v h) h8 fun v30_12 h9 =>
  gd (yb v20_2 == some true) (fun h k => rd Try.prog (Instr.loadAt 37 v30_12) h fun v => k v h) h9 fun v31_13 h10 =>
  gd (yb v20_2 == some true) (fun h k => callV Try.prog v22_4 #[v26_8, v31_13] h k) h10 fun v32_14 h11 =>
  (True) ∧
  gd (yb v20_2 == some true) (fun h k => rd Try.prog (bop Go.BinOp.lss 3 (Go.Operand.tmp 32) (Go.Operand.const (Go.Value.int Go.IntKind.i64 0)) v32_14 (Go.Value.int Go.IntKind.i64 0)) noHp fun v => k v h) h11 fun v33_15 h12 =>
  rd Try.prog (pck v20_2 v33_15 (Go.Value.bool false)) noHp fun v34_16 =>
  K (((((((((((((((((env.set 18 (env 9)).set 19 (env 1)).set 20 v20_2).set 21 v20_2).set 22 v22_4).set 23 v23_5).set 24 v24_6).set 25 v25_7).set 26 v26_8).set 27 v27_9).set 28 v28_10).set 29 v29_11).set 30 v30_12).set 31 v31_13).set 32 v32_14).set 33 v33_15).set 34 v34_16) h12
@[congr] theorem slices_insertionSortCmpFunc_api_Timer_r3_congr {env : Env} {h : Hp} {K : Env → Hp → Prop} : slices_insertionSortCmpFunc_api_Timer_r3 env h K = slices_insertionSortCmpFunc_api_Timer_r3 env h K := rfl

/-- zsortanyfunc.go:13 (in any order) -/
def slices_insertionSortCmpFunc_api_Timer_r4 (env : Env) (h : Hp) (K : Env → Hp → Prop) : Prop :=
  rd Try.prog (bop Go.BinOp.sub 3 (Go.Operand.tmp 40) (Go.Operand.const (Go.Value.int Go.IntKind.i64 1)) (env 9) (Go.Value.int Go.IntKind.i64 1)) noHp fun v41_4 =>
  rd Try.prog (bop Go.BinOp.sub 3 (Go.Operand.tmp 43) (Go.Operand.const (Go.Value.int Go.IntKind.i64 1)) (env 9) (Go.Value.int Go.IntKind.i64 1)) noHp fun v44_7 =>
  rd Try.prog (Instr.indexAt 27 (env 0) v44_7) noHp fun v45_8 =>
  rd Try.prog (Instr.loadAt 37 v45_8) h fun v46_9 =>
  rd Try.prog (Instr.indexAt 27 (env 0) (env 9)) noHp fun v49_12 =>
  rd Try.prog (Instr.loadAt 37 v49_12) h fun v50_13 =>
  rd Try.prog (Instr.indexAt 27 (env 0) (env 9)) noHp fun v51_14 =>
  arun Try.prog (Instr.storeAt 37 v51_14 v46_9) h fun _ h1 =>
  (True) ∧
  rd Try.prog (Instr.indexAt 27 (env 0) v41_4) noHp fun v52_16 =>
  arun Try.prog (Instr.storeAt 37 v52_16 v50_13) h1 fun _ h2 =>
  (True) ∧
  K ((((((((((((((((env.set 37 (env 0)).set 38 (env 9)).set 39 (env 0)).set 40 (env 9)).set 41 v41_4).set 42 (env 0)).set 43 (env 9)).set 44 v44_7).set 45 v45_8).set 46 v46_9).set 47 (env 0)).set 48 (env 9)).set 49 v49_12).set 50 v50_13).set 51 v51_14).set 52 v52_16) h2
@[congr] theorem slices_insertionSortCmpFunc_api_Timer_r4_congr {env : Env} {h : Hp} {K : Env → Hp → Prop} : slices_insertionSortCmpFunc_api_Timer_r4 env h K = slices_insertionSortCmpFunc_api_Timer_r4 env h K := rfl

/-- zsortanyfunc.go:12 -/
def slices_insertionSortCmpFunc_api_Timer_r5 (env : Env) (h : Hp) (K : Env → Hp → Prop) : Prop :=
  rd Try.prog (bop Go.BinOp.sub 3 (Go.Operand.tmp 35) (Go.Operand.const (Go.Value.int Go.IntKind.i64 1)) (env 9) (Go.Value.int Go.IntKind.i64 1)) noHp fun v36_1 =>
  K (((env.set 35 (env 9)).set 36 v36_1).set 9 v36_1) h
@[congr] theorem slices_insertionSortCmpFunc_api_Timer_r5_congr {env : Env} {h : Hp} {K : Env → Hp → Prop} : slices_insertionSortCmpFunc_api_Timer_r5 env h K = slices_insertionSortCmpFunc_api_Timer_r5 env h K := rfl

def slices_insertionSortCmpFunc_api_Timer_L0 : Den := (sq (sq (rg slices_insertionSortCmpFunc_api_Timer_r3) (cnd (Go.Operand.tmp 34) (ex .normal) (ex (.exit 2)))) (sq (blk 3 (rg slices_insertionSortCmpFunc_api_Timer_r4)) (rg slices_insertionSortCmpFunc_api_Timer_r5)))

/-- zsortanyfunc.go:11 -/
def slices_insertionSortCmpFunc_api_Timer_r6 (env : Env) (h : Hp) (K : Env → Hp → Prop) : Prop :=
  rd Try.prog (bop Go.BinOp.add 3 (Go.Operand.tmp 15) (Go.Operand.const (Go.Value.int Go.IntKind.i64 1)) (env 8) (Go.Value.int Go.IntKind.i64 1)) noHp fun v16_1 =>
  K (((env.set 15 (env 8)).set 16 v16_1).set 8 v16_1) h
@[congr] theorem slices_insertionSortCmpFunc_api_Timer_r6_congr {env : Env} {h : Hp} {K : Env → Hp → Prop} : slices_insertionSortCmpFunc_api_Timer_r6 env h K = slices_insertionSortCmpFunc_api_Timer_r6 env h K := rfl

def slices_insertionSortCmpFunc_api_Timer_L1 : Den := (sq (sq (rg slices_insertionSortCmpFunc_api_Timer_r1) (cnd (Go.Operand.tmp 14) (ex .normal) (ex (.exit 0)))) (sq (blk 1 (sq (rg slices_insertionSortCmpFunc_api_Timer_r2) (blk 2 (lp slices_insertionSortCmpFunc_api_Timer_L0)))) (rg slices_insertionSortCmpFunc_api_Timer_r6)))

def slices_insertionSortCmpFunc_api_Timer_D : Den := (sq (rg slices_insertionSortCmpFunc_api_Timer_r0) (blk 0 (lp slices_insertionSortCmpFunc_api_Timer_L1)))

theorem slices_insertionSortCmpFunc_api_Timer_eq : (den Try.prog 53 slices_insertionSortCmpFunc_api_Timer_code).1 = slices_insertionSortCmpFunc_api_Timer_D := by kernel_rfl

theorem slices_insertionSortCmpFunc_api_Timer_ok {args : Array Value} {h : Hp} {Q : Value → Hp → Prop} (hn : args.size ≤ 53) (D : slices_insertionSortCmpFunc_api_Timer_D (fin Try.prog [] Q) (env0 args) h) : Ok Try.prog 25 args h Q :=
  ok_of_den progIsOk Try.func25 (c := slices_insertionSortCmpFunc_api_Timer_code) (by kernel_rfl) hn (by show (den Try.prog 53 slices_insertionSortCmpFunc_api_Timer_code).1 _ _ _; rw [slices_insertionSortCmpFunc_api_Timer_eq]; exact D)

/-! ### slices.heapSortCmpFunc[octroi/api.Timer]: function 26 -/
noncomputable def slices_heapSortCmpFunc_api_Timer_code : Code := match Try.f26.body with | some c => c | none => .skip

/-- zsortanyfunc.go:39 -/
def slices_heapSortCmpFunc_api_Timer_r0 (env : Env) (h : Hp) (K : Env → Hp → Prop) : Prop :=
  K ((env.set 13 (env 1)).set 8 (env 1)) h
@[congr] theorem slices_heapSortCmpFunc_api_Timer_r0_congr {env : Env} {h : Hp} {K : Env → Hp → Prop} : slices_heapSortCmpFunc_api_Timer_r0 env h K = slices_heapSortCmpFunc_api_Timer_r0 env h K := rfl

/-- zsortanyfunc.go:40 -/
def slices_heapSortCmpFunc_api_Timer_r1 (env : Env) (h : Hp) (K : Env → Hp → Prop) : Prop :=
  K (env.set 9 (Go.Value.int Go.IntKind.i64 0)) h
@[congr] theorem slices_heapSortCmpFunc_api_Timer_r1_congr {env : Env} {h : Hp} {K : Env → Hp → Prop} : slices_heapSortCmpFunc_api_Timer_r1 env h K = slices_heapSortCmpFunc_api_Timer_r1 env h K := rfl

/-- zsortanyfunc.go:41 -/
def slices_heapSortCmpFunc_api_Timer_r2 (env : Env) (h : Hp) (K : Env → Hp → Prop) : Prop :=
  rd Try.prog (bop Go.BinOp.sub 3 (Go.Operand.tmp 14) (Go.Operand.tmp 15) (env 2) (env 1)) noHp fun v16_2 =>
  K ((((env.set 14 (env 2)).set 15 (env 1)).set 16 v16_2).set 10 v16_2) h
@[congr] theorem slices_heapSortCmpFunc_api_Timer_r2_congr {env : Env} {h : Hp} {K : Env → Hp → Prop} : slices_heapSortCmpFunc_api_Timer_r2 env h K = slices_heapSortCmpFunc_api_Timer_r2 env h K := rfl

/-- zsortanyfunc.go:44 -/
def slices_heapSortCmpFunc_api_Timer_r3 (env : Env) (h : Hp) (K : Env → Hp → Prop) : Prop :=
  rd Try.prog (bop Go.BinOp.sub 3 (Go.Operand.tmp 17) (Go.Operand.const (Go.Value.int Go.IntKind.i64 1)) (env 10) (Go.Value.int Go.IntKind.i64 1)) noHp fun v18_1 =>
  rd Try.prog (bop Go.BinOp.quo 3 (Go.Operand.tmp 18) (Go.Operand.const (Go.Value.int Go.IntKind.i64 2)) v18_1 (Go.Value.int Go.IntKind.i64 2)) noHp fun v19_2 =>
  K ((((env.set 17 (env 10)).set 18 v18_1).set 19 v19_2).set 11 v19_2) h
@[congr] theorem slices_heapSortCmpFunc_api_Timer_r3_congr {env : Env} {h : Hp} {K : Env → Hp → Prop} : slices_heapSortCmpFunc_api_Timer_r3 env h K = slices_heapSortCmpFunc_api_Timer_r3 env h K := rfl

/-- zsortanyfunc.go:44 -/
def slices_heapSortCmpFunc_api_Timer_r4 (env : Env) (h : Hp) (K : Env → Hp → Prop) : Prop :=
  rd Try.prog (bop Go.BinOp.geq 3 (Go.Operand.tmp 20) (Go.Operand.const (Go.Value.int Go.IntKind.i64 0)) (env 11) (Go.Value.int Go.IntKind.i64 0)) noHp fun v21_1 =>
  K ((env.set 20 (env 11)).set 21 v21_1) h
@[congr] theorem slices_heapSortCmpFunc_api_Timer_r4_congr {env : Env} {h : Hp} {K : Env → Hp → Prop} : slices_heapSortCmpFunc_api_Timer_r4 env h K = slices_heapSortCmpFunc_api_Timer_r4 env h K := rfl

/-- zsortanyfunc.go:45 -/
def slices_heapSortCmpFunc_api_Timer_r5 (env : Env) (h : Hp) (K : Env → Hp → Prop) : Prop :=
  Ok Try.prog 36 #[(env 0), (env 11), (env 10), (env 8), (env 3)] h fun v29_5 h1 =>
  K ((((((env.set 24 (env 0)).set 25 (env 11)).set 26 (env 10)).set 27 (env 8)).set 28 (env 3)).set 29 v29_5) h1
@[congr] theorem slices_heapSortCmpFunc_api_Timer_r5_congr {env : Env} {h : Hp} {K : Env → Hp → Prop} : slices_heapSortCmpFunc_api_Timer_r5 env h K = slices_heapSortCmpFunc_api_Timer_r5 env h K := rfl

/-- zsortanyfunc.go:44 -/
def slices_heapSortCmpFunc_api_Timer_r6 (env : Env) (h : Hp) (K : Env → Hp → Prop) : Prop :=
  rd Try.prog (bop Go.BinOp.sub 3 (Go.Operand.tmp 22) (Go.Operand.const (Go.Value.int Go.IntKind.i64 1)) (env 11) (Go.Value.int Go.IntKind.i64 1)) noHp fun v23_1 =>
  K (((env.set 22 (env 11)).set 23 v23_1).set 11 v23_1) h
@[congr] theorem slices_heapSortCmpFunc_api_Timer_r6_congr {env : Env} {h : Hp} {K : Env → Hp → Prop} : slices_heapSortCmpFunc_api_Timer_r6 env h K = slices_heapSortCmpFunc_api_Timer_r6 env h K := rfl

def slices_heapSortCmpFunc_api_Timer_L0 : Den := (sq (sq (rg slices_heapSortCmpFunc_api_Timer_r4) (cnd (Go.Operand.tmp 21) (ex .normal) (ex (.exit 0)))) (sq (blk 1 (rg slices_heapSortCmpFunc_api_Timer_r5)) (rg slices_heapSortCmpFunc_api_Timer_r6)))

/-- zsortanyfunc.go:49 -/
def slices_heapSortCmpFunc_api_Timer_r7 (env : Env) (h : Hp) (K : Env → Hp → Prop) : Prop :=
  rd Try.prog (bop Go.BinOp.sub 3 (Go.Operand.tmp 30) (Go.Operand.const (Go.Value.int Go.IntKind.i64 1)) (env 10) (Go.Value.int Go.IntKind.i64 1)) noHp fun v31_1 =>
  K (((env.set 30 (env 10)).set 31 v31_1).set 12 v31_1) h
@[congr] theorem slices_heapSortCmpFunc_api_Timer_r7_congr {env : Env} {h : Hp} {K : Env → Hp → Prop} : slices_heapSortCmpFunc_api_Timer_r7 env h K = slices_heapSortCmpFunc_api_Timer_r7 env h K := rfl

/-- zsortanyfunc.go:49 -/
def slices_heapSortCmpFunc_api_Timer_r8 (env : Env) (h : Hp) (K : Env → Hp → Prop) : Prop :=
  rd Try.prog (bop Go.BinOp.geq 3 (Go.Operand.tmp 32) (Go.Operand.const (Go.Value.int Go.IntKind.i64 0)) (env 12) (Go.Value.int Go.IntKind.i64 0)) noHp fun v33_1 =>
  K ((env.set 32 (env 12)).set 33 v33_1) h
@[congr] theorem slices_heapSortCmpFunc_api_Timer_r8_congr {env : Env} {h : Hp} {K : Env → Hp → Prop} : slices_heapSortCmpFunc_api_Timer_r8 env h K = slices_heapSortCmpFunc_api_Timer_r8 env h K := rfl

/-- zsortanyfunc.go:50 (in any order) -/
def slices_heapSortCmpFunc_api_Timer_r9 (env : Env) (h : Hp) (K : Env → Hp → Prop) : Prop :=
  rd Try.prog (bop Go.BinOp.add 3 (Go.Operand.tmp 39) (Go.Operand.tmp 40) (env 8) (env 12)) noHp fun v41_5 =>
  rd Try.prog (bop Go.BinOp.add 3 (Go.Operand.tmp 43) (Go.Operand.tmp 44) (env 8) (env 12)) noHp fun v45_9 =>
  rd Try.prog (Instr.indexAt 27 (env 0) v45_9) noHp fun v46_10 =>
  rd Try.prog (Instr.loadAt 37 v46_10) h fun v47_11 =>
  rd Try.prog (Instr.indexAt 27 (env 0) (env 8)) noHp fun v50_14 =>
  rd Try.prog (Instr.loadAt 37 v50_14) h fun v51_15 =>
  rd Try.prog (Instr.indexAt 27 (env 0) (env 8)) noHp fun v52_16 =>
  arun Try.prog (Instr.storeAt 37 v52_16 v47_11) h fun _ h1 =>
  (True) ∧
  rd Try.prog (Instr.indexAt 27 (env 0) v41_5) noHp fun v53_18 =>
  arun Try.prog (Instr.storeAt 37 v53_18 v51_15) h1 fun _ h2 =>
  (True) ∧
  K ((((((((((((((((((env.set 36 (env 0)).set 37 (env 8)).set 38 (env 0)).set 39 (env 8)).set 40 (env 12)).set 41 v41_5).set 42 (env 0)).set 43 (env 8)).set 44 (env 12)).set 45 v45_9).set 46 v46_10).set 47 v47_11).set 48 (env 0)).set 49 (env 8)).set 50 v50_14).set 51 v51_15).set 52 v52_16).set 53 v53_18) h2
@[congr] theorem slices_heapSortCmpFunc_api_Timer_r9_congr {env : Env} {h : Hp} {K : Env → Hp → Prop} : slices_heapSortCmpFunc_api_Timer_r9 env h K = slices_heapSortCmpFunc_api_Timer_r9 env h K := rfl

/-- zsortanyfunc.go:51 -/
def slices_heapSortCmpFunc_api_Timer_r10 (env : Env) (h : Hp) (K : Env → Hp → Prop) : Prop :=
  Ok Try.prog 36 #[(env 0), (env 9), (env 12), (env 8), (env 3)] h fun v59_5 h1 =>
  K ((((((env.set 54 (env 0)).set 55 (env 9)).set 56 (env 12)).set 57 (env 8)).set 58 (env 3)).set 59 v59_5) h1
@[congr] theorem slices_heapSortCmpFunc_api_Timer_r10_congr {env : Env} {h : Hp} {K : Env → Hp → Prop} : slices_heapSortCmpFunc_api_Timer_r10 env h K = slices_heapSortCmpFunc_api_Timer_r10 env h K := rfl

/-- zsortanyfunc.go:49 -/
def slices_heapSortCmpFunc_api_Timer_r11 (env : Env) (h : Hp) (K : Env → Hp → Prop) : Prop :=
  rd Try.prog (bop Go.BinOp.sub 3 (Go.Operand.tmp 34) (Go.Operand.const (Go.Value.int Go.IntKind.i64 1)) (env 12) (Go.Value.int Go.IntKind.i64 1)) noHp fun v35_1 =>
  K (((env.set 34 (env 12)).set 35 v35_1).set 12 v35_1) h
@[congr] theorem slices_heapSortCmpFunc_api_Timer_r11_congr {env : Env} {h : Hp} {K : Env → Hp → Prop} : slices_heapSortCmpFunc_api_Timer_r11 env h K = slices_heapSortCmpFunc_api_Timer_r11 env h K := rfl

def slices_heapSortCmpFunc_api_Timer_L1 : Den := (sq (sq (rg slices_heapSortCmpFunc_api_Timer_r8) (cnd (Go.Operand.tmp 33) (ex .normal) (ex (.exit 2)))) (sq (blk 3 (sq (rg slices_heapSortCmpFunc_api_Timer_r9) (rg slices_heapSortCmpFunc_api_Timer_r10))) (rg slices_heapSortCmpFunc_api_Timer_r11)))

def slices_heapSortCmpFunc_api_Timer_D : Den := (sq (rg slices_heapSortCmpFunc_api_Timer_r0) (sq (rg slices_heapSortCmpFunc_api_Timer_r1) (sq (rg slices_heapSortCmpFunc_api_Timer_r2) (sq (sq (rg slices_heapSortCmpFunc_api_Timer_r3) (blk 0 (lp slices_heapSortCmpFunc_api_Timer_L0))) (sq (rg slices_heapSortCmpFunc_api_Timer_r7) (blk 2 (lp slices_heapSortCmpFunc_api_Timer_L1)))))))

theorem slices_heapSortCmpFunc_api_Timer_eq : (den Try.prog 60 slices_heapSortCmpFunc_api_Timer_code).1 = slices_heapSortCmpFunc_api_Timer_D := by kernel_rfl

theorem slices_heapSortCmpFunc_api_Timer_ok {args : Array Value} {h : Hp} {Q : Value → Hp → Prop} (hn : args.size ≤ 60) (D : slices_heapSortCmpFunc_api_Timer_D (fin Try.prog [] Q) (env0 args) h) : Ok Try.prog 26 args h Q :=
  ok_of_den progIsOk Try.func26 (c := slices_heapSortCmpFunc_api_Timer_code) (by kernel_rfl) hn (by show (den Try.prog 60 slices_heapSortCmpFunc_api_Timer_code).1 _ _ _; rw [slices_heapSortCmpFunc_api_Timer_eq]; exact D)

/-! ### slices.breakPatternsCmpFunc[octroi/api.Timer]: function 27 -/
noncomputable def slices_breakPatternsCmpFunc_api_Timer_code : Code := match Try.f27.body with | some c => c | none => .skip

/-- zsortanyfunc.go:241 -/
def slices_breakPatternsCmpFunc_api_Timer_r0 (env : Env) (h : Hp) (K : Env → Hp → Prop) : Prop :=
  rd Try.prog (bop Go.BinOp.sub 3 (Go.Operand.tmp 13) (Go.Operand.tmp 14) (env 2) (env 1)) noHp fun v15_2 =>
  K ((((env.set 13 (env 2)).set 14 (env 1)).set 15 v15_2).set 8 v15_2) h
@[congr] theorem slices_breakPatternsCmpFunc_api_Timer_r0_congr {env : Env} {h : Hp} {K : Env → Hp → Prop} : slices_breakPatternsCmpFunc_api_Timer_r0 env h K = slices_breakPatternsCmpFunc_api_Timer_r0 env h K := rfl

/-- zsortanyfunc.go:242 -/
def slices_breakPatternsCmpFunc_api_Timer_r1 (env : Env) (h : Hp) (K : Env → Hp → Prop) : Prop :=
  rd Try.prog (bop Go.BinOp.geq 3 (Go.Operand.tmp 16) (Go.Operand.const (Go.Value.int Go.IntKind.i64 8)) (env 8) (Go.Value.int Go.IntKind.i64 8)) noHp fun v17_1 =>
  K ((env.set 16 (env 8)).set 17 v17_1) h
@[congr] theorem slices_breakPatternsCmpFunc_api_Timer_r1_congr {env : Env} {h : Hp} {K : Env → Hp → Prop} : slices_breakPatternsCmpFunc_api_Timer_r1 env h K = slices_breakPatternsCmpFunc_api_Timer_r1 env h K := rfl

/-- zsortanyfunc.go:243 -/
def slices_breakPatternsCmpFunc_api_Timer_r2 (env : Env) (h : Hp) (K : Env → Hp → Prop) : Prop :=
  rd Try.prog (convert 3 70 (env 8)) noHp fun v19_1 =>
  arun Try.prog (Instr.alloc 70 true (Go.Value.tuple #[])) h fun v9_2 h1 =>
  arun Try.prog (Instr.storeAt 70 v9_2 v19_1) h1 fun _ h2 =>
  K (((env.set 18 (env 8)).set 19 v19_1).set 9 v9_2) h2
@[congr] theorem slices_breakPatternsCmpFunc_api_Timer_r2_congr {env : Env} {h : Hp} {K : Env → Hp → Prop} : slices_breakPatternsCmpFunc_api_Timer_r2 env h K = slices_breakPatternsCmpFunc_api_Timer_r2 env h K := rfl

/-- zsortanyfunc.go:244 -/
def slices_breakPatternsCmpFunc_api_Timer_r3 (env : Env) (h : Hp) (K : Env → Hp → Prop) : Prop :=
  Ok Try.prog 37 #[(env 8)] h fun v21_1 h1 =>
  K (((env.set 20 (env 8)).set 21 v21_1).set 10 v21_1) h1
@[congr] theorem slices_breakPatternsCmpFunc_api_Timer_r3_congr {env : Env} {h : Hp} {K : Env → Hp → Prop} : slices_breakPatternsCmpFunc_api_Timer_r3 env h K = slices_breakPatternsCmpFunc_api_Timer_r3 env h K := rfl

/-- zsortanyfunc.go:246 -/
def slices_breakPatternsCmpFunc_api_Timer_r4 (env : Env) (h : Hp) (K : Env → Hp → Prop) : Prop :=
  rd Try.prog (bop Go.BinOp.quo 3 (Go.Operand.tmp 23) (Go.Operand.const (Go.Value.int Go.IntKind.i64 4)) (env 8) (Go.Value.int Go.IntKind.i64 4)) noHp fun v24_2 =>
  rd Try.prog (bop Go.BinOp.mul 3 (Go.Operand.tmp 24) (Go.Operand.const (Go.Value.int Go.IntKind.i64 2)) v24_2 (Go.Value.int Go.IntKind.i64 2)) noHp fun v25_3 =>
  rd Try.prog (bop Go.BinOp.add 3 (Go.Operand.tmp 22) (Go.Operand.tmp 25) (env 1) v25_3) noHp fun v26_4 =>
  rd Try.prog (bop Go.BinOp.sub 3 (Go.Operand.tmp 26) (Go.Operand.const (Go.Value.int Go.IntKind.i64 1)) v26_4 (Go.Value.int Go.IntKind.i64 1)) noHp fun v27_5 =>
  K (((((((env.set 22 (env 1)).set 23 (env 8)).set 24 v24_2).set 25 v25_3).set 26 v26_4).set 27 v27_5).set 11 v27_5) h
@[congr] theorem slices_breakPatternsCmpFunc_api_Timer_r4_congr {env : Env} {h : Hp} {K : Env → Hp → Prop} : slices_breakPatternsCmpFunc_api_Timer_r4 env h K = slices_breakPatternsCmpFunc_api_Timer_r4 env h K := rfl

/-- zsortanyfunc.go:246 -/
def slices_breakPatternsCmpFunc_api_Timer_r5 (env : Env) (h : Hp) (K : Env → Hp → Prop) : Prop :=
  rd Try.prog (bop Go.BinOp.quo 3 (Go.Operand.tmp 30) (Go.Operand.const (Go.Value.int Go.IntKind.i64 4)) (env 8) (Go.Value.int Go.IntKind.i64 4)) noHp fun v31_3 =>
  rd Try.prog (bop Go.BinOp.mul 3 (Go.Operand.tmp 31) (Go.Operand.const (Go.Value.int Go.IntKind.i64 2)) v31_3 (Go.Value.int Go.IntKind.i64 2)) noHp fun v32_4 =>
  rd Try.prog (bop Go.BinOp.add 3 (Go.Operand.tmp 29) (Go.Operand.tmp 32) (env 1) v32_4) noHp fun v33_5 =>
  rd Try.prog (bop Go.BinOp.add 3 (Go.Operand.tmp 33) (Go.Operand.const (Go.Value.int Go.IntKind.i64 1)) v33_5 (Go.Value.int Go.IntKind.i64 1)) noHp fun v34_6 =>
  rd Try.prog (bop Go.BinOp.leq 3 (Go.Operand.tmp 28) (Go.Operand.tmp 34) (env 11) v34_6) noHp fun v35_7 =>
  K ((((((((env.set 28 (env 11)).set 29 (env 1)).set 30 (env 8)).set 31 v31_3).set 32 v32_4).set 33 v33_5).set 34 v34_6).set 35 v35_7) h
@[congr] theorem slices_breakPatternsCmpFunc_api_Timer_r5_congr {env : Env} {h : Hp} {K : Env → Hp → Prop} : slices_breakPatternsCmpFunc_api_Timer_r5 env h K = slices_breakPatternsCmpFunc_api_Timer_r5 env h K := rfl

/-- zsortanyfunc.go:247 -/
def slices_breakPatternsCmpFunc_api_Timer_r6 (env : Env) (h : Hp) (K : Env → Hp → Prop) : Prop :=
  Ok Try.prog 38 #[(env 9)] h fun v38_0 h1 =>
  rd Try.prog (bop Go.BinOp.sub 55 (Go.Operand.tmp 39) (Go.Operand.const (Go.Value.int Go.IntKind.u64 1)) (env 10) (Go.Value.int Go.IntKind.u64 1)) noHp fun v40_2 =>
  rd Try.prog (bop Go.BinOp.and 55 (Go.Operand.tmp 38) (Go.Operand.tmp 40) v38_0 v40_2) noHp fun v41_3 =>
  rd Try.prog (convert 55 3 v41_3) noHp fun v42_4 =>
  K ((((((env.set 38 v38_0).set 39 (env 10)).set 40 v40_2).set 41 v41_3).set 42 v42_4).set 12 v42_4) h1
@[congr] theorem slices_breakPatternsCmpFunc_api_Timer_r6_congr {env : Env} {h : Hp} {K : Env → Hp → Prop} : slices_breakPatternsCmpFunc_api_Timer_r6 env h K = slices_breakPatternsCmpFunc_api_Timer_r6 env h K := rfl

/-- zsortanyfunc.go:248 -/
def slices_breakPatternsCmpFunc_api_Timer_r7 (env : Env) (h : Hp) (K : Env → Hp → Prop) : Prop :=
  rd Try.prog (bop Go.BinOp.geq 3 (Go.Operand.tmp 43) (Go.Operand.tmp 44) (env 12) (env 8)) noHp fun v45_2 =>
  K (((env.set 43 (env 12)).set 44 (env 8)).set 45 v45_2) h
@[congr] theorem slices_breakPatternsCmpFunc_api_Timer_r7_congr {env : Env} {h : Hp} {K : Env → Hp → Prop} : slices_breakPatternsCmpFunc_api_Timer_r7 env h K = slices_breakPatternsCmpFunc_api_Timer_r7 env h K := rfl

/-- zsortanyfunc.go:249 -/
def slices_breakPatternsCmpFunc_api_Timer_r8 (env : Env) (h : Hp) (K : Env → Hp → Prop) : Prop :=
  rd Try.prog (bop Go.BinOp.sub 3 (Go.Operand.tmp 46) (Go.Operand.tmp 47) (env 12) (env 8)) noHp fun v48_2 =>
  K ((((env.set 46 (env 12)).set 47 (env 8)).set 48 v48_2).set 12 v48_2) h
@[congr] theorem slices_breakPatternsCmpFunc_api_Timer_r8_congr {env : Env} {h : Hp} {K : Env → Hp → Prop} : slices_breakPatternsCmpFunc_api_Timer_r8 env h K = slices_breakPatternsCmpFunc_api_Timer_r8 env h K := rfl

/-- zsortanyfunc.go:251 (in any order) -/
def slices_breakPatternsCmpFunc_api_Timer_r9 (env : Env) (h : Hp) (K : Env → Hp → Prop) : Prop :=
  rd Try.prog (bop Go.BinOp.add 3 (Go.Operand.tmp 52) (Go.Operand.tmp 53) (env 1) (env 12)) noHp fun v54_5 =>
  rd Try.prog (bop Go.BinOp.add 3 (Go.Operand.tmp 56) (Go.Operand.tmp 57) (env 1) (env 12)) noHp fun v58_9 =>
  rd Try.prog (Instr.indexAt 27 (env 0) v58_9) noHp fun v59_10 =>
  rd Try.prog (Instr.loadAt 37 v59_10) h fun v60_11 =>
  rd Try.prog (Instr.indexAt 27 (env 0) (env 11)) noHp fun v63_14 =>
  rd Try.prog (Instr.loadAt 37 v63_14) h fun v64_15 =>
  rd Try.prog (Instr.indexAt 27 (env 0) (env 11)) noHp fun v65_16 =>
  arun Try.prog (Instr.storeAt 37 v65_16 v60_11) h fun _ h1 =>
  (True) ∧
  rd Try.prog (Instr.indexAt 27 (env 0) v54_5) noHp fun v66_18 =>
  arun Try.prog (Instr.storeAt 37 v66_18 v64_15) h1 fun _ h2 =>
  (True) ∧
  K ((((((((((((((((((env.set 49 (env 0)).set 50 (env 11)).set 51 (env 0)).set 52 (env 1)).set 53 (env 12)).set 54 v54_5).set 55 (env 0)).set 56 (env 1)).set 57 (env 12)).set 58 v58_9).set 59 v59_10).set 60 v60_11).set 61 (env 0)).set 62 (env 11)).set 63 v63_14).set 64 v64_15).set 65 v65_16).set 66 v66_18) h2
@[congr] theorem slices_breakPatternsCmpFunc_api_Timer_r9_congr {env : Env} {h : Hp} {K : Env → Hp → Prop} : slices_breakPatternsCmpFunc_api_Timer_r9 env h K = slices_breakPatternsCmpFunc_api_Timer_r9 env h K := rfl

/-- zsortanyfunc.go:246 -/
def slices_breakPatternsCmpFunc_api_Timer_r10 (env : Env) (h : Hp) (K : Env → Hp → Prop) : Prop :=
  rd Try.prog (bop Go.BinOp.add 3 (Go.Operand.tmp 36) (Go.Operand.const (Go.Value.int Go.IntKind.i64 1)) (env 11) (Go.Value.int Go.IntKind.i64 1)) noHp fun v37_1 =>
  K (((env.set 36 (env 11)).set 37 v37_1).set 11 v37_1) h
@[congr] theorem slices_breakPatternsCmpFunc_api_Timer_r10_congr {env : Env} {h : Hp} {K : Env → Hp → Prop} : slices_breakPatternsCmpFunc_api_Timer_r10 env h K = slices_breakPatternsCmpFunc_api_Timer_r10 env h K := rfl

def slices_breakPatternsCmpFunc_api_Timer_L0 : Den := (sq (sq (rg slices_breakPatternsCmpFunc_api_Timer_r5) (cnd (Go.Operand.tmp 35) (ex .normal) (ex (.exit 0)))) (sq (blk 1 (sq (rg slices_breakPatternsCmpFunc_api_Timer_r6) (sq (sq (rg slices_breakPatternsCmpFunc_api_Timer_r7) (cnd (Go.Operand.tmp 45) (rg slices_breakPatternsCmpFunc_api_Timer_r8) (ex .normal))) (rg slices_breakPatternsCmpFunc_api_Timer_r9)))) (rg slices_breakPatternsCmpFunc_api_Timer_r10)))

def slices_breakPatternsCmpFunc_api_Timer_D : Den := (sq (rg slices_breakPatternsCmpFunc_api_Timer_r0) (sq (rg slices_breakPatternsCmpFunc_api_Timer_r1) (cnd (Go.Operand.tmp 17) (sq (rg slices_breakPatternsCmpFunc_api_Timer_r2) (sq (rg slices_breakPatternsCmpFunc_api_Timer_r3) (sq (rg slices_breakPatternsCmpFunc_api_Timer_r4) (blk 0 (lp slices_breakPatternsCmpFunc_api_Timer_L0))))) (ex .normal))))

theorem slices_breakPatternsCmpFunc_api_Timer_eq : (den Try.prog 67 slices_breakPatternsCmpFunc_api_Timer_code).1 = slices_breakPatternsCmpFunc_api_Timer_D := by kernel_rfl

theorem slices_breakPatternsCmpFunc_api_Timer_ok {args : Array Value} {h : Hp} {Q : Value → Hp → Prop} (hn : args.size ≤ 67) (D : slices_breakPatternsCmpFunc_api_Timer_D (fin Try.prog [] Q) (env0 args) h) : Ok Try.prog 27 args h Q :=
  ok_of_den progIsOk Try.func27 (c := slices_breakPatternsCmpFunc_api_Timer_code) (by kernel_rfl) hn (by show (den Try.prog 67 slices_breakPatternsCmpFunc_api_Timer_code).1 _ _ _; rw [slices_breakPatternsCmpFunc_api_Timer_eq]; exact D)

/-! ### slices.choosePivotCmpFunc[octroi/api.Timer]: function 28 -/
noncomputable def slices_choosePivotCmpFunc_api_Timer_code : Code := match Try.f28.body with | some c => c | none => .skip

/-- zsortanyfunc.go:261 -/
def slices_choosePivotCmpFunc_api_Timer_r0 (env : Env) (h : Hp) (K : Env → Hp → Prop) : Prop :=
  K ((env.set 8 (Go.Value.int Go.IntKind.i64 0)).set 9 (Go.Value.int Go.IntKind.i64 0)) h
@[congr] theorem slices_choosePivotCmpFunc_api_Timer_r0_congr {env : Env} {h : Hp} {K : Env → Hp → Prop} : slices_choosePivotCmpFunc_api_Timer_r0 env h K = slices_choosePivotCmpFunc_api_Timer_r0 env h K := rfl

/-- zsortanyfunc.go:267 -/
def slices_choosePivotCmpFunc_api_Timer_r1 (env : Env) (h : Hp) (K : Env → Hp → Prop) : Prop :=
  rd Try.prog (bop Go.BinOp.sub 3 (Go.Operand.tmp 15) (Go.Operand.tmp 16) (env 2) (env 1)) noHp fun v17_2 =>
  K ((((env.set 15 (env 2)).set 16 (env 1)).set 17 v17_2).set 10 v17_2) h
@[congr] theorem slices_choosePivotCmpFunc_api_Timer_r1_congr {env : Env} {h : Hp} {K : Env → Hp → Prop} : slices_choosePivotCmpFunc_api_Timer_r1 env h K = slices_choosePivotCmpFunc_api_Timer_r1 env h K := rfl

/-- zsortanyfunc.go:270 -/
def slices_choosePivotCmpFunc_api_Timer_r2 (env : Env) (h : Hp) (K : Env → Hp → Prop) : Prop :=
  arun Try.prog (Instr.alloc 3 true (Go.Value.tuple #[])) h fun v11_0 h1 =>
  K (env.set 11 v11_0) h1
@[congr] theorem slices_choosePivotCmpFunc_api_Timer_r2_congr {env : Env} {h : Hp} {K : Env → Hp → Prop} : slices_choosePivotCmpFunc_api_Timer_r2 env h K = slices_choosePivotCmpFunc_api_Timer_r2 env h K := rfl

/-- zsortanyfunc.go:271 -/
def slices_choosePivotCmpFunc_api_Timer_r3 (env : Env) (h : Hp) (K : Env → Hp → Prop) : Prop :=
  rd Try.prog (bop Go.BinOp.quo 3 (Go.Operand.tmp 19) (Go.Operand.const (Go.Value.int Go.IntKind.i64 4)) (env 10) (Go.Value.int Go.IntKind.i64 4)) noHp fun v20_2 =>
  rd Try.prog (bop Go.BinOp.mul 3 (Go.Operand.tmp 20) (Go.Operand.const (Go.Value.int Go.IntKind.i64 1)) v20_2 (Go.Value.int Go.IntKind.i64 1)) noHp fun v21_3 =>
  rd Try.prog (bop Go.BinOp.add 3 (Go.Operand.tmp 18) (Go.Operand.tmp 21) (env 1) v21_3) noHp fun v22_4 =>
  K ((((((env.set 18 (env 1)).set 19 (env 10)).set 20 v20_2).set 21 v21_3).set 22 v22_4).set 12 v22_4) h
@[congr] theorem slices_choosePivotCmpFunc_api_Timer_r3_congr {env : Env} {h : Hp} {K : Env → Hp → Prop} : slices_choosePivotCmpFunc_api_Timer_r3 env h K = slices_choosePivotCmpFunc_api_Timer_r3 env h K := rfl

/-- zsortanyfunc.go:272 -/
def slices_choosePivotCmpFunc_api_Timer_r4 (env : Env) (h : Hp) (K : Env → Hp → Prop) : Prop :=
  rd Try.prog (bop Go.BinOp.quo 3 (Go.Operand.tmp 24) (Go.Operand.const (Go.Value.int Go.IntKind.i64 4)) (env 10) (Go.Value.int Go.IntKind.i64 4)) noHp fun v25_2 =>
  rd Try.prog (bop Go.BinOp.mul 3 (Go.Operand.tmp 25) (Go.Operand.const (Go.Value.int Go.IntKind.i64 2)) v25_2 (Go.Value.int Go.IntKind.i64 2)) noHp fun v26_3 =>
  rd Try.prog (bop Go.BinOp.add 3 (Go.Operand.tmp 23) (Go.Operand.tmp 26) (env 1) v26_3) noHp fun v27_4 =>
  K ((((((env.set 23 (env 1)).set 24 (env 10)).set 25 v25_2).set 26 v26_3).set 27 v27_4).set 13 v27_4) h
@[congr] theorem slices_choosePivotCmpFunc_api_Timer_r4_congr {env : Env} {h : Hp} {K : Env → Hp → Prop} : slices_choosePivotCmpFunc_api_Timer_r4 env h K = slices_choosePivotCmpFunc_api_Timer_r4 env h K := rfl

/-- zsortanyfunc.go:273 -/
def slices_choosePivotCmpFunc_api_Timer_r5 (env : Env) (h : Hp) (K : Env → Hp → Prop) : Prop :=
  rd Try.prog (bop Go.BinOp.quo 3 (Go.Operand.tmp 29) (Go.Operand.const (Go.Value.int Go.IntKind.i64 4)) (env 10) (Go.Value.int Go.IntKind.i64 4)) noHp fun v30_2 =>
  rd Try.prog (bop Go.BinOp.mul 3 (Go.Operand.tmp 30) (Go.Operand.const (Go.Value.int Go.IntKind.i64 3)) v30_2 (Go.Value.int Go.IntKind.i64 3)) noHp fun v31_3 =>
  rd Try.prog (bop Go.BinOp.add 3 (Go.Operand.tmp 28) (Go.Operand.tmp 31) (env 1) v31_3) noHp fun v32_4 =>
  K ((((((env.set 28 (env 1)).set 29 (env 10)).set 30 v30_2).set 31 v31_3).set 32 v32_4).set 14 v32_4) h
@[congr] theorem slices_choosePivotCmpFunc_api_Timer_r5_congr {env : Env} {h : Hp} {K : Env → Hp → Prop} : slices_choosePivotCmpFunc_api_Timer_r5 env h K = slices_choosePivotCmpFunc_api_Timer_r5 env h K := rfl

/-- zsortanyfunc.go:276 -/
def slices_choosePivotCmpFunc_api_Timer_r6 (env : Env) (h : Hp) (K : Env → Hp → Prop) : Prop :=
  rd Try.prog (bop Go.BinOp.geq 3 (Go.Operand.tmp 33) (Go.Operand.const (Go.Value.int Go.IntKind.i64 8)) (env 10) (Go.Value.int Go.IntKind.i64 8)) noHp fun v34_1 =>
  K ((env.set 33 (env 10)).set 34 v34_1) h
@[congr] theorem slices_choosePivotCmpFunc_api_Timer_r6_congr {env : Env} {h : Hp} {K : Env → Hp → Prop} : slices_choosePivotCmpFunc_api_Timer_r6 env h K = slices_choosePivotCmpFunc_api_Timer_r6 env h K := rfl

/-- zsortanyfunc.go:277 -/
def slices_choosePivotCmpFunc_api_Timer_r7 (env : Env) (h : Hp) (K : Env → Hp → Prop) : Prop :=
  rd Try.prog (bop Go.BinOp.geq 3 (Go.Operand.tmp 35) (Go.Operand.const (Go.Value.int Go.IntKind.i64 50)) (env 10) (Go.Value.int Go.IntKind.i64 50)) noHp fun v36_1 =>
  K ((env.set 35 (env 10)).set 36 v36_1) h
@[congr] theorem slices_choosePivotCmpFunc_api_Timer_r7_congr {env : Env} {h : Hp} {K : Env → Hp → Prop} : slices_choosePivotCmpFunc_api_Timer_r7 env h K = slices_choosePivotCmpFunc_api_Timer_r7 env h K := rfl

/-- zsortanyfunc.go:279 -/
def slices_choosePivotCmpFunc_api_Timer_r8 (env : Env) (h : Hp) (K : Env → Hp → Prop) : Prop :=
  Ok Try.prog 39 #[(env 0), (env 12), (env 11), (env 3)] h fun v40_3 h1 =>
  K (((((env.set 37 (env 0)).set 38 (env 12)).set 39 (env 3)).set 40 v40_3).set 12 v40_3) h1
@[congr] theorem slices_choosePivotCmpFunc_api_Timer_r8_congr {env : Env} {h : Hp} {K : Env → Hp → Prop} : slices_choosePivotCmpFunc_api_Timer_r8 env h K = slices_choosePivotCmpFunc_api_Timer_r8 env h K := rfl

/-- zsortanyfunc.go:280 -/
def slices_choosePivotCmpFunc_api_Timer_r9 (env : Env) (h : Hp) (K : Env → Hp → Prop) : Prop :=
  Ok Try.prog 39 #[(env 0), (env 13), (env 11), (env 3)] h fun v44_3 h1 =>
  K (((((env.set 41 (env 0)).set 42 (env 13)).set 43 (env 3)).set 44 v44_3).set 13 v44_3) h1
@[congr] theorem slices_choosePivotCmpFunc_api_Timer_r9_congr {env : Env} {h : Hp} {K : Env → Hp → Prop} : slices_choosePivotCmpFunc_api_Timer_r9 env h K = slices_choosePivotCmpFunc_api_Timer_r9 env h K := rfl

/-- zsortanyfunc.go:281 -/
def slices_choosePivotCmpFunc_api_Timer_r10 (env : Env) (h : Hp) (K : Env → Hp → Prop) : Prop :=
  Ok Try.prog 39 #[(env 0), (env 14), (env 11), (env 3)] h fun v48_3 h1 =>
  K (((((env.set 45 (env 0)).set 46 (env 14)).set 47 (env 3)).set 48 v48_3).set 14 v48_3) h1
@[congr] theorem slices_choosePivotCmpFunc_api_Timer_r10_congr {env : Env} {h : Hp} {K : Env → Hp → Prop} : slices_choosePivotCmpFunc_api_Timer_r10 env h K = slices_choosePivotCmpFunc_api_Timer_r10 env h K := rfl

/-- zsortanyfunc.go:284 -/
def slices_choosePivotCmpFunc_api_Timer_r11 (env : Env) (h : Hp) (K : Env → Hp → Prop) : Prop :=
  Ok Try.prog 40 #[(env 0), (env 12), (env 13), (env 14), (env 11), (env 3)] h fun v54_5 h1 =>
  K (((((((env.set 49 (env 0)).set 50 (env 12)).set 51 (env 13)).set 52 (env 14)).set 53 (env 3)).set 54 v54_5).set 13 v54_5) h1
@[congr] theorem slices_choosePivotCmpFunc_api_Timer_r11_congr {env : Env} {h : Hp} {K : Env → Hp → Prop} : slices_choosePivotCmpFunc_api_Timer_r11 env h K = slices_choosePivotCmpFunc_api_Timer_r11 env h K := rfl

/-- zsortanyfunc.go:287 -/
def slices_choosePivotCmpFunc_api_Timer_r12 (env : Env) (h : Hp) (K : Env → Hp → Prop) : Prop :=
  rd Try.prog (Instr.loadAt 3 (env 11)) h fun v55_0 =>
  K (env.set 55 v55_0) h
@[congr] theorem slices_choosePivotCmpFunc_api_Timer_r12_congr {env : Env} {h : Hp} {K : Env → Hp → Prop} : slices_choosePivotCmpFunc_api_Timer_r12 env h K = slices_choosePivotCmpFunc_api_Timer_r12 env h K := rfl

/-- zsortanyfunc.go:288 -/
def slices_choosePivotCmpFunc_api_Timer_r13 (env : Env) (h : Hp) (K : Env → Hp → Prop) : Prop :=
  rd Try.prog (bop Go.BinOp.eql 3 (Go.Operand.tmp 55) (Go.Operand.const (Go.Value.int Go.IntKind.i64 0)) (env 55) (Go.Value.int Go.IntKind.i64 0)) noHp fun v58_0 =>
  K ((env.set 58 v58_0).set 57 v58_0) h
@[congr] theorem slices_choosePivotCmpFunc_api_Timer_r13_congr {env : Env} {h : Hp} {K : Env → Hp → Prop} : slices_choosePivotCmpFunc_api_Timer_r13 env h K = slices_choosePivotCmpFunc_api_Timer_r13 env h K := rfl

/-- zsortanyfunc.go:289 -/
def slices_choosePivotCmpFunc_api_Timer_r14 (env : Env) (h : Hp) (K : Env → Hp → Prop) : Prop :=
  K (((env.set 59 (env 13)).set 8 (env 13)).set 9 (Go.Value.int Go.IntKind.i64 1)) h
@[congr] theorem slices_choosePivotCmpFunc_api_Timer_r14_congr {env : Env} {h : Hp} {K : Env → Hp → Prop} : slices_choosePivotCmpFunc_api_Timer_r14 env h K = slices_choosePivotCmpFunc_api_Timer_r14 env h K := rfl

/-- zsortanyfunc.go:290 -/
def slices_choosePivotCmpFunc_api_Timer_r15 (env : Env) (h : Hp) (K : Env → Hp → Prop) : Prop :=
  rd Try.prog (bop Go.BinOp.eql 3 (Go.Operand.tmp 55) (Go.Operand.const (Go.Value.int Go.IntKind.i64 12)) (env 55) (Go.Value.int Go.IntKind.i64 12)) noHp fun v61_0 =>
  K ((env.set 61 v61_0).set 60 v61_0) h
@[congr] theorem slices_choosePivotCmpFunc_api_Timer_r15_congr {env : Env} {h : Hp} {K : Env → Hp → Prop} : slices_choosePivotCmpFunc_api_Timer_r15 env h K = slices_choosePivotCmpFunc_api_Timer_r15 env h K := rfl

/-- zsortanyfunc.go:291 -/
def slices_choosePivotCmpFunc_api_Timer_r16 (env : Env) (h : Hp) (K : Env → Hp → Prop) : Prop :=
  K (((env.set 62 (env 13)).set 8 (env 13)).set 9 (Go.Value.int Go.IntKind.i64 2)) h
@[congr] theorem slices_choosePivotCmpFunc_api_Timer_r16_congr {env : Env} {h : Hp} {K : Env → Hp → Prop} : slices_choosePivotCmpFunc_api_Timer_r16 env h K = slices_choosePivotCmpFunc_api_Timer_r16 env h K := rfl

/-- zsortanyfunc.go:293 -/
def slices_choosePivotCmpFunc_api_Timer_r17 (env : Env) (h : Hp) (K : Env → Hp → Prop) : Prop :=
  K (((env.set 56 (env 13)).set 8 (env 13)).set 9 (Go.Value.int Go.IntKind.i64 0)) h
@[congr] theorem slices_choosePivotCmpFunc_api_Timer_r17_congr {env : Env} {h : Hp} {K : Env → Hp → Prop} : slices_choosePivotCmpFunc_api_Timer_r17 env h K = slices_choosePivotCmpFunc_api_Timer_r17 env h K := rfl

def slices_choosePivotCmpFunc_api_Timer_D : Den := (sq (rg slices_choosePivotCmpFunc_api_Timer_r0) (sq (rg slices_choosePivotCmpFunc_api_Timer_r1) (sq (rg slices_choosePivotCmpFunc_api_Timer_r2) (sq (rg slices_choosePivotCmpFunc_api_Timer_r3) (sq (rg slices_choosePivotCmpFunc_api_Timer_r4) (sq (rg slices_choosePivotCmpFunc_api_Timer_r5) (sq (sq (rg slices_choosePivotCmpFunc_api_Timer_r6) (cnd (Go.Operand.tmp 34) (sq (sq (rg slices_choosePivotCmpFunc_api_Timer_r7) (cnd (Go.Operand.tmp 36) (sq (rg slices_choosePivotCmpFunc_api_Timer_r8) (sq (rg slices_choosePivotCmpFunc_api_Timer_r9) (rg slices_choosePivotCmpFunc_api_Timer_r10))) (ex .normal))) (rg slices_choosePivotCmpFunc_api_Timer_r11)) (ex .normal))) (sq (rg slices_choosePivotCmpFunc_api_Timer_r12) (blk 0 (sq (rg slices_choosePivotCmpFunc_api_Timer_r13) (cnd (Go.Operand.tmp 57) (sq (rg slices_choosePivotCmpFunc_api_Timer_r14) (ex .ret)) (sq (rg slices_choosePivotCmpFunc_api_Timer_r15) (cnd (Go.Operand.tmp 60) (sq (rg slices_choosePivotCmpFunc_api_Timer_r16) (ex .ret)) (sq (rg slices_choosePivotCmpFunc_api_Timer_r17) (ex .ret)))))))))))))))

theorem slices_choosePivotCmpFunc_api_Timer_eq : (den Try.prog 63 slices_choosePivotCmpFunc_api_Timer_code).1 = slices_choosePivotCmpFunc_api_Timer_D := by kernel_rfl

theorem slices_choosePivotCmpFunc_api_Timer_ok {args : Array Value} {h : Hp} {Q : Value → Hp → Prop} (hn : args.size ≤ 63) (D : slices_choosePivotCmpFunc_api_Timer_D (fin Try.prog [(Go.ResultVar.tmp 8), (Go.ResultVar.tmp 9)] Q) (env0 args) h) : Ok Try.prog 28 args h Q :=
  ok_of_den progIsOk Try.func28 (c := slices_choosePivotCmpFunc_api_Timer_code) (by kernel_rfl) hn (by show (den Try.prog 63 slices_choosePivotCmpFunc_api_Timer_code).1 _ _ _; rw [slices_choosePivotCmpFunc_api_Timer_eq]; exact D)

/-! ### slices.reverseRangeCmpFunc[octroi/api.Timer]: function 29 -/
noncomputable def slices_reverseRangeCmpFunc_api_Timer_code : Code := match Try.f29.body with | some c => c | none => .skip

/-- zsortanyfunc.go:320 -/
def slices_reverseRangeCmpFunc_api_Timer_r0 (env : Env) (h : Hp) (K : Env → Hp → Prop) : Prop :=
  K ((env.set 10 (env 1)).set 8 (env 1)) h
@[congr] theorem slices_reverseRangeCmpFunc_api_Timer_r0_congr {env : Env} {h : Hp} {K : Env → Hp → Prop} : slices_reverseRangeCmpFunc_api_Timer_r0 env h K = slices_reverseRangeCmpFunc_api_Timer_r0 env h K := rfl

/-- zsortanyfunc.go:321 -/
def slices_reverseRangeCmpFunc_api_Timer_r1 (env : Env) (h : Hp) (K : Env → Hp → Prop) : Prop :=
  rd Try.prog (bop Go.BinOp.sub 3 (Go.Operand.tmp 11) (Go.Operand.const (Go.Value.int Go.IntKind.i64 1)) (env 2) (Go.Value.int Go.IntKind.i64 1)) noHp fun v12_1 =>
  K (((env.set 11 (env 2)).set 12 v12_1).set 9 v12_1) h
@[congr] theorem slices_reverseRangeCmpFunc_api_Timer_r1_congr {env : Env} {h : Hp} {K : Env → Hp → Prop} : slices_reverseRangeCmpFunc_api_Timer_r1 env h K = slices_reverseRangeCmpFunc_api_Timer_r1 env h K := rfl

/-- zsortanyfunc.go:322 -/
def slices_reverseRangeCmpFunc_api_Timer_r2 (env : Env) (h : Hp) (K : Env → Hp → Prop) : Prop :=
  rd Try.prog (bop Go.BinOp.lss 3 (Go.Operand.tmp 13) (Go.Operand.tmp 14) (env 8) (env 9)) noHp fun v15_2 =>
  K (((env.set 13 (env 8)).set 14 (env 9)).set 15 v15_2) h
@[congr] theorem slices_reverseRangeCmpFunc_api_Timer_r2_congr {env : Env} {h : Hp} {K : Env → Hp → Prop} : slices_reverseRangeCmpFunc_api_Timer_r2 env h K = slices_reverseRangeCmpFunc_api_Timer_r2 env h K := rfl

/-- zsortanyfunc.go:323 (in any order) -/
def slices_reverseRangeCmpFunc_api_Timer_r3 (env : Env) (h : Hp) (K : Env → Hp → Prop) : Prop :=
  rd Try.prog (Instr.indexAt 27 (env 0) (env 9)) noHp fun v22_6 =>
  rd Try.prog (Instr.loadAt 37 v22_6) h fun v23_7 =>
  rd Try.prog (Instr.indexAt 27 (env 0) (env 8)) noHp fun v26_10 =>
  rd Try.prog (Instr.loadAt 37 v26_10) h fun v27_11 =>
  rd Try.prog (Instr.indexAt 27 (env 0) (env 8)) noHp fun v28_12 =>
  arun Try.prog (Instr.storeAt 37 v28_12 v23_7) h fun _ h1 =>
  (True) ∧
  rd Try.prog (Instr.indexAt 27 (env 0) (env 9)) noHp fun v29_14 =>
  arun Try.prog (Instr.storeAt 37 v29_14 v27_11) h1 fun _ h2 =>
  (True) ∧
  K ((((((((((((((env.set 16 (env 0)).set 17 (env 8)).set 18 (env 0)).set 19 (env 9)).set 20 (env 0)).set 21 (env 9)).set 22 v22_6).set 23 v23_7).set 24 (env 0)).set 25 (env 8)).set 26 v26_10).set 27 v27_11).set 28 v28_12).set 29 v29_14) h2
@[congr] theorem slices_reverseRangeCmpFunc_api_Timer_r3_congr {env : Env} {h : Hp} {K : Env → Hp → Prop} : slices_reverseRangeCmpFunc_api_Timer_r3 env h K = slices_reverseRangeCmpFunc_api_Timer_r3 env h K := rfl

/-- zsortanyfunc.go:324 -/
def slices_reverseRangeCmpFunc_api_Timer_r4 (env : Env) (h : Hp) (K : Env → Hp → Prop) : Prop :=
  rd Try.prog (bop Go.BinOp.add 3 (Go.Operand.tmp 30) (Go.Operand.const (Go.Value.int Go.IntKind.i64 1)) (env 8) (Go.Value.int Go.IntKind.i64 1)) noHp fun v31_1 =>
  K (((env.set 30 (env 8)).set 31 v31_1).set 8 v31_1) h
@[congr] theorem slices_reverseRangeCmpFunc_api_Timer_r4_congr {env : Env} {h : Hp} {K : Env → Hp → Prop} : slices_reverseRangeCmpFunc_api_Timer_r4 env h K = slices_reverseRangeCmpFunc_api_Timer_r4 env h K := rfl

/-- zsortanyfunc.go:325 -/
def slices_reverseRangeCmpFunc_api_Timer_r5 (env : Env) (h : Hp) (K : Env → Hp → Prop) : Prop :=
  rd Try.prog (bop Go.BinOp.sub 3 (Go.Operand.tmp 32) (Go.Operand.const (Go.Value.int Go.IntKind.i64 1)) (env 9) (Go.Value.int Go.IntKind.i64 1)) noHp fun v33_1 =>
  K (((env.set 32 (env 9)).set 33 v33_1).set 9 v33_1) h
@[congr] theorem slices_reverseRangeCmpFunc_api_Timer_r5_congr {env : Env} {h : Hp} {K : Env → Hp → Prop} : slices_reverseRangeCmpFunc_api_Timer_r5 env h K = slices_reverseRangeCmpFunc_api_Timer_r5 env h K := rfl

def slices_reverseRangeCmpFunc_api_Timer_L0 : Den := (sq (sq (rg slices_reverseRangeCmpFunc_api_Timer_r2) (cnd (Go.Operand.tmp 15) (ex .normal) (ex (.exit 0)))) (blk 1 (sq (rg slices_reverseRangeCmpFunc_api_Timer_r3) (sq (rg slices_reverseRangeCmpFunc_api_Timer_r4) (rg slices_reverseRangeCmpFunc_api_Timer_r5)))))

def slices_reverseRangeCmpFunc_api_Timer_D : Den := (sq (rg slices_reverseRangeCmpFunc_api_Timer_r0) (sq (rg slices_reverseRangeCmpFunc_api_Timer_r1) (blk 0 (lp slices_reverseRangeCmpFunc_api_Timer_L0))))

theorem slices_reverseRangeCmpFunc_api_Timer_eq : (den Try.prog 34 slices_reverseRangeCmpFunc_api_Timer_code).1 = slices_reverseRangeCmpFunc_api_Timer_D := by kernel_rfl

theorem slices_reverseRangeCmpFunc_api_Timer_ok {args : Array Value} {h : Hp} {Q : Value → Hp → Prop} (hn : args.size ≤ 34) (D : slices_reverseRangeCmpFunc_api_Timer_D (fin Try.prog [] Q) (env0 args) h) : Ok Try.prog 29 args h Q :=
  ok_of_den progIsOk Try.func29 (c := slices_reverseRangeCmpFunc_api_Timer_code) (by kernel_rfl) hn (by show (den Try.prog 34 slices_reverseRangeCmpFunc_api_Timer_code).1 _ _ _; rw [slices_reverseRangeCmpFunc_api_Timer_eq]; exact D)

/-! ### slices.partialInsertionSortCmpFunc[octroi/api.Timer]: function 30 -/
noncomputable def slices_partialInsertionSortCmpFunc_api_Timer_code : Code := match Try.f30.body with | some c => c | none => .skip

/-- zsortanyfunc.go:195 -/
def slices_partialInsertionSortCmpFunc_api_Timer_r0 (env : Env) (h : Hp) (K : Env → Hp → Prop) : Prop :=
  K (env.set 8 (Go.Value.bool false)) h
@[congr] theorem slices_partialInsertionSortCmpFunc_api_Timer_r0_congr {env : Env} {h : Hp} {K : Env → Hp → Prop} : slices_partialInsertionSortCmpFunc_api_Timer_r0 env h K = slices_partialInsertionSortCmpFunc_api_Timer_r0 env h K := rfl

/-- zsortanyfunc.go:200 -/
def slices_partialInsertionSortCmpFunc_api_Timer_r1 (env : Env) (h : Hp) (K : Env → Hp → Prop) : Prop :=
  rd Try.prog (bop Go.BinOp.add 3 (Go.Operand.tmp 13) (Go.Operand.const (Go.Value.int Go.IntKind.i64 1)) (env 1) (Go.Value.int Go.IntKind.i64 1)) noHp fun v14_1 =>
  K (((env.set 13 (env 1)).set 14 v14_1).set 9 v14_1) h
@[congr] theorem slices_partialInsertionSortCmpFunc_api_Timer_r1_congr {env : Env} {h : Hp} {K : Env → Hp → Prop} : slices_partialInsertionSortCmpFunc_api_Timer_r1 env h K = slices_partialInsertionSortCmpFunc_api_Timer_r1 env h K := rfl

/-- zsortanyfunc.go:201 -/
def slices_partialInsertionSortCmpFunc_api_Timer_r2 (env : Env) (h : Hp) (K : Env → Hp → Prop) : Prop :=
  K (env.set 10 (Go.Value.int Go.IntKind.i64 0)) h
@[congr] theorem slices_partialInsertionSortCmpFunc_api_Timer_r2_congr {env : Env} {h : Hp} {K : Env → Hp → Prop} : slices_partialInsertionSortCmpFunc_api_Timer_r2 env h K = slices_partialInsertionSortCmpFunc_api_Timer_r2 env h K := rfl

/-- zsortanyfunc.go:201 -/
def slices_partialInsertionSortCmpFunc_api_Timer_r3 (env : Env) (h : Hp) (K : Env → Hp → Prop) : Prop :=
  rd Try.prog (bop Go.BinOp.lss 3 (Go.Operand.tmp 15) (Go.Operand.const (Go.Value.int Go.IntKind.i64 5)) (env 10) (Go.Value.int Go.IntKind.i64 5)) noHp fun v16_1 =>
  K ((env.set 15 (env 10)).set 16 v16_1) h
@[congr] theorem slices_partialInsertionSortCmpFunc_api_Timer_r3_congr {env : Env} {h : Hp} {K : Env → Hp → Prop} : slices_partialInsertionSortCmpFunc_api_Timer_r3 env h K = slices_partialInsertionSortCmpFunc_api_Timer_r3 env h K := rfl

/-- zsortanyfunc.go:202 (in any order) -/
def slices_partialInsertionSortCmpFunc_api_Timer_r4 (env : Env) (h : Hp) (K : Env → Hp → Prop) : Prop :=
  rd Try.prog (bop Go.BinOp.lss 3 (Go.Operand.tmp 19) (Go.Operand.tmp 20) (env 9) (env 2)) noHp fun v21_2 =>
  gd (yb v21_2 == some true) (fun h k => k (env 3) h) h fun v23_4 h1 =>
  gd (yb v21_2 == some true) (fun h k => k (env 0) h) h1 fun v24_5 h2 =>
  gd (yb v21_2 == some true) (fun h k => k (env 9) h) h2 fun v25_6 h3 =>
  gd (yb v21_2 == some true) (fun h k => rd Try.prog (Instr.indexAt 27 v24_5 v25_6) noHp fun v => k v h) h3 fun v26_7 h4 =>
  gd (yb v21_2 == some true) (fun h k => rd Try.prog (Instr.loadAt 37 v26_7) h fun v => k v h) h4 fun v27_8 h5 =>
  gd (yb v21_2 == some true) (fun h k => k (env 0) h) h5 fun v28_9 h6 =>
  gd (yb v21_2 == some true) (fun h k => k (env 9) h) h6 fun v29_10 h7 =>
  gd (yb v21_2 == some true) (fun h k => rd Try.prog (bop Go.BinOp.sub 3 (Go.Operand.tmp 29) (Go.Operand.const (Go.Value.int Go.IntKind.i64 1)) v29_10 (Go.Value.int Go.IntKind.i64 1)) noHp fun v => k v h) h7 fun v30_11 h8 =>
  gd (yb v21_2 == some true) (fun h k => rd Try.prog (Instr.indexAt 27 v28_9 v30_11) noHp fun v => k v h) h8 fun v31_12 h9 =>
  gd (yb v21_2 == some true) (fun h k => rd Try.prog (Instr.loadAt 37 v31_12) h fun v => k v h) h9 fun v32_13 h10 =>
  gd (yb v21_2 == some true) (fun h k => callV Try.prog v23_4 #[v27_8, v32_13] h k) h10 fun v33_14 h11 =>
  (True) ∧
  gd (yb v21_2 == some true) (fun h k => rd Try.prog (bop Go.BinOp.lss 3 (Go.Operand.tmp 33) (Go.Operand.const (Go.Value.int Go.IntKind.i64 0)) v33_14 (Go.Value.int Go.IntKind.i64 0)) noHp fun v => k v h) h11 fun v34_15 h12 =>
  gd (yb v21_2 == some true) (fun h k => rd Try.prog (Op.unary Go.UnOp.not v34_15) noHp fun v => k v h) h12 fun v35_16 h13 =>
  rd Try.prog (pck v21_2 v35_16 (Go.Value.bool false)) noHp fun v36_17 =>
  K ((((((((((((((((((env.set 19 (env 9)).set 20 (env 2)).set 21 v21_2).set 22 v21_2).set 23 v23_4).set 24 v24_5).set 25 v25_6).set 26 v26_7).set 27 v27_8).set 28 v28_9).set 29 v29_10).set 30 v30_11).set 31 v31_12).set 32 v32_13).set 33 v33_14).set 34 v34_15).set 35 v35_16).set 36 v36_17) h13
@[congr] theorem slices_partialInsertionSortCmpFunc_api_Timer_r4_congr {env : Env} {h : Hp} {K : Env → Hp → Prop} : slices_partialInsertionSortCmpFunc_api_Timer_r4 env h K = slices_partialInsertionSortCmpFunc_api_Timer_r4 env h K := rfl

/-- zsortanyfunc.go:203 -/
def slices_partialInsertionSortCmpFunc_api_Timer_r5 (env : Env) (h : Hp) (K : Env → Hp → Prop) : Prop :=
  rd Try.prog (bop Go.BinOp.add 3 (Go.Operand.tmp 37) (Go.Operand.const (Go.Value.int Go.IntKind.i64 1)) (env 9) (Go.Value.int Go.IntKind.i64 1)) noHp fun v38_1 =>
  K (((env.set 37 (env 9)).set 38 v38_1).set 9 v38_1) h
@[congr] theorem slices_partialInsertionSortCmpFunc_api_Timer_r5_congr {env : Env} {h : Hp} {K : Env → Hp → Prop} : slices_partialInsertionSortCmpFunc_api_Timer_r5 env h K = slices_partialInsertionSortCmpFunc_api_Timer_r5 env h K := rfl

def slices_partialInsertionSortCmpFunc_api_Timer_L0 : Den := (sq (sq (rg slices_partialInsertionSortCmpFunc_api_Timer_r4) (cnd (Go.Operand.tmp 36) (ex .normal) (ex (.exit 2)))) (blk 3 (rg slices_partialInsertionSortCmpFunc_api_Timer_r5)))

/-- zsortanyfunc.go:206 -/
def slices_partialInsertionSortCmpFunc_api_Timer_r6 (env : Env) (h : Hp) (K : Env → Hp → Prop) : Prop :=
  rd Try.prog (bop Go.BinOp.eql 3 (Go.Operand.tmp 39) (Go.Operand.tmp 40) (env 9) (env 2)) noHp fun v41_2 =>
  K (((env.set 39 (env 9)).set 40 (env 2)).set 41 v41_2) h
@[congr] theorem slices_partialInsertionSortCmpFunc_api_Timer_r6_congr {env : Env} {h : Hp} {K : Env → Hp → Prop} : slices_partialInsertionSortCmpFunc_api_Timer_r6 env h K = slices_partialInsertionSortCmpFunc_api_Timer_r6 env h K := rfl

/-- zsortanyfunc.go:207 -/
def slices_partialInsertionSortCmpFunc_api_Timer_r7 (env : Env) (h : Hp) (K : Env → Hp → Prop) : Prop :=
  K (env.set 8 (Go.Value.bool true)) h
@[congr] theorem slices_partialInsertionSortCmpFunc_api_Timer_r7_congr {env : Env} {h : Hp} {K : Env → Hp → Prop} : slices_partialInsertionSortCmpFunc_api_Timer_r7 env h K = slices_partialInsertionSortCmpFunc_api_Timer_r7 env h K := rfl

/-- zsortanyfunc.go:210 -/
def slices_partialInsertionSortCmpFunc_api_Timer_r8 (env : Env) (h : Hp) (K : Env → Hp → Prop) : Prop :=
  rd Try.prog (bop Go.BinOp.sub 3 (Go.Operand.tmp 42) (Go.Operand.tmp 43) (env 2) (env 1)) noHp fun v44_2 =>
  rd Try.prog (bop Go.BinOp.lss 3 (Go.Operand.tmp 44) (Go.Operand.const (Go.Value.int Go.IntKind.i64 50)) v44_2 (Go.Value.int Go.IntKind.i64 50)) noHp fun v45_3 =>
  K ((((env.set 42 (env 2)).set 43 (env 1)).set 44 v44_2).set 45 v45_3) h
@[congr] theorem slices_partialInsertionSortCmpFunc_api_Timer_r8_congr {env : Env} {h : Hp} {K : Env → Hp → Prop} : slices_partialInsertionSortCmpFunc_api_Timer_r8 env h K = slices_partialInsertionSortCmpFunc_api_Timer_r8 env h K := rfl

/-- zsortanyfunc.go:211 -/
def slices_partialInsertionSortCmpFunc_api_Timer_r9 (env : Env) (h : Hp) (K : Env → Hp → Prop) : Prop :=
  K (env.set 8 (Go.Value.bool false)) h
@[congr] theorem slices_partialInsertionSortCmpFunc_api_Timer_r9_congr {env : Env} {h : Hp} {K : Env → Hp → Prop} : slices_partialInsertionSortCmpFunc_api_Timer_r9 env h K = slices_partialInsertionSortCmpFunc_api_Timer_r9 env h K := rfl

/-- zsortanyfunc.go:214 (in any order) -/
def slices_partialInsertionSortCmpFunc_api_Timer_r10 (env : Env) (h : Hp) (K : Env → Hp → Prop) : Prop :=
  rd Try.prog (bop Go.BinOp.sub 3 (Go.Operand.tmp 49) (Go.Operand.const (Go.Value.int Go.IntKind.i64 1)) (env 9) (Go.Value.int Go.IntKind.i64 1)) noHp fun v50_4 =>
  rd Try.prog (bop Go.BinOp.sub 3 (Go.Operand.tmp 52) (Go.Operand.const (Go.Value.int Go.IntKind.i64 1)) (env 9) (Go.Value.int Go.IntKind.i64 1)) noHp fun v53_7 =>
  rd Try.prog (Instr.indexAt 27 (env 0) v53_7) noHp fun v54_8 =>
  rd Try.prog (Instr.loadAt 37 v54_8) h fun v55_9 =>
  rd Try.prog (Instr.indexAt 27 (env 0) (env 9)) noHp fun v58_12 =>
  rd Try.prog (Instr.loadAt 37 v58_12) h fun v59_13 =>
  rd Try.prog (Instr.indexAt 27 (env 0) (env 9)) noHp fun v60_14 =>
  arun Try.prog (Instr.storeAt 37 v60_14 v55_9) h fun _ h1 =>
  (True) ∧
  rd Try.prog (Instr.indexAt 27 (env 0) v50_4) noHp fun v61_16 =>
  arun Try.prog (Instr.storeAt 37 v61_16 v59_13) h1 fun _ h2 =>
  (True) ∧
  K ((((((((((((((((env.set 46 (env 0)).set 47 (env 9)).set 48 (env 0)).set 49 (env 9)).set 50 v50_4).set 51 (env 0)).set 52 (env 9)).set 53 v53_7).set 54 v54_8).set 55 v55_9).set 56 (env 0)).set 57 (env 9)).set 58 v58_12).set 59 v59_13).set 60 v60_14).set 61 v61_16) h2
@[congr] theorem slices_partialInsertionSortCmpFunc_api_Timer_r10_congr {env : Env} {h : Hp} {K : Env → Hp → Prop} : slices_partialInsertionSortCmpFunc_api_Timer_r10 env h K = slices_partialInsertionSortCmpFunc_api_Timer_r10 env h K := rfl

/-- zsortanyfunc.go:217 -/
def slices_partialInsertionSortCmpFunc_api_Timer_r11 (env : Env) (h : Hp) (K : Env → Hp → Prop) : Prop :=
  rd Try.prog (bop Go.BinOp.sub 3 (Go.Operand.tmp 62) (Go.Operand.tmp 63) (env 9) (env 1)) noHp fun v64_2 =>
  rd Try.prog (bop Go.BinOp.geq 3 (Go.Operand.tmp 64) (Go.Operand.const (Go.Value.int Go.IntKind.i64 2)) v64_2 (Go.Value.int Go.IntKind.i64 2)) noHp fun v65_3 =>
  K ((((env.set 62 (env 9)).set 63 (env 1)).set 64 v64_2).set 65 v65_3) h
@[congr] theorem slices_partialInsertionSortCmpFunc_api_Timer_r11_congr {env : Env} {h : Hp} {K : Env → Hp → Prop} : slices_partialInsertionSortCmpFunc_api_Timer_r11 env h K = slices_partialInsertionSortCmpFunc_api_Timer_r11 env h K := rfl

/-- zsortanyfunc.go:218 -/
def slices_partialInsertionSortCmpFunc_api_Timer_r12 (env : Env) (h : Hp) (K : Env → Hp → Prop) : Prop :=
  rd Try.prog (bop Go.BinOp.sub 3 (Go.Operand.tmp 66) (Go.Operand.const (Go.Value.int Go.IntKind.i64 1)) (env 9) (Go.Value.int Go.IntKind.i64 1)) noHp fun v67_1 =>
  K (((env.set 66 (env 9)).set 67 v67_1).set 11 v67_1) h
@[congr] theorem slices_partialInsertionSortCmpFunc_api_Timer_r12_congr {env : Env} {h : Hp} {K : Env → Hp → Prop} : slices_partialInsertionSortCmpFunc_api_Timer_r12 env h K = slices_partialInsertionSortCmpFunc_api_Timer_r12 env h K := rfl

/-- zsortanyfunc.go:218 -/
def slices_partialInsertionSortCmpFunc_api_Timer_r13 (env : Env) (h : Hp) (K : Env → Hp → Prop) : Prop :=
  rd Try.prog (bop Go.BinOp.geq 3 (Go.Operand.tmp 68) (Go.Operand.const (Go.Value.int Go.IntKind.i64 1)) (env 11) (Go.Value.int Go.IntKind.i64 1)) noHp fun v69_1 =>
  K ((env.set 68 (env 11)).set 69 v69_1) h
@[congr] theorem slices_partialInsertionSortCmpFunc_api_Timer_r13_congr {env : Env} {h : Hp} {K : Env → Hp → Prop} : slices_partialInsertionSortCmpFunc_api_Timer_r13 env h K = slices_partialInsertionSortCmpFunc_api_Timer_r13 env h K := rfl

/-- zsortanyfunc.go:219 (in any order) -/
def slices_partialInsertionSortCmpFunc_api_Timer_r14 (env : Env) (h : Hp) (K : Env → Hp → Prop) : Prop :=
  rd Try.prog (Instr.indexAt 27 (env 0) (env 11)) noHp fun v75_3 =>
  rd Try.prog (Instr.loadAt 37 v75_3) h fun v76_4 =>
  rd Try.prog (bop Go.BinOp.sub 3 (Go.Operand.tmp 78) (Go.Operand.const (Go.Value.int Go.IntKind.i64 1)) (env 11) (Go.Value.int Go.IntKind.i64 1)) noHp fun v79_7 =>
  rd Try.prog (Instr.indexAt 27 (env 0) v79_7) noHp fun v80_8 =>
  rd Try.prog (Instr.loadAt 37 v80_8) h fun v81_9 =>
  callV Try.prog (env 3) #[v76_4, v81_9] h fun v82_10 h1 =>
  (True) ∧
  rd Try.prog (bop Go.BinOp.lss 3 (Go.Operand.tmp 82) (Go.Operand.const (Go.Value.int Go.IntKind.i64 0)) v82_10 (Go.Value.int Go.IntKind.i64 0)) noHp fun v83_11 =>
  rd Try.prog (Op.unary Go.UnOp.not v83_11) noHp fun v84_12 =>
  K (((((((((((((env.set 72 (env 3)).set 73 (env 0)).set 74 (env 11)).set 75 v75_3).set 76 v76_4).set 77 (env 0)).set 78 (env 11)).set 79 v79_7).set 80 v80_8).set 81 v81_9).set 82 v82_10).set 83 v83_11).set 84 v84_12) h1
@[congr] theorem slices_partialInsertionSortCmpFunc_api_Timer_r14_congr {env : Env} {h : Hp} {K : Env → Hp → Prop} : slices_partialInsertionSortCmpFunc_api_Timer_r14 env h K = slices_partialInsertionSortCmpFunc_api_Timer_r14 env h K := rfl

/-- zsortanyfunc.go:222 (in any order) -/
def slices_partialInsertionSortCmpFunc_api_Timer_r15 (env : Env) (h : Hp) (K : Env → Hp → Prop) : Prop :=
  rd Try.prog (bop Go.BinOp.sub 3 (Go.Operand.tmp 88) (Go.Operand.const (Go.Value.int Go.IntKind.i64 1)) (env 11) (Go.Value.int Go.IntKind.i64 1)) noHp fun v89_4 =>
  rd Try.prog (bop Go.BinOp.sub 3 (Go.Operand.tmp 91) (Go.Operand.const (Go.Value.int Go.IntKind.i64 1)) (env 11) (Go.Value.int Go.IntKind.i64 1)) noHp fun v92_7 =>
  rd Try.prog (Instr.indexAt 27 (env 0) v92_7) noHp fun v93_8 =>
  rd Try.prog (Instr.loadAt 37 v93_8) h fun v94_9 =>
  rd Try.prog (Instr.indexAt 27 (env 0) (env 11)) noHp fun v97_12 =>
  rd Try.prog (Instr.loadAt 37 v97_12) h fun v98_13 =>
  rd Try.prog (Instr.indexAt 27 (env 0) (env 11)) noHp fun v99_14 =>
  arun Try.prog (Instr.storeAt 37 v99_14 v94_9) h fun _ h1 =>
  (True) ∧
  rd Try.prog (Instr.indexAt 27 (env 0) v89_4) noHp fun v100_16 =>
  arun Try.prog (Instr.storeAt 37 v100_16 v98_13) h1 fun _ h2 =>
  (True) ∧
  K ((((((((((((((((env.set 85 (env 0)).set 86 (env 11)).set 87 (env 0)).set 88 (env 11)).set 89 v89_4).set 90 (env 0)).set 91 (env 11)).set 92 v92_7).set 93 v93_8).set 94 v94_9).set 95 (env 0)).set 96 (env 11)).set 97 v97_12).set 98 v98_13).set 99 v99_14).set 100 v100_16) h2
@[congr] theorem slices_partialInsertionSortCmpFunc_api_Timer_r15_congr {env : Env} {h : Hp} {K : Env → Hp → Prop} : slices_partialInsertionSortCmpFunc_api_Timer_r15 env h K = slices_partialInsertionSortCmpFunc_api_Timer_r15 env h K := rfl

/-- zsortanyfunc.go:218 -/
def slices_partialInsertionSortCmpFunc_api_Timer_r16 (env : Env) (h : Hp) (K : Env → Hp → Prop) : Prop :=
  rd Try.prog (bop Go.BinOp.sub 3 (Go.Operand.tmp 70) (Go.Operand.const (Go.Value.int Go.IntKind.i64 1)) (env 11) (Go.Value.int Go.IntKind.i64 1)) noHp fun v71_1 =>
  K (((env.set 70 (env 11)).set 71 v71_1).set 11 v71_1) h
@[congr] theorem slices_partialInsertionSortCmpFunc_api_Timer_r16_congr {env : Env} {h : Hp} {K : Env → Hp → Prop} : slices_partialInsertionSortCmpFunc_api_Timer_r16 env h K = slices_partialInsertionSortCmpFunc_api_Timer_r16 env h K := rfl

def slices_partialInsertionSortCmpFunc_api_Timer_L1 : Den := (sq (sq (rg slices_partialInsertionSortCmpFunc_api_Timer_r13) (cnd (Go.Operand.tmp 69) (ex .normal) (ex (.exit 4)))) (sq (blk 5 (sq (sq (rg slices_partialInsertionSortCmpFunc_api_Timer_r14) (cnd (Go.Operand.tmp 84) (ex (.exit 4)) (ex .normal))) (rg slices_partialInsertionSortCmpFunc_api_Timer_r15))) (rg slices_partialInsertionSortCmpFunc_api_Timer_r16)))

/-- zsortanyfunc.go:226 -/
def slices_partialInsertionSortCmpFunc_api_Timer_r17 (env : Env) (h : Hp) (K : Env → Hp → Prop) : Prop :=
  rd Try.prog (bop Go.BinOp.sub 3 (Go.Operand.tmp 101) (Go.Operand.tmp 102) (env 2) (env 9)) noHp fun v103_2 =>
  rd Try.prog (bop Go.BinOp.geq 3 (Go.Operand.tmp 103) (Go.Operand.const (Go.Value.int Go.IntKind.i64 2)) v103_2 (Go.Value.int Go.IntKind.i64 2)) noHp fun v104_3 =>
  K ((((env.set 101 (env 2)).set 102 (env 9)).set 103 v103_2).set 104 v104_3) h
@[congr] theorem slices_partialInsertionSortCmpFunc_api_Timer_r17_congr {env : Env} {h : Hp} {K : Env → Hp → Prop} : slices_partialInsertionSortCmpFunc_api_Timer_r17 env h K = slices_partialInsertionSortCmpFunc_api_Timer_r17 env h K := rfl

/-- zsortanyfunc.go:227 -/
def slices_partialInsertionSortCmpFunc_api_Timer_r18 (env : Env) (h : Hp) (K : Env → Hp → Prop) : Prop :=
  rd Try.prog (bop Go.BinOp.add 3 (Go.Operand.tmp 105) (Go.Operand.const (Go.Value.int Go.IntKind.i64 1)) (env 9) (Go.Value.int Go.IntKind.i64 1)) noHp fun v106_1 =>
  K (((env.set 105 (env 9)).set 106 v106_1).set 12 v106_1) h
@[congr] theorem slices_partialInsertionSortCmpFunc_api_Timer_r18_congr {env : Env} {h : Hp} {K : Env → Hp → Prop} : slices_partialInsertionSortCmpFunc_api_Timer_r18 env h K = slices_partialInsertionSortCmpFunc_api_Timer_r18 env h K := rfl

/-- zsortanyfunc.go:227 -/
def slices_partialInsertionSortCmpFunc_api_Timer_r19 (env : Env) (h : Hp) (K : Env → Hp → Prop) : Prop :=
  rd Try.prog (bop Go.BinOp.lss 3 (Go.Operand.tmp 107) (Go.Operand.tmp 108) (env 12) (env 2)) noHp fun v109_2 =>
  K (((env.set 107 (env 12)).set 108 (env 2)).set 109 v109_2) h
@[congr] theorem slices_partialInsertionSortCmpFunc_api_Timer_r19_congr {env : Env} {h : Hp} {K : Env → Hp → Prop} : slices_partialInsertionSortCmpFunc_api_Timer_r19 env h K = slices_partialInsertionSortCmpFunc_api_Timer_r19 env h K := rfl

/-- zsortanyfunc.go:228 (in any order) -/
def slices_partialInsertionSortCmpFunc_api_Timer_r20 (env : Env) (h : Hp) (K : Env → Hp → Prop) : Prop :=
  rd Try.prog (Instr.indexAt 27 (env 0) (env 12)) noHp fun v115_3 =>
  rd Try.prog (Instr.loadAt 37 v115_3) h fun v116_4 =>
  rd Try.prog (bop Go.BinOp.sub 3 (Go.Operand.tmp 118) (Go.Operand.const (Go.Value.int Go.IntKind.i64 1)) (env 12) (Go.Value.int Go.IntKind.i64 1)) noHp fun v119_7 =>
  rd Try.prog (Instr.indexAt 27 (env 0) v119_7) noHp fun v120_8 =>
  rd Try.prog (Instr.loadAt 37 v120_8) h fun v121_9 =>
  callV Try.prog (env 3) #[v116_4, v121_9] h fun v122_10 h1 =>
  (True) ∧
  rd Try.prog (bop Go.BinOp.lss 3 (Go.Operand.tmp 122) (Go.Operand.const (Go.Value.int Go.IntKind.i64 0)) v122_10 (Go.Value.int Go.IntKind.i64 0)) noHp fun v123_11 =>
  rd Try.prog (Op.unary Go.UnOp.not v123_11) noHp fun v124_12 =>
  K (((((((((((((env.set 112 (env 3)).set 113 (env 0)).set 114 (env 12)).set 115 v115_3).set 116 v116_4).set 117 (env 0)).set 118 (env 12)).set 119 v119_7).set 120 v120_8).set 121 v121_9).set 122 v122_10).set 123 v123_11).set 124 v124_12) h1
@[congr] theorem slices_partialInsertionSortCmpFunc_api_Timer_r20_congr {env : Env} {h : Hp} {K : Env → Hp → Prop} : slices_partialInsertionSortCmpFunc_api_Timer_r20 env h K = slices_partialInsertionSortCmpFunc_api_Timer_r20 env h K := rfl

/-- zsortanyfunc.go:231 (in any order) -/
def slices_partialInsertionSortCmpFunc_api_Timer_r21 (env : Env) (h : Hp) (K : Env → Hp → Prop) : Prop :=
  rd Try.prog (bop Go.BinOp.sub 3 (Go.Operand.tmp 128) (Go.Operand.const (Go.Value.int Go.IntKind.i64 1)) (env 12) (Go.Value.int Go.IntKind.i64 1)) noHp fun v129_4 =>
  rd Try.prog (bop Go.BinOp.sub 3 (Go.Operand.tmp 131) (Go.Operand.const (Go.Value.int Go.IntKind.i64 1)) (env 12) (Go.Value.int Go.IntKind.i64 1)) noHp fun v132_7 =>
  rd Try.prog (Instr.indexAt 27 (env 0) v132_7) noHp fun v133_8 =>
  rd Try.prog (Instr.loadAt 37 v133_8) h fun v134_9 =>
  rd Try.prog (Instr.indexAt 27 (env 0) (env 12)) noHp fun v137_12 =>
  rd Try.prog (Instr.loadAt 37 v137_12) h fun v138_13 =>
  rd Try.prog (Instr.indexAt 27 (env 0) (env 12)) noHp fun v139_14 =>
  arun Try.prog (Instr.storeAt 37 v139_14 v134_9) h fun _ h1 =>
  (True) ∧
  rd Try.prog (Instr.indexAt 27 (env 0) v129_4) noHp fun v140_16 =>
  arun Try.prog (Instr.storeAt 37 v140_16 v138_13) h1 fun _ h2 =>
  (True) ∧
  K ((((((((((((((((env.set 125 (env 0)).set 126 (env 12)).set 127 (env 0)).set 128 (env 12)).set 129 v129_4).set 130 (env 0)).set 131 (env 12)).set 132 v132_7).set 133 v133_8).set 134 v134_9).set 135 (env 0)).set 136 (env 12)).set 137 v137_12).set 138 v138_13).set 139 v139_14).set 140 v140_16) h2
@[congr] theorem slices_partialInsertionSortCmpFunc_api_Timer_r21_congr {env : Env} {h : Hp} {K : Env → Hp → Prop} : slices_partialInsertionSortCmpFunc_api_Timer_r21 env h K = slices_partialInsertionSortCmpFunc_api_Timer_r21 env h K := rfl

/-- zsortanyfunc.go:227 -/
def slices_partialInsertionSortCmpFunc_api_Timer_r22 (env : Env) (h : Hp) (K : Env → Hp → Prop) : Prop :=
  rd Try.prog (bop Go.BinOp.add 3 (Go.Operand.tmp 110) (Go.Operand.const (Go.Value.int Go.IntKind.i64 1)) (env 12) (Go.Value.int Go.IntKind.i64 1)) noHp fun v111_1 =>
  K (((env.set 110 (env 12)).set 111 v111_1).set 12 v111_1) h
@[congr] theorem slices_partialInsertionSortCmpFunc_api_Timer_r22_congr {env : Env} {h : Hp} {K : Env → Hp → Prop} : slices_partialInsertionSortCmpFunc_api_Timer_r22 env h K = slices_partialInsertionSortCmpFunc_api_Timer_r22 env h K := rfl

def slices_partialInsertionSortCmpFunc_api_Timer_L2 : Den := (sq (sq (rg slices_partialInsertionSortCmpFunc_api_Timer_r19) (cnd (Go.Operand.tmp 109) (ex .normal) (ex (.exit 6)))) (sq (blk 7 (sq (sq (rg slices_partialInsertionSortCmpFunc_api_Timer_r20) (cnd (Go.Operand.tmp 124) (ex (.exit 6)) (ex .normal))) (rg slices_partialInsertionSortCmpFunc_api_Timer_r21))) (rg slices_partialInsertionSortCmpFunc_api_Timer_r22)))

/-- zsortanyfunc.go:201 -/
def slices_partialInsertionSortCmpFunc_api_Timer_r23 (env : Env) (h : Hp) (K : Env → Hp → Prop) : Prop :=
  rd Try.prog (bop Go.BinOp.add 3 (Go.Operand.tmp 17) (Go.Operand.const (Go.Value.int Go.IntKind.i64 1)) (env 10) (Go.Value.int Go.IntKind.i64 1)) noHp fun v18_1 =>
  K (((env.set 17 (env 10)).set 18 v18_1).set 10 v18_1) h
@[congr] theorem slices_partialInsertionSortCmpFunc_api_Timer_r23_congr {env : Env} {h : Hp} {K : Env → Hp → Prop} : slices_partialInsertionSortCmpFunc_api_Timer_r23 env h K = slices_partialInsertionSortCmpFunc_api_Timer_r23 env h K := rfl

def slices_partialInsertionSortCmpFunc_api_Timer_L3 : Den := (sq (sq (rg slices_partialInsertionSortCmpFunc_api_Timer_r3) (cnd (Go.Operand.tmp 16) (ex .normal) (ex (.exit 0)))) (sq (blk 1 (sq (blk 2 (lp slices_partialInsertionSortCmpFunc_api_Timer_L0)) (sq (sq (rg slices_partialInsertionSortCmpFunc_api_Timer_r6) (cnd (Go.Operand.tmp 41) (sq (rg slices_partialInsertionSortCmpFunc_api_Timer_r7) (ex .ret)) (ex .normal))) (sq (sq (rg slices_partialInsertionSortCmpFunc_api_Timer_r8) (cnd (Go.Operand.tmp 45) (sq (rg slices_partialInsertionSortCmpFunc_api_Timer_r9) (ex .ret)) (ex .normal))) (sq (rg slices_partialInsertionSortCmpFunc_api_Timer_r10) (sq (sq (rg slices_partialInsertionSortCmpFunc_api_Timer_r11) (cnd (Go.Operand.tmp 65) (sq (rg slices_partialInsertionSortCmpFunc_api_Timer_r12) (blk 4 (lp slices_partialInsertionSortCmpFunc_api_Timer_L1))) (ex .normal))) (sq (rg slices_partialInsertionSortCmpFunc_api_Timer_r17) (cnd (Go.Operand.tmp 104) (sq (rg slices_partialInsertionSortCmpFunc_api_Timer_r18) (blk 6 (lp slices_partialInsertionSortCmpFunc_api_Timer_L2))) (ex .normal))))))))) (rg slices_partialInsertionSortCmpFunc_api_Timer_r23)))

/-- zsortanyfunc.go:235 -/
def slices_partialInsertionSortCmpFunc_api_Timer_r24 (env : Env) (h : Hp) (K : Env → Hp → Prop) : Prop :=
  K (env.set 8 (Go.Value.bool false)) h
@[congr] theorem slices_partialInsertionSortCmpFunc_api_Timer_r24_congr {env : Env} {h : Hp} {K : Env → Hp → Prop} : slices_partialInsertionSortCmpFunc_api_Timer_r24 env h K = slices_partialInsertionSortCmpFunc_api_Timer_r24 env h K := rfl

def slices_partialInsertionSortCmpFunc_api_Timer_D : Den := (sq (rg slices_partialInsertionSortCmpFunc_api_Timer_r0) (sq (rg slices_partialInsertionSortCmpFunc_api_Timer_r1) (sq (sq (rg slices_partialInsertionSortCmpFunc_api_Timer_r2) (blk 0 (lp slices_partialInsertionSortCmpFunc_api_Timer_L3))) (sq (rg slices_partialInsertionSortCmpFunc_api_Timer_r24) (ex .ret)))))

theorem slices_partialInsertionSortCmpFunc_api_Timer_eq : (den Try.prog 141 slices_partialInsertionSortCmpFunc_api_Timer_code).1 = slices_partialInsertionSortCmpFunc_api_Timer_D := by kernel_rfl

theorem slices_partialInsertionSortCmpFunc_api_Timer_ok {args : Array Value} {h : Hp} {Q : Value → Hp → Prop} (hn : args.size ≤ 141) (D : slices_partialInsertionSortCmpFunc_api_Timer_D (fin Try.prog [(Go.ResultVar.tmp 8)] Q) (env0 args) h) : Ok Try.prog 30 args h Q :=
  ok_of_den progIsOk Try.func30 (c := slices_partialInsertionSortCmpFunc_api_Timer_code) (by kernel_rfl) hn (by show (den Try.prog 141 slices_partialInsertionSortCmpFunc_api_Timer_code).1 _ _ _; rw [slices_partialInsertionSortCmpFunc_api_Timer_eq]; exact D)

/-! ### slices.partitionEqualCmpFunc[octroi/api.Timer]: function 31 -/
noncomputable def slices_partitionEqualCmpFunc_api_Timer_code : Code := match Try.f31.body with | some c => c | none => .skip

/-- zsortanyfunc.go:173 -/
def slices_partitionEqualCmpFunc_api_Timer_r0 (env : Env) (h : Hp) (K : Env → Hp → Prop) : Prop :=
  K (env.set 10 (Go.Value.int Go.IntKind.i64 0)) h
@[congr] theorem slices_partitionEqualCmpFunc_api_Timer_r0_congr {env : Env} {h : Hp} {K : Env → Hp → Prop} : slices_partitionEqualCmpFunc_api_Timer_r0 env h K = slices_partitionEqualCmpFunc_api_Timer_r0 env h K := rfl

/-- zsortanyfunc.go:174 (in any order) -/
def slices_partitionEqualCmpFunc_api_Timer_r1 (env : Env) (h : Hp) (K : Env → Hp → Prop) : Prop :=
  rd Try.prog (Instr.indexAt 27 (env 0) (env 3)) noHp fun v19_6 =>
  rd Try.prog (Instr.loadAt 37 v19_6) h fun v20_7 =>
  rd Try.prog (Instr.indexAt 27 (env 0) (env 1)) noHp fun v23_10 =>
  rd Try.prog (Instr.loadAt 37 v23_10) h fun v24_11 =>
  rd Try.prog (Instr.indexAt 27 (env 0) (env 1)) noHp fun v25_12 =>
  arun Try.prog (Instr.storeAt 37 v25_12 v20_7) h fun _ h1 =>
  (True) ∧
  rd Try.prog (Instr.indexAt 27 (env 0) (env 3)) noHp fun v26_14 =>
  arun Try.prog (Instr.storeAt 37 v26_14 v24_11) h1 fun _ h2 =>
  (True) ∧
  K ((((((((((((((env.set 13 (env 0)).set 14 (env 1)).set 15 (env 0)).set 16 (env 3)).set 17 (env 0)).set 18 (env 3)).set 19 v19_6).set 20 v20_7).set 21 (env 0)).set 22 (env 1)).set 23 v23_10).set 24 v24_11).set 25 v25_12).set 26 v26_14) h2
@[congr] theorem slices_partitionEqualCmpFunc_api_Timer_r1_congr {env : Env} {h : Hp} {K : Env → Hp → Prop} : slices_partitionEqualCmpFunc_api_Timer_r1 env h K = slices_partitionEqualCmpFunc_api_Timer_r1 env h K := rfl

/-- zsortanyfunc.go:175 -/
def slices_partitionEqualCmpFunc_api_Timer_r2 (env : Env) (h : Hp) (K : Env → Hp → Prop) : Prop :=
  rd Try.prog (bop Go.BinOp.add 3 (Go.Operand.tmp 27) (Go.Operand.const (Go.Value.int Go.IntKind.i64 1)) (env 1) (Go.Value.int Go.IntKind.i64 1)) noHp fun v28_1 =>
  rd Try.prog (bop Go.BinOp.sub 3 (Go.Operand.tmp 29) (Go.Operand.const (Go.Value.int Go.IntKind.i64 1)) (env 2) (Go.Value.int Go.IntKind.i64 1)) noHp fun v30_3 =>
  K ((((((env.set 27 (env 1)).set 28 v28_1).set 29 (env 2)).set 30 v30_3).set 11 v28_1).set 12 v30_3) h
@[congr] theorem slices_partitionEqualCmpFunc_api_Timer_r2_congr {env : Env} {h : Hp} {K : Env → Hp → Prop} : slices_partitionEqualCmpFunc_api_Timer_r2 env h K = slices_partitionEqualCmpFunc_api_Timer_r2 env h K := rfl

/-- zsortanyfunc.go:178 (in any order) -/
def slices_partitionEqualCmpFunc_api_Timer_r3 (env : Env) (h : Hp) (K : Env → Hp → Prop) : Prop :=
  rd Try.prog (bop Go.BinOp.leq 3 (Go.Operand.tmp 31) (Go.Operand.tmp 32) (env 11) (env 12)) noHp fun v33_2 =>
  gd (yb v33_2 == some true) (fun h k => k (env 4) h) h fun v35_4 h1 =>
  gd (yb v33_2 == some true) (fun h k => k (env 0) h) h1 fun v36_5 h2 =>
  gd (yb v33_2 == some true) (fun h k => k (env 1) h) h2 fun v37_6 h3 =>
  gd (yb v33_2 == some true) (fun h k => rd Try.prog (Instr.indexAt 27 v36_5 v37_6) noHp fun v => k v h) h3 fun v38_7 h4 =>
  gd (yb v33_2 == some true) (fun h k => rd Try.prog (Instr.loadAt 37 v38_7) h fun v => k v h) h4 fun v39_8 h5 =>
  gd (yb v33_2 == some true) (fun h k => k (env 0) h) h5 fun v40_9 h6 =>
  gd (yb v33_2 == some true) (fun h k => k (env 11) h) h6 fun v41_10 h7 =>
  gd (yb v33_2 == some true) (fun h k => rd Try.prog (Instr.indexAt 27 v40_9 v41_10) noHp fun v => k v h) h7 fun v42_11 h8 =>
  gd (yb v33_2 == some true) (fun h k => rd Try.prog (Instr.loadAt 37 v42_11) h fun v => k v h) h8 fun v43_12 h9 =>
  gd (yb v33_2 == some true) (fun h k => callV Try.prog v35_4 #[v39_8, v43_12] h k) h9 fun v44_13 h10 =>
  (True) ∧
  gd (yb v33_2 == some true) (fun h k => rd Try.prog (bop Go.BinOp.lss 3 (Go.Operand.tmp 44) (Go.Operand.const (Go.Value.int Go.IntKind.i64 0)) v44_13 (Go.Value.int Go.IntKind.i64 0)) noHp fun v => k v h) h10 fun v45_14 h11 =>
  gd (yb v33_2 == some true) (fun h k => rd Try.prog (Op.unary Go.UnOp.not v45_14) noHp fun v => k v h) h11 fun v46_15 h12 =>
  rd Try.prog (pck v33_2 v46_15 (Go.Value.bool false)) noHp fun v47_16 =>
  K (((((((((((((((((env.set 31 (env 11)).set 32 (env 12)).set 33 v33_2).set 34 v33_2).set 35 v35_4).set 36 v36_5).set 37 v37_6).set 38 v38_7).set 39 v39_8).set 40 v40_9).set 41 v41_10).set 42 v42_11).set 43 v43_12).set 44 v44_13).set 45 v45_14).set 46 v46_15).set 47 v47_16) h12
@[congr] theorem slices_partitionEqualCmpFunc_api_Timer_r3_congr {env : Env} {h : Hp} {K : Env → Hp → Prop} : slices_partitionEqualCmpFunc_api_Timer_r3 env h K = slices_partitionEqualCmpFunc_api_Timer_r3 env h K := rfl

/-- zsortanyfunc.go:179 -/
def slices_partitionEqualCmpFunc_api_Timer_r4 (env : Env) (h : Hp) (K : Env → Hp → Prop) : Prop :=
  rd Try.prog (bop Go.BinOp.add 3 (Go.Operand.tmp 48) (Go.Operand.const (Go.Value.int Go.IntKind.i64 1)) (env 11) (Go.Value.int Go.IntKind.i64 1)) noHp fun v49_1 =>
  K (((env.set 48 (env 11)).set 49 v49_1).set 11 v49_1) h
@[congr] theorem slices_partitionEqualCmpFunc_api_Timer_r4_congr {env : Env} {h : Hp} {K : Env → Hp → Prop} : slices_partitionEqualCmpFunc_api_Timer_r4 env h K = slices_partitionEqualCmpFunc_api_Timer_r4 env h K := rfl

def slices_partitionEqualCmpFunc_api_Timer_L0 : Den := (sq (sq (rg slices_partitionEqualCmpFunc_api_Timer_r3) (cnd (Go.Operand.tmp 47) (ex .normal) (ex (.exit 2)))) (blk 3 (rg slices_partitionEqualCmpFunc_api_Timer_r4)))

/-- zsortanyfunc.go:181 (in any order) -/
def slices_partitionEqualCmpFunc_api_Timer_r5 (env : Env) (h : Hp) (K : Env → Hp → Prop) : Prop :=
  rd Try.prog (bop Go.BinOp.leq 3 (Go.Operand.tmp 50) (Go.Operand.tmp 51) (env 11) (env 12)) noHp fun v52_2 =>
  gd (yb v52_2 == some true) (fun h k => k (env 4) h) h fun v54_4 h1 =>
  gd (yb v52_2 == some true) (fun h k => k (env 0) h) h1 fun v55_5 h2 =>
  gd (yb v52_2 == some true) (fun h k => k (env 1) h) h2 fun v56_6 h3 =>
  gd (yb v52_2 == some true) (fun h k => rd Try.prog (Instr.indexAt 27 v55_5 v56_6) noHp fun v => k v h) h3 fun v57_7 h4 =>
  gd (yb v52_2 == some true) (fun h k => rd Try.prog (Instr.loadAt 37 v57_7) h fun v => k v h) h4 fun v58_8 h5 =>
  gd (yb v52_2 == some true) (fun h k => k (env 0) h) h5 fun v59_9 h6 =>
  gd (yb v52_2 == some true) (fun h k => k (env 12) h) h6 fun v60_10 h7 =>
  gd (yb v52_2 == some true) (fun h k => rd Try.prog (Instr.indexAt 27 v59_9 v60_10) noHp fun v => k v h) h7 fun v61_11 h8 =>
  gd (yb v52_2 == some true) (fun h k => rd Try.prog (Instr.loadAt 37 v61_11) h fun v => k v h) h8 fun v62_12 h9 =>
  gd (yb v52_2 == some true) (fun h k => callV Try.prog v54_4 #[v58_8, v62_12] h k) h9 fun v63_13 h10 =>
  (True) ∧
  gd (yb v52_2 == some true) (fun h k => rd Try.prog (bop Go.BinOp.lss 3 (Go.Operand.tmp 63) (Go.Operand.const (Go.Value.int Go.IntKind.i64 0)) v63_13 (Go.Value.int Go.IntKind.i64 0)) noHp fun v => k v h) h10 fun v64_14 h11 =>
  rd Try.prog (pck v52_2 v64_14 (Go.Value.bool false)) noHp fun v65_15 =>
  K ((((((((((((((((env.set 50 (env 11)).set 51 (env 12)).set 52 v52_2).set 53 v52_2).set 54 v54_4).set 55 v55_5).set 56 v56_6).set 57 v57_7).set 58 v58_8).set 59 v59_9).set 60 v60_10).set 61 v61_11).set 62 v62_12).set 63 v63_13).set 64 v64_14).set 65 v65_15) h11
@[congr] theorem slices_partitionEqualCmpFunc_api_Timer_r5_congr {env : Env} {h : Hp} {K : Env → Hp → Prop} : slices_partitionEqualCmpFunc_api_Timer_r5 env h K = slices_partitionEqualCmpFunc_api_Timer_r5 env h K := rfl

/-- zsortanyfunc.go:182 -/
def slices_partitionEqualCmpFunc_api_Timer_r6 (env : Env) (h : Hp) (K : Env → Hp → Prop) : Prop :=
  rd Try.prog (bop Go.BinOp.sub 3 (Go.Operand.tmp 66) (Go.Operand.const (Go.Value.int Go.IntKind.i64 1)) (env 12) (Go.Value.int Go.IntKind.i64 1)) noHp fun v67_1 =>
  K (((env.set 66 (env 12)).set 67 v67_1).set 12 v67_1) h
@[congr] theorem slices_partitionEqualCmpFunc_api_Timer_r6_congr {env : Env} {h : Hp} {K : Env → Hp → Prop} : slices_partitionEqualCmpFunc_api_Timer_r6 env h K = slices_partitionEqualCmpFunc_api_Timer_r6 env h K := rfl

def slices_partitionEqualCmpFunc_api_Timer_L1 : Den := (sq (sq (rg slices_partitionEqualCmpFunc_api_Timer_r5) (cnd (Go.Operand.tmp 65) (ex .normal) (ex (.exit 4)))) (blk 5 (rg slices_partitionEqualCmpFunc_api_Timer_r6)))

/-- zsortanyfunc.go:184 -/
def slices_partitionEqualCmpFunc_api_Timer_r7 (env : Env) (h : Hp) (K : Env → Hp → Prop) : Prop :=
  rd Try.prog (bop Go.BinOp.gtr 3 (Go.Operand.tmp 68) (Go.Operand.tmp 69) (env 11) (env 12)) noHp fun v70_2 =>
  K (((env.set 68 (env 11)).set 69 (env 12)).set 70 v70_2) h
@[congr] theorem slices_partitionEqualCmpFunc_api_Timer_r7_congr {env : Env} {h : Hp} {K : Env → Hp → Prop} : slices_partitionEqualCmpFunc_api_Timer_r7 env h K = slices_partitionEqualCmpFunc_api_Timer_r7 env h K := rfl

/-- zsortanyfunc.go:187 (in any order) -/
def slices_partitionEqualCmpFunc_api_Timer_r8 (env : Env) (h : Hp) (K : Env → Hp → Prop) : Prop :=
  rd Try.prog (Instr.indexAt 27 (env 0) (env 12)) noHp fun v77_6 =>
  rd Try.prog (Instr.loadAt 37 v77_6) h fun v78_7 =>
  rd Try.prog (Instr.indexAt 27 (env 0) (env 11)) noHp fun v81_10 =>
  rd Try.prog (Instr.loadAt 37 v81_10) h fun v82_11 =>
  rd Try.prog (Instr.indexAt 27 (env 0) (env 11)) noHp fun v83_12 =>
  arun Try.prog (Instr.storeAt 37 v83_12 v78_7) h fun _ h1 =>
  (True) ∧
  rd Try.prog (Instr.indexAt 27 (env 0) (env 12)) noHp fun v84_14 =>
  arun Try.prog (Instr.storeAt 37 v84_14 v82_11) h1 fun _ h2 =>
  (True) ∧
  K ((((((((((((((env.set 71 (env 0)).set 72 (env 11)).set 73 (env 0)).set 74 (env 12)).set 75 (env 0)).set 76 (env 12)).set 77 v77_6).set 78 v78_7).set 79 (env 0)).set 80 (env 11)).set 81 v81_10).set 82 v82_11).set 83 v83_12).set 84 v84_14) h2
@[congr] theorem slices_partitionEqualCmpFunc_api_Timer_r8_congr {env : Env} {h : Hp} {K : Env → Hp → Prop} : slices_partitionEqualCmpFunc_api_Timer_r8 env h K = slices_partitionEqualCmpFunc_api_Timer_r8 env h K := rfl

/-- zsortanyfunc.go:188 -/
def slices_partitionEqualCmpFunc_api_Timer_r9 (env : Env) (h : Hp) (K : Env → Hp → Prop) : Prop :=
  rd Try.prog (bop Go.BinOp.add 3 (Go.Operand.tmp 85) (Go.Operand.const (Go.Value.int Go.IntKind.i64 1)) (env 11) (Go.Value.int Go.IntKind.i64 1)) noHp fun v86_1 =>
  K (((env.set 85 (env 11)).set 86 v86_1).set 11 v86_1) h
@[congr] theorem slices_partitionEqualCmpFunc_api_Timer_r9_congr {env : Env} {h : Hp} {K : Env → Hp → Prop} : slices_partitionEqualCmpFunc_api_Timer_r9 env h K = slices_partitionEqualCmpFunc_api_Timer_r9 env h K := rfl

/-- zsortanyfunc.go:189 -/
def slices_partitionEqualCmpFunc_api_Timer_r10 (env : Env) (h : Hp) (K : Env → Hp → Prop) : Prop :=
  rd Try.prog (bop Go.BinOp.sub 3 (Go.Operand.tmp 87) (Go.Operand.const (Go.Value.int Go.IntKind.i64 1)) (env 12) (Go.Value.int Go.IntKind.i64 1)) noHp fun v88_1 =>
  K (((env.set 87 (env 12)).set 88 v88_1).set 12 v88_1) h
@[congr] theorem slices_partitionEqualCmpFunc_api_Timer_r10_congr {env : Env} {h : Hp} {K : Env → Hp → Prop} : slices_partitionEqualCmpFunc_api_Timer_r10 env h K = slices_partitionEqualCmpFunc_api_Timer_r10 env h K := rfl

def slices_partitionEqualCmpFunc_api_Timer_L2 : Den := (blk 1 (sq (blk 2 (lp slices_partitionEqualCmpFunc_api_Timer_L0)) (sq (blk 4 (lp slices_partitionEqualCmpFunc_api_Timer_L1)) (sq (sq (rg slices_partitionEqualCmpFunc_api_Timer_r7) (cnd (Go.Operand.tmp 70) (ex (.exit 0)) (ex .normal))) (sq (rg slices_partitionEqualCmpFunc_api_Timer_r8) (sq (rg slices_partitionEqualCmpFunc_api_Timer_r9) (rg slices_partitionEqualCmpFunc_api_Timer_r10)))))))

/-- zsortanyfunc.go:191 -/
def slices_partitionEqualCmpFunc_api_Timer_r11 (env : Env) (h : Hp) (K : Env → Hp → Prop) : Prop :=
  K ((env.set 89 (env 11)).set 10 (env 11)) h
@[congr] theorem slices_partitionEqualCmpFunc_api_Timer_r11_congr {env : Env} {h : Hp} {K : Env → Hp → Prop} : slices_partitionEqualCmpFunc_api_Timer_r11 env h K = slices_partitionEqualCmpFunc_api_Timer_r11 env h K := rfl

def slices_partitionEqualCmpFunc_api_Timer_D : Den := (sq (rg slices_partitionEqualCmpFunc_api_Timer_r0) (sq (rg slices_partitionEqualCmpFunc_api_Timer_r1) (sq (rg slices_partitionEqualCmpFunc_api_Timer_r2) (sq (blk 0 (lp slices_partitionEqualCmpFunc_api_Timer_L2)) (sq (rg slices_partitionEqualCmpFunc_api_Timer_r11) (ex .ret))))))

theorem slices_partitionEqualCmpFunc_api_Timer_eq : (den Try.prog 90 slices_partitionEqualCmpFunc_api_Timer_code).1 = slices_partitionEqualCmpFunc_api_Timer_D := by kernel_rfl

theorem slices_partitionEqualCmpFunc_api_Timer_ok {args : Array Value} {h : Hp} {Q : Value → Hp → Prop} (hn : args.size ≤ 90) (D : slices_partitionEqualCmpFunc_api_Timer_D (fin Try.prog [(Go.ResultVar.tmp 10)] Q) (env0 args) h) : Ok Try.prog 31 args h Q :=
  ok_of_den progIsOk Try.func31 (c := slices_partitionEqualCmpFunc_api_Timer_code) (by kernel_rfl) hn (by show (den Try.prog 90 slices_partitionEqualCmpFunc_api_Timer_code).1 _ _ _; rw [slices_partitionEqualCmpFunc_api_Timer_eq]; exact D)

end Go.Proofs.Ytncnlfidncjmbaa
