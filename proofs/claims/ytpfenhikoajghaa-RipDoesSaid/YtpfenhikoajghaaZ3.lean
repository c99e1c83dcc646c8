/- Printed by wip/kit/gen.py out of the translation: formulas of Go functions, and that they are these functions'. -/
import Derived.Test.YtpfenhikoajghaaZ2

set_option linter.unusedSimpArgs false
set_option linter.unusedVariables false

namespace Go.Proofs.Ytpfenhikoajghaa
open Go

set_option maxRecDepth 100000
set_option linter.unusedVariables false

/-! ### (*octroi/rip.Rip).All: function 13 -/
noncomputable def rip_Rip_All_code : Code := match Try.f13.body with | some c => c | none => .skip

/-- rip.go:166 -/
def rip_Rip_All_r0 (env : Env) (h : Hp) (K : Env → Hp → Prop) : Prop :=
  K (env.set 2 (Go.Value.slice none 0 0)) h
@[congr] theorem rip_Rip_All_r0_congr {env : Env} {h : Hp} {K : Env → Hp → Prop} : rip_Rip_All_r0 env h K = rip_Rip_All_r0 env h K := rfl

/-- rip.go:167 -/
def rip_Rip_All_r1 (env : Env) (h : Hp) (K : Env → Hp → Prop) : Prop :=
  K (env.set 3 (Go.Value.slice none 0 0)) h
@[congr] theorem rip_Rip_All_r1_congr {env : Env} {h : Hp} {K : Env → Hp → Prop} : rip_Rip_All_r1 env h K = rip_Rip_All_r1 env h K := rfl

/-- rip.go:168 -/
def rip_Rip_All_r2 (env : Env) (h : Hp) (K : Env → Hp → Prop) : Prop :=
  Ok Try.prog 30 #[(env 0)] h fun v8_1 h1 =>
  rd Try.prog (Builtin.len_ #[74] 3 #[v8_1]) h1 fun v9_2 =>
  K ((((env.set 7 (env 0)).set 8 v8_1).set 9 v9_2).set 10 (Go.Value.int Go.IntKind.i64 0)) h1
@[congr] theorem rip_Rip_All_r2_congr {env : Env} {h : Hp} {K : Env → Hp → Prop} : rip_Rip_All_r2 env h K = rip_Rip_All_r2 env h K := rfl

/-- rip.go:168 -/
def rip_Rip_All_r3 (env : Env) (h : Hp) (K : Env → Hp → Prop) : Prop :=
  rd Try.prog (bop Go.BinOp.lss 3 (Go.Operand.tmp 10) (Go.Operand.tmp 9) (env 10) (env 9)) noHp fun v11_0 =>
  K (env.set 11 v11_0) h
@[congr] theorem rip_Rip_All_r3_congr {env : Env} {h : Hp} {K : Env → Hp → Prop} : rip_Rip_All_r3 env h K = rip_Rip_All_r3 env h K := rfl

/-- rip.go:168 -/
def rip_Rip_All_r4 (env : Env) (h : Hp) (K : Env → Hp → Prop) : Prop :=
  rd Try.prog (Instr.indexAt 74 (env 8) (env 10)) noHp fun v12_0 =>
  rd Try.prog (Instr.loadAt 24 v12_0) h fun v13_1 =>
  arun Try.prog (Instr.alloc 24 true (Go.Value.tuple #[])) h fun v5_2 h1 =>
  arun Try.prog (Instr.storeAt 24 v5_2 v13_1) h1 fun _ h2 =>
  K (((env.set 12 v12_0).set 13 v13_1).set 5 v5_2) h2
@[congr] theorem rip_Rip_All_r4_congr {env : Env} {h : Hp} {K : Env → Hp → Prop} : rip_Rip_All_r4 env h K = rip_Rip_All_r4 env h K := rfl

/-- rip.go:169 (in any order) -/
def rip_Rip_All_r5 (env : Env) (h : Hp) (K : Env → Hp → Prop) : Prop :=
  nck (env 0) (
  rd Try.prog (Instr.fieldAt 67 (env 0) 2) noHp fun v16_2 =>
  rd Try.prog (Instr.loadAt 65 v16_2) h fun v17_3 =>
  rd Try.prog (Instr.loadAt 24 (env 5)) h fun v18_4 =>
  rd Try.prog (Instr.lookup 65 v17_3 v18_4 false) h fun v19_5 =>
  K (((((((env.set 14 (env 0)).set 15 (env 0)).set 16 v16_2).set 17 v17_3).set 18 v18_4).set 19 v19_5).set 6 v19_5) h)
@[congr] theorem rip_Rip_All_r5_congr {env : Env} {h : Hp} {K : Env → Hp → Prop} : rip_Rip_All_r5 env h K = rip_Rip_All_r5 env h K := rfl

/-- rip.go:169 -/
def rip_Rip_All_r6 (env : Env) (h : Hp) (K : Env → Hp → Prop) : Prop :=
  Ok Try.prog 31 #[(env 6)] h fun v21_1 h1 =>
  K ((env.set 20 (env 6)).set 21 v21_1) h1
@[congr] theorem rip_Rip_All_r6_congr {env : Env} {h : Hp} {K : Env → Hp → Prop} : rip_Rip_All_r6 env h K = rip_Rip_All_r6 env h K := rfl

/-- rip.go:170 (in any order) -/
def rip_Rip_All_r7 (env : Env) (h : Hp) (K : Env → Hp → Prop) : Prop :=
  rd Try.prog (Instr.loadAt 24 (env 5)) h fun v23_1 =>
  nck (env 0) (
  rd Try.prog (Instr.fieldAt 67 (env 0) 0) noHp fun v26_4 =>
  rd Try.prog (Instr.loadAt 3 v26_4) h fun v27_5 =>
  nck (env 6) (
  rd Try.prog (Instr.fieldAt 73 (env 6) 0) noHp fun v30_8 =>
  rd Try.prog (Instr.loadAt 3 v30_8) h fun v31_9 =>
  nck (env 6) (
  rd Try.prog (Instr.fieldAt 73 (env 6) 1) noHp fun v34_12 =>
  rd Try.prog (Instr.loadAt 3 v34_12) h fun v35_13 =>
  nck (env 6) (
  rd Try.prog (Instr.fieldAt 73 (env 6) 3) noHp fun v38_16 =>
  rd Try.prog (Instr.loadAt 31 v38_16) h fun v39_17 =>
  rd Try.prog (Instr.build 38 #[(0, v23_1), (1, v27_5), (2, (Go.Value.int Go.IntKind.i64 120)), (3, v31_9), (4, v35_13), (5, v39_17)]) noHp fun v40_18 =>
  arun Try.prog (Instr.buildSlice 35 1 #[(0, v40_18)]) h fun v41_19 h1 =>
  (True) ∧
  arun Try.prog (Builtin.append_ #[35, 35] 35 #[(env 3), v41_19]) h1 fun v42_20 h2 =>
  (True) ∧
  K ((((((((((((((((((((((env.set 22 (env 3)).set 23 v23_1).set 24 (env 0)).set 25 (env 0)).set 26 v26_4).set 27 v27_5).set 28 (env 6)).set 29 (env 6)).set 30 v30_8).set 31 v31_9).set 32 (env 6)).set 33 (env 6)).set 34 v34_12).set 35 v35_13).set 36 (env 6)).set 37 (env 6)).set 38 v38_16).set 39 v39_17).set 40 v40_18).set 41 v41_19).set 42 v42_20).set 3 v42_20) h2))))
@[congr] theorem rip_Rip_All_r7_congr {env : Env} {h : Hp} {K : Env → Hp → Prop} : rip_Rip_All_r7 env h K = rip_Rip_All_r7 env h K := rfl

/-- rip.go:168 -/
def rip_Rip_All_r8 (env : Env) (h : Hp) (K : Env → Hp → Prop) : Prop :=
  rd Try.prog (bop Go.BinOp.add 3 (Go.Operand.tmp 10) (Go.Operand.const (Go.Value.int Go.IntKind.i64 1)) (env 10) (Go.Value.int Go.IntKind.i64 1)) noHp fun v43_0 =>
  K ((env.set 43 v43_0).set 10 v43_0) h
@[congr] theorem rip_Rip_All_r8_congr {env : Env} {h : Hp} {K : Env → Hp → Prop} : rip_Rip_All_r8 env h K = rip_Rip_All_r8 env h K := rfl

def rip_Rip_All_L0 : Den := (sq (rg rip_Rip_All_r3) (sq (cnd (Go.Operand.tmp 11) (ex .normal) (ex (.exit 0))) (sq (blk 1 (sq (rg rip_Rip_All_r4) (sq (rg rip_Rip_All_r5) (sq (rg rip_Rip_All_r6) (cnd (Go.Operand.tmp 21) (rg rip_Rip_All_r7) (ex .normal)))))) (rg rip_Rip_All_r8))))

/-- rip.go:173 -/
def rip_Rip_All_r9 (env : Env) (h : Hp) (K : Env → Hp → Prop) : Prop :=
  K ((env.set 44 (env 3)).set 2 (env 3)) h
@[congr] theorem rip_Rip_All_r9_congr {env : Env} {h : Hp} {K : Env → Hp → Prop} : rip_Rip_All_r9 env h K = rip_Rip_All_r9 env h K := rfl

def rip_Rip_All_D : Den := (sq (rg rip_Rip_All_r0) (sq (rg rip_Rip_All_r1) (sq (sq (rg rip_Rip_All_r2) (blk 0 (lp rip_Rip_All_L0))) (sq (rg rip_Rip_All_r9) (ex .ret)))))

theorem rip_Rip_All_eq : (den Try.prog 45 rip_Rip_All_code).1 = rip_Rip_All_D := by kernel_rfl

theorem rip_Rip_All_ok {args : Array Value} {h : Hp} {Q : Value → Hp → Prop} (hn : args.size ≤ 45) (D : rip_Rip_All_D (fin Try.prog [(Go.ResultVar.tmp 2)] Q) (env0 args) h) : Ok Try.prog 13 args h Q :=
  ok_of_den progIsOk Try.func13 (c := rip_Rip_All_code) (by kernel_rfl) hn (by show (den Try.prog 45 rip_Rip_All_code).1 _ _ _; rw [rip_Rip_All_eq]; exact D)

/-! ### octroi/octroilaw16.Few: function 14 -/
noncomputable def octroilaw16_Few_code : Code := match Try.f14.body with | some c => c | none => .skip

/-- law.go:38 -/
def octroilaw16_Few_r0 (env : Env) (h : Hp) (K : Env → Hp → Prop) : Prop :=
  K (env.set 2 (Go.Value.bool false)) h
@[congr] theorem octroilaw16_Few_r0_congr {env : Env} {h : Hp} {K : Env → Hp → Prop} : octroilaw16_Few_r0 env h K = octroilaw16_Few_r0 env h K := rfl

/-- law.go:39 -/
def octroilaw16_Few_r1 (env : Env) (h : Hp) (K : Env → Hp → Prop) : Prop :=
  rd Try.prog (Builtin.len_ #[42] 3 #[(env 0)]) h fun v5_1 =>
  rd Try.prog (bop Go.BinOp.gtr 3 (Go.Operand.tmp 5) (Go.Operand.const (Go.Value.int Go.IntKind.i64 150)) v5_1 (Go.Value.int Go.IntKind.i64 150)) noHp fun v6_2 =>
  K (((env.set 4 (env 0)).set 5 v5_1).set 6 v6_2) h
@[congr] theorem octroilaw16_Few_r1_congr {env : Env} {h : Hp} {K : Env → Hp → Prop} : octroilaw16_Few_r1 env h K = octroilaw16_Few_r1 env h K := rfl

/-- law.go:40 -/
def octroilaw16_Few_r2 (env : Env) (h : Hp) (K : Env → Hp → Prop) : Prop :=
  K (env.set 2 (Go.Value.bool false)) h
@[congr] theorem octroilaw16_Few_r2_congr {env : Env} {h : Hp} {K : Env → Hp → Prop} : octroilaw16_Few_r2 env h K = octroilaw16_Few_r2 env h K := rfl

/-- law.go:42 -/
def octroilaw16_Few_r3 (env : Env) (h : Hp) (K : Env → Hp → Prop) : Prop :=
  K (env.set 3 (Go.Value.int Go.IntKind.i64 0)) h
@[congr] theorem octroilaw16_Few_r3_congr {env : Env} {h : Hp} {K : Env → Hp → Prop} : octroilaw16_Few_r3 env h K = octroilaw16_Few_r3 env h K := rfl

/-- law.go:42 -/
def octroilaw16_Few_r4 (env : Env) (h : Hp) (K : Env → Hp → Prop) : Prop :=
  rd Try.prog (Builtin.len_ #[42] 3 #[(env 0)]) h fun v9_2 =>
  rd Try.prog (bop Go.BinOp.lss 3 (Go.Operand.tmp 7) (Go.Operand.tmp 9) (env 3) v9_2) noHp fun v10_3 =>
  K ((((env.set 7 (env 3)).set 8 (env 0)).set 9 v9_2).set 10 v10_3) h
@[congr] theorem octroilaw16_Few_r4_congr {env : Env} {h : Hp} {K : Env → Hp → Prop} : octroilaw16_Few_r4 env h K = octroilaw16_Few_r4 env h K := rfl

/-- law.go:43 -/
def octroilaw16_Few_r5 (env : Env) (h : Hp) (K : Env → Hp → Prop) : Prop :=
  rd Try.prog (Instr.indexAt 42 (env 0) (env 3)) noHp fun v15_2 =>
  rd Try.prog (Instr.fieldAt 48 v15_2 4) noHp fun v16_3 =>
  rd Try.prog (Instr.loadAt 3 v16_3) h fun v17_4 =>
  rd Try.prog (bop Go.BinOp.lss 3 (Go.Operand.tmp 17) (Go.Operand.const (Go.Value.int Go.IntKind.i64 0)) v17_4 (Go.Value.int Go.IntKind.i64 0)) noHp fun v18_5 =>
  gd (yb v18_5 == some false) (fun h k => k (env 0) h) h fun v20_7 h1 =>
  gd (yb v18_5 == some false) (fun h k => k (env 3) h) h1 fun v21_8 h2 =>
  gd (yb v18_5 == some false) (fun h k => rd Try.prog (Instr.indexAt 42 v20_7 v21_8) noHp fun v => k v h) h2 fun v22_9 h3 =>
  gd (yb v18_5 == some false) (fun h k => rd Try.prog (Instr.fieldAt 48 v22_9 4) noHp fun v => k v h) h3 fun v23_10 h4 =>
  gd (yb v18_5 == some false) (fun h k => rd Try.prog (Instr.loadAt 3 v23_10) h fun v => k v h) h4 fun v24_11 h5 =>
  gd (yb v18_5 == some false) (fun h k => rd Try.prog (bop Go.BinOp.gtr 3 (Go.Operand.tmp 24) (Go.Operand.const (Go.Value.int Go.IntKind.i64 1099511627776)) v24_11 (Go.Value.int Go.IntKind.i64 1099511627776)) noHp fun v => k v h) h5 fun v25_12 h6 =>
  rd Try.prog (pck v18_5 (Go.Value.bool true) v25_12) noHp fun v26_13 =>
  K ((((((((((((((env.set 13 (env 0)).set 14 (env 3)).set 15 v15_2).set 16 v16_3).set 17 v17_4).set 18 v18_5).set 19 v18_5).set 20 v20_7).set 21 v21_8).set 22 v22_9).set 23 v23_10).set 24 v24_11).set 25 v25_12).set 26 v26_13) h6
@[congr] theorem octroilaw16_Few_r5_congr {env : Env} {h : Hp} {K : Env → Hp → Prop} : octroilaw16_Few_r5 env h K = octroilaw16_Few_r5 env h K := rfl

/-- law.go:44 -/
def octroilaw16_Few_r6 (env : Env) (h : Hp) (K : Env → Hp → Prop) : Prop :=
  K (env.set 2 (Go.Value.bool false)) h
@[congr] theorem octroilaw16_Few_r6_congr {env : Env} {h : Hp} {K : Env → Hp → Prop} : octroilaw16_Few_r6 env h K = octroilaw16_Few_r6 env h K := rfl

/-- law.go:42 -/
def octroilaw16_Few_r7 (env : Env) (h : Hp) (K : Env → Hp → Prop) : Prop :=
  rd Try.prog (bop Go.BinOp.add 3 (Go.Operand.tmp 11) (Go.Operand.const (Go.Value.int Go.IntKind.i64 1)) (env 3) (Go.Value.int Go.IntKind.i64 1)) noHp fun v12_1 =>
  K (((env.set 11 (env 3)).set 12 v12_1).set 3 v12_1) h
@[congr] theorem octroilaw16_Few_r7_congr {env : Env} {h : Hp} {K : Env → Hp → Prop} : octroilaw16_Few_r7 env h K = octroilaw16_Few_r7 env h K := rfl

def octroilaw16_Few_L0 : Den := (sq (sq (rg octroilaw16_Few_r4) (cnd (Go.Operand.tmp 10) (ex .normal) (ex (.exit 0)))) (sq (blk 1 (sq (rg octroilaw16_Few_r5) (cnd (Go.Operand.tmp 26) (sq (rg octroilaw16_Few_r6) (ex .ret)) (ex .normal)))) (rg octroilaw16_Few_r7)))

/-- law.go:47 -/
def octroilaw16_Few_r8 (env : Env) (h : Hp) (K : Env → Hp → Prop) : Prop :=
  K (env.set 2 (Go.Value.bool true)) h
@[congr] theorem octroilaw16_Few_r8_congr {env : Env} {h : Hp} {K : Env → Hp → Prop} : octroilaw16_Few_r8 env h K = octroilaw16_Few_r8 env h K := rfl

def octroilaw16_Few_D : Den := (sq (rg octroilaw16_Few_r0) (sq (sq (rg octroilaw16_Few_r1) (cnd (Go.Operand.tmp 6) (sq (rg octroilaw16_Few_r2) (ex .ret)) (ex .normal))) (sq (sq (rg octroilaw16_Few_r3) (blk 0 (lp octroilaw16_Few_L0))) (sq (rg octroilaw16_Few_r8) (ex .ret)))))

theorem octroilaw16_Few_eq : (den Try.prog 27 octroilaw16_Few_code).1 = octroilaw16_Few_D := by kernel_rfl

theorem octroilaw16_Few_ok {args : Array Value} {h : Hp} {Q : Value → Hp → Prop} (hn : args.size ≤ 27) (D : octroilaw16_Few_D (fin Try.prog [(Go.ResultVar.tmp 2)] Q) (env0 args) h) : Ok Try.prog 14 args h Q :=
  ok_of_den progIsOk Try.func14 (c := octroilaw16_Few_code) (by kernel_rfl) hn (by show (den Try.prog 27 octroilaw16_Few_code).1 _ _ _; rw [octroilaw16_Few_eq]; exact D)

/-! ### octroi/octroiref16.New: function 15 -/
noncomputable def octroiref16_New_code : Code := match Try.f15.body with | some c => c | none => .skip

/-- ref.go:28 -/
def octroiref16_New_r0 (env : Env) (h : Hp) (K : Env → Hp → Prop) : Prop :=
  K (env.set 4 (Go.Value.pointer none)) h
@[congr] theorem octroiref16_New_r0_congr {env : Env} {h : Hp} {K : Env → Hp → Prop} : octroiref16_New_r0 env h K = octroiref16_New_r0 env h K := rfl

/-- ref.go:29 -/
def octroiref16_New_r1 (env : Env) (h : Hp) (K : Env → Hp → Prop) : Prop :=
  rd Try.prog (bop Go.BinOp.gtr 3 (Go.Operand.tmp 5) (Go.Operand.const (Go.Value.int Go.IntKind.i64 64)) (env 1) (Go.Value.int Go.IntKind.i64 64)) noHp fun v6_1 =>
  K ((env.set 5 (env 1)).set 6 v6_1) h
@[congr] theorem octroiref16_New_r1_congr {env : Env} {h : Hp} {K : Env → Hp → Prop} : octroiref16_New_r1 env h K = octroiref16_New_r1 env h K := rfl

/-- ref.go:30 -/
def octroiref16_New_r2 (env : Env) (h : Hp) (K : Env → Hp → Prop) : Prop :=
  K (env.set 1 (Go.Value.int Go.IntKind.i64 64)) h
@[congr] theorem octroiref16_New_r2_congr {env : Env} {h : Hp} {K : Env → Hp → Prop} : octroiref16_New_r2 env h K = octroiref16_New_r2 env h K := rfl

/-- ref.go:32 -/
def octroiref16_New_r3 (env : Env) (h : Hp) (K : Env → Hp → Prop) : Prop :=
  rd Try.prog (Instr.build 56 #[(0, (env 0)), (1, (env 1))]) noHp fun v9_2 =>
  arun Try.prog (Instr.box 56 v9_2) h fun v10_3 h1 =>
  K (((((env.set 7 (env 0)).set 8 (env 1)).set 9 v9_2).set 10 v10_3).set 4 v10_3) h1
@[congr] theorem octroiref16_New_r3_congr {env : Env} {h : Hp} {K : Env → Hp → Prop} : octroiref16_New_r3 env h K = octroiref16_New_r3 env h K := rfl

def octroiref16_New_D : Den := (sq (rg octroiref16_New_r0) (sq (sq (rg octroiref16_New_r1) (cnd (Go.Operand.tmp 6) (rg octroiref16_New_r2) (ex .normal))) (sq (rg octroiref16_New_r3) (ex .ret))))

theorem octroiref16_New_eq : (den Try.prog 11 octroiref16_New_code).1 = octroiref16_New_D := by kernel_rfl

theorem octroiref16_New_ok {args : Array Value} {h : Hp} {Q : Value → Hp → Prop} (hn : args.size ≤ 11) (D : octroiref16_New_D (fin Try.prog [(Go.ResultVar.tmp 4)] Q) (env0 args) h) : Ok Try.prog 15 args h Q :=
  ok_of_den progIsOk Try.func15 (c := octroiref16_New_code) (by kernel_rfl) hn (by show (den Try.prog 11 octroiref16_New_code).1 _ _ _; rw [octroiref16_New_eq]; exact D)

/-! ### octroi/octroilaw16.Does: function 16 -/
noncomputable def octroilaw16_Does_code : Code := match Try.f16.body with | some c => c | none => .skip

/-- law.go:51 -/
def octroilaw16_Does_r0 (env : Env) (h : Hp) (K : Env → Hp → Prop) : Prop :=
  arun Try.prog (Instr.box 48 (env 1)) h fun v3_0 h1 =>
  K (((env.set 3 v3_0).set 4 (Go.Value.bool false)).set 5 (Go.Value.int Go.IntKind.i64 0)) h1
@[congr] theorem octroilaw16_Does_r0_congr {env : Env} {h : Hp} {K : Env → Hp → Prop} : octroilaw16_Does_r0 env h K = octroilaw16_Does_r0 env h K := rfl

/-- law.go:52 -/
def octroilaw16_Does_r1 (env : Env) (h : Hp) (K : Env → Hp → Prop) : Prop :=
  rd Try.prog (Instr.fieldAt 48 (env 3) 0) noHp fun v8_0 =>
  rd Try.prog (Instr.loadAt 3 v8_0) h fun v9_1 =>
  K ((env.set 8 v8_0).set 9 v9_1) h
@[congr] theorem octroilaw16_Does_r1_congr {env : Env} {h : Hp} {K : Env → Hp → Prop} : octroilaw16_Does_r1 env h K = octroilaw16_Does_r1 env h K := rfl

/-- law.go:53 -/
def octroilaw16_Does_r2 (env : Env) (h : Hp) (K : Env → Hp → Prop) : Prop :=
  rd Try.prog (bop Go.BinOp.eql 3 (Go.Operand.tmp 9) (Go.Operand.const (Go.Value.int Go.IntKind.i64 0)) (env 9) (Go.Value.int Go.IntKind.i64 0)) noHp fun v11_0 =>
  K ((env.set 11 v11_0).set 10 v11_0) h
@[congr] theorem octroilaw16_Does_r2_congr {env : Env} {h : Hp} {K : Env → Hp → Prop} : octroilaw16_Does_r2 env h K = octroilaw16_Does_r2 env h K := rfl

/-- law.go:54 -/
def octroilaw16_Does_r3 (env : Env) (h : Hp) (K : Env → Hp → Prop) : Prop :=
  rd Try.prog (Instr.fieldAt 48 (env 3) 5) noHp fun v13_1 =>
  rd Try.prog (Instr.loadAt 24 v13_1) h fun v14_2 =>
  rd Try.prog (Instr.fieldAt 48 (env 3) 3) noHp fun v15_3 =>
  rd Try.prog (Instr.loadAt 3 v15_3) h fun v16_4 =>
  rd Try.prog (Instr.fieldAt 48 (env 3) 6) noHp fun v17_5 =>
  rd Try.prog (Instr.loadAt 31 v17_5) h fun v18_6 =>
  rd Try.prog (Instr.fieldAt 48 (env 3) 4) noHp fun v19_7 =>
  rd Try.prog (Instr.loadAt 3 v19_7) h fun v20_8 =>
  Ok Try.prog 24 #[(env 0), v14_2, v16_4, v18_6, v20_8] h fun v21_9 h1 =>
  K ((((((((((((env.set 12 (env 0)).set 13 v13_1).set 14 v14_2).set 15 v15_3).set 16 v16_4).set 17 v17_5).set 18 v18_6).set 19 v19_7).set 20 v20_8).set 21 v21_9).set 4 (Go.Value.bool false)).set 5 v21_9) h1
@[congr] theorem octroilaw16_Does_r3_congr {env : Env} {h : Hp} {K : Env → Hp → Prop} : octroilaw16_Does_r3 env h K = octroilaw16_Does_r3 env h K := rfl

/-- law.go:55 -/
def octroilaw16_Does_r4 (env : Env) (h : Hp) (K : Env → Hp → Prop) : Prop :=
  rd Try.prog (bop Go.BinOp.eql 3 (Go.Operand.tmp 9) (Go.Operand.const (Go.Value.int Go.IntKind.i64 1)) (env 9) (Go.Value.int Go.IntKind.i64 1)) noHp fun v23_0 =>
  K ((env.set 23 v23_0).set 22 v23_0) h
@[congr] theorem octroilaw16_Does_r4_congr {env : Env} {h : Hp} {K : Env → Hp → Prop} : octroilaw16_Does_r4 env h K = octroilaw16_Does_r4 env h K := rfl

/-- law.go:56 -/
def octroilaw16_Does_r5 (env : Env) (h : Hp) (K : Env → Hp → Prop) : Prop :=
  rd Try.prog (Instr.fieldAt 48 (env 3) 5) noHp fun v25_1 =>
  rd Try.prog (Instr.loadAt 24 v25_1) h fun v26_2 =>
  rd Try.prog (Instr.fieldAt 48 (env 3) 4) noHp fun v27_3 =>
  rd Try.prog (Instr.loadAt 3 v27_3) h fun v28_4 =>
  Ok Try.prog 25 #[(env 0), v26_2, v28_4] h fun v29_5 h1 =>
  K ((((((((env.set 24 (env 0)).set 25 v25_1).set 26 v26_2).set 27 v27_3).set 28 v28_4).set 29 v29_5).set 4 (Go.Value.bool false)).set 5 v29_5) h1
@[congr] theorem octroilaw16_Does_r5_congr {env : Env} {h : Hp} {K : Env → Hp → Prop} : octroilaw16_Does_r5 env h K = octroilaw16_Does_r5 env h K := rfl

/-- law.go:57 -/
def octroilaw16_Does_r6 (env : Env) (h : Hp) (K : Env → Hp → Prop) : Prop :=
  rd Try.prog (bop Go.BinOp.eql 3 (Go.Operand.tmp 9) (Go.Operand.const (Go.Value.int Go.IntKind.i64 2)) (env 9) (Go.Value.int Go.IntKind.i64 2)) noHp fun v31_0 =>
  K ((env.set 31 v31_0).set 30 v31_0) h
@[congr] theorem octroilaw16_Does_r6_congr {env : Env} {h : Hp} {K : Env → Hp → Prop} : octroilaw16_Does_r6 env h K = octroilaw16_Does_r6 env h K := rfl

/-- law.go:58 -/
def octroilaw16_Does_r7 (env : Env) (h : Hp) (K : Env → Hp → Prop) : Prop :=
  rd Try.prog (Instr.fieldAt 48 (env 3) 1) noHp fun v34_1 =>
  rd Try.prog (Instr.loadAt 3 v34_1) h fun v35_2 =>
  rd Try.prog (Instr.fieldAt 48 (env 3) 2) noHp fun v36_3 =>
  rd Try.prog (Instr.loadAt 3 v36_3) h fun v37_4 =>
  rd Try.prog (Instr.fieldAt 48 (env 3) 5) noHp fun v38_5 =>
  rd Try.prog (Instr.loadAt 24 v38_5) h fun v39_6 =>
  rd Try.prog (Instr.fieldAt 48 (env 3) 6) noHp fun v40_7 =>
  rd Try.prog (Instr.loadAt 31 v40_7) h fun v41_8 =>
  rd Try.prog (Instr.fieldAt 48 (env 3) 3) noHp fun v42_9 =>
  rd Try.prog (Instr.loadAt 3 v42_9) h fun v43_10 =>
  rd Try.prog (Instr.build 33 #[(0, v39_6), (1, v41_8), (3, v43_10)]) noHp fun v44_11 =>
  rd Try.prog (Instr.fieldAt 48 (env 3) 4) noHp fun v45_12 =>
  rd Try.prog (Instr.loadAt 3 v45_12) h fun v46_13 =>
  Ok Try.prog 11 #[(env 0), v35_2, v37_4, v44_11, v46_13] h fun v47_14 h1 =>
  rd Try.prog (Instr.extract v47_14 0) noHp fun v48_16 =>
  rd Try.prog (Instr.extract v47_14 1) noHp fun v49_17 =>
  K ((((((((((((((((((((env.set 33 (env 0)).set 34 v34_1).set 35 v35_2).set 36 v36_3).set 37 v37_4).set 38 v38_5).set 39 v39_6).set 40 v40_7).set 41 v41_8).set 42 v42_9).set 43 v43_10).set 44 v44_11).set 45 v45_12).set 46 v46_13).set 47 v47_14).set 32 v47_14).set 48 v48_16).set 49 v49_17).set 6 v48_16).set 7 v49_17) h1
@[congr] theorem octroilaw16_Does_r7_congr {env : Env} {h : Hp} {K : Env → Hp → Prop} : octroilaw16_Does_r7 env h K = octroilaw16_Does_r7 env h K := rfl

/-- law.go:59 -/
def octroilaw16_Does_r8 (env : Env) (h : Hp) (K : Env → Hp → Prop) : Prop :=
  K ((((env.set 50 (env 6)).set 51 (env 7)).set 4 (env 6)).set 5 (env 7)) h
@[congr] theorem octroilaw16_Does_r8_congr {env : Env} {h : Hp} {K : Env → Hp → Prop} : octroilaw16_Does_r8 env h K = octroilaw16_Does_r8 env h K := rfl

/-- law.go:60 -/
def octroilaw16_Does_r9 (env : Env) (h : Hp) (K : Env → Hp → Prop) : Prop :=
  rd Try.prog (bop Go.BinOp.eql 3 (Go.Operand.tmp 9) (Go.Operand.const (Go.Value.int Go.IntKind.i64 3)) (env 9) (Go.Value.int Go.IntKind.i64 3)) noHp fun v53_0 =>
  K ((env.set 53 v53_0).set 52 v53_0) h
@[congr] theorem octroilaw16_Does_r9_congr {env : Env} {h : Hp} {K : Env → Hp → Prop} : octroilaw16_Does_r9 env h K = octroilaw16_Does_r9 env h K := rfl

/-- law.go:61 -/
def octroilaw16_Does_r10 (env : Env) (h : Hp) (K : Env → Hp → Prop) : Prop :=
  rd Try.prog (Instr.fieldAt 48 (env 3) 4) noHp fun v55_1 =>
  rd Try.prog (Instr.loadAt 3 v55_1) h fun v56_2 =>
  Ok Try.prog 26 #[(env 0), v56_2] h fun v57_3 h1 =>
  K ((((((env.set 54 (env 0)).set 55 v55_1).set 56 v56_2).set 57 v57_3).set 4 v57_3).set 5 (Go.Value.int Go.IntKind.i64 0)) h1
@[congr] theorem octroilaw16_Does_r10_congr {env : Env} {h : Hp} {K : Env → Hp → Prop} : octroilaw16_Does_r10 env h K = octroilaw16_Does_r10 env h K := rfl

/-- law.go:62 -/
def octroilaw16_Does_r11 (env : Env) (h : Hp) (K : Env → Hp → Prop) : Prop :=
  rd Try.prog (bop Go.BinOp.eql 3 (Go.Operand.tmp 9) (Go.Operand.const (Go.Value.int Go.IntKind.i64 4)) (env 9) (Go.Value.int Go.IntKind.i64 4)) noHp fun v59_0 =>
  K ((env.set 59 v59_0).set 58 v59_0) h
@[congr] theorem octroilaw16_Does_r11_congr {env : Env} {h : Hp} {K : Env → Hp → Prop} : octroilaw16_Does_r11 env h K = octroilaw16_Does_r11 env h K := rfl

/-- law.go:63 -/
def octroilaw16_Does_r12 (env : Env) (h : Hp) (K : Env → Hp → Prop) : Prop :=
  rd Try.prog (Instr.fieldAt 48 (env 3) 1) noHp fun v61_1 =>
  rd Try.prog (Instr.loadAt 3 v61_1) h fun v62_2 =>
  rd Try.prog (Instr.fieldAt 48 (env 3) 4) noHp fun v63_3 =>
  rd Try.prog (Instr.loadAt 3 v63_3) h fun v64_4 =>
  Ok Try.prog 32 #[(env 0), v62_2, v64_4] h fun v65_5 h1 =>
  K ((((((((env.set 60 (env 0)).set 61 v61_1).set 62 v62_2).set 63 v63_3).set 64 v64_4).set 65 v65_5).set 4 v65_5).set 5 (Go.Value.int Go.IntKind.i64 0)) h1
@[congr] theorem octroilaw16_Does_r12_congr {env : Env} {h : Hp} {K : Env → Hp → Prop} : octroilaw16_Does_r12 env h K = octroilaw16_Does_r12 env h K := rfl

/-- law.go:65 -/
def octroilaw16_Does_r13 (env : Env) (h : Hp) (K : Env → Hp → Prop) : Prop :=
  K ((env.set 4 (Go.Value.bool false)).set 5 (Go.Value.int Go.IntKind.i64 0)) h
@[congr] theorem octroilaw16_Does_r13_congr {env : Env} {h : Hp} {K : Env → Hp → Prop} : octroilaw16_Does_r13 env h K = octroilaw16_Does_r13 env h K := rfl

def octroilaw16_Does_D : Den := (sq (rg octroilaw16_Does_r0) (sq (sq (rg octroilaw16_Does_r1) (blk 0 (sq (rg octroilaw16_Does_r2) (cnd (Go.Operand.tmp 10) (sq (rg octroilaw16_Does_r3) (ex .ret)) (sq (rg octroilaw16_Does_r4) (cnd (Go.Operand.tmp 22) (sq (rg octroilaw16_Does_r5) (ex .ret)) (sq (rg octroilaw16_Does_r6) (cnd (Go.Operand.tmp 30) (sq (rg octroilaw16_Does_r7) (sq (rg octroilaw16_Does_r8) (ex .ret))) (sq (rg octroilaw16_Does_r9) (cnd (Go.Operand.tmp 52) (sq (rg octroilaw16_Does_r10) (ex .ret)) (sq (rg octroilaw16_Does_r11) (cnd (Go.Operand.tmp 58) (sq (rg octroilaw16_Does_r12) (ex .ret)) (ex .normal))))))))))))) (sq (rg octroilaw16_Does_r13) (ex .ret))))

theorem octroilaw16_Does_eq : (den Try.prog 66 octroilaw16_Does_code).1 = octroilaw16_Does_D := by kernel_rfl

theorem octroilaw16_Does_ok {args : Array Value} {h : Hp} {Q : Value → Hp → Prop} (hn : args.size ≤ 66) (D : octroilaw16_Does_D (fin Try.prog [(Go.ResultVar.tmp 4), (Go.ResultVar.tmp 5)] Q) (env0 args) h) : Ok Try.prog 16 args h Q :=
  ok_of_den progIsOk Try.func16 (c := octroilaw16_Does_code) (by kernel_rfl) hn (by show (den Try.prog 66 octroilaw16_Does_code).1 _ _ _; rw [octroilaw16_Does_eq]; exact D)

/-! ### octroi/octroilaw16.refDoes: function 17 -/
noncomputable def octroilaw16_refDoes_code : Code := match Try.f17.body with | some c => c | none => .skip

/-- law.go:69 -/
def octroilaw16_refDoes_r0 (env : Env) (h : Hp) (K : Env → Hp → Prop) : Prop :=
  arun Try.prog (Instr.box 48 (env 1)) h fun v3_0 h1 =>
  K (((env.set 3 v3_0).set 4 (Go.Value.bool false)).set 5 (Go.Value.int Go.IntKind.i64 0)) h1
@[congr] theorem octroilaw16_refDoes_r0_congr {env : Env} {h : Hp} {K : Env → Hp → Prop} : octroilaw16_refDoes_r0 env h K = octroilaw16_refDoes_r0 env h K := rfl

/-- law.go:70 -/
def octroilaw16_refDoes_r1 (env : Env) (h : Hp) (K : Env → Hp → Prop) : Prop :=
  rd Try.prog (Instr.fieldAt 48 (env 3) 0) noHp fun v8_0 =>
  rd Try.prog (Instr.loadAt 3 v8_0) h fun v9_1 =>
  K ((env.set 8 v8_0).set 9 v9_1) h
@[congr] theorem octroilaw16_refDoes_r1_congr {env : Env} {h : Hp} {K : Env → Hp → Prop} : octroilaw16_refDoes_r1 env h K = octroilaw16_refDoes_r1 env h K := rfl

/-- law.go:71 -/
def octroilaw16_refDoes_r2 (env : Env) (h : Hp) (K : Env → Hp → Prop) : Prop :=
  rd Try.prog (bop Go.BinOp.eql 3 (Go.Operand.tmp 9) (Go.Operand.const (Go.Value.int Go.IntKind.i64 0)) (env 9) (Go.Value.int Go.IntKind.i64 0)) noHp fun v11_0 =>
  K ((env.set 11 v11_0).set 10 v11_0) h
@[congr] theorem octroilaw16_refDoes_r2_congr {env : Env} {h : Hp} {K : Env → Hp → Prop} : octroilaw16_refDoes_r2 env h K = octroilaw16_refDoes_r2 env h K := rfl

/-- law.go:72 -/
def octroilaw16_refDoes_r3 (env : Env) (h : Hp) (K : Env → Hp → Prop) : Prop :=
  rd Try.prog (Instr.fieldAt 48 (env 3) 5) noHp fun v13_1 =>
  rd Try.prog (Instr.loadAt 24 v13_1) h fun v14_2 =>
  rd Try.prog (Instr.fieldAt 48 (env 3) 3) noHp fun v15_3 =>
  rd Try.prog (Instr.loadAt 3 v15_3) h fun v16_4 =>
  rd Try.prog (Instr.fieldAt 48 (env 3) 6) noHp fun v17_5 =>
  rd Try.prog (Instr.loadAt 31 v17_5) h fun v18_6 =>
  rd Try.prog (Instr.fieldAt 48 (env 3) 4) noHp fun v19_7 =>
  rd Try.prog (Instr.loadAt 3 v19_7) h fun v20_8 =>
  Ok Try.prog 33 #[(env 0), v14_2, v16_4, v18_6, v20_8] h fun v21_9 h1 =>
  K ((((((((((((env.set 12 (env 0)).set 13 v13_1).set 14 v14_2).set 15 v15_3).set 16 v16_4).set 17 v17_5).set 18 v18_6).set 19 v19_7).set 20 v20_8).set 21 v21_9).set 4 (Go.Value.bool false)).set 5 v21_9) h1
@[congr] theorem octroilaw16_refDoes_r3_congr {env : Env} {h : Hp} {K : Env → Hp → Prop} : octroilaw16_refDoes_r3 env h K = octroilaw16_refDoes_r3 env h K := rfl

/-- law.go:73 -/
def octroilaw16_refDoes_r4 (env : Env) (h : Hp) (K : Env → Hp → Prop) : Prop :=
  rd Try.prog (bop Go.BinOp.eql 3 (Go.Operand.tmp 9) (Go.Operand.const (Go.Value.int Go.IntKind.i64 1)) (env 9) (Go.Value.int Go.IntKind.i64 1)) noHp fun v23_0 =>
  K ((env.set 23 v23_0).set 22 v23_0) h
@[congr] theorem octroilaw16_refDoes_r4_congr {env : Env} {h : Hp} {K : Env → Hp → Prop} : octroilaw16_refDoes_r4 env h K = octroilaw16_refDoes_r4 env h K := rfl

/-- law.go:74 -/
def octroilaw16_refDoes_r5 (env : Env) (h : Hp) (K : Env → Hp → Prop) : Prop :=
  rd Try.prog (Instr.fieldAt 48 (env 3) 5) noHp fun v25_1 =>
  rd Try.prog (Instr.loadAt 24 v25_1) h fun v26_2 =>
  rd Try.prog (Instr.fieldAt 48 (env 3) 4) noHp fun v27_3 =>
  rd Try.prog (Instr.loadAt 3 v27_3) h fun v28_4 =>
  Ok Try.prog 34 #[(env 0), v26_2, v28_4] h fun v29_5 h1 =>
  K ((((((((env.set 24 (env 0)).set 25 v25_1).set 26 v26_2).set 27 v27_3).set 28 v28_4).set 29 v29_5).set 4 (Go.Value.bool false)).set 5 v29_5) h1
@[congr] theorem octroilaw16_refDoes_r5_congr {env : Env} {h : Hp} {K : Env → Hp → Prop} : octroilaw16_refDoes_r5 env h K = octroilaw16_refDoes_r5 env h K := rfl

/-- law.go:75 -/
def octroilaw16_refDoes_r6 (env : Env) (h : Hp) (K : Env → Hp → Prop) : Prop :=
  rd Try.prog (bop Go.BinOp.eql 3 (Go.Operand.tmp 9) (Go.Operand.const (Go.Value.int Go.IntKind.i64 2)) (env 9) (Go.Value.int Go.IntKind.i64 2)) noHp fun v31_0 =>
  K ((env.set 31 v31_0).set 30 v31_0) h
@[congr] theorem octroilaw16_refDoes_r6_congr {env : Env} {h : Hp} {K : Env → Hp → Prop} : octroilaw16_refDoes_r6 env h K = octroilaw16_refDoes_r6 env h K := rfl

/-- law.go:76 -/
def octroilaw16_refDoes_r7 (env : Env) (h : Hp) (K : Env → Hp → Prop) : Prop :=
  rd Try.prog (Instr.fieldAt 48 (env 3) 1) noHp fun v34_1 =>
  rd Try.prog (Instr.loadAt 3 v34_1) h fun v35_2 =>
  rd Try.prog (Instr.fieldAt 48 (env 3) 2) noHp fun v36_3 =>
  rd Try.prog (Instr.loadAt 3 v36_3) h fun v37_4 =>
  rd Try.prog (Instr.fieldAt 48 (env 3) 5) noHp fun v38_5 =>
  rd Try.prog (Instr.loadAt 24 v38_5) h fun v39_6 =>
  rd Try.prog (Instr.fieldAt 48 (env 3) 6) noHp fun v40_7 =>
  rd Try.prog (Instr.loadAt 31 v40_7) h fun v41_8 =>
  rd Try.prog (Instr.fieldAt 48 (env 3) 3) noHp fun v42_9 =>
  rd Try.prog (Instr.loadAt 3 v42_9) h fun v43_10 =>
  rd Try.prog (Instr.build 33 #[(0, v39_6), (1, v41_8), (3, v43_10)]) noHp fun v44_11 =>
  rd Try.prog (Instr.fieldAt 48 (env 3) 4) noHp fun v45_12 =>
  rd Try.prog (Instr.loadAt 3 v45_12) h fun v46_13 =>
  Ok Try.prog 35 #[(env 0), v35_2, v37_4, v44_11, v46_13] h fun v47_14 h1 =>
  rd Try.prog (Instr.extract v47_14 0) noHp fun v48_16 =>
  rd Try.prog (Instr.extract v47_14 1) noHp fun v49_17 =>
  K ((((((((((((((((((((env.set 33 (env 0)).set 34 v34_1).set 35 v35_2).set 36 v36_3).set 37 v37_4).set 38 v38_5).set 39 v39_6).set 40 v40_7).set 41 v41_8).set 42 v42_9).set 43 v43_10).set 44 v44_11).set 45 v45_12).set 46 v46_13).set 47 v47_14).set 32 v47_14).set 48 v48_16).set 49 v49_17).set 6 v48_16).set 7 v49_17) h1
@[congr] theorem octroilaw16_refDoes_r7_congr {env : Env} {h : Hp} {K : Env → Hp → Prop} : octroilaw16_refDoes_r7 env h K = octroilaw16_refDoes_r7 env h K := rfl

/-- law.go:77 -/
def octroilaw16_refDoes_r8 (env : Env) (h : Hp) (K : Env → Hp → Prop) : Prop :=
  K ((((env.set 50 (env 6)).set 51 (env 7)).set 4 (env 6)).set 5 (env 7)) h
@[congr] theorem octroilaw16_refDoes_r8_congr {env : Env} {h : Hp} {K : Env → Hp → Prop} : octroilaw16_refDoes_r8 env h K = octroilaw16_refDoes_r8 env h K := rfl

/-- law.go:78 -/
def octroilaw16_refDoes_r9 (env : Env) (h : Hp) (K : Env → Hp → Prop) : Prop :=
  rd Try.prog (bop Go.BinOp.eql 3 (Go.Operand.tmp 9) (Go.Operand.const (Go.Value.int Go.IntKind.i64 3)) (env 9) (Go.Value.int Go.IntKind.i64 3)) noHp fun v53_0 =>
  K ((env.set 53 v53_0).set 52 v53_0) h
@[congr] theorem octroilaw16_refDoes_r9_congr {env : Env} {h : Hp} {K : Env → Hp → Prop} : octroilaw16_refDoes_r9 env h K = octroilaw16_refDoes_r9 env h K := rfl

/-- law.go:79 -/
def octroilaw16_refDoes_r10 (env : Env) (h : Hp) (K : Env → Hp → Prop) : Prop :=
  rd Try.prog (Instr.fieldAt 48 (env 3) 4) noHp fun v55_1 =>
  rd Try.prog (Instr.loadAt 3 v55_1) h fun v56_2 =>
  Ok Try.prog 36 #[(env 0), v56_2] h fun v57_3 h1 =>
  K ((((((env.set 54 (env 0)).set 55 v55_1).set 56 v56_2).set 57 v57_3).set 4 v57_3).set 5 (Go.Value.int Go.IntKind.i64 0)) h1
@[congr] theorem octroilaw16_refDoes_r10_congr {env : Env} {h : Hp} {K : Env → Hp → Prop} : octroilaw16_refDoes_r10 env h K = octroilaw16_refDoes_r10 env h K := rfl

/-- law.go:80 -/
def octroilaw16_refDoes_r11 (env : Env) (h : Hp) (K : Env → Hp → Prop) : Prop :=
  rd Try.prog (bop Go.BinOp.eql 3 (Go.Operand.tmp 9) (Go.Operand.const (Go.Value.int Go.IntKind.i64 4)) (env 9) (Go.Value.int Go.IntKind.i64 4)) noHp fun v59_0 =>
  K ((env.set 59 v59_0).set 58 v59_0) h
@[congr] theorem octroilaw16_refDoes_r11_congr {env : Env} {h : Hp} {K : Env → Hp → Prop} : octroilaw16_refDoes_r11 env h K = octroilaw16_refDoes_r11 env h K := rfl

/-- law.go:81 -/
def octroilaw16_refDoes_r12 (env : Env) (h : Hp) (K : Env → Hp → Prop) : Prop :=
  rd Try.prog (Instr.fieldAt 48 (env 3) 1) noHp fun v61_1 =>
  rd Try.prog (Instr.loadAt 3 v61_1) h fun v62_2 =>
  rd Try.prog (Instr.fieldAt 48 (env 3) 4) noHp fun v63_3 =>
  rd Try.prog (Instr.loadAt 3 v63_3) h fun v64_4 =>
  Ok Try.prog 37 #[(env 0), v62_2, v64_4] h fun v65_5 h1 =>
  K ((((((((env.set 60 (env 0)).set 61 v61_1).set 62 v62_2).set 63 v63_3).set 64 v64_4).set 65 v65_5).set 4 v65_5).set 5 (Go.Value.int Go.IntKind.i64 0)) h1
@[congr] theorem octroilaw16_refDoes_r12_congr {env : Env} {h : Hp} {K : Env → Hp → Prop} : octroilaw16_refDoes_r12 env h K = octroilaw16_refDoes_r12 env h K := rfl

/-- law.go:83 -/
def octroilaw16_refDoes_r13 (env : Env) (h : Hp) (K : Env → Hp → Prop) : Prop :=
  K ((env.set 4 (Go.Value.bool false)).set 5 (Go.Value.int Go.IntKind.i64 0)) h
@[congr] theorem octroilaw16_refDoes_r13_congr {env : Env} {h : Hp} {K : Env → Hp → Prop} : octroilaw16_refDoes_r13 env h K = octroilaw16_refDoes_r13 env h K := rfl

def octroilaw16_refDoes_D : Den := (sq (rg octroilaw16_refDoes_r0) (sq (sq (rg octroilaw16_refDoes_r1) (blk 0 (sq (rg octroilaw16_refDoes_r2) (cnd (Go.Operand.tmp 10) (sq (rg octroilaw16_refDoes_r3) (ex .ret)) (sq (rg octroilaw16_refDoes_r4) (cnd (Go.Operand.tmp 22) (sq (rg octroilaw16_refDoes_r5) (ex .ret)) (sq (rg octroilaw16_refDoes_r6) (cnd (Go.Operand.tmp 30) (sq (rg octroilaw16_refDoes_r7) (sq (rg octroilaw16_refDoes_r8) (ex .ret))) (sq (rg octroilaw16_refDoes_r9) (cnd (Go.Operand.tmp 52) (sq (rg octroilaw16_refDoes_r10) (ex .ret)) (sq (rg octroilaw16_refDoes_r11) (cnd (Go.Operand.tmp 58) (sq (rg octroilaw16_refDoes_r12) (ex .ret)) (ex .normal))))))))))))) (sq (rg octroilaw16_refDoes_r13) (ex .ret))))

theorem octroilaw16_refDoes_eq : (den Try.prog 66 octroilaw16_refDoes_code).1 = octroilaw16_refDoes_D := by kernel_rfl

theorem octroilaw16_refDoes_ok {args : Array Value} {h : Hp} {Q : Value → Hp → Prop} (hn : args.size ≤ 66) (D : octroilaw16_refDoes_D (fin Try.prog [(Go.ResultVar.tmp 4), (Go.ResultVar.tmp 5)] Q) (env0 args) h) : Ok Try.prog 17 args h Q :=
  ok_of_den progIsOk Try.func17 (c := octroilaw16_refDoes_code) (by kernel_rfl) hn (by show (den Try.prog 66 octroilaw16_refDoes_code).1 _ _ _; rw [octroilaw16_refDoes_eq]; exact D)

/-! ### octroi/octroiref09.Same: function 18 -/
noncomputable def octroiref09_Same_code : Code := match Try.f18.body with | some c => c | none => .skip

/-- ref.go:151 -/
def octroiref09_Same_r0 (env : Env) (h : Hp) (K : Env → Hp → Prop) : Prop :=
  K (env.set 4 (Go.Value.bool false)) h
@[congr] theorem octroiref09_Same_r0_congr {env : Env} {h : Hp} {K : Env → Hp → Prop} : octroiref09_Same_r0 env h K = octroiref09_Same_r0 env h K := rfl

/-- ref.go:152 -/
def octroiref09_Same_r1 (env : Env) (h : Hp) (K : Env → Hp → Prop) : Prop :=
  rd Try.prog (Builtin.len_ #[35] 3 #[(env 0)]) h fun v7_1 =>
  rd Try.prog (Builtin.len_ #[35] 3 #[(env 1)]) h fun v9_3 =>
  rd Try.prog (bop Go.BinOp.neq 3 (Go.Operand.tmp 7) (Go.Operand.tmp 9) v7_1 v9_3) noHp fun v10_4 =>
  K (((((env.set 6 (env 0)).set 7 v7_1).set 8 (env 1)).set 9 v9_3).set 10 v10_4) h
@[congr] theorem octroiref09_Same_r1_congr {env : Env} {h : Hp} {K : Env → Hp → Prop} : octroiref09_Same_r1 env h K = octroiref09_Same_r1 env h K := rfl

/-- ref.go:153 -/
def octroiref09_Same_r2 (env : Env) (h : Hp) (K : Env → Hp → Prop) : Prop :=
  K (env.set 4 (Go.Value.bool false)) h
@[congr] theorem octroiref09_Same_r2_congr {env : Env} {h : Hp} {K : Env → Hp → Prop} : octroiref09_Same_r2 env h K = octroiref09_Same_r2 env h K := rfl

/-- ref.go:155 -/
def octroiref09_Same_r3 (env : Env) (h : Hp) (K : Env → Hp → Prop) : Prop :=
  K (env.set 5 (Go.Value.int Go.IntKind.i64 0)) h
@[congr] theorem octroiref09_Same_r3_congr {env : Env} {h : Hp} {K : Env → Hp → Prop} : octroiref09_Same_r3 env h K = octroiref09_Same_r3 env h K := rfl

/-- ref.go:155 -/
def octroiref09_Same_r4 (env : Env) (h : Hp) (K : Env → Hp → Prop) : Prop :=
  rd Try.prog (Builtin.len_ #[35] 3 #[(env 0)]) h fun v13_2 =>
  rd Try.prog (bop Go.BinOp.lss 3 (Go.Operand.tmp 11) (Go.Operand.tmp 13) (env 5) v13_2) noHp fun v14_3 =>
  K ((((env.set 11 (env 5)).set 12 (env 0)).set 13 v13_2).set 14 v14_3) h
@[congr] theorem octroiref09_Same_r4_congr {env : Env} {h : Hp} {K : Env → Hp → Prop} : octroiref09_Same_r4 env h K = octroiref09_Same_r4 env h K := rfl

/-- ref.go:156 (in any order) -/
def octroiref09_Same_r5 (env : Env) (h : Hp) (K : Env → Hp → Prop) : Prop :=
  rd Try.prog (Instr.indexAt 35 (env 0) (env 5)) noHp fun v19_2 =>
  rd Try.prog (Instr.loadAt 38 v19_2) h fun v20_3 =>
  rd Try.prog (Instr.indexAt 35 (env 1) (env 5)) noHp fun v23_6 =>
  rd Try.prog (Instr.loadAt 38 v23_6) h fun v24_7 =>
  rd Try.prog (bop Go.BinOp.neq 38 (Go.Operand.tmp 20) (Go.Operand.tmp 24) v20_3 v24_7) noHp fun v25_8 =>
  K (((((((((env.set 17 (env 0)).set 18 (env 5)).set 19 v19_2).set 20 v20_3).set 21 (env 1)).set 22 (env 5)).set 23 v23_6).set 24 v24_7).set 25 v25_8) h
@[congr] theorem octroiref09_Same_r5_congr {env : Env} {h : Hp} {K : Env → Hp → Prop} : octroiref09_Same_r5 env h K = octroiref09_Same_r5 env h K := rfl

/-- ref.go:157 -/
def octroiref09_Same_r6 (env : Env) (h : Hp) (K : Env → Hp → Prop) : Prop :=
  K (env.set 4 (Go.Value.bool false)) h
@[congr] theorem octroiref09_Same_r6_congr {env : Env} {h : Hp} {K : Env → Hp → Prop} : octroiref09_Same_r6 env h K = octroiref09_Same_r6 env h K := rfl

/-- ref.go:155 -/
def octroiref09_Same_r7 (env : Env) (h : Hp) (K : Env → Hp → Prop) : Prop :=
  rd Try.prog (bop Go.BinOp.add 3 (Go.Operand.tmp 15) (Go.Operand.const (Go.Value.int Go.IntKind.i64 1)) (env 5) (Go.Value.int Go.IntKind.i64 1)) noHp fun v16_1 =>
  K (((env.set 15 (env 5)).set 16 v16_1).set 5 v16_1) h
@[congr] theorem octroiref09_Same_r7_congr {env : Env} {h : Hp} {K : Env → Hp → Prop} : octroiref09_Same_r7 env h K = octroiref09_Same_r7 env h K := rfl

def octroiref09_Same_L0 : Den := (sq (sq (rg octroiref09_Same_r4) (cnd (Go.Operand.tmp 14) (ex .normal) (ex (.exit 0)))) (sq (blk 1 (sq (rg octroiref09_Same_r5) (cnd (Go.Operand.tmp 25) (sq (rg octroiref09_Same_r6) (ex .ret)) (ex .normal)))) (rg octroiref09_Same_r7)))

/-- ref.go:160 -/
def octroiref09_Same_r8 (env : Env) (h : Hp) (K : Env → Hp → Prop) : Prop :=
  K (env.set 4 (Go.Value.bool true)) h
@[congr] theorem octroiref09_Same_r8_congr {env : Env} {h : Hp} {K : Env → Hp → Prop} : octroiref09_Same_r8 env h K = octroiref09_Same_r8 env h K := rfl

def octroiref09_Same_D : Den := (sq (rg octroiref09_Same_r0) (sq (sq (rg octroiref09_Same_r1) (cnd (Go.Operand.tmp 10) (sq (rg octroiref09_Same_r2) (ex .ret)) (ex .normal))) (sq (sq (rg octroiref09_Same_r3) (blk 0 (lp octroiref09_Same_L0))) (sq (rg octroiref09_Same_r8) (ex .ret)))))

theorem octroiref09_Same_eq : (den Try.prog 26 octroiref09_Same_code).1 = octroiref09_Same_D := by kernel_rfl

theorem octroiref09_Same_ok {args : Array Value} {h : Hp} {Q : Value → Hp → Prop} (hn : args.size ≤ 26) (D : octroiref09_Same_D (fin Try.prog [(Go.ResultVar.tmp 4)] Q) (env0 args) h) : Ok Try.prog 18 args h Q :=
  ok_of_den progIsOk Try.func18 (c := octroiref09_Same_code) (by kernel_rfl) hn (by show (den Try.prog 26 octroiref09_Same_code).1 _ _ _; rw [octroiref09_Same_eq]; exact D)

/-! ### (*octroi/octroiref16.Rip).All: function 19 -/
noncomputable def octroiref16_Rip_All_code : Code := match Try.f19.body with | some c => c | none => .skip

/-- ref.go:64 -/
def octroiref16_Rip_All_r0 (env : Env) (h : Hp) (K : Env → Hp → Prop) : Prop :=
  K (env.set 2 (Go.Value.slice none 0 0)) h
@[congr] theorem octroiref16_Rip_All_r0_congr {env : Env} {h : Hp} {K : Env → Hp → Prop} : octroiref16_Rip_All_r0 env h K = octroiref16_Rip_All_r0 env h K := rfl

/-- ref.go:65 -/
def octroiref16_Rip_All_r1 (env : Env) (h : Hp) (K : Env → Hp → Prop) : Prop :=
  K (env.set 3 (Go.Value.slice none 0 0)) h
@[congr] theorem octroiref16_Rip_All_r1_congr {env : Env} {h : Hp} {K : Env → Hp → Prop} : octroiref16_Rip_All_r1 env h K = octroiref16_Rip_All_r1 env h K := rfl

/-- ref.go:66 -/
def octroiref16_Rip_All_r2 (env : Env) (h : Hp) (K : Env → Hp → Prop) : Prop :=
  K (env.set 4 (Go.Value.int Go.IntKind.i64 0)) h
@[congr] theorem octroiref16_Rip_All_r2_congr {env : Env} {h : Hp} {K : Env → Hp → Prop} : octroiref16_Rip_All_r2 env h K = octroiref16_Rip_All_r2 env h K := rfl

/-- ref.go:66 -/
def octroiref16_Rip_All_r3 (env : Env) (h : Hp) (K : Env → Hp → Prop) : Prop :=
  nck (env 0) (
  rd Try.prog (Instr.fieldAt 56 (env 0) 2) noHp fun v9_3 =>
  rd Try.prog (Instr.loadAt 54 v9_3) h fun v10_4 =>
  rd Try.prog (Builtin.len_ #[54] 3 #[v10_4]) h fun v11_5 =>
  rd Try.prog (bop Go.BinOp.lss 3 (Go.Operand.tmp 6) (Go.Operand.tmp 11) (env 4) v11_5) noHp fun v12_6 =>
  K (((((((env.set 6 (env 4)).set 7 (env 0)).set 8 (env 0)).set 9 v9_3).set 10 v10_4).set 11 v11_5).set 12 v12_6) h)
@[congr] theorem octroiref16_Rip_All_r3_congr {env : Env} {h : Hp} {K : Env → Hp → Prop} : octroiref16_Rip_All_r3 env h K = octroiref16_Rip_All_r3 env h K := rfl

/-- ref.go:67 -/
def octroiref16_Rip_All_r4 (env : Env) (h : Hp) (K : Env → Hp → Prop) : Prop :=
  nck (env 0) (
  rd Try.prog (Instr.fieldAt 56 (env 0) 2) noHp fun v17_2 =>
  rd Try.prog (Instr.loadAt 54 v17_2) h fun v18_3 =>
  rd Try.prog (Instr.indexAt 54 v18_3 (env 4)) noHp fun v20_5 =>
  rd Try.prog (Instr.loadAt 78 v20_5) h fun v21_6 =>
  arun Try.prog (Instr.alloc 78 true (Go.Value.tuple #[])) h fun v5_7 h1 =>
  arun Try.prog (Instr.storeAt 78 v5_7 v21_6) h1 fun _ h2 =>
  K ((((((((env.set 15 (env 0)).set 16 (env 0)).set 17 v17_2).set 18 v18_3).set 19 (env 4)).set 20 v20_5).set 21 v21_6).set 5 v5_7) h2)
@[congr] theorem octroiref16_Rip_All_r4_congr {env : Env} {h : Hp} {K : Env → Hp → Prop} : octroiref16_Rip_All_r4 env h K = octroiref16_Rip_All_r4 env h K := rfl

/-- ref.go:68 -/
def octroiref16_Rip_All_r5 (env : Env) (h : Hp) (K : Env → Hp → Prop) : Prop :=
  rd Try.prog (Instr.fieldAt 78 (env 5) 1) noHp fun v22_0 =>
  rd Try.prog (Instr.loadAt 3 v22_0) h fun v23_1 =>
  rd Try.prog (bop Go.BinOp.lss 3 (Go.Operand.tmp 23) (Go.Operand.const (Go.Value.int Go.IntKind.i64 16)) v23_1 (Go.Value.int Go.IntKind.i64 16)) noHp fun v24_2 =>
  K (((env.set 22 v22_0).set 23 v23_1).set 24 v24_2) h
@[congr] theorem octroiref16_Rip_All_r5_congr {env : Env} {h : Hp} {K : Env → Hp → Prop} : octroiref16_Rip_All_r5 env h K = octroiref16_Rip_All_r5 env h K := rfl

/-- ref.go:69 (in any order) -/
def octroiref16_Rip_All_r6 (env : Env) (h : Hp) (K : Env → Hp → Prop) : Prop :=
  rd Try.prog (Instr.fieldAt 78 (env 5) 0) noHp fun v26_1 =>
  rd Try.prog (Instr.loadAt 24 v26_1) h fun v27_2 =>
  nck (env 0) (
  rd Try.prog (Instr.fieldAt 56 (env 0) 0) noHp fun v30_5 =>
  rd Try.prog (Instr.loadAt 3 v30_5) h fun v31_6 =>
  rd Try.prog (Instr.fieldAt 78 (env 5) 1) noHp fun v32_7 =>
  rd Try.prog (Instr.loadAt 3 v32_7) h fun v33_8 =>
  rd Try.prog (Instr.fieldAt 78 (env 5) 3) noHp fun v34_9 =>
  rd Try.prog (Instr.loadAt 3 v34_9) h fun v35_10 =>
  rd Try.prog (Instr.fieldAt 78 (env 5) 2) noHp fun v36_11 =>
  rd Try.prog (Instr.loadAt 31 v36_11) h fun v37_12 =>
  rd Try.prog (Instr.build 38 #[(0, v27_2), (1, v31_6), (2, (Go.Value.int Go.IntKind.i64 120)), (3, v33_8), (4, v35_10), (5, v37_12)]) noHp fun v38_13 =>
  arun Try.prog (Instr.buildSlice 35 1 #[(0, v38_13)]) h fun v39_14 h1 =>
  (True) ∧
  arun Try.prog (Builtin.append_ #[35, 35] 35 #[(env 3), v39_14]) h1 fun v40_15 h2 =>
  (True) ∧
  K (((((((((((((((((env.set 25 (env 3)).set 26 v26_1).set 27 v27_2).set 28 (env 0)).set 29 (env 0)).set 30 v30_5).set 31 v31_6).set 32 v32_7).set 33 v33_8).set 34 v34_9).set 35 v35_10).set 36 v36_11).set 37 v37_12).set 38 v38_13).set 39 v39_14).set 40 v40_15).set 3 v40_15) h2)
@[congr] theorem octroiref16_Rip_All_r6_congr {env : Env} {h : Hp} {K : Env → Hp → Prop} : octroiref16_Rip_All_r6 env h K = octroiref16_Rip_All_r6 env h K := rfl

/-- ref.go:66 -/
def octroiref16_Rip_All_r7 (env : Env) (h : Hp) (K : Env → Hp → Prop) : Prop :=
  rd Try.prog (bop Go.BinOp.add 3 (Go.Operand.tmp 13) (Go.Operand.const (Go.Value.int Go.IntKind.i64 1)) (env 4) (Go.Value.int Go.IntKind.i64 1)) noHp fun v14_1 =>
  K (((env.set 13 (env 4)).set 14 v14_1).set 4 v14_1) h
@[congr] theorem octroiref16_Rip_All_r7_congr {env : Env} {h : Hp} {K : Env → Hp → Prop} : octroiref16_Rip_All_r7 env h K = octroiref16_Rip_All_r7 env h K := rfl

def octroiref16_Rip_All_L0 : Den := (sq (sq (rg octroiref16_Rip_All_r3) (cnd (Go.Operand.tmp 12) (ex .normal) (ex (.exit 0)))) (sq (blk 1 (sq (rg octroiref16_Rip_All_r4) (sq (rg octroiref16_Rip_All_r5) (cnd (Go.Operand.tmp 24) (rg octroiref16_Rip_All_r6) (ex .normal))))) (rg octroiref16_Rip_All_r7)))

/-- ref.go:72 -/
def octroiref16_Rip_All_r8 (env : Env) (h : Hp) (K : Env → Hp → Prop) : Prop :=
  K ((env.set 41 (env 3)).set 2 (env 3)) h
@[congr] theorem octroiref16_Rip_All_r8_congr {env : Env} {h : Hp} {K : Env → Hp → Prop} : octroiref16_Rip_All_r8 env h K = octroiref16_Rip_All_r8 env h K := rfl

def octroiref16_Rip_All_D : Den := (sq (rg octroiref16_Rip_All_r0) (sq (rg octroiref16_Rip_All_r1) (sq (sq (rg octroiref16_Rip_All_r2) (blk 0 (lp octroiref16_Rip_All_L0))) (sq (rg octroiref16_Rip_All_r8) (ex .ret)))))

theorem octroiref16_Rip_All_eq : (den Try.prog 42 octroiref16_Rip_All_code).1 = octroiref16_Rip_All_D := by kernel_rfl

theorem octroiref16_Rip_All_ok {args : Array Value} {h : Hp} {Q : Value → Hp → Prop} (hn : args.size ≤ 42) (D : octroiref16_Rip_All_D (fin Try.prog [(Go.ResultVar.tmp 2)] Q) (env0 args) h) : Ok Try.prog 19 args h Q :=
  ok_of_den progIsOk Try.func19 (c := octroiref16_Rip_All_code) (by kernel_rfl) hn (by show (den Try.prog 42 octroiref16_Rip_All_code).1 _ _ _; rw [octroiref16_Rip_All_eq]; exact D)

/-! ### octroi/octroiref16.Same: function 20 -/
noncomputable def octroiref16_Same_code : Code := match Try.f20.body with | some c => c | none => .skip

/-- ref.go:212 -/
def octroiref16_Same_r0 (env : Env) (h : Hp) (K : Env → Hp → Prop) : Prop :=
  K (env.set 4 (Go.Value.bool false)) h
@[congr] theorem octroiref16_Same_r0_congr {env : Env} {h : Hp} {K : Env → Hp → Prop} : octroiref16_Same_r0 env h K = octroiref16_Same_r0 env h K := rfl

/-- ref.go:213 -/
def octroiref16_Same_r1 (env : Env) (h : Hp) (K : Env → Hp → Prop) : Prop :=
  rd Try.prog (Builtin.len_ #[52] 3 #[(env 0)]) h fun v7_1 =>
  rd Try.prog (Builtin.len_ #[52] 3 #[(env 1)]) h fun v9_3 =>
  rd Try.prog (bop Go.BinOp.neq 3 (Go.Operand.tmp 7) (Go.Operand.tmp 9) v7_1 v9_3) noHp fun v10_4 =>
  K (((((env.set 6 (env 0)).set 7 v7_1).set 8 (env 1)).set 9 v9_3).set 10 v10_4) h
@[congr] theorem octroiref16_Same_r1_congr {env : Env} {h : Hp} {K : Env → Hp → Prop} : octroiref16_Same_r1 env h K = octroiref16_Same_r1 env h K := rfl

/-- ref.go:214 -/
def octroiref16_Same_r2 (env : Env) (h : Hp) (K : Env → Hp → Prop) : Prop :=
  K (env.set 4 (Go.Value.bool false)) h
@[congr] theorem octroiref16_Same_r2_congr {env : Env} {h : Hp} {K : Env → Hp → Prop} : octroiref16_Same_r2 env h K = octroiref16_Same_r2 env h K := rfl

/-- ref.go:216 -/
def octroiref16_Same_r3 (env : Env) (h : Hp) (K : Env → Hp → Prop) : Prop :=
  K (env.set 5 (Go.Value.int Go.IntKind.i64 0)) h
@[congr] theorem octroiref16_Same_r3_congr {env : Env} {h : Hp} {K : Env → Hp → Prop} : octroiref16_Same_r3 env h K = octroiref16_Same_r3 env h K := rfl

/-- ref.go:216 -/
def octroiref16_Same_r4 (env : Env) (h : Hp) (K : Env → Hp → Prop) : Prop :=
  rd Try.prog (Builtin.len_ #[52] 3 #[(env 0)]) h fun v13_2 =>
  rd Try.prog (bop Go.BinOp.lss 3 (Go.Operand.tmp 11) (Go.Operand.tmp 13) (env 5) v13_2) noHp fun v14_3 =>
  K ((((env.set 11 (env 5)).set 12 (env 0)).set 13 v13_2).set 14 v14_3) h
@[congr] theorem octroiref16_Same_r4_congr {env : Env} {h : Hp} {K : Env → Hp → Prop} : octroiref16_Same_r4 env h K = octroiref16_Same_r4 env h K := rfl

/-- ref.go:217 (in any order) -/
def octroiref16_Same_r5 (env : Env) (h : Hp) (K : Env → Hp → Prop) : Prop :=
  rd Try.prog (Instr.indexAt 52 (env 0) (env 5)) noHp fun v19_2 =>
  rd Try.prog (Instr.loadAt 33 v19_2) h fun v20_3 =>
  rd Try.prog (Instr.indexAt 52 (env 1) (env 5)) noHp fun v23_6 =>
  rd Try.prog (Instr.loadAt 33 v23_6) h fun v24_7 =>
  rd Try.prog (bop Go.BinOp.neq 33 (Go.Operand.tmp 20) (Go.Operand.tmp 24) v20_3 v24_7) noHp fun v25_8 =>
  K (((((((((env.set 17 (env 0)).set 18 (env 5)).set 19 v19_2).set 20 v20_3).set 21 (env 1)).set 22 (env 5)).set 23 v23_6).set 24 v24_7).set 25 v25_8) h
@[congr] theorem octroiref16_Same_r5_congr {env : Env} {h : Hp} {K : Env → Hp → Prop} : octroiref16_Same_r5 env h K = octroiref16_Same_r5 env h K := rfl

/-- ref.go:218 -/
def octroiref16_Same_r6 (env : Env) (h : Hp) (K : Env → Hp → Prop) : Prop :=
  K (env.set 4 (Go.Value.bool false)) h
@[congr] theorem octroiref16_Same_r6_congr {env : Env} {h : Hp} {K : Env → Hp → Prop} : octroiref16_Same_r6 env h K = octroiref16_Same_r6 env h K := rfl

/-- ref.go:216 -/
def octroiref16_Same_r7 (env : Env) (h : Hp) (K : Env → Hp → Prop) : Prop :=
  rd Try.prog (bop Go.BinOp.add 3 (Go.Operand.tmp 15) (Go.Operand.const (Go.Value.int Go.IntKind.i64 1)) (env 5) (Go.Value.int Go.IntKind.i64 1)) noHp fun v16_1 =>
  K (((env.set 15 (env 5)).set 16 v16_1).set 5 v16_1) h
@[congr] theorem octroiref16_Same_r7_congr {env : Env} {h : Hp} {K : Env → Hp → Prop} : octroiref16_Same_r7 env h K = octroiref16_Same_r7 env h K := rfl

def octroiref16_Same_L0 : Den := (sq (sq (rg octroiref16_Same_r4) (cnd (Go.Operand.tmp 14) (ex .normal) (ex (.exit 0)))) (sq (blk 1 (sq (rg octroiref16_Same_r5) (cnd (Go.Operand.tmp 25) (sq (rg octroiref16_Same_r6) (ex .ret)) (ex .normal)))) (rg octroiref16_Same_r7)))

/-- ref.go:221 -/
def octroiref16_Same_r8 (env : Env) (h : Hp) (K : Env → Hp → Prop) : Prop :=
  K (env.set 4 (Go.Value.bool true)) h
@[congr] theorem octroiref16_Same_r8_congr {env : Env} {h : Hp} {K : Env → Hp → Prop} : octroiref16_Same_r8 env h K = octroiref16_Same_r8 env h K := rfl

def octroiref16_Same_D : Den := (sq (rg octroiref16_Same_r0) (sq (sq (rg octroiref16_Same_r1) (cnd (Go.Operand.tmp 10) (sq (rg octroiref16_Same_r2) (ex .ret)) (ex .normal))) (sq (sq (rg octroiref16_Same_r3) (blk 0 (lp octroiref16_Same_L0))) (sq (rg octroiref16_Same_r8) (ex .ret)))))

theorem octroiref16_Same_eq : (den Try.prog 26 octroiref16_Same_code).1 = octroiref16_Same_D := by kernel_rfl

theorem octroiref16_Same_ok {args : Array Value} {h : Hp} {Q : Value → Hp → Prop} (hn : args.size ≤ 26) (D : octroiref16_Same_D (fin Try.prog [(Go.ResultVar.tmp 4)] Q) (env0 args) h) : Ok Try.prog 20 args h Q :=
  ok_of_den progIsOk Try.func20 (c := octroiref16_Same_code) (by kernel_rfl) hn (by show (den Try.prog 26 octroiref16_Same_code).1 _ _ _; rw [octroiref16_Same_eq]; exact D)

/-! ### (*octroi/rip.Rip).Tell: function 21 -/
noncomputable def rip_Rip_Tell_code : Code := match Try.f21.body with | some c => c | none => .skip

/-- rip.go:152 -/
def rip_Rip_Tell_r0 (env : Env) (h : Hp) (K : Env → Hp → Prop) : Prop :=
  K (env.set 4 (Go.Value.slice none 0 0)) h
@[congr] theorem rip_Rip_Tell_r0_congr {env : Env} {h : Hp} {K : Env → Hp → Prop} : rip_Rip_Tell_r0 env h K = rip_Rip_Tell_r0 env h K := rfl

/-- rip.go:153 -/
def rip_Rip_Tell_r1 (env : Env) (h : Hp) (K : Env → Hp → Prop) : Prop :=
  K (env.set 5 (Go.Value.slice none 0 0)) h
@[congr] theorem rip_Rip_Tell_r1_congr {env : Env} {h : Hp} {K : Env → Hp → Prop} : rip_Rip_Tell_r1 env h K = rip_Rip_Tell_r1 env h K := rfl

/-- rip.go:154 -/
def rip_Rip_Tell_r2 (env : Env) (h : Hp) (K : Env → Hp → Prop) : Prop :=
  Ok Try.prog 30 #[(env 0)] h fun v11_1 h1 =>
  rd Try.prog (Builtin.len_ #[74] 3 #[v11_1]) h1 fun v12_2 =>
  K ((((env.set 10 (env 0)).set 11 v11_1).set 12 v12_2).set 13 (Go.Value.int Go.IntKind.i64 0)) h1
@[congr] theorem rip_Rip_Tell_r2_congr {env : Env} {h : Hp} {K : Env → Hp → Prop} : rip_Rip_Tell_r2 env h K = rip_Rip_Tell_r2 env h K := rfl

/-- rip.go:154 -/
def rip_Rip_Tell_r3 (env : Env) (h : Hp) (K : Env → Hp → Prop) : Prop :=
  rd Try.prog (bop Go.BinOp.lss 3 (Go.Operand.tmp 13) (Go.Operand.tmp 12) (env 13) (env 12)) noHp fun v14_0 =>
  K (env.set 14 v14_0) h
@[congr] theorem rip_Rip_Tell_r3_congr {env : Env} {h : Hp} {K : Env → Hp → Prop} : rip_Rip_Tell_r3 env h K = rip_Rip_Tell_r3 env h K := rfl

/-- rip.go:154 -/
def rip_Rip_Tell_r4 (env : Env) (h : Hp) (K : Env → Hp → Prop) : Prop :=
  rd Try.prog (Instr.indexAt 74 (env 11) (env 13)) noHp fun v15_0 =>
  rd Try.prog (Instr.loadAt 24 v15_0) h fun v16_1 =>
  arun Try.prog (Instr.alloc 24 true (Go.Value.tuple #[])) h fun v7_2 h1 =>
  arun Try.prog (Instr.storeAt 24 v7_2 v16_1) h1 fun _ h2 =>
  K (((env.set 15 v15_0).set 16 v16_1).set 7 v7_2) h2
@[congr] theorem rip_Rip_Tell_r4_congr {env : Env} {h : Hp} {K : Env → Hp → Prop} : rip_Rip_Tell_r4 env h K = rip_Rip_Tell_r4 env h K := rfl

/-- rip.go:155 (in any order) -/
def rip_Rip_Tell_r5 (env : Env) (h : Hp) (K : Env → Hp → Prop) : Prop :=
  nck (env 0) (
  rd Try.prog (Instr.fieldAt 67 (env 0) 2) noHp fun v19_2 =>
  rd Try.prog (Instr.loadAt 65 v19_2) h fun v20_3 =>
  rd Try.prog (Instr.loadAt 24 (env 7)) h fun v21_4 =>
  rd Try.prog (Instr.lookup 65 v20_3 v21_4 false) h fun v22_5 =>
  K (((((((env.set 17 (env 0)).set 18 (env 0)).set 19 v19_2).set 20 v20_3).set 21 v21_4).set 22 v22_5).set 8 v22_5) h)
@[congr] theorem rip_Rip_Tell_r5_congr {env : Env} {h : Hp} {K : Env → Hp → Prop} : rip_Rip_Tell_r5 env h K = rip_Rip_Tell_r5 env h K := rfl

/-- rip.go:156 (in any order) -/
def rip_Rip_Tell_r6 (env : Env) (h : Hp) (K : Env → Hp → Prop) : Prop :=
  rd Try.prog (Instr.loadAt 24 (env 7)) h fun v23_0 =>
  nck (env 8) (
  rd Try.prog (Instr.fieldAt 73 (env 8) 3) noHp fun v26_3 =>
  rd Try.prog (Instr.loadAt 31 v26_3) h fun v27_4 =>
  nck (env 8) (
  rd Try.prog (Instr.fieldAt 73 (env 8) 0) noHp fun v30_7 =>
  rd Try.prog (Instr.loadAt 3 v30_7) h fun v31_8 =>
  rd Try.prog (Instr.build 33 #[(0, v23_0), (1, v27_4), (3, v31_8)]) noHp fun v32_9 =>
  arun Try.prog (Instr.alloc 33 true (Go.Value.tuple #[])) h fun v9_10 h1 =>
  (rrun Try.prog (Instr.loadAt 3 v30_7) h1 = some v31_8 ∧ rrun Try.prog (Instr.loadAt 31 v26_3) h1 = some v27_4 ∧ rrun Try.prog (Instr.loadAt 24 (env 7)) h1 = some v23_0 ∧ True) ∧
  arun Try.prog (Instr.storeAt 33 v9_10 v32_9) h1 fun _ h2 =>
  (True) ∧
  K (((((((((((env.set 23 v23_0).set 24 (env 8)).set 25 (env 8)).set 26 v26_3).set 27 v27_4).set 28 (env 8)).set 29 (env 8)).set 30 v30_7).set 31 v31_8).set 32 v32_9).set 9 v9_10) h2))
@[congr] theorem rip_Rip_Tell_r6_congr {env : Env} {h : Hp} {K : Env → Hp → Prop} : rip_Rip_Tell_r6 env h K = rip_Rip_Tell_r6 env h K := rfl

/-- rip.go:157 -/
def rip_Rip_Tell_r7 (env : Env) (h : Hp) (K : Env → Hp → Prop) : Prop :=
  rd Try.prog (bop Go.BinOp.neq 3 (Go.Operand.tmp 33) (Go.Operand.const (Go.Value.int Go.IntKind.i64 0)) (env 1) (Go.Value.int Go.IntKind.i64 0)) noHp fun v34_1 =>
  gd (yb v34_1 == some true) (fun h k => k (env 8) h) h fun v36_3 h1 =>
  gd (yb v34_1 == some true) (fun h k => nck v36_3 (k v36_3 h)) h1 fun v37_4 h2 =>
  gd (yb v34_1 == some true) (fun h k => rd Try.prog (Instr.fieldAt 73 v37_4 1) noHp fun v => k v h) h2 fun v38_5 h3 =>
  gd (yb v34_1 == some true) (fun h k => rd Try.prog (Instr.loadAt 3 v38_5) h fun v => k v h) h3 fun v39_6 h4 =>
  gd (yb v34_1 == some true) (fun h k => k (env 1) h) h4 fun v40_7 h5 =>
  gd (yb v34_1 == some true) (fun h k => rd Try.prog (bop Go.BinOp.eql 3 (Go.Operand.tmp 39) (Go.Operand.tmp 40) v39_6 v40_7) noHp fun v => k v h) h5 fun v41_8 h6 =>
  rd Try.prog (pck v34_1 v41_8 (Go.Value.bool false)) noHp fun v42_9 =>
  K ((((((((((env.set 33 (env 1)).set 34 v34_1).set 35 v34_1).set 36 v36_3).set 37 v37_4).set 38 v38_5).set 39 v39_6).set 40 v40_7).set 41 v41_8).set 42 v42_9) h6
@[congr] theorem rip_Rip_Tell_r7_congr {env : Env} {h : Hp} {K : Env → Hp → Prop} : rip_Rip_Tell_r7 env h K = rip_Rip_Tell_r7 env h K := rfl

/-- rip.go:158 -/
def rip_Rip_Tell_r8 (env : Env) (h : Hp) (K : Env → Hp → Prop) : Prop :=
  rd Try.prog (Instr.fieldAt 33 (env 9) 3) noHp fun v43_0 =>
  arun Try.prog (Instr.storeAt 3 v43_0 (Go.Value.int Go.IntKind.i64 16)) h fun _ h1 =>
  K (env.set 43 v43_0) h1
@[congr] theorem rip_Rip_Tell_r8_congr {env : Env} {h : Hp} {K : Env → Hp → Prop} : rip_Rip_Tell_r8 env h K = rip_Rip_Tell_r8 env h K := rfl

/-- rip.go:160 -/
def rip_Rip_Tell_r9 (env : Env) (h : Hp) (K : Env → Hp → Prop) : Prop :=
  rd Try.prog (Instr.loadAt 33 (env 9)) h fun v45_1 =>
  arun Try.prog (Instr.buildSlice 52 1 #[(0, v45_1)]) h fun v46_2 h1 =>
  arun Try.prog (Builtin.append_ #[52, 52] 52 #[(env 5), v46_2]) h1 fun v47_3 h2 =>
  K (((((env.set 44 (env 5)).set 45 v45_1).set 46 v46_2).set 47 v47_3).set 5 v47_3) h2
@[congr] theorem rip_Rip_Tell_r9_congr {env : Env} {h : Hp} {K : Env → Hp → Prop} : rip_Rip_Tell_r9 env h K = rip_Rip_Tell_r9 env h K := rfl

/-- rip.go:154 -/
def rip_Rip_Tell_r10 (env : Env) (h : Hp) (K : Env → Hp → Prop) : Prop :=
  rd Try.prog (bop Go.BinOp.add 3 (Go.Operand.tmp 13) (Go.Operand.const (Go.Value.int Go.IntKind.i64 1)) (env 13) (Go.Value.int Go.IntKind.i64 1)) noHp fun v48_0 =>
  K ((env.set 48 v48_0).set 13 v48_0) h
@[congr] theorem rip_Rip_Tell_r10_congr {env : Env} {h : Hp} {K : Env → Hp → Prop} : rip_Rip_Tell_r10 env h K = rip_Rip_Tell_r10 env h K := rfl

def rip_Rip_Tell_L0 : Den := (sq (rg rip_Rip_Tell_r3) (sq (cnd (Go.Operand.tmp 14) (ex .normal) (ex (.exit 0))) (sq (blk 1 (sq (rg rip_Rip_Tell_r4) (sq (rg rip_Rip_Tell_r5) (sq (rg rip_Rip_Tell_r6) (sq (sq (rg rip_Rip_Tell_r7) (cnd (Go.Operand.tmp 42) (rg rip_Rip_Tell_r8) (ex .normal))) (rg rip_Rip_Tell_r9)))))) (rg rip_Rip_Tell_r10))))

/-- rip.go:162 -/
def rip_Rip_Tell_r11 (env : Env) (h : Hp) (K : Env → Hp → Prop) : Prop :=
  K ((env.set 49 (env 5)).set 4 (env 5)) h
@[congr] theorem rip_Rip_Tell_r11_congr {env : Env} {h : Hp} {K : Env → Hp → Prop} : rip_Rip_Tell_r11 env h K = rip_Rip_Tell_r11 env h K := rfl

def rip_Rip_Tell_D : Den := (sq (rg rip_Rip_Tell_r0) (sq (rg rip_Rip_Tell_r1) (sq (sq (rg rip_Rip_Tell_r2) (blk 0 (lp rip_Rip_Tell_L0))) (sq (rg rip_Rip_Tell_r11) (ex .ret)))))

theorem rip_Rip_Tell_eq : (den Try.prog 50 rip_Rip_Tell_code).1 = rip_Rip_Tell_D := by kernel_rfl

theorem rip_Rip_Tell_ok {args : Array Value} {h : Hp} {Q : Value → Hp → Prop} (hn : args.size ≤ 50) (D : rip_Rip_Tell_D (fin Try.prog [(Go.ResultVar.tmp 4)] Q) (env0 args) h) : Ok Try.prog 21 args h Q :=
  ok_of_den progIsOk Try.func21 (c := rip_Rip_Tell_code) (by kernel_rfl) hn (by show (den Try.prog 50 rip_Rip_Tell_code).1 _ _ _; rw [rip_Rip_Tell_eq]; exact D)

/-! ### (*octroi/octroiref16.Rip).Tell: function 22 -/
noncomputable def octroiref16_Rip_Tell_code : Code := match Try.f22.body with | some c => c | none => .skip

/-- ref.go:199 -/
def octroiref16_Rip_Tell_r0 (env : Env) (h : Hp) (K : Env → Hp → Prop) : Prop :=
  K (env.set 4 (Go.Value.slice none 0 0)) h
@[congr] theorem octroiref16_Rip_Tell_r0_congr {env : Env} {h : Hp} {K : Env → Hp → Prop} : octroiref16_Rip_Tell_r0 env h K = octroiref16_Rip_Tell_r0 env h K := rfl

/-- ref.go:200 -/
def octroiref16_Rip_Tell_r1 (env : Env) (h : Hp) (K : Env → Hp → Prop) : Prop :=
  K (env.set 5 (Go.Value.slice none 0 0)) h
@[congr] theorem octroiref16_Rip_Tell_r1_congr {env : Env} {h : Hp} {K : Env → Hp → Prop} : octroiref16_Rip_Tell_r1 env h K = octroiref16_Rip_Tell_r1 env h K := rfl

/-- ref.go:201 -/
def octroiref16_Rip_Tell_r2 (env : Env) (h : Hp) (K : Env → Hp → Prop) : Prop :=
  K (env.set 6 (Go.Value.int Go.IntKind.i64 0)) h
@[congr] theorem octroiref16_Rip_Tell_r2_congr {env : Env} {h : Hp} {K : Env → Hp → Prop} : octroiref16_Rip_Tell_r2 env h K = octroiref16_Rip_Tell_r2 env h K := rfl

/-- ref.go:201 -/
def octroiref16_Rip_Tell_r3 (env : Env) (h : Hp) (K : Env → Hp → Prop) : Prop :=
  nck (env 0) (
  rd Try.prog (Instr.fieldAt 56 (env 0) 2) noHp fun v11_3 =>
  rd Try.prog (Instr.loadAt 54 v11_3) h fun v12_4 =>
  rd Try.prog (Builtin.len_ #[54] 3 #[v12_4]) h fun v13_5 =>
  rd Try.prog (bop Go.BinOp.lss 3 (Go.Operand.tmp 8) (Go.Operand.tmp 13) (env 6) v13_5) noHp fun v14_6 =>
  K (((((((env.set 8 (env 6)).set 9 (env 0)).set 10 (env 0)).set 11 v11_3).set 12 v12_4).set 13 v13_5).set 14 v14_6) h)
@[congr] theorem octroiref16_Rip_Tell_r3_congr {env : Env} {h : Hp} {K : Env → Hp → Prop} : octroiref16_Rip_Tell_r3 env h K = octroiref16_Rip_Tell_r3 env h K := rfl

/-- ref.go:202 -/
def octroiref16_Rip_Tell_r4 (env : Env) (h : Hp) (K : Env → Hp → Prop) : Prop :=
  nck (env 0) (
  rd Try.prog (Instr.fieldAt 56 (env 0) 2) noHp fun v19_2 =>
  rd Try.prog (Instr.loadAt 54 v19_2) h fun v20_3 =>
  rd Try.prog (Instr.indexAt 54 v20_3 (env 6)) noHp fun v22_5 =>
  rd Try.prog (Instr.loadAt 78 v22_5) h fun v23_6 =>
  arun Try.prog (Instr.alloc 78 true (Go.Value.tuple #[])) h fun v7_7 h1 =>
  arun Try.prog (Instr.storeAt 78 v7_7 v23_6) h1 fun _ h2 =>
  K ((((((((env.set 17 (env 0)).set 18 (env 0)).set 19 v19_2).set 20 v20_3).set 21 (env 6)).set 22 v22_5).set 23 v23_6).set 7 v7_7) h2)
@[congr] theorem octroiref16_Rip_Tell_r4_congr {env : Env} {h : Hp} {K : Env → Hp → Prop} : octroiref16_Rip_Tell_r4 env h K = octroiref16_Rip_Tell_r4 env h K := rfl

/-- ref.go:203 -/
def octroiref16_Rip_Tell_r5 (env : Env) (h : Hp) (K : Env → Hp → Prop) : Prop :=
  rd Try.prog (bop Go.BinOp.neq 3 (Go.Operand.tmp 24) (Go.Operand.const (Go.Value.int Go.IntKind.i64 0)) (env 1) (Go.Value.int Go.IntKind.i64 0)) noHp fun v25_1 =>
  gd (yb v25_1 == some true) (fun h k => rd Try.prog (Instr.fieldAt 78 (env 7) 3) noHp fun v => k v h) h fun v27_3 h1 =>
  gd (yb v25_1 == some true) (fun h k => rd Try.prog (Instr.loadAt 3 v27_3) h fun v => k v h) h1 fun v28_4 h2 =>
  gd (yb v25_1 == some true) (fun h k => k (env 1) h) h2 fun v29_5 h3 =>
  gd (yb v25_1 == some true) (fun h k => rd Try.prog (bop Go.BinOp.eql 3 (Go.Operand.tmp 28) (Go.Operand.tmp 29) v28_4 v29_5) noHp fun v => k v h) h3 fun v30_6 h4 =>
  rd Try.prog (pck v25_1 v30_6 (Go.Value.bool false)) noHp fun v31_7 =>
  K ((((((((env.set 24 (env 1)).set 25 v25_1).set 26 v25_1).set 27 v27_3).set 28 v28_4).set 29 v29_5).set 30 v30_6).set 31 v31_7) h4
@[congr] theorem octroiref16_Rip_Tell_r5_congr {env : Env} {h : Hp} {K : Env → Hp → Prop} : octroiref16_Rip_Tell_r5 env h K = octroiref16_Rip_Tell_r5 env h K := rfl

/-- ref.go:204 -/
def octroiref16_Rip_Tell_r6 (env : Env) (h : Hp) (K : Env → Hp → Prop) : Prop :=
  rd Try.prog (Instr.fieldAt 78 (env 7) 1) noHp fun v32_0 =>
  arun Try.prog (Instr.storeAt 3 v32_0 (Go.Value.int Go.IntKind.i64 16)) h fun _ h1 =>
  K (env.set 32 v32_0) h1
@[congr] theorem octroiref16_Rip_Tell_r6_congr {env : Env} {h : Hp} {K : Env → Hp → Prop} : octroiref16_Rip_Tell_r6 env h K = octroiref16_Rip_Tell_r6 env h K := rfl

/-- ref.go:206 -/
def octroiref16_Rip_Tell_r7 (env : Env) (h : Hp) (K : Env → Hp → Prop) : Prop :=
  rd Try.prog (Instr.fieldAt 78 (env 7) 0) noHp fun v34_1 =>
  rd Try.prog (Instr.loadAt 24 v34_1) h fun v35_2 =>
  rd Try.prog (Instr.fieldAt 78 (env 7) 2) noHp fun v36_3 =>
  rd Try.prog (Instr.loadAt 31 v36_3) h fun v37_4 =>
  rd Try.prog (Instr.fieldAt 78 (env 7) 1) noHp fun v38_5 =>
  rd Try.prog (Instr.loadAt 3 v38_5) h fun v39_6 =>
  rd Try.prog (Instr.build 33 #[(0, v35_2), (1, v37_4), (3, v39_6)]) noHp fun v40_7 =>
  arun Try.prog (Instr.buildSlice 52 1 #[(0, v40_7)]) h fun v41_8 h1 =>
  arun Try.prog (Builtin.append_ #[52, 52] 52 #[(env 5), v41_8]) h1 fun v42_9 h2 =>
  K (((((((((((env.set 33 (env 5)).set 34 v34_1).set 35 v35_2).set 36 v36_3).set 37 v37_4).set 38 v38_5).set 39 v39_6).set 40 v40_7).set 41 v41_8).set 42 v42_9).set 5 v42_9) h2
@[congr] theorem octroiref16_Rip_Tell_r7_congr {env : Env} {h : Hp} {K : Env → Hp → Prop} : octroiref16_Rip_Tell_r7 env h K = octroiref16_Rip_Tell_r7 env h K := rfl

/-- ref.go:201 -/
def octroiref16_Rip_Tell_r8 (env : Env) (h : Hp) (K : Env → Hp → Prop) : Prop :=
  rd Try.prog (bop Go.BinOp.add 3 (Go.Operand.tmp 15) (Go.Operand.const (Go.Value.int Go.IntKind.i64 1)) (env 6) (Go.Value.int Go.IntKind.i64 1)) noHp fun v16_1 =>
  K (((env.set 15 (env 6)).set 16 v16_1).set 6 v16_1) h
@[congr] theorem octroiref16_Rip_Tell_r8_congr {env : Env} {h : Hp} {K : Env → Hp → Prop} : octroiref16_Rip_Tell_r8 env h K = octroiref16_Rip_Tell_r8 env h K := rfl

def octroiref16_Rip_Tell_L0 : Den := (sq (sq (rg octroiref16_Rip_Tell_r3) (cnd (Go.Operand.tmp 14) (ex .normal) (ex (.exit 0)))) (sq (blk 1 (sq (rg octroiref16_Rip_Tell_r4) (sq (sq (rg octroiref16_Rip_Tell_r5) (cnd (Go.Operand.tmp 31) (rg octroiref16_Rip_Tell_r6) (ex .normal))) (rg octroiref16_Rip_Tell_r7)))) (rg octroiref16_Rip_Tell_r8)))

/-- ref.go:208 -/
def octroiref16_Rip_Tell_r9 (env : Env) (h : Hp) (K : Env → Hp → Prop) : Prop :=
  K ((env.set 43 (env 5)).set 4 (env 5)) h
@[congr] theorem octroiref16_Rip_Tell_r9_congr {env : Env} {h : Hp} {K : Env → Hp → Prop} : octroiref16_Rip_Tell_r9 env h K = octroiref16_Rip_Tell_r9 env h K := rfl

def octroiref16_Rip_Tell_D : Den := (sq (rg octroiref16_Rip_Tell_r0) (sq (rg octroiref16_Rip_Tell_r1) (sq (sq (rg octroiref16_Rip_Tell_r2) (blk 0 (lp octroiref16_Rip_Tell_L0))) (sq (rg octroiref16_Rip_Tell_r9) (ex .ret)))))

theorem octroiref16_Rip_Tell_eq : (den Try.prog 44 octroiref16_Rip_Tell_code).1 = octroiref16_Rip_Tell_D := by kernel_rfl

theorem octroiref16_Rip_Tell_ok {args : Array Value} {h : Hp} {Q : Value → Hp → Prop} (hn : args.size ≤ 44) (D : octroiref16_Rip_Tell_D (fin Try.prog [(Go.ResultVar.tmp 4)] Q) (env0 args) h) : Ok Try.prog 22 args h Q :=
  ok_of_den progIsOk Try.func22 (c := octroiref16_Rip_Tell_code) (by kernel_rfl) hn (by show (den Try.prog 44 octroiref16_Rip_Tell_code).1 _ _ _; rw [octroiref16_Rip_Tell_eq]; exact D)

/-! ### octroi/tags.Has: function 23 -/
noncomputable def tags_Has_code : Code := match Try.f23.body with | some c => c | none => .skip

/-- tags.go:10 -/
def tags_Has_r0 (env : Env) (h : Hp) (K : Env → Hp → Prop) : Prop :=
  K (env.set 4 (Go.Value.bool false)) h
@[congr] theorem tags_Has_r0_congr {env : Env} {h : Hp} {K : Env → Hp → Prop} : tags_Has_r0 env h K = tags_Has_r0 env h K := rfl

/-- tags.go:10 -/
def tags_Has_r1 (env : Env) (h : Hp) (K : Env → Hp → Prop) : Prop :=
  Ok Try.prog 38 #[(env 1)] h fun v6_1 h1 =>
  gd (yb v6_1 == some true) (fun h k => k (env 0) h) h1 fun v8_3 h2 =>
  gd (yb v6_1 == some true) (fun h k => k (env 1) h) h2 fun v9_4 h3 =>
  gd (yb v6_1 == some true) (fun h k => rd Try.prog (bop Go.BinOp.shr 31 (Go.Operand.tmp 8) (Go.Operand.tmp 9) v8_3 v9_4) noHp fun v => k v h) h3 fun v10_5 h4 =>
  gd (yb v6_1 == some true) (fun h k => rd Try.prog (bop Go.BinOp.and 31 (Go.Operand.tmp 10) (Go.Operand.const (Go.Value.int Go.IntKind.u16 1)) v10_5 (Go.Value.int Go.IntKind.u16 1)) noHp fun v => k v h) h4 fun v11_6 h5 =>
  gd (yb v6_1 == some true) (fun h k => rd Try.prog (bop Go.BinOp.eql 31 (Go.Operand.tmp 11) (Go.Operand.const (Go.Value.int Go.IntKind.u16 1)) v11_6 (Go.Value.int Go.IntKind.u16 1)) noHp fun v => k v h) h5 fun v12_7 h6 =>
  rd Try.prog (pck v6_1 v12_7 (Go.Value.bool false)) noHp fun v13_8 =>
  K ((((((((((env.set 5 (env 1)).set 6 v6_1).set 7 v6_1).set 8 v8_3).set 9 v9_4).set 10 v10_5).set 11 v11_6).set 12 v12_7).set 13 v13_8).set 4 v13_8) h6
@[congr] theorem tags_Has_r1_congr {env : Env} {h : Hp} {K : Env → Hp → Prop} : tags_Has_r1 env h K = tags_Has_r1 env h K := rfl

def tags_Has_D : Den := (sq (rg tags_Has_r0) (sq (rg tags_Has_r1) (ex .ret)))

theorem tags_Has_eq : (den Try.prog 14 tags_Has_code).1 = tags_Has_D := by kernel_rfl

theorem tags_Has_ok {args : Array Value} {h : Hp} {Q : Value → Hp → Prop} (hn : args.size ≤ 14) (D : tags_Has_D (fin Try.prog [(Go.ResultVar.tmp 4)] Q) (env0 args) h) : Ok Try.prog 23 args h Q :=
  ok_of_den progIsOk Try.func23 (c := tags_Has_code) (by kernel_rfl) hn (by show (den Try.prog 14 tags_Has_code).1 _ _ _; rw [tags_Has_eq]; exact D)

/-! ### (*octroi/rip.Rip).Own: function 24 -/
noncomputable def rip_Rip_Own_code : Code := match Try.f24.body with | some c => c | none => .skip

/-- rip.go:58 -/
def rip_Rip_Own_r0 (env : Env) (h : Hp) (K : Env → Hp → Prop) : Prop :=
  arun Try.prog (Instr.box 24 (env 1)) h fun v6_0 h1 =>
  K ((env.set 6 v6_0).set 10 (Go.Value.int Go.IntKind.i64 0)) h1
@[congr] theorem rip_Rip_Own_r0_congr {env : Env} {h : Hp} {K : Env → Hp → Prop} : rip_Rip_Own_r0 env h K = rip_Rip_Own_r0 env h K := rfl

/-- rip.go:60 -/
def rip_Rip_Own_r1 (env : Env) (h : Hp) (K : Env → Hp → Prop) : Prop :=
  rd Try.prog (Instr.loadAt 24 (env 6)) h fun v12_0 =>
  Ok Try.prog 27 #[v12_0] h fun v13_1 h1 =>
  rd Try.prog (Op.unary Go.UnOp.not v13_1) noHp fun v14_2 =>
  gd (yb v14_2 == some false) (fun h k => k (env 2) h) h1 fun v16_4 h2 =>
  gd (yb v14_2 == some false) (fun h k => rd Try.prog (bop Go.BinOp.lss 3 (Go.Operand.tmp 16) (Go.Operand.const (Go.Value.int Go.IntKind.i64 1)) v16_4 (Go.Value.int Go.IntKind.i64 1)) noHp fun v => k v h) h2 fun v17_5 h3 =>
  rd Try.prog (pck v14_2 (Go.Value.bool true) v17_5) noHp fun v18_6 =>
  gd (yb v18_6 == some false) (fun h k => k (env 2) h) h3 fun v20_8 h4 =>
  gd (yb v18_6 == some false) (fun h k => rd Try.prog (bop Go.BinOp.geq 3 (Go.Operand.tmp 20) (Go.Operand.const (Go.Value.int Go.IntKind.i64 16)) v20_8 (Go.Value.int Go.IntKind.i64 16)) noHp fun v => k v h) h4 fun v21_9 h5 =>
  rd Try.prog (pck v18_6 (Go.Value.bool true) v21_9) noHp fun v22_10 =>
  K ((((((((((((env.set 12 v12_0).set 13 v13_1).set 14 v14_2).set 15 v14_2).set 16 v16_4).set 17 v17_5).set 18 v18_6).set 19 v18_6).set 20 v20_8).set 21 v21_9).set 22 v22_10).set 11 v22_10) h5
@[congr] theorem rip_Rip_Own_r1_congr {env : Env} {h : Hp} {K : Env → Hp → Prop} : rip_Rip_Own_r1 env h K = rip_Rip_Own_r1 env h K := rfl

/-- rip.go:61 -/
def rip_Rip_Own_r2 (env : Env) (h : Hp) (K : Env → Hp → Prop) : Prop :=
  K (env.set 10 (Go.Value.int Go.IntKind.i64 1)) h
@[congr] theorem rip_Rip_Own_r2_congr {env : Env} {h : Hp} {K : Env → Hp → Prop} : rip_Rip_Own_r2 env h K = rip_Rip_Own_r2 env h K := rfl

/-- rip.go:62 -/
def rip_Rip_Own_r3 (env : Env) (h : Hp) (K : Env → Hp → Prop) : Prop :=
  nck (env 0) (
  rd Try.prog (Instr.fieldAt 67 (env 0) 0) noHp fun v27_3 =>
  rd Try.prog (Instr.loadAt 3 v27_3) h fun v28_4 =>
  Ok Try.prog 23 #[(env 3), v28_4] h fun v29_5 h1 =>
  K (((((((env.set 24 (env 3)).set 25 (env 0)).set 26 (env 0)).set 27 v27_3).set 28 v28_4).set 29 v29_5).set 23 v29_5) h1)
@[congr] theorem rip_Rip_Own_r3_congr {env : Env} {h : Hp} {K : Env → Hp → Prop} : rip_Rip_Own_r3 env h K = rip_Rip_Own_r3 env h K := rfl

/-- rip.go:63 -/
def rip_Rip_Own_r4 (env : Env) (h : Hp) (K : Env → Hp → Prop) : Prop :=
  K (env.set 10 (Go.Value.int Go.IntKind.i64 6)) h
@[congr] theorem rip_Rip_Own_r4_congr {env : Env} {h : Hp} {K : Env → Hp → Prop} : rip_Rip_Own_r4 env h K = rip_Rip_Own_r4 env h K := rfl

/-- rip.go:64 (in any order) -/
def rip_Rip_Own_r5 (env : Env) (h : Hp) (K : Env → Hp → Prop) : Prop :=
  nck (env 0) (
  rd Try.prog (Instr.fieldAt 67 (env 0) 2) noHp fun v33_2 =>
  rd Try.prog (Instr.loadAt 65 v33_2) h fun v34_3 =>
  rd Try.prog (Instr.loadAt 24 (env 6)) h fun v35_4 =>
  rd Try.prog (Instr.lookup 65 v34_3 v35_4 false) h fun v36_5 =>
  rd Try.prog (bop Go.BinOp.eql 70 (Go.Operand.tmp 36) (Go.Operand.const (Go.Value.pointer none)) v36_5 (Go.Value.pointer none)) noHp fun v37_6 =>
  gd (yb v37_6 == some true) (fun h k => k (env 0) h) h fun v39_8 h1 =>
  gd (yb v37_6 == some true) (fun h k => nck v39_8 (k v39_8 h)) h1 fun v40_9 h2 =>
  gd (yb v37_6 == some true) (fun h k => rd Try.prog (Instr.fieldAt 67 v40_9 2) noHp fun v => k v h) h2 fun v41_10 h3 =>
  gd (yb v37_6 == some true) (fun h k => rd Try.prog (Instr.loadAt 65 v41_10) h fun v => k v h) h3 fun v42_11 h4 =>
  gd (yb v37_6 == some true) (fun h k => rd Try.prog (Builtin.len_ #[65] 3 #[v42_11]) h fun v => k v h) h4 fun v43_12 h5 =>
  gd (yb v37_6 == some true) (fun h k => k (env 0) h) h5 fun v44_13 h6 =>
  gd (yb v37_6 == some true) (fun h k => nck v44_13 (k v44_13 h)) h6 fun v45_14 h7 =>
  gd (yb v37_6 == some true) (fun h k => rd Try.prog (Instr.fieldAt 67 v45_14 1) noHp fun v => k v h) h7 fun v46_15 h8 =>
  gd (yb v37_6 == some true) (fun h k => rd Try.prog (Instr.loadAt 3 v46_15) h fun v => k v h) h8 fun v47_16 h9 =>
  gd (yb v37_6 == some true) (fun h k => rd Try.prog (bop Go.BinOp.geq 3 (Go.Operand.tmp 43) (Go.Operand.tmp 47) v43_12 v47_16) noHp fun v => k v h) h9 fun v48_17 h10 =>
  rd Try.prog (pck v37_6 v48_17 (Go.Value.bool false)) noHp fun v49_18 =>
  K ((((((((((((((((((((env.set 31 (env 0)).set 32 (env 0)).set 33 v33_2).set 34 v34_3).set 35 v35_4).set 36 v36_5).set 37 v37_6).set 38 v37_6).set 39 v39_8).set 40 v40_9).set 41 v41_10).set 42 v42_11).set 43 v43_12).set 44 v44_13).set 45 v45_14).set 46 v46_15).set 47 v47_16).set 48 v48_17).set 49 v49_18).set 30 v49_18) h10)
@[congr] theorem rip_Rip_Own_r5_congr {env : Env} {h : Hp} {K : Env → Hp → Prop} : rip_Rip_Own_r5 env h K = rip_Rip_Own_r5 env h K := rfl

/-- rip.go:65 -/
def rip_Rip_Own_r6 (env : Env) (h : Hp) (K : Env → Hp → Prop) : Prop :=
  K (env.set 10 (Go.Value.int Go.IntKind.i64 4)) h
@[congr] theorem rip_Rip_Own_r6_congr {env : Env} {h : Hp} {K : Env → Hp → Prop} : rip_Rip_Own_r6 env h K = rip_Rip_Own_r6 env h K := rfl

/-- rip.go:67 (in any order) -/
def rip_Rip_Own_r7 (env : Env) (h : Hp) (K : Env → Hp → Prop) : Prop :=
  nck (env 0) (
  rd Try.prog (Instr.fieldAt 67 (env 0) 2) noHp fun v52_2 =>
  rd Try.prog (Instr.loadAt 65 v52_2) h fun v53_3 =>
  rd Try.prog (Instr.loadAt 24 (env 6)) h fun v54_4 =>
  rd Try.prog (Instr.build 73 #[(0, (env 2)), (3, (env 3))]) noHp fun v57_7 =>
  arun Try.prog (Instr.box 73 v57_7) h fun v58_8 h1 =>
  (rrun Try.prog (Instr.loadAt 24 (env 6)) h1 = some v54_4 ∧ rrun Try.prog (Instr.loadAt 65 v52_2) h1 = some v53_3 ∧ True) ∧
  arun Try.prog (Instr.mapUpdate 65 v53_3 v54_4 v58_8) h1 fun _ h2 =>
  (True) ∧
  K (((((((((env.set 50 (env 0)).set 51 (env 0)).set 52 v52_2).set 53 v53_3).set 54 v54_4).set 55 (env 2)).set 56 (env 3)).set 57 v57_7).set 58 v58_8) h2)
@[congr] theorem rip_Rip_Own_r7_congr {env : Env} {h : Hp} {K : Env → Hp → Prop} : rip_Rip_Own_r7 env h K = rip_Rip_Own_r7 env h K := rfl

/-- rip.go:68 -/
def rip_Rip_Own_r8 (env : Env) (h : Hp) (K : Env → Hp → Prop) : Prop :=
  K (env.set 10 (Go.Value.int Go.IntKind.i64 0)) h
@[congr] theorem rip_Rip_Own_r8_congr {env : Env} {h : Hp} {K : Env → Hp → Prop} : rip_Rip_Own_r8 env h K = rip_Rip_Own_r8 env h K := rfl

def rip_Rip_Own_D : Den := (sq (rg rip_Rip_Own_r0) (sq (blk 0 (sq (rg rip_Rip_Own_r1) (cnd (Go.Operand.tmp 11) (sq (rg rip_Rip_Own_r2) (ex .ret)) (sq (rg rip_Rip_Own_r3) (cnd (Go.Operand.tmp 23) (sq (rg rip_Rip_Own_r4) (ex .ret)) (sq (rg rip_Rip_Own_r5) (cnd (Go.Operand.tmp 30) (sq (rg rip_Rip_Own_r6) (ex .ret)) (ex .normal)))))))) (sq (rg rip_Rip_Own_r7) (sq (rg rip_Rip_Own_r8) (ex .ret)))))

theorem rip_Rip_Own_eq : (den Try.prog 59 rip_Rip_Own_code).1 = rip_Rip_Own_D := by kernel_rfl

theorem rip_Rip_Own_ok {args : Array Value} {h : Hp} {Q : Value → Hp → Prop} (hn : args.size ≤ 59) (D : rip_Rip_Own_D (fin Try.prog [(Go.ResultVar.tmp 10)] Q) (env0 args) h) : Ok Try.prog 24 args h Q :=
  ok_of_den progIsOk Try.func24 (c := rip_Rip_Own_code) (by kernel_rfl) hn (by show (den Try.prog 59 rip_Rip_Own_code).1 _ _ _; rw [rip_Rip_Own_eq]; exact D)

/-! ### (*octroi/rip.Rip).Drop: function 25 -/
noncomputable def rip_Rip_Drop_code : Code := match Try.f25.body with | some c => c | none => .skip

/-- rip.go:72 -/
def rip_Rip_Drop_r0 (env : Env) (h : Hp) (K : Env → Hp → Prop) : Prop :=
  arun Try.prog (Instr.box 24 (env 1)) h fun v4_0 h1 =>
  K ((env.set 4 v4_0).set 6 (Go.Value.int Go.IntKind.i64 0)) h1
@[congr] theorem rip_Rip_Drop_r0_congr {env : Env} {h : Hp} {K : Env → Hp → Prop} : rip_Rip_Drop_r0 env h K = rip_Rip_Drop_r0 env h K := rfl

/-- rip.go:73 (in any order) -/
def rip_Rip_Drop_r1 (env : Env) (h : Hp) (K : Env → Hp → Prop) : Prop :=
  nck (env 0) (
  rd Try.prog (Instr.fieldAt 67 (env 0) 2) noHp fun v10_2 =>
  rd Try.prog (Instr.loadAt 65 v10_2) h fun v11_3 =>
  rd Try.prog (Instr.loadAt 24 (env 4)) h fun v12_4 =>
  rd Try.prog (Instr.lookup 65 v11_3 v12_4 false) h fun v13_5 =>
  K (((((((env.set 8 (env 0)).set 9 (env 0)).set 10 v10_2).set 11 v11_3).set 12 v12_4).set 13 v13_5).set 7 v13_5) h)
@[congr] theorem rip_Rip_Drop_r1_congr {env : Env} {h : Hp} {K : Env → Hp → Prop} : rip_Rip_Drop_r1 env h K = rip_Rip_Drop_r1 env h K := rfl

/-- rip.go:74 -/
def rip_Rip_Drop_r2 (env : Env) (h : Hp) (K : Env → Hp → Prop) : Prop :=
  rd Try.prog (bop Go.BinOp.eql 70 (Go.Operand.tmp 14) (Go.Operand.const (Go.Value.pointer none)) (env 7) (Go.Value.pointer none)) noHp fun v15_1 =>
  gd (yb v15_1 == some false) (fun h k => k (env 7) h) h fun v17_3 h1 =>
  gd (yb v15_1 == some false) (fun h k => nck v17_3 (k v17_3 h)) h1 fun v18_4 h2 =>
  gd (yb v15_1 == some false) (fun h k => rd Try.prog (Instr.fieldAt 73 v18_4 1) noHp fun v => k v h) h2 fun v19_5 h3 =>
  gd (yb v15_1 == some false) (fun h k => rd Try.prog (Instr.loadAt 3 v19_5) h fun v => k v h) h3 fun v20_6 h4 =>
  gd (yb v15_1 == some false) (fun h k => rd Try.prog (bop Go.BinOp.neq 3 (Go.Operand.tmp 20) (Go.Operand.const (Go.Value.int Go.IntKind.i64 0)) v20_6 (Go.Value.int Go.IntKind.i64 0)) noHp fun v => k v h) h4 fun v21_7 h5 =>
  rd Try.prog (pck v15_1 (Go.Value.bool true) v21_7) noHp fun v22_8 =>
  gd (yb v22_8 == some false) (fun h k => k (env 7) h) h5 fun v24_10 h6 =>
  gd (yb v22_8 == some false) (fun h k => Ok Try.prog 31 #[v24_10] h k) h6 fun v25_11 h7 =>
  gd (yb v22_8 == some false) (fun h k => rd Try.prog (Op.unary Go.UnOp.not v25_11) noHp fun v => k v h) h7 fun v26_12 h8 =>
  rd Try.prog (pck v22_8 (Go.Value.bool true) v26_12) noHp fun v27_13 =>
  K ((((((((((((((env.set 14 (env 7)).set 15 v15_1).set 16 v15_1).set 17 v17_3).set 18 v18_4).set 19 v19_5).set 20 v20_6).set 21 v21_7).set 22 v22_8).set 23 v22_8).set 24 v24_10).set 25 v25_11).set 26 v26_12).set 27 v27_13) h8
@[congr] theorem rip_Rip_Drop_r2_congr {env : Env} {h : Hp} {K : Env → Hp → Prop} : rip_Rip_Drop_r2 env h K = rip_Rip_Drop_r2 env h K := rfl

/-- rip.go:75 -/
def rip_Rip_Drop_r3 (env : Env) (h : Hp) (K : Env → Hp → Prop) : Prop :=
  K (env.set 6 (Go.Value.int Go.IntKind.i64 5)) h
@[congr] theorem rip_Rip_Drop_r3_congr {env : Env} {h : Hp} {K : Env → Hp → Prop} : rip_Rip_Drop_r3 env h K = rip_Rip_Drop_r3 env h K := rfl

/-- rip.go:77 -/
def rip_Rip_Drop_r4 (env : Env) (h : Hp) (K : Env → Hp → Prop) : Prop :=
  Ok Try.prog 39 #[(env 7), (env 2)] h fun v30_2 h1 =>
  K (((env.set 28 (env 7)).set 29 (env 2)).set 30 v30_2) h1
@[congr] theorem rip_Rip_Drop_r4_congr {env : Env} {h : Hp} {K : Env → Hp → Prop} : rip_Rip_Drop_r4 env h K = rip_Rip_Drop_r4 env h K := rfl

/-- rip.go:78 -/
def rip_Rip_Drop_r5 (env : Env) (h : Hp) (K : Env → Hp → Prop) : Prop :=
  K (env.set 6 (Go.Value.int Go.IntKind.i64 0)) h
@[congr] theorem rip_Rip_Drop_r5_congr {env : Env} {h : Hp} {K : Env → Hp → Prop} : rip_Rip_Drop_r5 env h K = rip_Rip_Drop_r5 env h K := rfl

def rip_Rip_Drop_D : Den := (sq (rg rip_Rip_Drop_r0) (sq (rg rip_Rip_Drop_r1) (sq (sq (rg rip_Rip_Drop_r2) (cnd (Go.Operand.tmp 27) (sq (rg rip_Rip_Drop_r3) (ex .ret)) (ex .normal))) (sq (rg rip_Rip_Drop_r4) (sq (rg rip_Rip_Drop_r5) (ex .ret))))))

theorem rip_Rip_Drop_eq : (den Try.prog 31 rip_Rip_Drop_code).1 = rip_Rip_Drop_D := by kernel_rfl

theorem rip_Rip_Drop_ok {args : Array Value} {h : Hp} {Q : Value → Hp → Prop} (hn : args.size ≤ 31) (D : rip_Rip_Drop_D (fin Try.prog [(Go.ResultVar.tmp 6)] Q) (env0 args) h) : Ok Try.prog 25 args h Q :=
  ok_of_den progIsOk Try.func25 (c := rip_Rip_Drop_code) (by kernel_rfl) hn (by show (den Try.prog 31 rip_Rip_Drop_code).1 _ _ _; rw [rip_Rip_Drop_eq]; exact D)

/-! ### (*octroi/rip.Rip).Tick: function 26 -/
noncomputable def rip_Rip_Tick_code : Code := match Try.f26.body with | some c => c | none => .skip

/-- rip.go:123 -/
def rip_Rip_Tick_r0 (env : Env) (h : Hp) (K : Env → Hp → Prop) : Prop :=
  K (env.set 4 (Go.Value.bool false)) h
@[congr] theorem rip_Rip_Tick_r0_congr {env : Env} {h : Hp} {K : Env → Hp → Prop} : rip_Rip_Tick_r0 env h K = rip_Rip_Tick_r0 env h K := rfl

/-- rip.go:124 -/
def rip_Rip_Tick_r1 (env : Env) (h : Hp) (K : Env → Hp → Prop) : Prop :=
  K (env.set 5 (Go.Value.bool false)) h
@[congr] theorem rip_Rip_Tick_r1_congr {env : Env} {h : Hp} {K : Env → Hp → Prop} : rip_Rip_Tick_r1 env h K = rip_Rip_Tick_r1 env h K := rfl

/-- rip.go:125 -/
def rip_Rip_Tick_r2 (env : Env) (h : Hp) (K : Env → Hp → Prop) : Prop :=
  nck (env 0) (
  rd Try.prog (Instr.fieldAt 67 (env 0) 2) noHp fun v10_2 =>
  rd Try.prog (Instr.loadAt 65 v10_2) h fun v11_3 =>
  arun Try.prog (Instr.range 65 v11_3) h fun v12_4 h1 =>
  K (((((env.set 8 (env 0)).set 9 (env 0)).set 10 v10_2).set 11 v11_3).set 12 v12_4) h1)
@[congr] theorem rip_Rip_Tick_r2_congr {env : Env} {h : Hp} {K : Env → Hp → Prop} : rip_Rip_Tick_r2 env h K = rip_Rip_Tick_r2 env h K := rfl

/-- rip.go:125 -/
def rip_Rip_Tick_r3 (env : Env) (h : Hp) (K : Env → Hp → Prop) : Prop :=
  arun Try.prog (Instr.next (env 12) false 0) h fun v13_0 h1 =>
  rd Try.prog (Instr.extract v13_0 0) noHp fun v14_1 =>
  K ((env.set 13 v13_0).set 14 v14_1) h1
@[congr] theorem rip_Rip_Tick_r3_congr {env : Env} {h : Hp} {K : Env → Hp → Prop} : rip_Rip_Tick_r3 env h K = rip_Rip_Tick_r3 env h K := rfl

/-- rip.go:125 -/
def rip_Rip_Tick_r4 (env : Env) (h : Hp) (K : Env → Hp → Prop) : Prop :=
  arun Try.prog (Instr.entry (env 12)) h fun v15_0 h1 =>
  rd Try.prog (Instr.extract v15_0 0) noHp fun v16_1 =>
  rd Try.prog (Instr.extract v15_0 1) noHp fun v17_2 =>
  arun Try.prog (Instr.alloc 24 true (Go.Value.tuple #[])) h1 fun v6_3 h2 =>
  arun Try.prog (Instr.storeAt 24 v6_3 v16_1) h2 fun _ h3 =>
  K (((((env.set 15 v15_0).set 16 v16_1).set 17 v17_2).set 6 v6_3).set 7 v17_2) h3
@[congr] theorem rip_Rip_Tick_r4_congr {env : Env} {h : Hp} {K : Env → Hp → Prop} : rip_Rip_Tick_r4 env h K = rip_Rip_Tick_r4 env h K := rfl

/-- rip.go:127 -/
def rip_Rip_Tick_r5 (env : Env) (h : Hp) (K : Env → Hp → Prop) : Prop :=
  Ok Try.prog 31 #[(env 7)] h fun v25_1 h1 =>
  gd (yb v25_1 == some true) (fun h k => k (env 7) h) h1 fun v27_3 h2 =>
  gd (yb v25_1 == some true) (fun h k => nck v27_3 (k v27_3 h)) h2 fun v28_4 h3 =>
  gd (yb v25_1 == some true) (fun h k => rd Try.prog (Instr.fieldAt 73 v28_4 1) noHp fun v => k v h) h3 fun v29_5 h4 =>
  gd (yb v25_1 == some true) (fun h k => rd Try.prog (Instr.loadAt 3 v29_5) h fun v => k v h) h4 fun v30_6 h5 =>
  gd (yb v25_1 == some true) (fun h k => rd Try.prog (bop Go.BinOp.eql 3 (Go.Operand.tmp 30) (Go.Operand.const (Go.Value.int Go.IntKind.i64 0)) v30_6 (Go.Value.int Go.IntKind.i64 0)) noHp fun v => k v h) h5 fun v31_7 h6 =>
  rd Try.prog (pck v25_1 v31_7 (Go.Value.bool false)) noHp fun v32_8 =>
  K ((((((((((env.set 24 (env 7)).set 25 v25_1).set 26 v25_1).set 27 v27_3).set 28 v28_4).set 29 v29_5).set 30 v30_6).set 31 v31_7).set 32 v32_8).set 23 v32_8) h6
@[congr] theorem rip_Rip_Tick_r5_congr {env : Env} {h : Hp} {K : Env → Hp → Prop} : rip_Rip_Tick_r5 env h K = rip_Rip_Tick_r5 env h K := rfl

/-- rip.go:127 -/
def rip_Rip_Tick_r6 (env : Env) (h : Hp) (K : Env → Hp → Prop) : Prop :=
  nck (env 7) (
  rd Try.prog (Instr.fieldAt 73 (env 7) 2) noHp fun v35_2 =>
  rd Try.prog (Instr.loadAt 3 v35_2) h fun v36_3 =>
  rd Try.prog (bop Go.BinOp.gtr 3 (Go.Operand.tmp 36) (Go.Operand.tmp 37) v36_3 (env 1)) noHp fun v38_5 =>
  K (((((((env.set 33 (env 7)).set 34 (env 7)).set 35 v35_2).set 36 v36_3).set 37 (env 1)).set 38 v38_5).set 23 v38_5) h)
@[congr] theorem rip_Rip_Tick_r6_congr {env : Env} {h : Hp} {K : Env → Hp → Prop} : rip_Rip_Tick_r6 env h K = rip_Rip_Tick_r6 env h K := rfl

/-- rip.go:129 -/
def rip_Rip_Tick_r7 (env : Env) (h : Hp) (K : Env → Hp → Prop) : Prop :=
  Ok Try.prog 31 #[(env 7)] h fun v41_1 h1 =>
  K (((env.set 40 (env 7)).set 41 v41_1).set 39 v41_1) h1
@[congr] theorem rip_Rip_Tick_r7_congr {env : Env} {h : Hp} {K : Env → Hp → Prop} : rip_Rip_Tick_r7 env h K = rip_Rip_Tick_r7 env h K := rfl

/-- rip.go:130 -/
def rip_Rip_Tick_r8 (env : Env) (h : Hp) (K : Env → Hp → Prop) : Prop :=
  Ok Try.prog 39 #[(env 7), (env 1)] h fun v44_2 h1 =>
  K (((env.set 42 (env 7)).set 43 (env 1)).set 44 v44_2) h1
@[congr] theorem rip_Rip_Tick_r8_congr {env : Env} {h : Hp} {K : Env → Hp → Prop} : rip_Rip_Tick_r8 env h K = rip_Rip_Tick_r8 env h K := rfl

/-- rip.go:132 (in any order) -/
def rip_Rip_Tick_r9 (env : Env) (h : Hp) (K : Env → Hp → Prop) : Prop :=
  nck (env 0) (
  rd Try.prog (Instr.fieldAt 67 (env 0) 2) noHp fun v20_2 =>
  rd Try.prog (Instr.loadAt 65 v20_2) h fun v21_3 =>
  rd Try.prog (Instr.loadAt 24 (env 6)) h fun v22_4 =>
  arun Try.prog (Builtin.delete_ #[65, 24] 0 #[v21_3, v22_4]) h fun _ h1 =>
  (True) ∧
  K (((((env.set 18 (env 0)).set 19 (env 0)).set 20 v20_2).set 21 v21_3).set 22 v22_4) h1)
@[congr] theorem rip_Rip_Tick_r9_congr {env : Env} {h : Hp} {K : Env → Hp → Prop} : rip_Rip_Tick_r9 env h K = rip_Rip_Tick_r9 env h K := rfl

/-- rip.go:134 -/
def rip_Rip_Tick_r10 (env : Env) (h : Hp) (K : Env → Hp → Prop) : Prop :=
  K (env.set 5 (Go.Value.bool true)) h
@[congr] theorem rip_Rip_Tick_r10_congr {env : Env} {h : Hp} {K : Env → Hp → Prop} : rip_Rip_Tick_r10 env h K = rip_Rip_Tick_r10 env h K := rfl

def rip_Rip_Tick_L0 : Den := (sq (rg rip_Rip_Tick_r3) (sq (cnd (Go.Operand.tmp 14) (ex .normal) (ex (.exit 0))) (blk 1 (sq (rg rip_Rip_Tick_r4) (sq (blk 2 (sq (sq (rg rip_Rip_Tick_r5) (cnd (Go.Operand.tmp 23) (ex .normal) (rg rip_Rip_Tick_r6))) (cnd (Go.Operand.tmp 23) (ex (.exit 1)) (sq (rg rip_Rip_Tick_r7) (cnd (Go.Operand.tmp 39) (rg rip_Rip_Tick_r8) (rg rip_Rip_Tick_r9)))))) (rg rip_Rip_Tick_r10))))))

/-- rip.go:136 -/
def rip_Rip_Tick_r11 (env : Env) (h : Hp) (K : Env → Hp → Prop) : Prop :=
  K ((env.set 45 (env 5)).set 4 (env 5)) h
@[congr] theorem rip_Rip_Tick_r11_congr {env : Env} {h : Hp} {K : Env → Hp → Prop} : rip_Rip_Tick_r11 env h K = rip_Rip_Tick_r11 env h K := rfl

def rip_Rip_Tick_D : Den := (sq (rg rip_Rip_Tick_r0) (sq (rg rip_Rip_Tick_r1) (sq (sq (rg rip_Rip_Tick_r2) (blk 0 (lp rip_Rip_Tick_L0))) (sq (rg rip_Rip_Tick_r11) (ex .ret)))))

theorem rip_Rip_Tick_eq : (den Try.prog 46 rip_Rip_Tick_code).1 = rip_Rip_Tick_D := by kernel_rfl

theorem rip_Rip_Tick_ok {args : Array Value} {h : Hp} {Q : Value → Hp → Prop} (hn : args.size ≤ 46) (D : rip_Rip_Tick_D (fin Try.prog [(Go.ResultVar.tmp 4)] Q) (env0 args) h) : Ok Try.prog 26 args h Q :=
  ok_of_den progIsOk Try.func26 (c := rip_Rip_Tick_code) (by kernel_rfl) hn (by show (den Try.prog 46 rip_Rip_Tick_code).1 _ _ _; rw [rip_Rip_Tick_eq]; exact D)

/-! ### octroi/prefix.May: function 27 -/
noncomputable def prefix_May_code : Code := match Try.f27.body with | some c => c | none => .skip

/-- prefix.go:39 -/
def prefix_May_r0 (env : Env) (h : Hp) (K : Env → Hp → Prop) : Prop :=
  arun Try.prog (Instr.box 24 (env 0)) h fun v1_0 h1 =>
  K ((env.set 1 v1_0).set 2 (Go.Value.bool false)) h1
@[congr] theorem prefix_May_r0_congr {env : Env} {h : Hp} {K : Env → Hp → Prop} : prefix_May_r0 env h K = prefix_May_r0 env h K := rfl

/-- prefix.go:39 (in any order) -/
def prefix_May_r1 (env : Env) (h : Hp) (K : Env → Hp → Prop) : Prop :=
  rd Try.prog (Instr.fieldAt 24 (env 1) 1) noHp fun v3_0 =>
  rd Try.prog (Instr.loadAt 3 v3_0) h fun v4_1 =>
  rd Try.prog (bop Go.BinOp.geq 3 (Go.Operand.tmp 4) (Go.Operand.const (Go.Value.int Go.IntKind.i64 0)) v4_1 (Go.Value.int Go.IntKind.i64 0)) noHp fun v5_2 =>
  gd (yb v5_2 == some true) (fun h k => rd Try.prog (Instr.fieldAt 24 (env 1) 1) noHp fun v => k v h) h fun v7_4 h1 =>
  gd (yb v5_2 == some true) (fun h k => rd Try.prog (Instr.loadAt 3 v7_4) h fun v => k v h) h1 fun v8_5 h2 =>
  gd (yb v5_2 == some true) (fun h k => rd Try.prog (bop Go.BinOp.leq 3 (Go.Operand.tmp 8) (Go.Operand.const (Go.Value.int Go.IntKind.i64 32)) v8_5 (Go.Value.int Go.IntKind.i64 32)) noHp fun v => k v h) h2 fun v9_6 h3 =>
  rd Try.prog (pck v5_2 v9_6 (Go.Value.bool false)) noHp fun v10_7 =>
  gd (yb v10_7 == some true) (fun h k => rd Try.prog (Instr.fieldAt 24 (env 1) 0) noHp fun v => k v h) h3 fun v12_9 h4 =>
  gd (yb v10_7 == some true) (fun h k => rd Try.prog (Instr.loadAt 22 v12_9) h fun v => k v h) h4 fun v13_10 h5 =>
  gd (yb v10_7 == some true) (fun h k => rd Try.prog (Instr.fieldAt 24 (env 1) 1) noHp fun v => k v h) h5 fun v14_11 h6 =>
  gd (yb v10_7 == some true) (fun h k => rd Try.prog (Instr.loadAt 3 v14_11) h fun v => k v h) h6 fun v15_12 h7 =>
  gd (yb v10_7 == some true) (fun h k => Ok Try.prog 40 #[v15_12] h k) h7 fun v16_13 h8 =>
  (((yb v10_7 == some true) = true → rrun Try.prog (Instr.loadAt 22 v12_9) h8 = some v13_10) ∧ True) ∧
  gd (yb v10_7 == some true) (fun h k => rd Try.prog (bop Go.BinOp.andNot 22 (Go.Operand.tmp 13) (Go.Operand.tmp 16) v13_10 v16_13) noHp fun v => k v h) h8 fun v17_14 h9 =>
  gd (yb v10_7 == some true) (fun h k => rd Try.prog (bop Go.BinOp.eql 22 (Go.Operand.tmp 17) (Go.Operand.const (Go.Value.int Go.IntKind.u32 0)) v17_14 (Go.Value.int Go.IntKind.u32 0)) noHp fun v => k v h) h9 fun v18_15 h10 =>
  rd Try.prog (pck v10_7 v18_15 (Go.Value.bool false)) noHp fun v19_16 =>
  K ((((((((((((((((((env.set 3 v3_0).set 4 v4_1).set 5 v5_2).set 6 v5_2).set 7 v7_4).set 8 v8_5).set 9 v9_6).set 10 v10_7).set 11 v10_7).set 12 v12_9).set 13 v13_10).set 14 v14_11).set 15 v15_12).set 16 v16_13).set 17 v17_14).set 18 v18_15).set 19 v19_16).set 2 v19_16) h10
@[congr] theorem prefix_May_r1_congr {env : Env} {h : Hp} {K : Env → Hp → Prop} : prefix_May_r1 env h K = prefix_May_r1 env h K := rfl

def prefix_May_D : Den := (sq (rg prefix_May_r0) (sq (rg prefix_May_r1) (ex .ret)))

theorem prefix_May_eq : (den Try.prog 20 prefix_May_code).1 = prefix_May_D := by kernel_rfl

theorem prefix_May_ok {args : Array Value} {h : Hp} {Q : Value → Hp → Prop} (hn : args.size ≤ 20) (D : prefix_May_D (fin Try.prog [(Go.ResultVar.tmp 2)] Q) (env0 args) h) : Ok Try.prog 27 args h Q :=
  ok_of_den progIsOk Try.func27 (c := prefix_May_code) (by kernel_rfl) hn (by show (den Try.prog 20 prefix_May_code).1 _ _ _; rw [prefix_May_eq]; exact D)

/-! ### octroi/metric.Hops: function 28 -/
noncomputable def metric_Hops_code : Code := match Try.f28.body with | some c => c | none => .skip

/-- metric.go:48 -/
def metric_Hops_r0 (env : Env) (h : Hp) (K : Env → Hp → Prop) : Prop :=
  K (env.set 4 (Go.Value.int Go.IntKind.i64 0)) h
@[congr] theorem metric_Hops_r0_congr {env : Env} {h : Hp} {K : Env → Hp → Prop} : metric_Hops_r0 env h K = metric_Hops_r0 env h K := rfl

/-- metric.go:48 -/
def metric_Hops_r1 (env : Env) (h : Hp) (K : Env → Hp → Prop) : Prop :=
  Ok Try.prog 41 #[(env 0), (env 1), (Go.Value.int Go.IntKind.i64 16)] h fun v7_2 h1 =>
  K ((((env.set 5 (env 0)).set 6 (env 1)).set 7 v7_2).set 4 v7_2) h1
@[congr] theorem metric_Hops_r1_congr {env : Env} {h : Hp} {K : Env → Hp → Prop} : metric_Hops_r1 env h K = metric_Hops_r1 env h K := rfl

def metric_Hops_D : Den := (sq (rg metric_Hops_r0) (sq (rg metric_Hops_r1) (ex .ret)))

theorem metric_Hops_eq : (den Try.prog 8 metric_Hops_code).1 = metric_Hops_D := by kernel_rfl

theorem metric_Hops_ok {args : Array Value} {h : Hp} {Q : Value → Hp → Prop} (hn : args.size ≤ 8) (D : metric_Hops_D (fin Try.prog [(Go.ResultVar.tmp 4)] Q) (env0 args) h) : Ok Try.prog 28 args h Q :=
  ok_of_den progIsOk Try.func28 (c := metric_Hops_code) (by kernel_rfl) hn (by show (den Try.prog 8 metric_Hops_code).1 _ _ _; rw [metric_Hops_eq]; exact D)

/-! ### (*octroi/rip.route).hear: function 29 -/
noncomputable def rip_route_hear_code : Code := match Try.f29.body with | some c => c | none => .skip

/-- rip.go:82 -/
def rip_route_hear_r0 (env : Env) (h : Hp) (K : Env → Hp → Prop) : Prop :=
  K (env.set 10 (Go.Value.bool false)) h
@[congr] theorem rip_route_hear_r0_congr {env : Env} {h : Hp} {K : Env → Hp → Prop} : rip_route_hear_r0 env h K = rip_route_hear_r0 env h K := rfl

/-- rip.go:84 -/
def rip_route_hear_r1 (env : Env) (h : Hp) (K : Env → Hp → Prop) : Prop :=
  Ok Try.prog 31 #[(env 0)] h fun v14_1 h1 =>
  gd (yb v14_1 == some true) (fun h k => k (env 0) h) h1 fun v16_3 h2 =>
  gd (yb v14_1 == some true) (fun h k => nck v16_3 (k v16_3 h)) h2 fun v17_4 h3 =>
  gd (yb v14_1 == some true) (fun h k => rd Try.prog (Instr.fieldAt 73 v17_4 1) noHp fun v => k v h) h3 fun v18_5 h4 =>
  gd (yb v14_1 == some true) (fun h k => rd Try.prog (Instr.loadAt 3 v18_5) h fun v => k v h) h4 fun v19_6 h5 =>
  gd (yb v14_1 == some true) (fun h k => rd Try.prog (bop Go.BinOp.eql 3 (Go.Operand.tmp 19) (Go.Operand.const (Go.Value.int Go.IntKind.i64 0)) v19_6 (Go.Value.int Go.IntKind.i64 0)) noHp fun v => k v h) h5 fun v20_7 h6 =>
  rd Try.prog (pck v14_1 v20_7 (Go.Value.bool false)) noHp fun v21_8 =>
  K ((((((((((env.set 13 (env 0)).set 14 v14_1).set 15 v14_1).set 16 v16_3).set 17 v17_4).set 18 v18_5).set 19 v19_6).set 20 v20_7).set 21 v21_8).set 12 v21_8) h6
@[congr] theorem rip_route_hear_r1_congr {env : Env} {h : Hp} {K : Env → Hp → Prop} : rip_route_hear_r1 env h K = rip_route_hear_r1 env h K := rfl

/-- rip.go:85 -/
def rip_route_hear_r2 (env : Env) (h : Hp) (K : Env → Hp → Prop) : Prop :=
  K (env.set 10 (Go.Value.bool false)) h
@[congr] theorem rip_route_hear_r2_congr {env : Env} {h : Hp} {K : Env → Hp → Prop} : rip_route_hear_r2 env h K = rip_route_hear_r2 env h K := rfl

/-- rip.go:86 -/
def rip_route_hear_r3 (env : Env) (h : Hp) (K : Env → Hp → Prop) : Prop :=
  Ok Try.prog 31 #[(env 0)] h fun v24_1 h1 =>
  gd (yb v24_1 == some true) (fun h k => k (env 0) h) h1 fun v26_3 h2 =>
  gd (yb v24_1 == some true) (fun h k => nck v26_3 (k v26_3 h)) h2 fun v27_4 h3 =>
  gd (yb v24_1 == some true) (fun h k => rd Try.prog (Instr.fieldAt 73 v27_4 1) noHp fun v => k v h) h3 fun v28_5 h4 =>
  gd (yb v24_1 == some true) (fun h k => rd Try.prog (Instr.loadAt 3 v28_5) h fun v => k v h) h4 fun v29_6 h5 =>
  gd (yb v24_1 == some true) (fun h k => k (env 1) h) h5 fun v30_7 h6 =>
  gd (yb v24_1 == some true) (fun h k => rd Try.prog (bop Go.BinOp.eql 3 (Go.Operand.tmp 29) (Go.Operand.tmp 30) v29_6 v30_7) noHp fun v => k v h) h6 fun v31_8 h7 =>
  rd Try.prog (pck v24_1 v31_8 (Go.Value.bool false)) noHp fun v32_9 =>
  gd (yb v32_9 == some true) (fun h k => k (env 2) h) h7 fun v34_11 h8 =>
  gd (yb v32_9 == some true) (fun h k => rd Try.prog (bop Go.BinOp.eql 3 (Go.Operand.tmp 34) (Go.Operand.const (Go.Value.int Go.IntKind.i64 16)) v34_11 (Go.Value.int Go.IntKind.i64 16)) noHp fun v => k v h) h8 fun v35_12 h9 =>
  rd Try.prog (pck v32_9 v35_12 (Go.Value.bool false)) noHp fun v36_13 =>
  K (((((((((((((((env.set 23 (env 0)).set 24 v24_1).set 25 v24_1).set 26 v26_3).set 27 v27_4).set 28 v28_5).set 29 v29_6).set 30 v30_7).set 31 v31_8).set 32 v32_9).set 33 v32_9).set 34 v34_11).set 35 v35_12).set 36 v36_13).set 22 v36_13) h9
@[congr] theorem rip_route_hear_r3_congr {env : Env} {h : Hp} {K : Env → Hp → Prop} : rip_route_hear_r3 env h K = rip_route_hear_r3 env h K := rfl

/-- rip.go:87 -/
def rip_route_hear_r4 (env : Env) (h : Hp) (K : Env → Hp → Prop) : Prop :=
  Ok Try.prog 39 #[(env 0), (env 4)] h fun v39_2 h1 =>
  K (((env.set 37 (env 0)).set 38 (env 4)).set 39 v39_2) h1
@[congr] theorem rip_route_hear_r4_congr {env : Env} {h : Hp} {K : Env → Hp → Prop} : rip_route_hear_r4 env h K = rip_route_hear_r4 env h K := rfl

/-- rip.go:88 -/
def rip_route_hear_r5 (env : Env) (h : Hp) (K : Env → Hp → Prop) : Prop :=
  K (env.set 10 (Go.Value.bool true)) h
@[congr] theorem rip_route_hear_r5_congr {env : Env} {h : Hp} {K : Env → Hp → Prop} : rip_route_hear_r5 env h K = rip_route_hear_r5 env h K := rfl

/-- rip.go:89 -/
def rip_route_hear_r6 (env : Env) (h : Hp) (K : Env → Hp → Prop) : Prop :=
  Ok Try.prog 31 #[(env 0)] h fun v42_1 h1 =>
  gd (yb v42_1 == some true) (fun h k => k (env 0) h) h1 fun v44_3 h2 =>
  gd (yb v42_1 == some true) (fun h k => nck v44_3 (k v44_3 h)) h2 fun v45_4 h3 =>
  gd (yb v42_1 == some true) (fun h k => rd Try.prog (Instr.fieldAt 73 v45_4 1) noHp fun v => k v h) h3 fun v46_5 h4 =>
  gd (yb v42_1 == some true) (fun h k => rd Try.prog (Instr.loadAt 3 v46_5) h fun v => k v h) h4 fun v47_6 h5 =>
  gd (yb v42_1 == some true) (fun h k => k (env 1) h) h5 fun v48_7 h6 =>
  gd (yb v42_1 == some true) (fun h k => rd Try.prog (bop Go.BinOp.eql 3 (Go.Operand.tmp 47) (Go.Operand.tmp 48) v47_6 v48_7) noHp fun v => k v h) h6 fun v49_8 h7 =>
  rd Try.prog (pck v42_1 v49_8 (Go.Value.bool false)) noHp fun v50_9 =>
  K (((((((((((env.set 41 (env 0)).set 42 v42_1).set 43 v42_1).set 44 v44_3).set 45 v45_4).set 46 v46_5).set 47 v47_6).set 48 v48_7).set 49 v49_8).set 50 v50_9).set 40 v50_9) h7
@[congr] theorem rip_route_hear_r6_congr {env : Env} {h : Hp} {K : Env → Hp → Prop} : rip_route_hear_r6 env h K = rip_route_hear_r6 env h K := rfl

/-- rip.go:90 -/
def rip_route_hear_r7 (env : Env) (h : Hp) (K : Env → Hp → Prop) : Prop :=
  nck (env 0) (
  rd Try.prog (Instr.fieldAt 73 (env 0) 0) noHp fun v54_3 =>
  rd Try.prog (Instr.loadAt 3 v54_3) h fun v55_4 =>
  rd Try.prog (bop Go.BinOp.neq 3 (Go.Operand.tmp 51) (Go.Operand.tmp 55) (env 2) v55_4) noHp fun v56_5 =>
  gd (yb v56_5 == some false) (fun h k => k (env 3) h) h fun v58_7 h1 =>
  gd (yb v56_5 == some false) (fun h k => k (env 0) h) h1 fun v59_8 h2 =>
  gd (yb v56_5 == some false) (fun h k => nck v59_8 (k v59_8 h)) h2 fun v60_9 h3 =>
  gd (yb v56_5 == some false) (fun h k => rd Try.prog (Instr.fieldAt 73 v60_9 3) noHp fun v => k v h) h3 fun v61_10 h4 =>
  gd (yb v56_5 == some false) (fun h k => rd Try.prog (Instr.loadAt 31 v61_10) h fun v => k v h) h4 fun v62_11 h5 =>
  gd (yb v56_5 == some false) (fun h k => rd Try.prog (bop Go.BinOp.neq 31 (Go.Operand.tmp 58) (Go.Operand.tmp 62) v58_7 v62_11) noHp fun v => k v h) h5 fun v63_12 h6 =>
  rd Try.prog (pck v56_5 (Go.Value.bool true) v63_12) noHp fun v64_13 =>
  K (((((((((((((((env.set 51 (env 2)).set 52 (env 0)).set 53 (env 0)).set 54 v54_3).set 55 v55_4).set 56 v56_5).set 57 v56_5).set 58 v58_7).set 59 v59_8).set 60 v60_9).set 61 v61_10).set 62 v62_11).set 63 v63_12).set 64 v64_13).set 11 v64_13) h6)
@[congr] theorem rip_route_hear_r7_congr {env : Env} {h : Hp} {K : Env → Hp → Prop} : rip_route_hear_r7 env h K = rip_route_hear_r7 env h K := rfl

/-- rip.go:91 -/
def rip_route_hear_r8 (env : Env) (h : Hp) (K : Env → Hp → Prop) : Prop :=
  rd Try.prog (bop Go.BinOp.add 3 (Go.Operand.tmp 70) (Go.Operand.const (Go.Value.int Go.IntKind.i64 180)) (env 4) (Go.Value.int Go.IntKind.i64 180)) noHp fun v71_6 =>
  nck (env 0) (
  rd Try.prog (Instr.fieldAt 73 (env 0) 0) noHp fun v73_8 =>
  arun Try.prog (Instr.storeAt 3 v73_8 (env 2)) h fun _ h1 =>
  nck (env 0) (
  rd Try.prog (Instr.fieldAt 73 (env 0) 3) noHp fun v75_11 =>
  arun Try.prog (Instr.storeAt 31 v75_11 (env 3)) h1 fun _ h2 =>
  nck (env 0) (
  rd Try.prog (Instr.fieldAt 73 (env 0) 2) noHp fun v77_14 =>
  arun Try.prog (Instr.storeAt 3 v77_14 v71_6) h2 fun _ h3 =>
  K (((((((((((((env.set 65 (env 0)).set 66 (env 0)).set 67 (env 0)).set 68 (env 2)).set 69 (env 3)).set 70 (env 4)).set 71 v71_6).set 72 (env 0)).set 73 v73_8).set 74 (env 0)).set 75 v75_11).set 76 (env 0)).set 77 v77_14) h3)))
@[congr] theorem rip_route_hear_r8_congr {env : Env} {h : Hp} {K : Env → Hp → Prop} : rip_route_hear_r8 env h K = rip_route_hear_r8 env h K := rfl

/-- rip.go:92 -/
def rip_route_hear_r9 (env : Env) (h : Hp) (K : Env → Hp → Prop) : Prop :=
  K ((env.set 78 (env 11)).set 10 (env 11)) h
@[congr] theorem rip_route_hear_r9_congr {env : Env} {h : Hp} {K : Env → Hp → Prop} : rip_route_hear_r9 env h K = rip_route_hear_r9 env h K := rfl

/-- rip.go:93 -/
def rip_route_hear_r10 (env : Env) (h : Hp) (K : Env → Hp → Prop) : Prop :=
  nck (env 0) (
  rd Try.prog (Instr.fieldAt 73 (env 0) 0) noHp fun v83_3 =>
  rd Try.prog (Instr.loadAt 3 v83_3) h fun v84_4 =>
  rd Try.prog (bop Go.BinOp.lss 3 (Go.Operand.tmp 80) (Go.Operand.tmp 84) (env 2) v84_4) noHp fun v85_5 =>
  K (((((((env.set 80 (env 2)).set 81 (env 0)).set 82 (env 0)).set 83 v83_3).set 84 v84_4).set 85 v85_5).set 79 v85_5) h)
@[congr] theorem rip_route_hear_r10_congr {env : Env} {h : Hp} {K : Env → Hp → Prop} : rip_route_hear_r10 env h K = rip_route_hear_r10 env h K := rfl

/-- rip.go:94 -/
def rip_route_hear_r11 (env : Env) (h : Hp) (K : Env → Hp → Prop) : Prop :=
  rd Try.prog (bop Go.BinOp.add 3 (Go.Operand.tmp 89) (Go.Operand.const (Go.Value.int Go.IntKind.i64 180)) (env 4) (Go.Value.int Go.IntKind.i64 180)) noHp fun v90_4 =>
  rd Try.prog (Instr.build 73 #[(0, (env 2)), (1, (env 1)), (2, v90_4), (3, (env 3))]) noHp fun v92_6 =>
  nck (env 0) (
  arun Try.prog (Instr.storeAt 73 (env 0) v92_6) h fun _ h1 =>
  K ((((((((env.set 86 (env 0)).set 87 (env 2)).set 88 (env 1)).set 89 (env 4)).set 90 v90_4).set 91 (env 3)).set 92 v92_6).set 93 (env 0)) h1)
@[congr] theorem rip_route_hear_r11_congr {env : Env} {h : Hp} {K : Env → Hp → Prop} : rip_route_hear_r11 env h K = rip_route_hear_r11 env h K := rfl

/-- rip.go:95 -/
def rip_route_hear_r12 (env : Env) (h : Hp) (K : Env → Hp → Prop) : Prop :=
  K (env.set 10 (Go.Value.bool true)) h
@[congr] theorem rip_route_hear_r12_congr {env : Env} {h : Hp} {K : Env → Hp → Prop} : rip_route_hear_r12 env h K = rip_route_hear_r12 env h K := rfl

/-- rip.go:97 -/
def rip_route_hear_r13 (env : Env) (h : Hp) (K : Env → Hp → Prop) : Prop :=
  K (env.set 10 (Go.Value.bool false)) h
@[congr] theorem rip_route_hear_r13_congr {env : Env} {h : Hp} {K : Env → Hp → Prop} : rip_route_hear_r13 env h K = rip_route_hear_r13 env h K := rfl

def rip_route_hear_D : Den := (sq (rg rip_route_hear_r0) (sq (blk 0 (sq (rg rip_route_hear_r1) (cnd (Go.Operand.tmp 12) (sq (rg rip_route_hear_r2) (ex .ret)) (sq (rg rip_route_hear_r3) (cnd (Go.Operand.tmp 22) (sq (rg rip_route_hear_r4) (sq (rg rip_route_hear_r5) (ex .ret))) (sq (rg rip_route_hear_r6) (cnd (Go.Operand.tmp 40) (sq (rg rip_route_hear_r7) (sq (rg rip_route_hear_r8) (sq (rg rip_route_hear_r9) (ex .ret)))) (sq (rg rip_route_hear_r10) (cnd (Go.Operand.tmp 79) (sq (rg rip_route_hear_r11) (sq (rg rip_route_hear_r12) (ex .ret))) (ex .normal)))))))))) (sq (rg rip_route_hear_r13) (ex .ret))))

theorem rip_route_hear_eq : (den Try.prog 94 rip_route_hear_code).1 = rip_route_hear_D := by kernel_rfl

theorem rip_route_hear_ok {args : Array Value} {h : Hp} {Q : Value → Hp → Prop} (hn : args.size ≤ 94) (D : rip_route_hear_D (fin Try.prog [(Go.ResultVar.tmp 10)] Q) (env0 args) h) : Ok Try.prog 29 args h Q :=
  ok_of_den progIsOk Try.func29 (c := rip_route_hear_code) (by kernel_rfl) hn (by show (den Try.prog 94 rip_route_hear_code).1 _ _ _; rw [rip_route_hear_eq]; exact D)

/-! ### (*octroi/rip.Rip).order: function 30 -/
noncomputable def rip_Rip_order_code : Code := match Try.f30.body with | some c => c | none => .skip

/-- rip.go:45 -/
def rip_Rip_order_r0 (env : Env) (h : Hp) (K : Env → Hp → Prop) : Prop :=
  K (env.set 2 (Go.Value.slice none 0 0)) h
@[congr] theorem rip_Rip_order_r0_congr {env : Env} {h : Hp} {K : Env → Hp → Prop} : rip_Rip_order_r0 env h K = rip_Rip_order_r0 env h K := rfl

/-- rip.go:46 -/
def rip_Rip_order_r1 (env : Env) (h : Hp) (K : Env → Hp → Prop) : Prop :=
  nck (env 0) (
  rd Try.prog (Instr.fieldAt 67 (env 0) 2) noHp fun v5_2 =>
  rd Try.prog (Instr.loadAt 65 v5_2) h fun v6_3 =>
  Ok Try.prog 43 #[v6_3] h fun v7_4 h1 =>
  Ok Try.prog 42 #[v7_4, (Go.Value.func (Go.Fn.func 44) #[] #[])] h1 fun v8_5 h2 =>
  K (((((((env.set 3 (env 0)).set 4 (env 0)).set 5 v5_2).set 6 v6_3).set 7 v7_4).set 8 v8_5).set 2 v8_5) h2)
@[congr] theorem rip_Rip_order_r1_congr {env : Env} {h : Hp} {K : Env → Hp → Prop} : rip_Rip_order_r1 env h K = rip_Rip_order_r1 env h K := rfl

def rip_Rip_order_D : Den := (sq (rg rip_Rip_order_r0) (sq (rg rip_Rip_order_r1) (ex .ret)))

theorem rip_Rip_order_eq : (den Try.prog 9 rip_Rip_order_code).1 = rip_Rip_order_D := by kernel_rfl

theorem rip_Rip_order_ok {args : Array Value} {h : Hp} {Q : Value → Hp → Prop} (hn : args.size ≤ 9) (D : rip_Rip_order_D (fin Try.prog [(Go.ResultVar.tmp 2)] Q) (env0 args) h) : Ok Try.prog 30 args h Q :=
  ok_of_den progIsOk Try.func30 (c := rip_Rip_order_code) (by kernel_rfl) hn (by show (den Try.prog 9 rip_Rip_order_code).1 _ _ _; rw [rip_Rip_order_eq]; exact D)

/-! ### (*octroi/rip.route).reached: function 31 -/
noncomputable def rip_route_reached_code : Code := match Try.f31.body with | some c => c | none => .skip

/-- rip.go:28 -/
def rip_route_reached_r0 (env : Env) (h : Hp) (K : Env → Hp → Prop) : Prop :=
  K (env.set 2 (Go.Value.bool false)) h
@[congr] theorem rip_route_reached_r0_congr {env : Env} {h : Hp} {K : Env → Hp → Prop} : rip_route_reached_r0 env h K = rip_route_reached_r0 env h K := rfl

/-- rip.go:28 -/
def rip_route_reached_r1 (env : Env) (h : Hp) (K : Env → Hp → Prop) : Prop :=
  nck (env 0) (
  rd Try.prog (Instr.fieldAt 73 (env 0) 0) noHp fun v5_2 =>
  rd Try.prog (Instr.loadAt 3 v5_2) h fun v6_3 =>
  rd Try.prog (bop Go.BinOp.lss 3 (Go.Operand.tmp 6) (Go.Operand.const (Go.Value.int Go.IntKind.i64 16)) v6_3 (Go.Value.int Go.IntKind.i64 16)) noHp fun v7_4 =>
  K ((((((env.set 3 (env 0)).set 4 (env 0)).set 5 v5_2).set 6 v6_3).set 7 v7_4).set 2 v7_4) h)
@[congr] theorem rip_route_reached_r1_congr {env : Env} {h : Hp} {K : Env → Hp → Prop} : rip_route_reached_r1 env h K = rip_route_reached_r1 env h K := rfl

def rip_route_reached_D : Den := (sq (rg rip_route_reached_r0) (sq (rg rip_route_reached_r1) (ex .ret)))

theorem rip_route_reached_eq : (den Try.prog 8 rip_route_reached_code).1 = rip_route_reached_D := by kernel_rfl

theorem rip_route_reached_ok {args : Array Value} {h : Hp} {Q : Value → Hp → Prop} (hn : args.size ≤ 8) (D : rip_route_reached_D (fin Try.prog [(Go.ResultVar.tmp 2)] Q) (env0 args) h) : Ok Try.prog 31 args h Q :=
  ok_of_den progIsOk Try.func31 (c := rip_route_reached_code) (by kernel_rfl) hn (by show (den Try.prog 8 rip_route_reached_code).1 _ _ _; rw [rip_route_reached_eq]; exact D)

/-! ### (*octroi/rip.Rip).Lose: function 32 -/
noncomputable def rip_Rip_Lose_code : Code := match Try.f32.body with | some c => c | none => .skip

/-- rip.go:140 -/
def rip_Rip_Lose_r0 (env : Env) (h : Hp) (K : Env → Hp → Prop) : Prop :=
  K (env.set 6 (Go.Value.bool false)) h
@[congr] theorem rip_Rip_Lose_r0_congr {env : Env} {h : Hp} {K : Env → Hp → Prop} : rip_Rip_Lose_r0 env h K = rip_Rip_Lose_r0 env h K := rfl

/-- rip.go:141 -/
def rip_Rip_Lose_r1 (env : Env) (h : Hp) (K : Env → Hp → Prop) : Prop :=
  K (env.set 7 (Go.Value.bool false)) h
@[congr] theorem rip_Rip_Lose_r1_congr {env : Env} {h : Hp} {K : Env → Hp → Prop} : rip_Rip_Lose_r1 env h K = rip_Rip_Lose_r1 env h K := rfl

/-- rip.go:142 -/
def rip_Rip_Lose_r2 (env : Env) (h : Hp) (K : Env → Hp → Prop) : Prop :=
  nck (env 0) (
  rd Try.prog (Instr.fieldAt 67 (env 0) 2) noHp fun v12_2 =>
  rd Try.prog (Instr.loadAt 65 v12_2) h fun v13_3 =>
  arun Try.prog (Instr.range 65 v13_3) h fun v14_4 h1 =>
  K (((((env.set 10 (env 0)).set 11 (env 0)).set 12 v12_2).set 13 v13_3).set 14 v14_4) h1)
@[congr] theorem rip_Rip_Lose_r2_congr {env : Env} {h : Hp} {K : Env → Hp → Prop} : rip_Rip_Lose_r2 env h K = rip_Rip_Lose_r2 env h K := rfl

/-- rip.go:142 -/
def rip_Rip_Lose_r3 (env : Env) (h : Hp) (K : Env → Hp → Prop) : Prop :=
  arun Try.prog (Instr.next (env 14) false 0) h fun v15_0 h1 =>
  rd Try.prog (Instr.extract v15_0 0) noHp fun v16_1 =>
  K ((env.set 15 v15_0).set 16 v16_1) h1
@[congr] theorem rip_Rip_Lose_r3_congr {env : Env} {h : Hp} {K : Env → Hp → Prop} : rip_Rip_Lose_r3 env h K = rip_Rip_Lose_r3 env h K := rfl

/-- rip.go:142 -/
def rip_Rip_Lose_r4 (env : Env) (h : Hp) (K : Env → Hp → Prop) : Prop :=
  arun Try.prog (Instr.entry (env 14)) h fun v17_0 h1 =>
  rd Try.prog (Instr.extract v17_0 1) noHp fun v18_1 =>
  K (((env.set 17 v17_0).set 18 v18_1).set 9 v18_1) h1
@[congr] theorem rip_Rip_Lose_r4_congr {env : Env} {h : Hp} {K : Env → Hp → Prop} : rip_Rip_Lose_r4 env h K = rip_Rip_Lose_r4 env h K := rfl

/-- rip.go:143 -/
def rip_Rip_Lose_r5 (env : Env) (h : Hp) (K : Env → Hp → Prop) : Prop :=
  rd Try.prog (bop Go.BinOp.neq 3 (Go.Operand.tmp 19) (Go.Operand.const (Go.Value.int Go.IntKind.i64 0)) (env 1) (Go.Value.int Go.IntKind.i64 0)) noHp fun v20_1 =>
  gd (yb v20_1 == some true) (fun h k => k (env 9) h) h fun v22_3 h1 =>
  gd (yb v20_1 == some true) (fun h k => nck v22_3 (k v22_3 h)) h1 fun v23_4 h2 =>
  gd (yb v20_1 == some true) (fun h k => rd Try.prog (Instr.fieldAt 73 v23_4 1) noHp fun v => k v h) h2 fun v24_5 h3 =>
  gd (yb v20_1 == some true) (fun h k => rd Try.prog (Instr.loadAt 3 v24_5) h fun v => k v h) h3 fun v25_6 h4 =>
  gd (yb v20_1 == some true) (fun h k => k (env 1) h) h4 fun v26_7 h5 =>
  gd (yb v20_1 == some true) (fun h k => rd Try.prog (bop Go.BinOp.eql 3 (Go.Operand.tmp 25) (Go.Operand.tmp 26) v25_6 v26_7) noHp fun v => k v h) h5 fun v27_8 h6 =>
  rd Try.prog (pck v20_1 v27_8 (Go.Value.bool false)) noHp fun v28_9 =>
  gd (yb v28_9 == some true) (fun h k => k (env 9) h) h6 fun v30_11 h7 =>
  gd (yb v28_9 == some true) (fun h k => Ok Try.prog 31 #[v30_11] h k) h7 fun v31_12 h8 =>
  rd Try.prog (pck v28_9 v31_12 (Go.Value.bool false)) noHp fun v32_13 =>
  K ((((((((((((((env.set 19 (env 1)).set 20 v20_1).set 21 v20_1).set 22 v22_3).set 23 v23_4).set 24 v24_5).set 25 v25_6).set 26 v26_7).set 27 v27_8).set 28 v28_9).set 29 v28_9).set 30 v30_11).set 31 v31_12).set 32 v32_13) h8
@[congr] theorem rip_Rip_Lose_r5_congr {env : Env} {h : Hp} {K : Env → Hp → Prop} : rip_Rip_Lose_r5 env h K = rip_Rip_Lose_r5 env h K := rfl

/-- rip.go:144 -/
def rip_Rip_Lose_r6 (env : Env) (h : Hp) (K : Env → Hp → Prop) : Prop :=
  Ok Try.prog 39 #[(env 9), (env 2)] h fun v35_2 h1 =>
  K (((env.set 33 (env 9)).set 34 (env 2)).set 35 v35_2) h1
@[congr] theorem rip_Rip_Lose_r6_congr {env : Env} {h : Hp} {K : Env → Hp → Prop} : rip_Rip_Lose_r6 env h K = rip_Rip_Lose_r6 env h K := rfl

/-- rip.go:145 -/
def rip_Rip_Lose_r7 (env : Env) (h : Hp) (K : Env → Hp → Prop) : Prop :=
  K (env.set 7 (Go.Value.bool true)) h
@[congr] theorem rip_Rip_Lose_r7_congr {env : Env} {h : Hp} {K : Env → Hp → Prop} : rip_Rip_Lose_r7 env h K = rip_Rip_Lose_r7 env h K := rfl

def rip_Rip_Lose_L0 : Den := (sq (rg rip_Rip_Lose_r3) (sq (cnd (Go.Operand.tmp 16) (ex .normal) (ex (.exit 0))) (blk 1 (sq (rg rip_Rip_Lose_r4) (sq (rg rip_Rip_Lose_r5) (cnd (Go.Operand.tmp 32) (sq (rg rip_Rip_Lose_r6) (rg rip_Rip_Lose_r7)) (ex .normal)))))))

/-- rip.go:148 -/
def rip_Rip_Lose_r8 (env : Env) (h : Hp) (K : Env → Hp → Prop) : Prop :=
  K ((env.set 36 (env 7)).set 6 (env 7)) h
@[congr] theorem rip_Rip_Lose_r8_congr {env : Env} {h : Hp} {K : Env → Hp → Prop} : rip_Rip_Lose_r8 env h K = rip_Rip_Lose_r8 env h K := rfl

def rip_Rip_Lose_D : Den := (sq (rg rip_Rip_Lose_r0) (sq (rg rip_Rip_Lose_r1) (sq (sq (rg rip_Rip_Lose_r2) (blk 0 (lp rip_Rip_Lose_L0))) (sq (rg rip_Rip_Lose_r8) (ex .ret)))))

theorem rip_Rip_Lose_eq : (den Try.prog 37 rip_Rip_Lose_code).1 = rip_Rip_Lose_D := by kernel_rfl

theorem rip_Rip_Lose_ok {args : Array Value} {h : Hp} {Q : Value → Hp → Prop} (hn : args.size ≤ 37) (D : rip_Rip_Lose_D (fin Try.prog [(Go.ResultVar.tmp 6)] Q) (env0 args) h) : Ok Try.prog 32 args h Q :=
  ok_of_den progIsOk Try.func32 (c := rip_Rip_Lose_code) (by kernel_rfl) hn (by show (den Try.prog 37 rip_Rip_Lose_code).1 _ _ _; rw [rip_Rip_Lose_eq]; exact D)

/-! ### (*octroi/octroiref16.Rip).Own: function 33 -/
noncomputable def octroiref16_Rip_Own_code : Code := match Try.f33.body with | some c => c | none => .skip

/-- ref.go:76 -/
def octroiref16_Rip_Own_r0 (env : Env) (h : Hp) (K : Env → Hp → Prop) : Prop :=
  arun Try.prog (Instr.box 24 (env 1)) h fun v6_0 h1 =>
  K ((env.set 6 v6_0).set 10 (Go.Value.int Go.IntKind.i64 0)) h1
@[congr] theorem octroiref16_Rip_Own_r0_congr {env : Env} {h : Hp} {K : Env → Hp → Prop} : octroiref16_Rip_Own_r0 env h K = octroiref16_Rip_Own_r0 env h K := rfl

/-- ref.go:77 -/
def octroiref16_Rip_Own_r1 (env : Env) (h : Hp) (K : Env → Hp → Prop) : Prop :=
  rd Try.prog (Instr.loadAt 24 (env 6)) h fun v15_0 =>
  Ok Try.prog 46 #[v15_0] h fun v16_1 h1 =>
  K (((env.set 15 v15_0).set 16 v16_1).set 11 v16_1) h1
@[congr] theorem octroiref16_Rip_Own_r1_congr {env : Env} {h : Hp} {K : Env → Hp → Prop} : octroiref16_Rip_Own_r1 env h K = octroiref16_Rip_Own_r1 env h K := rfl

/-- ref.go:78 -/
def octroiref16_Rip_Own_r2 (env : Env) (h : Hp) (K : Env → Hp → Prop) : Prop :=
  rd Try.prog (Op.unary Go.UnOp.not (env 11)) noHp fun v18_1 =>
  gd (yb v18_1 == some false) (fun h k => k (env 2) h) h fun v20_3 h1 =>
  gd (yb v18_1 == some false) (fun h k => rd Try.prog (bop Go.BinOp.lss 3 (Go.Operand.tmp 20) (Go.Operand.const (Go.Value.int Go.IntKind.i64 1)) v20_3 (Go.Value.int Go.IntKind.i64 1)) noHp fun v => k v h) h1 fun v21_4 h2 =>
  rd Try.prog (pck v18_1 (Go.Value.bool true) v21_4) noHp fun v22_5 =>
  gd (yb v22_5 == some false) (fun h k => k (env 2) h) h2 fun v24_7 h3 =>
  gd (yb v22_5 == some false) (fun h k => rd Try.prog (bop Go.BinOp.gtr 3 (Go.Operand.tmp 24) (Go.Operand.const (Go.Value.int Go.IntKind.i64 15)) v24_7 (Go.Value.int Go.IntKind.i64 15)) noHp fun v => k v h) h3 fun v25_8 h4 =>
  rd Try.prog (pck v22_5 (Go.Value.bool true) v25_8) noHp fun v26_9 =>
  K ((((((((((env.set 17 (env 11)).set 18 v18_1).set 19 v18_1).set 20 v20_3).set 21 v21_4).set 22 v22_5).set 23 v22_5).set 24 v24_7).set 25 v25_8).set 26 v26_9) h4
@[congr] theorem octroiref16_Rip_Own_r2_congr {env : Env} {h : Hp} {K : Env → Hp → Prop} : octroiref16_Rip_Own_r2 env h K = octroiref16_Rip_Own_r2 env h K := rfl

/-- ref.go:79 -/
def octroiref16_Rip_Own_r3 (env : Env) (h : Hp) (K : Env → Hp → Prop) : Prop :=
  K (env.set 10 (Go.Value.int Go.IntKind.i64 1)) h
@[congr] theorem octroiref16_Rip_Own_r3_congr {env : Env} {h : Hp} {K : Env → Hp → Prop} : octroiref16_Rip_Own_r3 env h K = octroiref16_Rip_Own_r3 env h K := rfl

/-- ref.go:81 -/
def octroiref16_Rip_Own_r4 (env : Env) (h : Hp) (K : Env → Hp → Prop) : Prop :=
  nck (env 0) (
  rd Try.prog (Instr.fieldAt 56 (env 0) 0) noHp fun v30_3 =>
  rd Try.prog (Instr.loadAt 3 v30_3) h fun v31_4 =>
  Ok Try.prog 47 #[(env 3), v31_4] h fun v32_5 h1 =>
  K (((((((env.set 27 (env 3)).set 28 (env 0)).set 29 (env 0)).set 30 v30_3).set 31 v31_4).set 32 v32_5).set 12 v32_5) h1)
@[congr] theorem octroiref16_Rip_Own_r4_congr {env : Env} {h : Hp} {K : Env → Hp → Prop} : octroiref16_Rip_Own_r4 env h K = octroiref16_Rip_Own_r4 env h K := rfl

/-- ref.go:82 -/
def octroiref16_Rip_Own_r5 (env : Env) (h : Hp) (K : Env → Hp → Prop) : Prop :=
  K (env.set 33 (env 12)) h
@[congr] theorem octroiref16_Rip_Own_r5_congr {env : Env} {h : Hp} {K : Env → Hp → Prop} : octroiref16_Rip_Own_r5 env h K = octroiref16_Rip_Own_r5 env h K := rfl

/-- ref.go:83 -/
def octroiref16_Rip_Own_r6 (env : Env) (h : Hp) (K : Env → Hp → Prop) : Prop :=
  K (env.set 10 (Go.Value.int Go.IntKind.i64 6)) h
@[congr] theorem octroiref16_Rip_Own_r6_congr {env : Env} {h : Hp} {K : Env → Hp → Prop} : octroiref16_Rip_Own_r6 env h K = octroiref16_Rip_Own_r6 env h K := rfl

/-- ref.go:85 -/
def octroiref16_Rip_Own_r7 (env : Env) (h : Hp) (K : Env → Hp → Prop) : Prop :=
  rd Try.prog (Instr.loadAt 24 (env 6)) h fun v34_0 =>
  rd Try.prog (Instr.build 78 #[(0, v34_0), (1, (env 2)), (2, (env 3))]) noHp fun v37_3 =>
  arun Try.prog (Instr.alloc 78 true (Go.Value.tuple #[])) h fun v13_4 h1 =>
  arun Try.prog (Instr.storeAt 78 v13_4 v37_3) h1 fun _ h2 =>
  K (((((env.set 34 v34_0).set 35 (env 2)).set 36 (env 3)).set 37 v37_3).set 13 v13_4) h2
@[congr] theorem octroiref16_Rip_Own_r7_congr {env : Env} {h : Hp} {K : Env → Hp → Prop} : octroiref16_Rip_Own_r7 env h K = octroiref16_Rip_Own_r7 env h K := rfl

/-- ref.go:86 -/
def octroiref16_Rip_Own_r8 (env : Env) (h : Hp) (K : Env → Hp → Prop) : Prop :=
  rd Try.prog (Instr.loadAt 24 (env 6)) h fun v39_1 =>
  Ok Try.prog 48 #[(env 0), v39_1] h fun v40_2 h1 =>
  K ((((env.set 38 (env 0)).set 39 v39_1).set 40 v40_2).set 14 v40_2) h1
@[congr] theorem octroiref16_Rip_Own_r8_congr {env : Env} {h : Hp} {K : Env → Hp → Prop} : octroiref16_Rip_Own_r8 env h K = octroiref16_Rip_Own_r8 env h K := rfl

/-- ref.go:87 -/
def octroiref16_Rip_Own_r9 (env : Env) (h : Hp) (K : Env → Hp → Prop) : Prop :=
  rd Try.prog (bop Go.BinOp.geq 3 (Go.Operand.tmp 41) (Go.Operand.const (Go.Value.int Go.IntKind.i64 0)) (env 14) (Go.Value.int Go.IntKind.i64 0)) noHp fun v42_1 =>
  K ((env.set 41 (env 14)).set 42 v42_1) h
@[congr] theorem octroiref16_Rip_Own_r9_congr {env : Env} {h : Hp} {K : Env → Hp → Prop} : octroiref16_Rip_Own_r9 env h K = octroiref16_Rip_Own_r9 env h K := rfl

/-- ref.go:88 (in any order) -/
def octroiref16_Rip_Own_r10 (env : Env) (h : Hp) (K : Env → Hp → Prop) : Prop :=
  nck (env 0) (
  rd Try.prog (Instr.fieldAt 56 (env 0) 2) noHp fun v45_2 =>
  rd Try.prog (Instr.loadAt 54 v45_2) h fun v46_3 =>
  rd Try.prog (Instr.loadAt 78 (env 13)) h fun v48_5 =>
  rd Try.prog (Instr.indexAt 54 v46_3 (env 14)) noHp fun v49_6 =>
  arun Try.prog (Instr.storeAt 78 v49_6 v48_5) h fun _ h1 =>
  (True) ∧
  K (((((((env.set 43 (env 0)).set 44 (env 0)).set 45 v45_2).set 46 v46_3).set 47 (env 14)).set 48 v48_5).set 49 v49_6) h1)
@[congr] theorem octroiref16_Rip_Own_r10_congr {env : Env} {h : Hp} {K : Env → Hp → Prop} : octroiref16_Rip_Own_r10 env h K = octroiref16_Rip_Own_r10 env h K := rfl

/-- ref.go:89 -/
def octroiref16_Rip_Own_r11 (env : Env) (h : Hp) (K : Env → Hp → Prop) : Prop :=
  K (env.set 10 (Go.Value.int Go.IntKind.i64 0)) h
@[congr] theorem octroiref16_Rip_Own_r11_congr {env : Env} {h : Hp} {K : Env → Hp → Prop} : octroiref16_Rip_Own_r11 env h K = octroiref16_Rip_Own_r11 env h K := rfl

/-- ref.go:91 (in any order) -/
def octroiref16_Rip_Own_r12 (env : Env) (h : Hp) (K : Env → Hp → Prop) : Prop :=
  nck (env 0) (
  rd Try.prog (Instr.fieldAt 56 (env 0) 2) noHp fun v52_2 =>
  rd Try.prog (Instr.loadAt 54 v52_2) h fun v53_3 =>
  rd Try.prog (Builtin.len_ #[54] 3 #[v53_3]) h fun v54_4 =>
  nck (env 0) (
  rd Try.prog (Instr.fieldAt 56 (env 0) 1) noHp fun v57_7 =>
  rd Try.prog (Instr.loadAt 3 v57_7) h fun v58_8 =>
  rd Try.prog (bop Go.BinOp.geq 3 (Go.Operand.tmp 54) (Go.Operand.tmp 58) v54_4 v58_8) noHp fun v59_9 =>
  K ((((((((((env.set 50 (env 0)).set 51 (env 0)).set 52 v52_2).set 53 v53_3).set 54 v54_4).set 55 (env 0)).set 56 (env 0)).set 57 v57_7).set 58 v58_8).set 59 v59_9) h))
@[congr] theorem octroiref16_Rip_Own_r12_congr {env : Env} {h : Hp} {K : Env → Hp → Prop} : octroiref16_Rip_Own_r12 env h K = octroiref16_Rip_Own_r12 env h K := rfl

/-- ref.go:92 -/
def octroiref16_Rip_Own_r13 (env : Env) (h : Hp) (K : Env → Hp → Prop) : Prop :=
  K (env.set 10 (Go.Value.int Go.IntKind.i64 4)) h
@[congr] theorem octroiref16_Rip_Own_r13_congr {env : Env} {h : Hp} {K : Env → Hp → Prop} : octroiref16_Rip_Own_r13 env h K = octroiref16_Rip_Own_r13 env h K := rfl

/-- ref.go:94 -/
def octroiref16_Rip_Own_r14 (env : Env) (h : Hp) (K : Env → Hp → Prop) : Prop :=
  rd Try.prog (Instr.loadAt 78 (env 13)) h fun v61_1 =>
  Ok Try.prog 49 #[(env 0), v61_1] h fun v62_2 h1 =>
  K (((env.set 60 (env 0)).set 61 v61_1).set 62 v62_2) h1
@[congr] theorem octroiref16_Rip_Own_r14_congr {env : Env} {h : Hp} {K : Env → Hp → Prop} : octroiref16_Rip_Own_r14 env h K = octroiref16_Rip_Own_r14 env h K := rfl

/-- ref.go:95 -/
def octroiref16_Rip_Own_r15 (env : Env) (h : Hp) (K : Env → Hp → Prop) : Prop :=
  K (env.set 10 (Go.Value.int Go.IntKind.i64 0)) h
@[congr] theorem octroiref16_Rip_Own_r15_congr {env : Env} {h : Hp} {K : Env → Hp → Prop} : octroiref16_Rip_Own_r15 env h K = octroiref16_Rip_Own_r15 env h K := rfl

def octroiref16_Rip_Own_D : Den := (sq (rg octroiref16_Rip_Own_r0) (sq (rg octroiref16_Rip_Own_r1) (sq (sq (rg octroiref16_Rip_Own_r2) (cnd (Go.Operand.tmp 26) (sq (rg octroiref16_Rip_Own_r3) (ex .ret)) (ex .normal))) (sq (rg octroiref16_Rip_Own_r4) (sq (sq (rg octroiref16_Rip_Own_r5) (cnd (Go.Operand.tmp 33) (sq (rg octroiref16_Rip_Own_r6) (ex .ret)) (ex .normal))) (sq (rg octroiref16_Rip_Own_r7) (sq (rg octroiref16_Rip_Own_r8) (sq (sq (rg octroiref16_Rip_Own_r9) (cnd (Go.Operand.tmp 42) (sq (rg octroiref16_Rip_Own_r10) (sq (rg octroiref16_Rip_Own_r11) (ex .ret))) (ex .normal))) (sq (sq (rg octroiref16_Rip_Own_r12) (cnd (Go.Operand.tmp 59) (sq (rg octroiref16_Rip_Own_r13) (ex .ret)) (ex .normal))) (sq (rg octroiref16_Rip_Own_r14) (sq (rg octroiref16_Rip_Own_r15) (ex .ret))))))))))))

theorem octroiref16_Rip_Own_eq : (den Try.prog 63 octroiref16_Rip_Own_code).1 = octroiref16_Rip_Own_D := by kernel_rfl

theorem octroiref16_Rip_Own_ok {args : Array Value} {h : Hp} {Q : Value → Hp → Prop} (hn : args.size ≤ 63) (D : octroiref16_Rip_Own_D (fin Try.prog [(Go.ResultVar.tmp 10)] Q) (env0 args) h) : Ok Try.prog 33 args h Q :=
  ok_of_den progIsOk Try.func33 (c := octroiref16_Rip_Own_code) (by kernel_rfl) hn (by show (den Try.prog 63 octroiref16_Rip_Own_code).1 _ _ _; rw [octroiref16_Rip_Own_eq]; exact D)

/-! ### (*octroi/octroiref16.Rip).Drop: function 34 -/
noncomputable def octroiref16_Rip_Drop_code : Code := match Try.f34.body with | some c => c | none => .skip

/-- ref.go:105 -/
def octroiref16_Rip_Drop_r0 (env : Env) (h : Hp) (K : Env → Hp → Prop) : Prop :=
  arun Try.prog (Instr.box 24 (env 1)) h fun v4_0 h1 =>
  K ((env.set 4 v4_0).set 6 (Go.Value.int Go.IntKind.i64 0)) h1
@[congr] theorem octroiref16_Rip_Drop_r0_congr {env : Env} {h : Hp} {K : Env → Hp → Prop} : octroiref16_Rip_Drop_r0 env h K = octroiref16_Rip_Drop_r0 env h K := rfl

/-- ref.go:106 -/
def octroiref16_Rip_Drop_r1 (env : Env) (h : Hp) (K : Env → Hp → Prop) : Prop :=
  rd Try.prog (Instr.loadAt 24 (env 4)) h fun v9_1 =>
  Ok Try.prog 48 #[(env 0), v9_1] h fun v10_2 h1 =>
  K ((((env.set 8 (env 0)).set 9 v9_1).set 10 v10_2).set 7 v10_2) h1
@[congr] theorem octroiref16_Rip_Drop_r1_congr {env : Env} {h : Hp} {K : Env → Hp → Prop} : octroiref16_Rip_Drop_r1 env h K = octroiref16_Rip_Drop_r1 env h K := rfl

/-- ref.go:107 -/
def octroiref16_Rip_Drop_r2 (env : Env) (h : Hp) (K : Env → Hp → Prop) : Prop :=
  rd Try.prog (bop Go.BinOp.lss 3 (Go.Operand.tmp 11) (Go.Operand.const (Go.Value.int Go.IntKind.i64 0)) (env 7) (Go.Value.int Go.IntKind.i64 0)) noHp fun v12_1 =>
  gd (yb v12_1 == some false) (fun h k => k (env 0) h) h fun v14_3 h1 =>
  gd (yb v12_1 == some false) (fun h k => nck v14_3 (k v14_3 h)) h1 fun v15_4 h2 =>
  gd (yb v12_1 == some false) (fun h k => rd Try.prog (Instr.fieldAt 56 v15_4 2) noHp fun v => k v h) h2 fun v16_5 h3 =>
  gd (yb v12_1 == some false) (fun h k => rd Try.prog (Instr.loadAt 54 v16_5) h fun v => k v h) h3 fun v17_6 h4 =>
  gd (yb v12_1 == some false) (fun h k => k (env 7) h) h4 fun v18_7 h5 =>
  gd (yb v12_1 == some false) (fun h k => rd Try.prog (Instr.indexAt 54 v17_6 v18_7) noHp fun v => k v h) h5 fun v19_8 h6 =>
  gd (yb v12_1 == some false) (fun h k => rd Try.prog (Instr.fieldAt 78 v19_8 3) noHp fun v => k v h) h6 fun v20_9 h7 =>
  gd (yb v12_1 == some false) (fun h k => rd Try.prog (Instr.loadAt 3 v20_9) h fun v => k v h) h7 fun v21_10 h8 =>
  gd (yb v12_1 == some false) (fun h k => rd Try.prog (bop Go.BinOp.neq 3 (Go.Operand.tmp 21) (Go.Operand.const (Go.Value.int Go.IntKind.i64 0)) v21_10 (Go.Value.int Go.IntKind.i64 0)) noHp fun v => k v h) h8 fun v22_11 h9 =>
  rd Try.prog (pck v12_1 (Go.Value.bool true) v22_11) noHp fun v23_12 =>
  gd (yb v23_12 == some false) (fun h k => k (env 0) h) h9 fun v25_14 h10 =>
  gd (yb v23_12 == some false) (fun h k => nck v25_14 (k v25_14 h)) h10 fun v26_15 h11 =>
  gd (yb v23_12 == some false) (fun h k => rd Try.prog (Instr.fieldAt 56 v26_15 2) noHp fun v => k v h) h11 fun v27_16 h12 =>
  gd (yb v23_12 == some false) (fun h k => rd Try.prog (Instr.loadAt 54 v27_16) h fun v => k v h) h12 fun v28_17 h13 =>
  gd (yb v23_12 == some false) (fun h k => k (env 7) h) h13 fun v29_18 h14 =>
  gd (yb v23_12 == some false) (fun h k => rd Try.prog (Instr.indexAt 54 v28_17 v29_18) noHp fun v => k v h) h14 fun v30_19 h15 =>
  gd (yb v23_12 == some false) (fun h k => rd Try.prog (Instr.fieldAt 78 v30_19 1) noHp fun v => k v h) h15 fun v31_20 h16 =>
  gd (yb v23_12 == some false) (fun h k => rd Try.prog (Instr.loadAt 3 v31_20) h fun v => k v h) h16 fun v32_21 h17 =>
  gd (yb v23_12 == some false) (fun h k => rd Try.prog (bop Go.BinOp.eql 3 (Go.Operand.tmp 32) (Go.Operand.const (Go.Value.int Go.IntKind.i64 16)) v32_21 (Go.Value.int Go.IntKind.i64 16)) noHp fun v => k v h) h17 fun v33_22 h18 =>
  rd Try.prog (pck v23_12 (Go.Value.bool true) v33_22) noHp fun v34_23 =>
  K ((((((((((((((((((((((((env.set 11 (env 7)).set 12 v12_1).set 13 v12_1).set 14 v14_3).set 15 v15_4).set 16 v16_5).set 17 v17_6).set 18 v18_7).set 19 v19_8).set 20 v20_9).set 21 v21_10).set 22 v22_11).set 23 v23_12).set 24 v23_12).set 25 v25_14).set 26 v26_15).set 27 v27_16).set 28 v28_17).set 29 v29_18).set 30 v30_19).set 31 v31_20).set 32 v32_21).set 33 v33_22).set 34 v34_23) h18
@[congr] theorem octroiref16_Rip_Drop_r2_congr {env : Env} {h : Hp} {K : Env → Hp → Prop} : octroiref16_Rip_Drop_r2 env h K = octroiref16_Rip_Drop_r2 env h K := rfl

/-- ref.go:108 -/
def octroiref16_Rip_Drop_r3 (env : Env) (h : Hp) (K : Env → Hp → Prop) : Prop :=
  K (env.set 6 (Go.Value.int Go.IntKind.i64 5)) h
@[congr] theorem octroiref16_Rip_Drop_r3_congr {env : Env} {h : Hp} {K : Env → Hp → Prop} : octroiref16_Rip_Drop_r3 env h K = octroiref16_Rip_Drop_r3 env h K := rfl

/-- ref.go:110 -/
def octroiref16_Rip_Drop_r4 (env : Env) (h : Hp) (K : Env → Hp → Prop) : Prop :=
  Ok Try.prog 50 #[(env 0), (env 7), (env 2)] h fun v38_3 h1 =>
  K ((((env.set 35 (env 0)).set 36 (env 7)).set 37 (env 2)).set 38 v38_3) h1
@[congr] theorem octroiref16_Rip_Drop_r4_congr {env : Env} {h : Hp} {K : Env → Hp → Prop} : octroiref16_Rip_Drop_r4 env h K = octroiref16_Rip_Drop_r4 env h K := rfl

/-- ref.go:111 -/
def octroiref16_Rip_Drop_r5 (env : Env) (h : Hp) (K : Env → Hp → Prop) : Prop :=
  K (env.set 6 (Go.Value.int Go.IntKind.i64 0)) h
@[congr] theorem octroiref16_Rip_Drop_r5_congr {env : Env} {h : Hp} {K : Env → Hp → Prop} : octroiref16_Rip_Drop_r5 env h K = octroiref16_Rip_Drop_r5 env h K := rfl

def octroiref16_Rip_Drop_D : Den := (sq (rg octroiref16_Rip_Drop_r0) (sq (rg octroiref16_Rip_Drop_r1) (sq (sq (rg octroiref16_Rip_Drop_r2) (cnd (Go.Operand.tmp 34) (sq (rg octroiref16_Rip_Drop_r3) (ex .ret)) (ex .normal))) (sq (rg octroiref16_Rip_Drop_r4) (sq (rg octroiref16_Rip_Drop_r5) (ex .ret))))))

theorem octroiref16_Rip_Drop_eq : (den Try.prog 39 octroiref16_Rip_Drop_code).1 = octroiref16_Rip_Drop_D := by kernel_rfl

theorem octroiref16_Rip_Drop_ok {args : Array Value} {h : Hp} {Q : Value → Hp → Prop} (hn : args.size ≤ 39) (D : octroiref16_Rip_Drop_D (fin Try.prog [(Go.ResultVar.tmp 6)] Q) (env0 args) h) : Ok Try.prog 34 args h Q :=
  ok_of_den progIsOk Try.func34 (c := octroiref16_Rip_Drop_code) (by kernel_rfl) hn (by show (den Try.prog 39 octroiref16_Rip_Drop_code).1 _ _ _; rw [octroiref16_Rip_Drop_eq]; exact D)

end Go.Proofs.Ytpfenhikoajghaa
