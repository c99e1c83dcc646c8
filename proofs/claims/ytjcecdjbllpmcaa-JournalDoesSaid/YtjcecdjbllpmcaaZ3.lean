/- Printed by wip/kit/gen.py out of the translation: formulas of Go functions, and that they are these functions'. -/
import Derived.Test.YtjcecdjbllpmcaaZ2

set_option linter.unusedSimpArgs false
set_option linter.unusedVariables false

namespace Go.Proofs.Ytjcecdjbllpmcaa
open Go

set_option maxRecDepth 100000
set_option linter.unusedVariables false

/-! ### (*octroi/journal.Journal).Pack: function 19 -/
noncomputable def journal_Journal_Pack_code : Code := match Try.f19.body with | some c => c | none => .skip

/-- journal.go:99 -/
def journal_Journal_Pack_r0 (env : Env) (h : Hp) (K : Env → Hp → Prop) : Prop :=
  Ok Try.prog 17 #[(env 0)] h fun v6_1 h1 =>
  K (((env.set 5 (env 0)).set 6 v6_1).set 2 v6_1) h1
@[congr] theorem journal_Journal_Pack_r0_congr {env : Env} {h : Hp} {K : Env → Hp → Prop} : journal_Journal_Pack_r0 env h K = journal_Journal_Pack_r0 env h K := rfl

/-- journal.go:100 -/
def journal_Journal_Pack_r1 (env : Env) (h : Hp) (K : Env → Hp → Prop) : Prop :=
  nck (env 0) (
  rd Try.prog (Instr.fieldAt 52 (env 0) 2) noHp fun v9_2 =>
  arun Try.prog (Instr.storeAt 34 v9_2 (Go.Value.slice none 0 0)) h fun _ h1 =>
  K (((env.set 7 (env 0)).set 8 (env 0)).set 9 v9_2) h1)
@[congr] theorem journal_Journal_Pack_r1_congr {env : Env} {h : Hp} {K : Env → Hp → Prop} : journal_Journal_Pack_r1 env h K = journal_Journal_Pack_r1 env h K := rfl

/-- journal.go:101 -/
def journal_Journal_Pack_r2 (env : Env) (h : Hp) (K : Env → Hp → Prop) : Prop :=
  rd Try.prog (Builtin.len_ #[22] 3 #[(env 2)]) h fun v11_1 =>
  K (((env.set 10 (env 2)).set 11 v11_1).set 12 (Go.Value.int Go.IntKind.i64 0)) h
@[congr] theorem journal_Journal_Pack_r2_congr {env : Env} {h : Hp} {K : Env → Hp → Prop} : journal_Journal_Pack_r2 env h K = journal_Journal_Pack_r2 env h K := rfl

/-- journal.go:101 -/
def journal_Journal_Pack_r3 (env : Env) (h : Hp) (K : Env → Hp → Prop) : Prop :=
  rd Try.prog (bop Go.BinOp.lss 3 (Go.Operand.tmp 12) (Go.Operand.tmp 11) (env 12) (env 11)) noHp fun v13_0 =>
  K (env.set 13 v13_0) h
@[congr] theorem journal_Journal_Pack_r3_congr {env : Env} {h : Hp} {K : Env → Hp → Prop} : journal_Journal_Pack_r3 env h K = journal_Journal_Pack_r3 env h K := rfl

/-- journal.go:101 -/
def journal_Journal_Pack_r4 (env : Env) (h : Hp) (K : Env → Hp → Prop) : Prop :=
  rd Try.prog (Instr.indexAt 22 (env 10) (env 12)) noHp fun v14_0 =>
  rd Try.prog (Instr.loadAt 25 v14_0) h fun v15_1 =>
  arun Try.prog (Instr.alloc 25 true (Go.Value.tuple #[])) h fun v4_2 h1 =>
  arun Try.prog (Instr.storeAt 25 v4_2 v15_1) h1 fun _ h2 =>
  K (((env.set 14 v14_0).set 15 v15_1).set 4 v4_2) h2
@[congr] theorem journal_Journal_Pack_r4_congr {env : Env} {h : Hp} {K : Env → Hp → Prop} : journal_Journal_Pack_r4 env h K = journal_Journal_Pack_r4 env h K := rfl

/-- journal.go:102 (in any order) -/
def journal_Journal_Pack_r5 (env : Env) (h : Hp) (K : Env → Hp → Prop) : Prop :=
  nck (env 0) (
  rd Try.prog (Instr.fieldAt 52 (env 0) 2) noHp fun v19_3 =>
  rd Try.prog (Instr.loadAt 34 v19_3) h fun v20_4 =>
  rd Try.prog (Instr.loadAt 25 (env 4)) h fun v21_5 =>
  Ok Try.prog 27 #[v21_5] h fun v22_6 h1 =>
  (rrun Try.prog (Instr.loadAt 34 v19_3) h1 = some v20_4 ∧ True) ∧
  arun Try.prog (Builtin.append_ #[34, 34] 34 #[v20_4, v22_6]) h1 fun v23_7 h2 =>
  (True) ∧
  nck (env 0) (
  rd Try.prog (Instr.fieldAt 52 (env 0) 2) noHp fun v25_9 =>
  arun Try.prog (Instr.storeAt 34 v25_9 v23_7) h2 fun _ h3 =>
  (True) ∧
  K ((((((((((env.set 16 (env 0)).set 17 (env 0)).set 18 (env 0)).set 19 v19_3).set 20 v20_4).set 21 v21_5).set 22 v22_6).set 23 v23_7).set 24 (env 0)).set 25 v25_9) h3))
@[congr] theorem journal_Journal_Pack_r5_congr {env : Env} {h : Hp} {K : Env → Hp → Prop} : journal_Journal_Pack_r5 env h K = journal_Journal_Pack_r5 env h K := rfl

/-- journal.go:101 -/
def journal_Journal_Pack_r6 (env : Env) (h : Hp) (K : Env → Hp → Prop) : Prop :=
  rd Try.prog (bop Go.BinOp.add 3 (Go.Operand.tmp 12) (Go.Operand.const (Go.Value.int Go.IntKind.i64 1)) (env 12) (Go.Value.int Go.IntKind.i64 1)) noHp fun v26_0 =>
  K ((env.set 26 v26_0).set 12 v26_0) h
@[congr] theorem journal_Journal_Pack_r6_congr {env : Env} {h : Hp} {K : Env → Hp → Prop} : journal_Journal_Pack_r6 env h K = journal_Journal_Pack_r6 env h K := rfl

def journal_Journal_Pack_L0 : Den := (sq (rg journal_Journal_Pack_r3) (sq (cnd (Go.Operand.tmp 13) (ex .normal) (ex (.exit 0))) (sq (blk 1 (sq (rg journal_Journal_Pack_r4) (rg journal_Journal_Pack_r5))) (rg journal_Journal_Pack_r6))))

/-- journal.go:104 -/
def journal_Journal_Pack_r7 (env : Env) (h : Hp) (K : Env → Hp → Prop) : Prop :=
  Ok Try.prog 14 #[(env 0)] h fun v28_1 h1 =>
  K ((env.set 27 (env 0)).set 28 v28_1) h1
@[congr] theorem journal_Journal_Pack_r7_congr {env : Env} {h : Hp} {K : Env → Hp → Prop} : journal_Journal_Pack_r7 env h K = journal_Journal_Pack_r7 env h K := rfl

def journal_Journal_Pack_D : Den := (sq (rg journal_Journal_Pack_r0) (sq (rg journal_Journal_Pack_r1) (sq (sq (rg journal_Journal_Pack_r2) (blk 0 (lp journal_Journal_Pack_L0))) (rg journal_Journal_Pack_r7))))

theorem journal_Journal_Pack_eq : (den Try.prog 29 journal_Journal_Pack_code).1 = journal_Journal_Pack_D := by kernel_rfl

theorem journal_Journal_Pack_ok {args : Array Value} {h : Hp} {Q : Value → Hp → Prop} (hn : args.size ≤ 29) (D : journal_Journal_Pack_D (fin Try.prog [] Q) (env0 args) h) : Ok Try.prog 19 args h Q :=
  ok_of_den progIsOk Try.func19 (c := journal_Journal_Pack_code) (by kernel_rfl) hn (by show (den Try.prog 29 journal_Journal_Pack_code).1 _ _ _; rw [journal_Journal_Pack_eq]; exact D)

/-! ### (*octroi/octroiref12.Journal).Put: function 20 -/
noncomputable def octroiref12_Journal_Put_code : Code := match Try.f20.body with | some c => c | none => .skip

/-- ref.go:17 -/
def octroiref12_Journal_Put_r0 (env : Env) (h : Hp) (K : Env → Hp → Prop) : Prop :=
  arun Try.prog (Instr.box 25 (env 1)) h fun v3_0 h1 =>
  K ((env.set 3 v3_0).set 4 (Go.Value.int Go.IntKind.i64 0)) h1
@[congr] theorem octroiref12_Journal_Put_r0_congr {env : Env} {h : Hp} {K : Env → Hp → Prop} : octroiref12_Journal_Put_r0 env h K = octroiref12_Journal_Put_r0 env h K := rfl

/-- ref.go:18 -/
def octroiref12_Journal_Put_r1 (env : Env) (h : Hp) (K : Env → Hp → Prop) : Prop :=
  rd Try.prog (Instr.fieldAt 25 (env 3) 0) noHp fun v5_0 =>
  rd Try.prog (Instr.loadAt 3 v5_0) h fun v6_1 =>
  rd Try.prog (bop Go.BinOp.lss 3 (Go.Operand.tmp 6) (Go.Operand.const (Go.Value.int Go.IntKind.i64 0)) v6_1 (Go.Value.int Go.IntKind.i64 0)) noHp fun v7_2 =>
  gd (yb v7_2 == some false) (fun h k => rd Try.prog (Instr.fieldAt 25 (env 3) 0) noHp fun v => k v h) h fun v9_4 h1 =>
  gd (yb v7_2 == some false) (fun h k => rd Try.prog (Instr.loadAt 3 v9_4) h fun v => k v h) h1 fun v10_5 h2 =>
  gd (yb v7_2 == some false) (fun h k => rd Try.prog (bop Go.BinOp.gtr 3 (Go.Operand.tmp 10) (Go.Operand.const (Go.Value.int Go.IntKind.i64 255)) v10_5 (Go.Value.int Go.IntKind.i64 255)) noHp fun v => k v h) h2 fun v11_6 h3 =>
  rd Try.prog (pck v7_2 (Go.Value.bool true) v11_6) noHp fun v12_7 =>
  K ((((((((env.set 5 v5_0).set 6 v6_1).set 7 v7_2).set 8 v7_2).set 9 v9_4).set 10 v10_5).set 11 v11_6).set 12 v12_7) h3
@[congr] theorem octroiref12_Journal_Put_r1_congr {env : Env} {h : Hp} {K : Env → Hp → Prop} : octroiref12_Journal_Put_r1 env h K = octroiref12_Journal_Put_r1 env h K := rfl

/-- ref.go:19 -/
def octroiref12_Journal_Put_r2 (env : Env) (h : Hp) (K : Env → Hp → Prop) : Prop :=
  K (env.set 4 (Go.Value.int Go.IntKind.i64 1)) h
@[congr] theorem octroiref12_Journal_Put_r2_congr {env : Env} {h : Hp} {K : Env → Hp → Prop} : octroiref12_Journal_Put_r2 env h K = octroiref12_Journal_Put_r2 env h K := rfl

/-- ref.go:21 (in any order) -/
def octroiref12_Journal_Put_r3 (env : Env) (h : Hp) (K : Env → Hp → Prop) : Prop :=
  nck (env 0) (
  rd Try.prog (Instr.fieldAt 45 (env 0) 1) noHp fun v15_2 =>
  rd Try.prog (Instr.loadAt 22 v15_2) h fun v16_3 =>
  rd Try.prog (Builtin.len_ #[22] 3 #[v16_3]) h fun v17_4 =>
  nck (env 0) (
  rd Try.prog (Instr.fieldAt 45 (env 0) 0) noHp fun v20_7 =>
  rd Try.prog (Instr.loadAt 3 v20_7) h fun v21_8 =>
  rd Try.prog (bop Go.BinOp.geq 3 (Go.Operand.tmp 17) (Go.Operand.tmp 21) v17_4 v21_8) noHp fun v22_9 =>
  K ((((((((((env.set 13 (env 0)).set 14 (env 0)).set 15 v15_2).set 16 v16_3).set 17 v17_4).set 18 (env 0)).set 19 (env 0)).set 20 v20_7).set 21 v21_8).set 22 v22_9) h))
@[congr] theorem octroiref12_Journal_Put_r3_congr {env : Env} {h : Hp} {K : Env → Hp → Prop} : octroiref12_Journal_Put_r3 env h K = octroiref12_Journal_Put_r3 env h K := rfl

/-- ref.go:22 -/
def octroiref12_Journal_Put_r4 (env : Env) (h : Hp) (K : Env → Hp → Prop) : Prop :=
  K (env.set 4 (Go.Value.int Go.IntKind.i64 4)) h
@[congr] theorem octroiref12_Journal_Put_r4_congr {env : Env} {h : Hp} {K : Env → Hp → Prop} : octroiref12_Journal_Put_r4 env h K = octroiref12_Journal_Put_r4 env h K := rfl

/-- ref.go:24 (in any order) -/
def octroiref12_Journal_Put_r5 (env : Env) (h : Hp) (K : Env → Hp → Prop) : Prop :=
  nck (env 0) (
  rd Try.prog (Instr.fieldAt 45 (env 0) 1) noHp fun v26_3 =>
  rd Try.prog (Instr.loadAt 22 v26_3) h fun v27_4 =>
  rd Try.prog (Instr.loadAt 25 (env 3)) h fun v28_5 =>
  arun Try.prog (Instr.buildSlice 22 1 #[(0, v28_5)]) h fun v29_6 h1 =>
  (rrun Try.prog (Instr.loadAt 22 v26_3) h1 = some v27_4 ∧ True) ∧
  arun Try.prog (Builtin.append_ #[22, 22] 22 #[v27_4, v29_6]) h1 fun v30_7 h2 =>
  (True) ∧
  nck (env 0) (
  rd Try.prog (Instr.fieldAt 45 (env 0) 1) noHp fun v32_9 =>
  arun Try.prog (Instr.storeAt 22 v32_9 v30_7) h2 fun _ h3 =>
  (True) ∧
  K ((((((((((env.set 23 (env 0)).set 24 (env 0)).set 25 (env 0)).set 26 v26_3).set 27 v27_4).set 28 v28_5).set 29 v29_6).set 30 v30_7).set 31 (env 0)).set 32 v32_9) h3))
@[congr] theorem octroiref12_Journal_Put_r5_congr {env : Env} {h : Hp} {K : Env → Hp → Prop} : octroiref12_Journal_Put_r5 env h K = octroiref12_Journal_Put_r5 env h K := rfl

/-- ref.go:25 -/
def octroiref12_Journal_Put_r6 (env : Env) (h : Hp) (K : Env → Hp → Prop) : Prop :=
  K (env.set 4 (Go.Value.int Go.IntKind.i64 0)) h
@[congr] theorem octroiref12_Journal_Put_r6_congr {env : Env} {h : Hp} {K : Env → Hp → Prop} : octroiref12_Journal_Put_r6 env h K = octroiref12_Journal_Put_r6 env h K := rfl

def octroiref12_Journal_Put_D : Den := (sq (rg octroiref12_Journal_Put_r0) (sq (sq (rg octroiref12_Journal_Put_r1) (cnd (Go.Operand.tmp 12) (sq (rg octroiref12_Journal_Put_r2) (ex .ret)) (ex .normal))) (sq (sq (rg octroiref12_Journal_Put_r3) (cnd (Go.Operand.tmp 22) (sq (rg octroiref12_Journal_Put_r4) (ex .ret)) (ex .normal))) (sq (rg octroiref12_Journal_Put_r5) (sq (rg octroiref12_Journal_Put_r6) (ex .ret))))))

theorem octroiref12_Journal_Put_eq : (den Try.prog 33 octroiref12_Journal_Put_code).1 = octroiref12_Journal_Put_D := by kernel_rfl

theorem octroiref12_Journal_Put_ok {args : Array Value} {h : Hp} {Q : Value → Hp → Prop} (hn : args.size ≤ 33) (D : octroiref12_Journal_Put_D (fin Try.prog [(Go.ResultVar.tmp 4)] Q) (env0 args) h) : Ok Try.prog 20 args h Q :=
  ok_of_den progIsOk Try.func20 (c := octroiref12_Journal_Put_code) (by kernel_rfl) hn (by show (den Try.prog 33 octroiref12_Journal_Put_code).1 _ _ _; rw [octroiref12_Journal_Put_eq]; exact D)

/-! ### (*octroi/octroiref12.Journal).Sync: function 21 -/
noncomputable def octroiref12_Journal_Sync_code : Code := match Try.f21.body with | some c => c | none => .skip

/-- ref.go:61 -/
def octroiref12_Journal_Sync_r0 (env : Env) (h : Hp) (K : Env → Hp → Prop) : Prop :=
  nck (env 0) (
  rd Try.prog (Instr.fieldAt 45 (env 0) 1) noHp fun v5_3 =>
  rd Try.prog (Instr.loadAt 22 v5_3) h fun v6_4 =>
  rd Try.prog (Builtin.len_ #[22] 3 #[v6_4]) h fun v7_5 =>
  nck (env 0) (
  rd Try.prog (Instr.fieldAt 45 (env 0) 2) noHp fun v9_7 =>
  arun Try.prog (Instr.storeAt 3 v9_7 v7_5) h fun _ h1 =>
  K ((((((((env.set 2 (env 0)).set 3 (env 0)).set 4 (env 0)).set 5 v5_3).set 6 v6_4).set 7 v7_5).set 8 (env 0)).set 9 v9_7) h1))
@[congr] theorem octroiref12_Journal_Sync_r0_congr {env : Env} {h : Hp} {K : Env → Hp → Prop} : octroiref12_Journal_Sync_r0 env h K = octroiref12_Journal_Sync_r0 env h K := rfl

def octroiref12_Journal_Sync_D : Den := (rg octroiref12_Journal_Sync_r0)

theorem octroiref12_Journal_Sync_eq : (den Try.prog 10 octroiref12_Journal_Sync_code).1 = octroiref12_Journal_Sync_D := by kernel_rfl

theorem octroiref12_Journal_Sync_ok {args : Array Value} {h : Hp} {Q : Value → Hp → Prop} (hn : args.size ≤ 10) (D : octroiref12_Journal_Sync_D (fin Try.prog [] Q) (env0 args) h) : Ok Try.prog 21 args h Q :=
  ok_of_den progIsOk Try.func21 (c := octroiref12_Journal_Sync_code) (by kernel_rfl) hn (by show (den Try.prog 10 octroiref12_Journal_Sync_code).1 _ _ _; rw [octroiref12_Journal_Sync_eq]; exact D)

/-! ### (*octroi/octroiref12.Journal).Crash: function 22 -/
noncomputable def octroiref12_Journal_Crash_code : Code := match Try.f22.body with | some c => c | none => .skip

/-- ref.go:65 -/
def octroiref12_Journal_Crash_r0 (env : Env) (h : Hp) (K : Env → Hp → Prop) : Prop :=
  K (env.set 4 (Go.Value.int Go.IntKind.i64 0)) h
@[congr] theorem octroiref12_Journal_Crash_r0_congr {env : Env} {h : Hp} {K : Env → Hp → Prop} : octroiref12_Journal_Crash_r0 env h K = octroiref12_Journal_Crash_r0 env h K := rfl

/-- ref.go:66 -/
def octroiref12_Journal_Crash_r1 (env : Env) (h : Hp) (K : Env → Hp → Prop) : Prop :=
  rd Try.prog (bop Go.BinOp.gtr 3 (Go.Operand.tmp 5) (Go.Operand.const (Go.Value.int Go.IntKind.i64 0)) (env 1) (Go.Value.int Go.IntKind.i64 0)) noHp fun v6_1 =>
  K ((env.set 5 (env 1)).set 6 v6_1) h
@[congr] theorem octroiref12_Journal_Crash_r1_congr {env : Env} {h : Hp} {K : Env → Hp → Prop} : octroiref12_Journal_Crash_r1 env h K = octroiref12_Journal_Crash_r1 env h K := rfl

/-- ref.go:67 (in any order) -/
def octroiref12_Journal_Crash_r2 (env : Env) (h : Hp) (K : Env → Hp → Prop) : Prop :=
  nck (env 0) (
  rd Try.prog (Instr.fieldAt 45 (env 0) 1) noHp fun v10_3 =>
  rd Try.prog (Instr.loadAt 22 v10_3) h fun v11_4 =>
  rd Try.prog (Builtin.len_ #[22] 3 #[v11_4]) h fun v12_5 =>
  nck (env 0) (
  rd Try.prog (Instr.fieldAt 45 (env 0) 2) noHp fun v15_8 =>
  rd Try.prog (Instr.loadAt 3 v15_8) h fun v16_9 =>
  rd Try.prog (bop Go.BinOp.sub 3 (Go.Operand.tmp 12) (Go.Operand.tmp 16) v12_5 v16_9) noHp fun v17_10 =>
  rd Try.prog (bop Go.BinOp.mul 3 (Go.Operand.const (Go.Value.int Go.IntKind.i64 12)) (Go.Operand.tmp 17) (Go.Value.int Go.IntKind.i64 12) v17_10) noHp fun v18_11 =>
  rd Try.prog (bop Go.BinOp.add 3 (Go.Operand.tmp 18) (Go.Operand.const (Go.Value.int Go.IntKind.i64 1)) v18_11 (Go.Value.int Go.IntKind.i64 1)) noHp fun v19_12 =>
  rd Try.prog (bop Go.BinOp.rem 3 (Go.Operand.tmp 7) (Go.Operand.tmp 19) (env 1) v19_12) noHp fun v20_13 =>
  K (((((((((((((((env.set 7 (env 1)).set 8 (env 0)).set 9 (env 0)).set 10 v10_3).set 11 v11_4).set 12 v12_5).set 13 (env 0)).set 14 (env 0)).set 15 v15_8).set 16 v16_9).set 17 v17_10).set 18 v18_11).set 19 v19_12).set 20 v20_13).set 4 v20_13) h))
@[congr] theorem octroiref12_Journal_Crash_r2_congr {env : Env} {h : Hp} {K : Env → Hp → Prop} : octroiref12_Journal_Crash_r2 env h K = octroiref12_Journal_Crash_r2 env h K := rfl

/-- ref.go:69 (in any order) -/
def octroiref12_Journal_Crash_r3 (env : Env) (h : Hp) (K : Env → Hp → Prop) : Prop :=
  nck (env 0) (
  rd Try.prog (Instr.fieldAt 45 (env 0) 1) noHp fun v24_3 =>
  rd Try.prog (Instr.loadAt 22 v24_3) h fun v25_4 =>
  nck (env 0) (
  rd Try.prog (Instr.fieldAt 45 (env 0) 2) noHp fun v28_7 =>
  rd Try.prog (Instr.loadAt 3 v28_7) h fun v29_8 =>
  rd Try.prog (bop Go.BinOp.quo 3 (Go.Operand.tmp 30) (Go.Operand.const (Go.Value.int Go.IntKind.i64 12)) (env 4) (Go.Value.int Go.IntKind.i64 12)) noHp fun v31_10 =>
  rd Try.prog (bop Go.BinOp.add 3 (Go.Operand.tmp 29) (Go.Operand.tmp 31) v29_8 v31_10) noHp fun v32_11 =>
  rd Try.prog (Instr.sliceAt 22 v25_4 none (some v32_11) none) noHp fun v33_12 =>
  nck (env 0) (
  rd Try.prog (Instr.fieldAt 45 (env 0) 1) noHp fun v35_14 =>
  arun Try.prog (Instr.storeAt 22 v35_14 v33_12) h fun _ h1 =>
  (True) ∧
  K (((((((((((((((env.set 21 (env 0)).set 22 (env 0)).set 23 (env 0)).set 24 v24_3).set 25 v25_4).set 26 (env 0)).set 27 (env 0)).set 28 v28_7).set 29 v29_8).set 30 (env 4)).set 31 v31_10).set 32 v32_11).set 33 v33_12).set 34 (env 0)).set 35 v35_14) h1)))
@[congr] theorem octroiref12_Journal_Crash_r3_congr {env : Env} {h : Hp} {K : Env → Hp → Prop} : octroiref12_Journal_Crash_r3 env h K = octroiref12_Journal_Crash_r3 env h K := rfl

/-- ref.go:70 -/
def octroiref12_Journal_Crash_r4 (env : Env) (h : Hp) (K : Env → Hp → Prop) : Prop :=
  nck (env 0) (
  rd Try.prog (Instr.fieldAt 45 (env 0) 1) noHp fun v39_3 =>
  rd Try.prog (Instr.loadAt 22 v39_3) h fun v40_4 =>
  rd Try.prog (Builtin.len_ #[22] 3 #[v40_4]) h fun v41_5 =>
  nck (env 0) (
  rd Try.prog (Instr.fieldAt 45 (env 0) 2) noHp fun v43_7 =>
  arun Try.prog (Instr.storeAt 3 v43_7 v41_5) h fun _ h1 =>
  K ((((((((env.set 36 (env 0)).set 37 (env 0)).set 38 (env 0)).set 39 v39_3).set 40 v40_4).set 41 v41_5).set 42 (env 0)).set 43 v43_7) h1))
@[congr] theorem octroiref12_Journal_Crash_r4_congr {env : Env} {h : Hp} {K : Env → Hp → Prop} : octroiref12_Journal_Crash_r4 env h K = octroiref12_Journal_Crash_r4 env h K := rfl

def octroiref12_Journal_Crash_D : Den := (sq (rg octroiref12_Journal_Crash_r0) (sq (sq (rg octroiref12_Journal_Crash_r1) (cnd (Go.Operand.tmp 6) (rg octroiref12_Journal_Crash_r2) (ex .normal))) (sq (rg octroiref12_Journal_Crash_r3) (rg octroiref12_Journal_Crash_r4))))

theorem octroiref12_Journal_Crash_eq : (den Try.prog 44 octroiref12_Journal_Crash_code).1 = octroiref12_Journal_Crash_D := by kernel_rfl

theorem octroiref12_Journal_Crash_ok {args : Array Value} {h : Hp} {Q : Value → Hp → Prop} (hn : args.size ≤ 44) (D : octroiref12_Journal_Crash_D (fin Try.prog [] Q) (env0 args) h) : Ok Try.prog 22 args h Q :=
  ok_of_den progIsOk Try.func22 (c := octroiref12_Journal_Crash_code) (by kernel_rfl) hn (by show (den Try.prog 44 octroiref12_Journal_Crash_code).1 _ _ _; rw [octroiref12_Journal_Crash_eq]; exact D)

/-! ### (*octroi/octroiref12.Journal).Pack: function 23 -/
noncomputable def octroiref12_Journal_Pack_code : Code := match Try.f23.body with | some c => c | none => .skip

/-- ref.go:75 -/
def octroiref12_Journal_Pack_r0 (env : Env) (h : Hp) (K : Env → Hp → Prop) : Prop :=
  Ok Try.prog 25 #[(env 0)] h fun v4_2 h1 =>
  nck (env 0) (
  rd Try.prog (Instr.fieldAt 45 (env 0) 1) noHp fun v6_4 =>
  arun Try.prog (Instr.storeAt 22 v6_4 v4_2) h1 fun _ h2 =>
  K (((((env.set 2 (env 0)).set 3 (env 0)).set 4 v4_2).set 5 (env 0)).set 6 v6_4) h2)
@[congr] theorem octroiref12_Journal_Pack_r0_congr {env : Env} {h : Hp} {K : Env → Hp → Prop} : octroiref12_Journal_Pack_r0 env h K = octroiref12_Journal_Pack_r0 env h K := rfl

/-- ref.go:76 -/
def octroiref12_Journal_Pack_r1 (env : Env) (h : Hp) (K : Env → Hp → Prop) : Prop :=
  nck (env 0) (
  rd Try.prog (Instr.fieldAt 45 (env 0) 1) noHp fun v10_3 =>
  rd Try.prog (Instr.loadAt 22 v10_3) h fun v11_4 =>
  rd Try.prog (Builtin.len_ #[22] 3 #[v11_4]) h fun v12_5 =>
  nck (env 0) (
  rd Try.prog (Instr.fieldAt 45 (env 0) 2) noHp fun v14_7 =>
  arun Try.prog (Instr.storeAt 3 v14_7 v12_5) h fun _ h1 =>
  K ((((((((env.set 7 (env 0)).set 8 (env 0)).set 9 (env 0)).set 10 v10_3).set 11 v11_4).set 12 v12_5).set 13 (env 0)).set 14 v14_7) h1))
@[congr] theorem octroiref12_Journal_Pack_r1_congr {env : Env} {h : Hp} {K : Env → Hp → Prop} : octroiref12_Journal_Pack_r1 env h K = octroiref12_Journal_Pack_r1 env h K := rfl

def octroiref12_Journal_Pack_D : Den := (sq (rg octroiref12_Journal_Pack_r0) (rg octroiref12_Journal_Pack_r1))

theorem octroiref12_Journal_Pack_eq : (den Try.prog 15 octroiref12_Journal_Pack_code).1 = octroiref12_Journal_Pack_D := by kernel_rfl

theorem octroiref12_Journal_Pack_ok {args : Array Value} {h : Hp} {Q : Value → Hp → Prop} (hn : args.size ≤ 15) (D : octroiref12_Journal_Pack_D (fin Try.prog [] Q) (env0 args) h) : Ok Try.prog 23 args h Q :=
  ok_of_den progIsOk Try.func23 (c := octroiref12_Journal_Pack_code) (by kernel_rfl) hn (by show (den Try.prog 15 octroiref12_Journal_Pack_code).1 _ _ _; rw [octroiref12_Journal_Pack_eq]; exact D)

/-! ### (*octroi/octroiref12.Journal).Get: function 24 -/
noncomputable def octroiref12_Journal_Get_code : Code := match Try.f24.body with | some c => c | none => .skip

/-- ref.go:29 -/
def octroiref12_Journal_Get_r0 (env : Env) (h : Hp) (K : Env → Hp → Prop) : Prop :=
  K ((env.set 6 (Go.Value.int Go.IntKind.u32 0)).set 7 (Go.Value.bool false)) h
@[congr] theorem octroiref12_Journal_Get_r0_congr {env : Env} {h : Hp} {K : Env → Hp → Prop} : octroiref12_Journal_Get_r0 env h K = octroiref12_Journal_Get_r0 env h K := rfl

/-- ref.go:30 -/
def octroiref12_Journal_Get_r1 (env : Env) (h : Hp) (K : Env → Hp → Prop) : Prop :=
  nck (env 0) (
  rd Try.prog (Instr.fieldAt 45 (env 0) 1) noHp fun v11_2 =>
  rd Try.prog (Instr.loadAt 22 v11_2) h fun v12_3 =>
  rd Try.prog (Builtin.len_ #[22] 3 #[v12_3]) h fun v13_4 =>
  rd Try.prog (bop Go.BinOp.sub 3 (Go.Operand.tmp 13) (Go.Operand.const (Go.Value.int Go.IntKind.i64 1)) v13_4 (Go.Value.int Go.IntKind.i64 1)) noHp fun v14_5 =>
  K (((((((env.set 9 (env 0)).set 10 (env 0)).set 11 v11_2).set 12 v12_3).set 13 v13_4).set 14 v14_5).set 8 v14_5) h)
@[congr] theorem octroiref12_Journal_Get_r1_congr {env : Env} {h : Hp} {K : Env → Hp → Prop} : octroiref12_Journal_Get_r1 env h K = octroiref12_Journal_Get_r1 env h K := rfl

/-- ref.go:30 -/
def octroiref12_Journal_Get_r2 (env : Env) (h : Hp) (K : Env → Hp → Prop) : Prop :=
  rd Try.prog (bop Go.BinOp.geq 3 (Go.Operand.tmp 15) (Go.Operand.const (Go.Value.int Go.IntKind.i64 0)) (env 8) (Go.Value.int Go.IntKind.i64 0)) noHp fun v16_1 =>
  K ((env.set 15 (env 8)).set 16 v16_1) h
@[congr] theorem octroiref12_Journal_Get_r2_congr {env : Env} {h : Hp} {K : Env → Hp → Prop} : octroiref12_Journal_Get_r2 env h K = octroiref12_Journal_Get_r2 env h K := rfl

/-- ref.go:31 -/
def octroiref12_Journal_Get_r3 (env : Env) (h : Hp) (K : Env → Hp → Prop) : Prop :=
  nck (env 0) (
  rd Try.prog (Instr.fieldAt 45 (env 0) 1) noHp fun v21_2 =>
  rd Try.prog (Instr.loadAt 22 v21_2) h fun v22_3 =>
  rd Try.prog (Instr.indexAt 22 v22_3 (env 8)) noHp fun v24_5 =>
  rd Try.prog (Instr.fieldAt 25 v24_5 0) noHp fun v25_6 =>
  rd Try.prog (Instr.loadAt 3 v25_6) h fun v26_7 =>
  rd Try.prog (bop Go.BinOp.eql 3 (Go.Operand.tmp 26) (Go.Operand.tmp 27) v26_7 (env 1)) noHp fun v28_9 =>
  gd (yb v28_9 == some true) (fun h k => k (env 0) h) h fun v30_11 h1 =>
  gd (yb v28_9 == some true) (fun h k => nck v30_11 (k v30_11 h)) h1 fun v31_12 h2 =>
  gd (yb v28_9 == some true) (fun h k => rd Try.prog (Instr.fieldAt 45 v31_12 1) noHp fun v => k v h) h2 fun v32_13 h3 =>
  gd (yb v28_9 == some true) (fun h k => rd Try.prog (Instr.loadAt 22 v32_13) h fun v => k v h) h3 fun v33_14 h4 =>
  gd (yb v28_9 == some true) (fun h k => k (env 8) h) h4 fun v34_15 h5 =>
  gd (yb v28_9 == some true) (fun h k => rd Try.prog (Instr.indexAt 22 v33_14 v34_15) noHp fun v => k v h) h5 fun v35_16 h6 =>
  gd (yb v28_9 == some true) (fun h k => rd Try.prog (Instr.fieldAt 25 v35_16 1) noHp fun v => k v h) h6 fun v36_17 h7 =>
  gd (yb v28_9 == some true) (fun h k => rd Try.prog (Instr.loadAt 23 v36_17) h fun v => k v h) h7 fun v37_18 h8 =>
  gd (yb v28_9 == some true) (fun h k => k (env 2) h) h8 fun v38_19 h9 =>
  gd (yb v28_9 == some true) (fun h k => rd Try.prog (bop Go.BinOp.eql 23 (Go.Operand.tmp 37) (Go.Operand.tmp 38) v37_18 v38_19) noHp fun v => k v h) h9 fun v39_20 h10 =>
  rd Try.prog (pck v28_9 v39_20 (Go.Value.bool false)) noHp fun v40_21 =>
  K ((((((((((((((((((((((env.set 19 (env 0)).set 20 (env 0)).set 21 v21_2).set 22 v22_3).set 23 (env 8)).set 24 v24_5).set 25 v25_6).set 26 v26_7).set 27 (env 1)).set 28 v28_9).set 29 v28_9).set 30 v30_11).set 31 v31_12).set 32 v32_13).set 33 v33_14).set 34 v34_15).set 35 v35_16).set 36 v36_17).set 37 v37_18).set 38 v38_19).set 39 v39_20).set 40 v40_21) h10)
@[congr] theorem octroiref12_Journal_Get_r3_congr {env : Env} {h : Hp} {K : Env → Hp → Prop} : octroiref12_Journal_Get_r3 env h K = octroiref12_Journal_Get_r3 env h K := rfl

/-- ref.go:32 -/
def octroiref12_Journal_Get_r4 (env : Env) (h : Hp) (K : Env → Hp → Prop) : Prop :=
  nck (env 0) (
  rd Try.prog (Instr.fieldAt 45 (env 0) 1) noHp fun v43_2 =>
  rd Try.prog (Instr.loadAt 22 v43_2) h fun v44_3 =>
  rd Try.prog (Instr.indexAt 22 v44_3 (env 8)) noHp fun v46_5 =>
  rd Try.prog (Instr.fieldAt 25 v46_5 2) noHp fun v47_6 =>
  rd Try.prog (Instr.loadAt 23 v47_6) h fun v48_7 =>
  K ((((((((((env.set 41 (env 0)).set 42 (env 0)).set 43 v43_2).set 44 v44_3).set 45 (env 8)).set 46 v46_5).set 47 v47_6).set 48 v48_7).set 6 v48_7).set 7 (Go.Value.bool true)) h)
@[congr] theorem octroiref12_Journal_Get_r4_congr {env : Env} {h : Hp} {K : Env → Hp → Prop} : octroiref12_Journal_Get_r4 env h K = octroiref12_Journal_Get_r4 env h K := rfl

/-- ref.go:30 -/
def octroiref12_Journal_Get_r5 (env : Env) (h : Hp) (K : Env → Hp → Prop) : Prop :=
  rd Try.prog (bop Go.BinOp.sub 3 (Go.Operand.tmp 17) (Go.Operand.const (Go.Value.int Go.IntKind.i64 1)) (env 8) (Go.Value.int Go.IntKind.i64 1)) noHp fun v18_1 =>
  K (((env.set 17 (env 8)).set 18 v18_1).set 8 v18_1) h
@[congr] theorem octroiref12_Journal_Get_r5_congr {env : Env} {h : Hp} {K : Env → Hp → Prop} : octroiref12_Journal_Get_r5 env h K = octroiref12_Journal_Get_r5 env h K := rfl

def octroiref12_Journal_Get_L0 : Den := (sq (sq (rg octroiref12_Journal_Get_r2) (cnd (Go.Operand.tmp 16) (ex .normal) (ex (.exit 0)))) (sq (blk 1 (sq (rg octroiref12_Journal_Get_r3) (cnd (Go.Operand.tmp 40) (sq (rg octroiref12_Journal_Get_r4) (ex .ret)) (ex .normal)))) (rg octroiref12_Journal_Get_r5)))

/-- ref.go:35 -/
def octroiref12_Journal_Get_r6 (env : Env) (h : Hp) (K : Env → Hp → Prop) : Prop :=
  K ((env.set 6 (Go.Value.int Go.IntKind.u32 0)).set 7 (Go.Value.bool false)) h
@[congr] theorem octroiref12_Journal_Get_r6_congr {env : Env} {h : Hp} {K : Env → Hp → Prop} : octroiref12_Journal_Get_r6 env h K = octroiref12_Journal_Get_r6 env h K := rfl

def octroiref12_Journal_Get_D : Den := (sq (rg octroiref12_Journal_Get_r0) (sq (sq (rg octroiref12_Journal_Get_r1) (blk 0 (lp octroiref12_Journal_Get_L0))) (sq (rg octroiref12_Journal_Get_r6) (ex .ret))))

theorem octroiref12_Journal_Get_eq : (den Try.prog 49 octroiref12_Journal_Get_code).1 = octroiref12_Journal_Get_D := by kernel_rfl

theorem octroiref12_Journal_Get_ok {args : Array Value} {h : Hp} {Q : Value → Hp → Prop} (hn : args.size ≤ 49) (D : octroiref12_Journal_Get_D (fin Try.prog [(Go.ResultVar.tmp 6), (Go.ResultVar.tmp 7)] Q) (env0 args) h) : Ok Try.prog 24 args h Q :=
  ok_of_den progIsOk Try.func24 (c := octroiref12_Journal_Get_code) (by kernel_rfl) hn (by show (den Try.prog 49 octroiref12_Journal_Get_code).1 _ _ _; rw [octroiref12_Journal_Get_eq]; exact D)

/-! ### (*octroi/octroiref12.Journal).Facts: function 25 -/
noncomputable def octroiref12_Journal_Facts_code : Code := match Try.f25.body with | some c => c | none => .skip

/-- ref.go:39 -/
def octroiref12_Journal_Facts_r0 (env : Env) (h : Hp) (K : Env → Hp → Prop) : Prop :=
  K (env.set 2 (Go.Value.slice none 0 0)) h
@[congr] theorem octroiref12_Journal_Facts_r0_congr {env : Env} {h : Hp} {K : Env → Hp → Prop} : octroiref12_Journal_Facts_r0 env h K = octroiref12_Journal_Facts_r0 env h K := rfl

/-- ref.go:40 -/
def octroiref12_Journal_Facts_r1 (env : Env) (h : Hp) (K : Env → Hp → Prop) : Prop :=
  K (env.set 3 (Go.Value.slice none 0 0)) h
@[congr] theorem octroiref12_Journal_Facts_r1_congr {env : Env} {h : Hp} {K : Env → Hp → Prop} : octroiref12_Journal_Facts_r1 env h K = octroiref12_Journal_Facts_r1 env h K := rfl

/-- ref.go:41 -/
def octroiref12_Journal_Facts_r2 (env : Env) (h : Hp) (K : Env → Hp → Prop) : Prop :=
  K (env.set 4 (Go.Value.int Go.IntKind.i64 0)) h
@[congr] theorem octroiref12_Journal_Facts_r2_congr {env : Env} {h : Hp} {K : Env → Hp → Prop} : octroiref12_Journal_Facts_r2 env h K = octroiref12_Journal_Facts_r2 env h K := rfl

/-- ref.go:41 -/
def octroiref12_Journal_Facts_r3 (env : Env) (h : Hp) (K : Env → Hp → Prop) : Prop :=
  nck (env 0) (
  rd Try.prog (Instr.fieldAt 45 (env 0) 1) noHp fun v13_3 =>
  rd Try.prog (Instr.loadAt 22 v13_3) h fun v14_4 =>
  rd Try.prog (Builtin.len_ #[22] 3 #[v14_4]) h fun v15_5 =>
  rd Try.prog (bop Go.BinOp.lss 3 (Go.Operand.tmp 10) (Go.Operand.tmp 15) (env 4) v15_5) noHp fun v16_6 =>
  K (((((((env.set 10 (env 4)).set 11 (env 0)).set 12 (env 0)).set 13 v13_3).set 14 v14_4).set 15 v15_5).set 16 v16_6) h)
@[congr] theorem octroiref12_Journal_Facts_r3_congr {env : Env} {h : Hp} {K : Env → Hp → Prop} : octroiref12_Journal_Facts_r3 env h K = octroiref12_Journal_Facts_r3 env h K := rfl

/-- ref.go:42 -/
def octroiref12_Journal_Facts_r4 (env : Env) (h : Hp) (K : Env → Hp → Prop) : Prop :=
  nck (env 0) (
  rd Try.prog (Instr.fieldAt 45 (env 0) 1) noHp fun v21_2 =>
  rd Try.prog (Instr.loadAt 22 v21_2) h fun v22_3 =>
  rd Try.prog (Instr.indexAt 22 v22_3 (env 4)) noHp fun v24_5 =>
  rd Try.prog (Instr.loadAt 25 v24_5) h fun v25_6 =>
  arun Try.prog (Instr.alloc 25 true (Go.Value.tuple #[])) h fun v5_7 h1 =>
  arun Try.prog (Instr.storeAt 25 v5_7 v25_6) h1 fun _ h2 =>
  K ((((((((env.set 19 (env 0)).set 20 (env 0)).set 21 v21_2).set 22 v22_3).set 23 (env 4)).set 24 v24_5).set 25 v25_6).set 5 v5_7) h2)
@[congr] theorem octroiref12_Journal_Facts_r4_congr {env : Env} {h : Hp} {K : Env → Hp → Prop} : octroiref12_Journal_Facts_r4 env h K = octroiref12_Journal_Facts_r4 env h K := rfl

/-- ref.go:43 -/
def octroiref12_Journal_Facts_r5 (env : Env) (h : Hp) (K : Env → Hp → Prop) : Prop :=
  rd Try.prog (Instr.fieldAt 25 (env 5) 0) noHp fun v28_1 =>
  rd Try.prog (Instr.loadAt 3 v28_1) h fun v29_2 =>
  rd Try.prog (Instr.fieldAt 25 (env 5) 1) noHp fun v30_3 =>
  rd Try.prog (Instr.loadAt 23 v30_3) h fun v31_4 =>
  Ok Try.prog 24 #[(env 0), v29_2, v31_4] h fun v32_5 h1 =>
  rd Try.prog (Instr.extract v32_5 0) noHp fun v33_7 =>
  rd Try.prog (Instr.extract v32_5 1) noHp fun v34_8 =>
  K (((((((((((env.set 27 (env 0)).set 28 v28_1).set 29 v29_2).set 30 v30_3).set 31 v31_4).set 32 v32_5).set 26 v32_5).set 33 v33_7).set 34 v34_8).set 6 v33_7).set 7 v34_8) h1
@[congr] theorem octroiref12_Journal_Facts_r5_congr {env : Env} {h : Hp} {K : Env → Hp → Prop} : octroiref12_Journal_Facts_r5 env h K = octroiref12_Journal_Facts_r5 env h K := rfl

/-- ref.go:44 -/
def octroiref12_Journal_Facts_r6 (env : Env) (h : Hp) (K : Env → Hp → Prop) : Prop :=
  rd Try.prog (Instr.fieldAt 25 (env 5) 2) noHp fun v36_1 =>
  arun Try.prog (Instr.storeAt 23 v36_1 (env 6)) h fun _ h1 =>
  K ((env.set 35 (env 6)).set 36 v36_1) h1
@[congr] theorem octroiref12_Journal_Facts_r6_congr {env : Env} {h : Hp} {K : Env → Hp → Prop} : octroiref12_Journal_Facts_r6 env h K = octroiref12_Journal_Facts_r6 env h K := rfl

/-- ref.go:45 -/
def octroiref12_Journal_Facts_r7 (env : Env) (h : Hp) (K : Env → Hp → Prop) : Prop :=
  K (env.set 8 (Go.Value.int Go.IntKind.i64 0)) h
@[congr] theorem octroiref12_Journal_Facts_r7_congr {env : Env} {h : Hp} {K : Env → Hp → Prop} : octroiref12_Journal_Facts_r7 env h K = octroiref12_Journal_Facts_r7 env h K := rfl

/-- ref.go:46 (in any order) -/
def octroiref12_Journal_Facts_r8 (env : Env) (h : Hp) (K : Env → Hp → Prop) : Prop :=
  rd Try.prog (Builtin.len_ #[22] 3 #[(env 3)]) h fun v39_2 =>
  rd Try.prog (bop Go.BinOp.lss 3 (Go.Operand.tmp 37) (Go.Operand.tmp 39) (env 8) v39_2) noHp fun v40_3 =>
  gd (yb v40_3 == some true) (fun h k => k (env 3) h) h fun v42_5 h1 =>
  gd (yb v40_3 == some true) (fun h k => k (env 8) h) h1 fun v43_6 h2 =>
  gd (yb v40_3 == some true) (fun h k => rd Try.prog (Instr.indexAt 22 v42_5 v43_6) noHp fun v => k v h) h2 fun v44_7 h3 =>
  gd (yb v40_3 == some true) (fun h k => rd Try.prog (Instr.fieldAt 25 v44_7 0) noHp fun v => k v h) h3 fun v45_8 h4 =>
  gd (yb v40_3 == some true) (fun h k => rd Try.prog (Instr.loadAt 3 v45_8) h fun v => k v h) h4 fun v46_9 h5 =>
  gd (yb v40_3 == some true) (fun h k => rd Try.prog (Instr.fieldAt 25 (env 5) 0) noHp fun v => k v h) h5 fun v47_10 h6 =>
  gd (yb v40_3 == some true) (fun h k => rd Try.prog (Instr.loadAt 3 v47_10) h fun v => k v h) h6 fun v48_11 h7 =>
  gd (yb v40_3 == some true) (fun h k => rd Try.prog (bop Go.BinOp.lss 3 (Go.Operand.tmp 46) (Go.Operand.tmp 48) v46_9 v48_11) noHp fun v => k v h) h7 fun v49_12 h8 =>
  gd (yb v40_3 == some true) (fun h k => k v49_12 h) h8 fun v50_13 h9 =>
  gd (yb v50_13 == some false) (fun h k => k (env 3) h) h9 fun v51_14 h10 =>
  gd (yb v50_13 == some false) (fun h k => k (env 8) h) h10 fun v52_15 h11 =>
  gd (yb v50_13 == some false) (fun h k => rd Try.prog (Instr.indexAt 22 v51_14 v52_15) noHp fun v => k v h) h11 fun v53_16 h12 =>
  gd (yb v50_13 == some false) (fun h k => rd Try.prog (Instr.fieldAt 25 v53_16 0) noHp fun v => k v h) h12 fun v54_17 h13 =>
  gd (yb v50_13 == some false) (fun h k => rd Try.prog (Instr.loadAt 3 v54_17) h fun v => k v h) h13 fun v55_18 h14 =>
  gd (yb v50_13 == some false) (fun h k => rd Try.prog (Instr.fieldAt 25 (env 5) 0) noHp fun v => k v h) h14 fun v56_19 h15 =>
  gd (yb v50_13 == some false) (fun h k => rd Try.prog (Instr.loadAt 3 v56_19) h fun v => k v h) h15 fun v57_20 h16 =>
  gd (yb v50_13 == some false) (fun h k => rd Try.prog (bop Go.BinOp.eql 3 (Go.Operand.tmp 55) (Go.Operand.tmp 57) v55_18 v57_20) noHp fun v => k v h) h16 fun v58_21 h17 =>
  gd (yb v50_13 == some false) (fun h k => k v58_21 h) h17 fun v59_22 h18 =>
  gd (yb v59_22 == some true) (fun h k => k (env 3) h) h18 fun v60_23 h19 =>
  gd (yb v59_22 == some true) (fun h k => k (env 8) h) h19 fun v61_24 h20 =>
  gd (yb v59_22 == some true) (fun h k => rd Try.prog (Instr.indexAt 22 v60_23 v61_24) noHp fun v => k v h) h20 fun v62_25 h21 =>
  gd (yb v59_22 == some true) (fun h k => rd Try.prog (Instr.fieldAt 25 v62_25 1) noHp fun v => k v h) h21 fun v63_26 h22 =>
  gd (yb v59_22 == some true) (fun h k => rd Try.prog (Instr.loadAt 23 v63_26) h fun v => k v h) h22 fun v64_27 h23 =>
  gd (yb v59_22 == some true) (fun h k => rd Try.prog (Instr.fieldAt 25 (env 5) 1) noHp fun v => k v h) h23 fun v65_28 h24 =>
  gd (yb v59_22 == some true) (fun h k => rd Try.prog (Instr.loadAt 23 v65_28) h fun v => k v h) h24 fun v66_29 h25 =>
  gd (yb v59_22 == some true) (fun h k => rd Try.prog (bop Go.BinOp.lss 23 (Go.Operand.tmp 64) (Go.Operand.tmp 66) v64_27 v66_29) noHp fun v => k v h) h25 fun v67_30 h26 =>
  gd (yb v50_13 == some false) (fun h k => rd Try.prog (pck v59_22 v67_30 (Go.Value.bool false)) noHp fun v => k v h) h26 fun v68_31 h27 =>
  gd (yb v40_3 == some true) (fun h k => rd Try.prog (pck v50_13 (Go.Value.bool true) v68_31) noHp fun v => k v h) h27 fun v69_32 h28 =>
  rd Try.prog (pck v40_3 v69_32 (Go.Value.bool false)) noHp fun v70_33 =>
  K ((((((((((((((((((((((((((((((((((env.set 37 (env 8)).set 38 (env 3)).set 39 v39_2).set 40 v40_3).set 41 v40_3).set 42 v42_5).set 43 v43_6).set 44 v44_7).set 45 v45_8).set 46 v46_9).set 47 v47_10).set 48 v48_11).set 49 v49_12).set 50 v50_13).set 51 v51_14).set 52 v52_15).set 53 v53_16).set 54 v54_17).set 55 v55_18).set 56 v56_19).set 57 v57_20).set 58 v58_21).set 59 v59_22).set 60 v60_23).set 61 v61_24).set 62 v62_25).set 63 v63_26).set 64 v64_27).set 65 v65_28).set 66 v66_29).set 67 v67_30).set 68 v68_31).set 69 v69_32).set 70 v70_33) h28
@[congr] theorem octroiref12_Journal_Facts_r8_congr {env : Env} {h : Hp} {K : Env → Hp → Prop} : octroiref12_Journal_Facts_r8 env h K = octroiref12_Journal_Facts_r8 env h K := rfl

/-- ref.go:47 -/
def octroiref12_Journal_Facts_r9 (env : Env) (h : Hp) (K : Env → Hp → Prop) : Prop :=
  rd Try.prog (bop Go.BinOp.add 3 (Go.Operand.tmp 71) (Go.Operand.const (Go.Value.int Go.IntKind.i64 1)) (env 8) (Go.Value.int Go.IntKind.i64 1)) noHp fun v72_1 =>
  K (((env.set 71 (env 8)).set 72 v72_1).set 8 v72_1) h
@[congr] theorem octroiref12_Journal_Facts_r9_congr {env : Env} {h : Hp} {K : Env → Hp → Prop} : octroiref12_Journal_Facts_r9 env h K = octroiref12_Journal_Facts_r9 env h K := rfl

def octroiref12_Journal_Facts_L0 : Den := (sq (sq (rg octroiref12_Journal_Facts_r8) (cnd (Go.Operand.tmp 70) (ex .normal) (ex (.exit 2)))) (blk 3 (rg octroiref12_Journal_Facts_r9)))

/-- ref.go:49 (in any order) -/
def octroiref12_Journal_Facts_r10 (env : Env) (h : Hp) (K : Env → Hp → Prop) : Prop :=
  rd Try.prog (Builtin.len_ #[22] 3 #[(env 3)]) h fun v75_2 =>
  rd Try.prog (bop Go.BinOp.lss 3 (Go.Operand.tmp 73) (Go.Operand.tmp 75) (env 8) v75_2) noHp fun v76_3 =>
  gd (yb v76_3 == some true) (fun h k => k (env 3) h) h fun v78_5 h1 =>
  gd (yb v76_3 == some true) (fun h k => k (env 8) h) h1 fun v79_6 h2 =>
  gd (yb v76_3 == some true) (fun h k => rd Try.prog (Instr.indexAt 22 v78_5 v79_6) noHp fun v => k v h) h2 fun v80_7 h3 =>
  gd (yb v76_3 == some true) (fun h k => rd Try.prog (Instr.loadAt 25 v80_7) h fun v => k v h) h3 fun v81_8 h4 =>
  gd (yb v76_3 == some true) (fun h k => rd Try.prog (Instr.loadAt 25 (env 5)) h fun v => k v h) h4 fun v82_9 h5 =>
  gd (yb v76_3 == some true) (fun h k => rd Try.prog (bop Go.BinOp.eql 25 (Go.Operand.tmp 81) (Go.Operand.tmp 82) v81_8 v82_9) noHp fun v => k v h) h5 fun v83_10 h6 =>
  rd Try.prog (pck v76_3 v83_10 (Go.Value.bool false)) noHp fun v84_11 =>
  K ((((((((((((env.set 73 (env 8)).set 74 (env 3)).set 75 v75_2).set 76 v76_3).set 77 v76_3).set 78 v78_5).set 79 v79_6).set 80 v80_7).set 81 v81_8).set 82 v82_9).set 83 v83_10).set 84 v84_11) h6
@[congr] theorem octroiref12_Journal_Facts_r10_congr {env : Env} {h : Hp} {K : Env → Hp → Prop} : octroiref12_Journal_Facts_r10 env h K = octroiref12_Journal_Facts_r10 env h K := rfl

/-- ref.go:52 -/
def octroiref12_Journal_Facts_r11 (env : Env) (h : Hp) (K : Env → Hp → Prop) : Prop :=
  rd Try.prog (Instr.sliceAt 22 (env 3) none (some (env 8)) none) noHp fun v87_2 =>
  arun Try.prog (Builtin.append_ #[22, 22] 22 #[(Go.Value.slice none 0 0), v87_2]) h fun v88_3 h1 =>
  K (((((env.set 85 (env 3)).set 86 (env 8)).set 87 v87_2).set 88 v88_3).set 9 v88_3) h1
@[congr] theorem octroiref12_Journal_Facts_r11_congr {env : Env} {h : Hp} {K : Env → Hp → Prop} : octroiref12_Journal_Facts_r11 env h K = octroiref12_Journal_Facts_r11 env h K := rfl

/-- ref.go:53 -/
def octroiref12_Journal_Facts_r12 (env : Env) (h : Hp) (K : Env → Hp → Prop) : Prop :=
  rd Try.prog (Instr.loadAt 25 (env 5)) h fun v90_1 =>
  arun Try.prog (Instr.buildSlice 22 1 #[(0, v90_1)]) h fun v91_2 h1 =>
  arun Try.prog (Builtin.append_ #[22, 22] 22 #[(env 9), v91_2]) h1 fun v92_3 h2 =>
  K (((((env.set 89 (env 9)).set 90 v90_1).set 91 v91_2).set 92 v92_3).set 9 v92_3) h2
@[congr] theorem octroiref12_Journal_Facts_r12_congr {env : Env} {h : Hp} {K : Env → Hp → Prop} : octroiref12_Journal_Facts_r12 env h K = octroiref12_Journal_Facts_r12 env h K := rfl

/-- ref.go:54 -/
def octroiref12_Journal_Facts_r13 (env : Env) (h : Hp) (K : Env → Hp → Prop) : Prop :=
  rd Try.prog (Instr.sliceAt 22 (env 3) (some (env 8)) none none) noHp fun v96_3 =>
  arun Try.prog (Builtin.append_ #[22, 22] 22 #[(env 9), v96_3]) h fun v97_4 h1 =>
  K ((((((env.set 93 (env 9)).set 94 (env 3)).set 95 (env 8)).set 96 v96_3).set 97 v97_4).set 9 v97_4) h1
@[congr] theorem octroiref12_Journal_Facts_r13_congr {env : Env} {h : Hp} {K : Env → Hp → Prop} : octroiref12_Journal_Facts_r13 env h K = octroiref12_Journal_Facts_r13 env h K := rfl

/-- ref.go:55 -/
def octroiref12_Journal_Facts_r14 (env : Env) (h : Hp) (K : Env → Hp → Prop) : Prop :=
  K ((env.set 98 (env 9)).set 3 (env 9)) h
@[congr] theorem octroiref12_Journal_Facts_r14_congr {env : Env} {h : Hp} {K : Env → Hp → Prop} : octroiref12_Journal_Facts_r14 env h K = octroiref12_Journal_Facts_r14 env h K := rfl

/-- ref.go:41 -/
def octroiref12_Journal_Facts_r15 (env : Env) (h : Hp) (K : Env → Hp → Prop) : Prop :=
  rd Try.prog (bop Go.BinOp.add 3 (Go.Operand.tmp 17) (Go.Operand.const (Go.Value.int Go.IntKind.i64 1)) (env 4) (Go.Value.int Go.IntKind.i64 1)) noHp fun v18_1 =>
  K (((env.set 17 (env 4)).set 18 v18_1).set 4 v18_1) h
@[congr] theorem octroiref12_Journal_Facts_r15_congr {env : Env} {h : Hp} {K : Env → Hp → Prop} : octroiref12_Journal_Facts_r15 env h K = octroiref12_Journal_Facts_r15 env h K := rfl

def octroiref12_Journal_Facts_L1 : Den := (sq (sq (rg octroiref12_Journal_Facts_r3) (cnd (Go.Operand.tmp 16) (ex .normal) (ex (.exit 0)))) (sq (blk 1 (sq (rg octroiref12_Journal_Facts_r4) (sq (rg octroiref12_Journal_Facts_r5) (sq (rg octroiref12_Journal_Facts_r6) (sq (rg octroiref12_Journal_Facts_r7) (sq (blk 2 (lp octroiref12_Journal_Facts_L0)) (sq (sq (rg octroiref12_Journal_Facts_r10) (cnd (Go.Operand.tmp 84) (ex (.exit 1)) (ex .normal))) (sq (rg octroiref12_Journal_Facts_r11) (sq (rg octroiref12_Journal_Facts_r12) (sq (rg octroiref12_Journal_Facts_r13) (rg octroiref12_Journal_Facts_r14))))))))))) (rg octroiref12_Journal_Facts_r15)))

/-- ref.go:57 -/
def octroiref12_Journal_Facts_r16 (env : Env) (h : Hp) (K : Env → Hp → Prop) : Prop :=
  K ((env.set 99 (env 3)).set 2 (env 3)) h
@[congr] theorem octroiref12_Journal_Facts_r16_congr {env : Env} {h : Hp} {K : Env → Hp → Prop} : octroiref12_Journal_Facts_r16 env h K = octroiref12_Journal_Facts_r16 env h K := rfl

def octroiref12_Journal_Facts_D : Den := (sq (rg octroiref12_Journal_Facts_r0) (sq (rg octroiref12_Journal_Facts_r1) (sq (sq (rg octroiref12_Journal_Facts_r2) (blk 0 (lp octroiref12_Journal_Facts_L1))) (sq (rg octroiref12_Journal_Facts_r16) (ex .ret)))))

theorem octroiref12_Journal_Facts_eq : (den Try.prog 100 octroiref12_Journal_Facts_code).1 = octroiref12_Journal_Facts_D := by kernel_rfl

theorem octroiref12_Journal_Facts_ok {args : Array Value} {h : Hp} {Q : Value → Hp → Prop} (hn : args.size ≤ 100) (D : octroiref12_Journal_Facts_D (fin Try.prog [(Go.ResultVar.tmp 2)] Q) (env0 args) h) : Ok Try.prog 25 args h Q :=
  ok_of_den progIsOk Try.func25 (c := octroiref12_Journal_Facts_code) (by kernel_rfl) hn (by show (den Try.prog 100 octroiref12_Journal_Facts_code).1 _ _ _; rw [octroiref12_Journal_Facts_eq]; exact D)

/-! ### (*octroi/octroiref12.Journal).Bytes: function 26 -/
noncomputable def octroiref12_Journal_Bytes_code : Code := match Try.f26.body with | some c => c | none => .skip

/-- ref.go:80 -/
def octroiref12_Journal_Bytes_r0 (env : Env) (h : Hp) (K : Env → Hp → Prop) : Prop :=
  K (env.set 2 (Go.Value.slice none 0 0)) h
@[congr] theorem octroiref12_Journal_Bytes_r0_congr {env : Env} {h : Hp} {K : Env → Hp → Prop} : octroiref12_Journal_Bytes_r0 env h K = octroiref12_Journal_Bytes_r0 env h K := rfl

/-- ref.go:81 -/
def octroiref12_Journal_Bytes_r1 (env : Env) (h : Hp) (K : Env → Hp → Prop) : Prop :=
  K (env.set 3 (Go.Value.slice none 0 0)) h
@[congr] theorem octroiref12_Journal_Bytes_r1_congr {env : Env} {h : Hp} {K : Env → Hp → Prop} : octroiref12_Journal_Bytes_r1 env h K = octroiref12_Journal_Bytes_r1 env h K := rfl

/-- ref.go:82 -/
def octroiref12_Journal_Bytes_r2 (env : Env) (h : Hp) (K : Env → Hp → Prop) : Prop :=
  K (env.set 4 (Go.Value.int Go.IntKind.i64 0)) h
@[congr] theorem octroiref12_Journal_Bytes_r2_congr {env : Env} {h : Hp} {K : Env → Hp → Prop} : octroiref12_Journal_Bytes_r2 env h K = octroiref12_Journal_Bytes_r2 env h K := rfl

/-- ref.go:82 -/
def octroiref12_Journal_Bytes_r3 (env : Env) (h : Hp) (K : Env → Hp → Prop) : Prop :=
  nck (env 0) (
  rd Try.prog (Instr.fieldAt 45 (env 0) 1) noHp fun v8_3 =>
  rd Try.prog (Instr.loadAt 22 v8_3) h fun v9_4 =>
  rd Try.prog (Builtin.len_ #[22] 3 #[v9_4]) h fun v10_5 =>
  rd Try.prog (bop Go.BinOp.lss 3 (Go.Operand.tmp 5) (Go.Operand.tmp 10) (env 4) v10_5) noHp fun v11_6 =>
  K (((((((env.set 5 (env 4)).set 6 (env 0)).set 7 (env 0)).set 8 v8_3).set 9 v9_4).set 10 v10_5).set 11 v11_6) h)
@[congr] theorem octroiref12_Journal_Bytes_r3_congr {env : Env} {h : Hp} {K : Env → Hp → Prop} : octroiref12_Journal_Bytes_r3 env h K = octroiref12_Journal_Bytes_r3 env h K := rfl

/-- ref.go:83 -/
def octroiref12_Journal_Bytes_r4 (env : Env) (h : Hp) (K : Env → Hp → Prop) : Prop :=
  nck (env 0) (
  rd Try.prog (Instr.fieldAt 45 (env 0) 1) noHp fun v17_3 =>
  rd Try.prog (Instr.loadAt 22 v17_3) h fun v18_4 =>
  rd Try.prog (Instr.indexAt 22 v18_4 (env 4)) noHp fun v20_6 =>
  rd Try.prog (Instr.fieldAt 25 v20_6 0) noHp fun v21_7 =>
  rd Try.prog (Instr.loadAt 3 v21_7) h fun v22_8 =>
  rd Try.prog (convert 3 5 v22_8) noHp fun v23_9 =>
  arun Try.prog (Instr.buildSlice 34 4 #[(0, v23_9), (1, (Go.Value.int Go.IntKind.u8 0)), (2, (Go.Value.int Go.IntKind.u8 0)), (3, (Go.Value.int Go.IntKind.u8 0))]) h fun v24_10 h1 =>
  arun Try.prog (Builtin.append_ #[34, 34] 34 #[(env 3), v24_10]) h1 fun v25_11 h2 =>
  K (((((((((((((env.set 14 (env 3)).set 15 (env 0)).set 16 (env 0)).set 17 v17_3).set 18 v18_4).set 19 (env 4)).set 20 v20_6).set 21 v21_7).set 22 v22_8).set 23 v23_9).set 24 v24_10).set 25 v25_11).set 3 v25_11) h2)
@[congr] theorem octroiref12_Journal_Bytes_r4_congr {env : Env} {h : Hp} {K : Env → Hp → Prop} : octroiref12_Journal_Bytes_r4 env h K = octroiref12_Journal_Bytes_r4 env h K := rfl

/-- ref.go:84 -/
def octroiref12_Journal_Bytes_r5 (env : Env) (h : Hp) (K : Env → Hp → Prop) : Prop :=
  nck (env 0) (
  rd Try.prog (Instr.fieldAt 45 (env 0) 1) noHp fun v29_3 =>
  rd Try.prog (Instr.loadAt 22 v29_3) h fun v30_4 =>
  rd Try.prog (Instr.indexAt 22 v30_4 (env 4)) noHp fun v32_6 =>
  rd Try.prog (Instr.fieldAt 25 v32_6 1) noHp fun v33_7 =>
  rd Try.prog (Instr.loadAt 23 v33_7) h fun v34_8 =>
  Ok Try.prog 33 #[v34_8, (Go.Value.int Go.IntKind.i64 4)] h fun v35_9 h1 =>
  arun Try.prog (Builtin.append_ #[34, 34] 34 #[(env 3), v35_9]) h1 fun v36_10 h2 =>
  K ((((((((((((env.set 26 (env 3)).set 27 (env 0)).set 28 (env 0)).set 29 v29_3).set 30 v30_4).set 31 (env 4)).set 32 v32_6).set 33 v33_7).set 34 v34_8).set 35 v35_9).set 36 v36_10).set 3 v36_10) h2)
@[congr] theorem octroiref12_Journal_Bytes_r5_congr {env : Env} {h : Hp} {K : Env → Hp → Prop} : octroiref12_Journal_Bytes_r5 env h K = octroiref12_Journal_Bytes_r5 env h K := rfl

/-- ref.go:85 -/
def octroiref12_Journal_Bytes_r6 (env : Env) (h : Hp) (K : Env → Hp → Prop) : Prop :=
  nck (env 0) (
  rd Try.prog (Instr.fieldAt 45 (env 0) 1) noHp fun v40_3 =>
  rd Try.prog (Instr.loadAt 22 v40_3) h fun v41_4 =>
  rd Try.prog (Instr.indexAt 22 v41_4 (env 4)) noHp fun v43_6 =>
  rd Try.prog (Instr.fieldAt 25 v43_6 2) noHp fun v44_7 =>
  rd Try.prog (Instr.loadAt 23 v44_7) h fun v45_8 =>
  Ok Try.prog 33 #[v45_8, (Go.Value.int Go.IntKind.i64 4)] h fun v46_9 h1 =>
  arun Try.prog (Builtin.append_ #[34, 34] 34 #[(env 3), v46_9]) h1 fun v47_10 h2 =>
  K ((((((((((((env.set 37 (env 3)).set 38 (env 0)).set 39 (env 0)).set 40 v40_3).set 41 v41_4).set 42 (env 4)).set 43 v43_6).set 44 v44_7).set 45 v45_8).set 46 v46_9).set 47 v47_10).set 3 v47_10) h2)
@[congr] theorem octroiref12_Journal_Bytes_r6_congr {env : Env} {h : Hp} {K : Env → Hp → Prop} : octroiref12_Journal_Bytes_r6 env h K = octroiref12_Journal_Bytes_r6 env h K := rfl

/-- ref.go:82 -/
def octroiref12_Journal_Bytes_r7 (env : Env) (h : Hp) (K : Env → Hp → Prop) : Prop :=
  rd Try.prog (bop Go.BinOp.add 3 (Go.Operand.tmp 12) (Go.Operand.const (Go.Value.int Go.IntKind.i64 1)) (env 4) (Go.Value.int Go.IntKind.i64 1)) noHp fun v13_1 =>
  K (((env.set 12 (env 4)).set 13 v13_1).set 4 v13_1) h
@[congr] theorem octroiref12_Journal_Bytes_r7_congr {env : Env} {h : Hp} {K : Env → Hp → Prop} : octroiref12_Journal_Bytes_r7 env h K = octroiref12_Journal_Bytes_r7 env h K := rfl

def octroiref12_Journal_Bytes_L0 : Den := (sq (sq (rg octroiref12_Journal_Bytes_r3) (cnd (Go.Operand.tmp 11) (ex .normal) (ex (.exit 0)))) (sq (blk 1 (sq (rg octroiref12_Journal_Bytes_r4) (sq (rg octroiref12_Journal_Bytes_r5) (rg octroiref12_Journal_Bytes_r6)))) (rg octroiref12_Journal_Bytes_r7)))

/-- ref.go:87 -/
def octroiref12_Journal_Bytes_r8 (env : Env) (h : Hp) (K : Env → Hp → Prop) : Prop :=
  K ((env.set 48 (env 3)).set 2 (env 3)) h
@[congr] theorem octroiref12_Journal_Bytes_r8_congr {env : Env} {h : Hp} {K : Env → Hp → Prop} : octroiref12_Journal_Bytes_r8 env h K = octroiref12_Journal_Bytes_r8 env h K := rfl

def octroiref12_Journal_Bytes_D : Den := (sq (rg octroiref12_Journal_Bytes_r0) (sq (rg octroiref12_Journal_Bytes_r1) (sq (sq (rg octroiref12_Journal_Bytes_r2) (blk 0 (lp octroiref12_Journal_Bytes_L0))) (sq (rg octroiref12_Journal_Bytes_r8) (ex .ret)))))

theorem octroiref12_Journal_Bytes_eq : (den Try.prog 49 octroiref12_Journal_Bytes_code).1 = octroiref12_Journal_Bytes_D := by kernel_rfl

theorem octroiref12_Journal_Bytes_ok {args : Array Value} {h : Hp} {Q : Value → Hp → Prop} (hn : args.size ≤ 49) (D : octroiref12_Journal_Bytes_D (fin Try.prog [(Go.ResultVar.tmp 2)] Q) (env0 args) h) : Ok Try.prog 26 args h Q :=
  ok_of_den progIsOk Try.func26 (c := octroiref12_Journal_Bytes_code) (by kernel_rfl) hn (by show (den Try.prog 49 octroiref12_Journal_Bytes_code).1 _ _ _; rw [octroiref12_Journal_Bytes_eq]; exact D)

/-! ### octroi/journal.put: function 27 -/
noncomputable def journal_put_code : Code := match Try.f27.body with | some c => c | none => .skip

/-- journal.go:38 -/
def journal_put_r0 (env : Env) (h : Hp) (K : Env → Hp → Prop) : Prop :=
  arun Try.prog (Instr.box 25 (env 0)) h fun v1_0 h1 =>
  K ((env.set 1 v1_0).set 2 (Go.Value.slice none 0 0)) h1
@[congr] theorem journal_put_r0_congr {env : Env} {h : Hp} {K : Env → Hp → Prop} : journal_put_r0 env h K = journal_put_r0 env h K := rfl

/-- journal.go:39 (in any order) -/
def journal_put_r1 (env : Env) (h : Hp) (K : Env → Hp → Prop) : Prop :=
  rd Try.prog (Instr.fieldAt 25 (env 1) 0) noHp fun v3_0 =>
  rd Try.prog (Instr.loadAt 3 v3_0) h fun v4_1 =>
  rd Try.prog (convert 3 5 v4_1) noHp fun v5_2 =>
  rd Try.prog (Instr.fieldAt 25 (env 1) 1) noHp fun v7_3 =>
  rd Try.prog (Instr.loadAt 23 v7_3) h fun v8_4 =>
  rd Try.prog (Instr.fieldAt 25 (env 1) 2) noHp fun v10_5 =>
  rd Try.prog (Instr.loadAt 23 v10_5) h fun v11_6 =>
  (arun Try.prog (Instr.buildSlice 34 4 #[(0, v5_2), (1, (Go.Value.int Go.IntKind.u8 0)), (2, (Go.Value.int Go.IntKind.u8 0)), (3, (Go.Value.int Go.IntKind.u8 0))]) h fun v6_7 h1 =>
  (rrun Try.prog (Instr.loadAt 23 v10_5) h1 = some v11_6 ∧ rrun Try.prog (Instr.loadAt 23 v7_3) h1 = some v8_4 ∧ True) ∧
  Ok Try.prog 35 #[v8_4] h1 fun v9_8 h2 =>
  (rrun Try.prog (Instr.loadAt 23 v10_5) h2 = some v11_6 ∧ True) ∧
  Ok Try.prog 35 #[v11_6] h2 fun v12_9 h3 =>
  (True) ∧
  arun Try.prog (Instr.buildSlice 74 3 #[(0, v6_7), (1, v9_8), (2, v12_9)]) h3 fun v13_10 h4 =>
  (True) ∧
  Ok Try.prog 34 #[v13_10] h4 fun v14_11 h5 =>
  (True) ∧
  K (((((((((((((env.set 3 v3_0).set 4 v4_1).set 5 v5_2).set 7 v7_3).set 8 v8_4).set 10 v10_5).set 11 v11_6).set 6 v6_7).set 9 v9_8).set 12 v12_9).set 13 v13_10).set 14 v14_11).set 2 v14_11) h5) ∧
(Ok Try.prog 35 #[v8_4] h fun v9_13 h6 =>
  (rrun Try.prog (Instr.loadAt 23 v10_5) h6 = some v11_6 ∧ rrun Try.prog (Instr.loadAt 3 v3_0) h6 = some v4_1 ∧ True) ∧
  (arun Try.prog (Instr.buildSlice 34 4 #[(0, v5_2), (1, (Go.Value.int Go.IntKind.u8 0)), (2, (Go.Value.int Go.IntKind.u8 0)), (3, (Go.Value.int Go.IntKind.u8 0))]) h6 fun v6_14 h7 =>
  (rrun Try.prog (Instr.loadAt 23 v10_5) h7 = some v11_6 ∧ True) ∧
  Ok Try.prog 35 #[v11_6] h7 fun v12_15 h8 =>
  (True) ∧
  arun Try.prog (Instr.buildSlice 74 3 #[(0, v6_14), (1, v9_13), (2, v12_15)]) h8 fun v13_16 h9 =>
  (True) ∧
  Ok Try.prog 34 #[v13_16] h9 fun v14_17 h10 =>
  (True) ∧
  K (((((((((((((env.set 3 v3_0).set 4 v4_1).set 5 v5_2).set 7 v7_3).set 8 v8_4).set 10 v10_5).set 11 v11_6).set 9 v9_13).set 6 v6_14).set 12 v12_15).set 13 v13_16).set 14 v14_17).set 2 v14_17) h10) ∧
(Ok Try.prog 35 #[v11_6] h6 fun v12_19 h11 =>
  (rrun Try.prog (Instr.loadAt 3 v3_0) h11 = some v4_1 ∧ True) ∧
  arun Try.prog (Instr.buildSlice 34 4 #[(0, v5_2), (1, (Go.Value.int Go.IntKind.u8 0)), (2, (Go.Value.int Go.IntKind.u8 0)), (3, (Go.Value.int Go.IntKind.u8 0))]) h11 fun v6_20 h12 =>
  (True) ∧
  arun Try.prog (Instr.buildSlice 74 3 #[(0, v6_20), (1, v9_13), (2, v12_19)]) h12 fun v13_21 h13 =>
  (True) ∧
  Ok Try.prog 34 #[v13_21] h13 fun v14_22 h14 =>
  (True) ∧
  K (((((((((((((env.set 3 v3_0).set 4 v4_1).set 5 v5_2).set 7 v7_3).set 8 v8_4).set 10 v10_5).set 11 v11_6).set 9 v9_13).set 12 v12_19).set 6 v6_20).set 13 v13_21).set 14 v14_22).set 2 v14_22) h14))
@[congr] theorem journal_put_r1_congr {env : Env} {h : Hp} {K : Env → Hp → Prop} : journal_put_r1 env h K = journal_put_r1 env h K := rfl

def journal_put_D : Den := (sq (rg journal_put_r0) (sq (rg journal_put_r1) (ex .ret)))

theorem journal_put_eq : (den Try.prog 15 journal_put_code).1 = journal_put_D := by kernel_rfl

theorem journal_put_ok {args : Array Value} {h : Hp} {Q : Value → Hp → Prop} (hn : args.size ≤ 15) (D : journal_put_D (fin Try.prog [(Go.ResultVar.tmp 2)] Q) (env0 args) h) : Ok Try.prog 27 args h Q :=
  ok_of_den progIsOk Try.func27 (c := journal_put_code) (by kernel_rfl) hn (by show (den Try.prog 15 journal_put_code).1 _ _ _; rw [journal_put_eq]; exact D)

/-! ### slices.Clone[[]byte,byte]: function 28 -/
noncomputable def slices_Clone_byte_byte_code : Code := match Try.f28.body with | some c => c | none => .skip

/-- slices.go:355 -/
def slices_Clone_byte_byte_r0 (env : Env) (h : Hp) (K : Env → Hp → Prop) : Prop :=
  K (env.set 2 (Go.Value.slice none 0 0)) h
@[congr] theorem slices_Clone_byte_byte_r0_congr {env : Env} {h : Hp} {K : Env → Hp → Prop} : slices_Clone_byte_byte_r0 env h K = slices_Clone_byte_byte_r0 env h K := rfl

/-- slices.go:357 -/
def slices_Clone_byte_byte_r1 (env : Env) (h : Hp) (K : Env → Hp → Prop) : Prop :=
  rd Try.prog (bop Go.BinOp.eql 34 (Go.Operand.tmp 3) (Go.Operand.const (Go.Value.slice none 0 0)) (env 0) (Go.Value.slice none 0 0)) noHp fun v4_1 =>
  K ((env.set 3 (env 0)).set 4 v4_1) h
@[congr] theorem slices_Clone_byte_byte_r1_congr {env : Env} {h : Hp} {K : Env → Hp → Prop} : slices_Clone_byte_byte_r1 env h K = slices_Clone_byte_byte_r1 env h K := rfl

/-- slices.go:358 -/
def slices_Clone_byte_byte_r2 (env : Env) (h : Hp) (K : Env → Hp → Prop) : Prop :=
  K (env.set 2 (Go.Value.slice none 0 0)) h
@[congr] theorem slices_Clone_byte_byte_r2_congr {env : Env} {h : Hp} {K : Env → Hp → Prop} : slices_Clone_byte_byte_r2 env h K = slices_Clone_byte_byte_r2 env h K := rfl

/-- slices.go:362 -/
def slices_Clone_byte_byte_r3 (env : Env) (h : Hp) (K : Env → Hp → Prop) : Prop :=
  arun Try.prog (Instr.buildSlice 34 0 #[]) h fun v5_0 h1 =>
  arun Try.prog (Builtin.append_ #[34, 34] 34 #[v5_0, (env 0)]) h1 fun v7_2 h2 =>
  K ((((env.set 5 v5_0).set 6 (env 0)).set 7 v7_2).set 2 v7_2) h2
@[congr] theorem slices_Clone_byte_byte_r3_congr {env : Env} {h : Hp} {K : Env → Hp → Prop} : slices_Clone_byte_byte_r3 env h K = slices_Clone_byte_byte_r3 env h K := rfl

def slices_Clone_byte_byte_D : Den := (sq (rg slices_Clone_byte_byte_r0) (sq (sq (rg slices_Clone_byte_byte_r1) (cnd (Go.Operand.tmp 4) (sq (rg slices_Clone_byte_byte_r2) (ex .ret)) (ex .normal))) (sq (rg slices_Clone_byte_byte_r3) (ex .ret))))

theorem slices_Clone_byte_byte_eq : (den Try.prog 8 slices_Clone_byte_byte_code).1 = slices_Clone_byte_byte_D := by kernel_rfl

theorem slices_Clone_byte_byte_ok {args : Array Value} {h : Hp} {Q : Value → Hp → Prop} (hn : args.size ≤ 8) (D : slices_Clone_byte_byte_D (fin Try.prog [(Go.ResultVar.tmp 2)] Q) (env0 args) h) : Ok Try.prog 28 args h Q :=
  ok_of_den progIsOk Try.func28 (c := slices_Clone_byte_byte_code) (by kernel_rfl) hn (by show (den Try.prog 8 slices_Clone_byte_byte_code).1 _ _ _; rw [slices_Clone_byte_byte_eq]; exact D)

/-! ### octroi/journal.get: function 29 -/
noncomputable def journal_get_code : Code := match Try.f29.body with | some c => c | none => .skip

/-- journal.go:43 -/
def journal_get_r0 (env : Env) (h : Hp) (K : Env → Hp → Prop) : Prop :=
  arun Try.prog (Instr.alloc 25 true (Go.Value.tuple #[])) h fun v2_0 h1 =>
  K (env.set 2 v2_0) h1
@[congr] theorem journal_get_r0_congr {env : Env} {h : Hp} {K : Env → Hp → Prop} : journal_get_r0 env h K = journal_get_r0 env h K := rfl

/-- journal.go:44 -/
def journal_get_r1 (env : Env) (h : Hp) (K : Env → Hp → Prop) : Prop :=
  rd Try.prog (Instr.indexAt 34 (env 0) (Go.Value.int Go.IntKind.i64 0)) noHp fun v5_1 =>
  rd Try.prog (Instr.loadAt 5 v5_1) h fun v6_2 =>
  rd Try.prog (convert 5 3 v6_2) noHp fun v7_3 =>
  rd Try.prog (Instr.build 25 #[(0, v7_3)]) noHp fun v8_4 =>
  arun Try.prog (Instr.alloc 25 true (Go.Value.tuple #[])) h fun v3_5 h1 =>
  arun Try.prog (Instr.storeAt 25 v3_5 v8_4) h1 fun _ h2 =>
  K ((((((env.set 4 (env 0)).set 5 v5_1).set 6 v6_2).set 7 v7_3).set 8 v8_4).set 3 v3_5) h2
@[congr] theorem journal_get_r1_congr {env : Env} {h : Hp} {K : Env → Hp → Prop} : journal_get_r1 env h K = journal_get_r1 env h K := rfl

/-- journal.go:45 -/
def journal_get_r2 (env : Env) (h : Hp) (K : Env → Hp → Prop) : Prop :=
  Ok Try.prog 36 #[(env 0), (Go.Value.int Go.IntKind.i64 4)] h fun v11_1 h1 =>
  rd Try.prog (Instr.extract v11_1 0) noHp fun v12_3 =>
  rd Try.prog (Instr.extract v11_1 1) noHp fun v13_4 =>
  rd Try.prog (Instr.fieldAt 25 (env 3) 1) noHp fun v14_5 =>
  arun Try.prog (Instr.storeAt 23 v14_5 v12_3) h1 fun _ h2 =>
  K ((((((env.set 10 (env 0)).set 11 v11_1).set 9 v11_1).set 12 v12_3).set 13 v13_4).set 14 v14_5) h2
@[congr] theorem journal_get_r2_congr {env : Env} {h : Hp} {K : Env → Hp → Prop} : journal_get_r2 env h K = journal_get_r2 env h K := rfl

/-- journal.go:46 -/
def journal_get_r3 (env : Env) (h : Hp) (K : Env → Hp → Prop) : Prop :=
  Ok Try.prog 36 #[(env 0), (Go.Value.int Go.IntKind.i64 8)] h fun v17_1 h1 =>
  rd Try.prog (Instr.extract v17_1 0) noHp fun v18_3 =>
  rd Try.prog (Instr.extract v17_1 1) noHp fun v19_4 =>
  rd Try.prog (Instr.fieldAt 25 (env 3) 2) noHp fun v20_5 =>
  arun Try.prog (Instr.storeAt 23 v20_5 v18_3) h1 fun _ h2 =>
  K ((((((env.set 16 (env 0)).set 17 v17_1).set 15 v17_1).set 18 v18_3).set 19 v19_4).set 20 v20_5) h2
@[congr] theorem journal_get_r3_congr {env : Env} {h : Hp} {K : Env → Hp → Prop} : journal_get_r3 env h K = journal_get_r3 env h K := rfl

/-- journal.go:47 -/
def journal_get_r4 (env : Env) (h : Hp) (K : Env → Hp → Prop) : Prop :=
  rd Try.prog (Instr.loadAt 25 (env 3)) h fun v21_0 =>
  arun Try.prog (Instr.storeAt 25 (env 2) v21_0) h fun _ h1 =>
  K (env.set 21 v21_0) h1
@[congr] theorem journal_get_r4_congr {env : Env} {h : Hp} {K : Env → Hp → Prop} : journal_get_r4 env h K = journal_get_r4 env h K := rfl

def journal_get_D : Den := (sq (rg journal_get_r0) (sq (rg journal_get_r1) (sq (rg journal_get_r2) (sq (rg journal_get_r3) (sq (rg journal_get_r4) (ex .ret))))))

theorem journal_get_eq : (den Try.prog 22 journal_get_code).1 = journal_get_D := by kernel_rfl

theorem journal_get_ok {args : Array Value} {h : Hp} {Q : Value → Hp → Prop} (hn : args.size ≤ 22) (D : journal_get_D (fin Try.prog [(Go.ResultVar.cell 2 25)] Q) (env0 args) h) : Ok Try.prog 29 args h Q :=
  ok_of_den progIsOk Try.func29 (c := journal_get_code) (by kernel_rfl) hn (by show (den Try.prog 22 journal_get_code).1 _ _ _; rw [journal_get_eq]; exact D)

/-! ### slices.SortedFunc[octroi/journal.name]: function 30 -/
noncomputable def slices_SortedFunc_journal_name_code : Code := match Try.f30.body with | some c => c | none => .skip

/-- iter.go:75 -/
def slices_SortedFunc_journal_name_r0 (env : Env) (h : Hp) (K : Env → Hp → Prop) : Prop :=
  K (env.set 4 (Go.Value.slice none 0 0)) h
@[congr] theorem slices_SortedFunc_journal_name_r0_congr {env : Env} {h : Hp} {K : Env → Hp → Prop} : slices_SortedFunc_journal_name_r0 env h K = slices_SortedFunc_journal_name_r0 env h K := rfl

/-- iter.go:76 -/
def slices_SortedFunc_journal_name_r1 (env : Env) (h : Hp) (K : Env → Hp → Prop) : Prop :=
  Ok Try.prog 37 #[(env 0)] h fun v7_1 h1 =>
  K (((env.set 6 (env 0)).set 7 v7_1).set 5 v7_1) h1
@[congr] theorem slices_SortedFunc_journal_name_r1_congr {env : Env} {h : Hp} {K : Env → Hp → Prop} : slices_SortedFunc_journal_name_r1 env h K = slices_SortedFunc_journal_name_r1 env h K := rfl

/-- iter.go:77 -/
def slices_SortedFunc_journal_name_r2 (env : Env) (h : Hp) (K : Env → Hp → Prop) : Prop :=
  Ok Try.prog 38 #[(env 5), (env 1)] h fun v10_2 h1 =>
  K (((env.set 8 (env 5)).set 9 (env 1)).set 10 v10_2) h1
@[congr] theorem slices_SortedFunc_journal_name_r2_congr {env : Env} {h : Hp} {K : Env → Hp → Prop} : slices_SortedFunc_journal_name_r2 env h K = slices_SortedFunc_journal_name_r2 env h K := rfl

/-- iter.go:78 -/
def slices_SortedFunc_journal_name_r3 (env : Env) (h : Hp) (K : Env → Hp → Prop) : Prop :=
  K ((env.set 11 (env 5)).set 4 (env 5)) h
@[congr] theorem slices_SortedFunc_journal_name_r3_congr {env : Env} {h : Hp} {K : Env → Hp → Prop} : slices_SortedFunc_journal_name_r3 env h K = slices_SortedFunc_journal_name_r3 env h K := rfl

def slices_SortedFunc_journal_name_D : Den := (sq (rg slices_SortedFunc_journal_name_r0) (sq (rg slices_SortedFunc_journal_name_r1) (sq (rg slices_SortedFunc_journal_name_r2) (sq (rg slices_SortedFunc_journal_name_r3) (ex .ret)))))

theorem slices_SortedFunc_journal_name_eq : (den Try.prog 12 slices_SortedFunc_journal_name_code).1 = slices_SortedFunc_journal_name_D := by kernel_rfl

theorem slices_SortedFunc_journal_name_ok {args : Array Value} {h : Hp} {Q : Value → Hp → Prop} (hn : args.size ≤ 12) (D : slices_SortedFunc_journal_name_D (fin Try.prog [(Go.ResultVar.tmp 4)] Q) (env0 args) h) : Ok Try.prog 30 args h Q :=
  ok_of_den progIsOk Try.func30 (c := slices_SortedFunc_journal_name_code) (by kernel_rfl) hn (by show (den Try.prog 12 slices_SortedFunc_journal_name_code).1 _ _ _; rw [slices_SortedFunc_journal_name_eq]; exact D)

/-! ### maps.Keys[map[octroi/journal.name]uint32,octroi/journal.name,uint32]: function 31 -/
noncomputable def maps_Keys_map_journal_name_uint32_journal_name_uint32_code : Code := match Try.f31.body with | some c => c | none => .skip

/-- iter.go:25 -/
def maps_Keys_map_journal_name_uint32_journal_name_uint32_r0 (env : Env) (h : Hp) (K : Env → Hp → Prop) : Prop :=
  arun Try.prog (Instr.box 50 (env 0)) h fun v1_0 h1 =>
  K ((env.set 1 v1_0).set 2 Go.Value.nilFunc) h1
@[congr] theorem maps_Keys_map_journal_name_uint32_journal_name_uint32_r0_congr {env : Env} {h : Hp} {K : Env → Hp → Prop} : maps_Keys_map_journal_name_uint32_journal_name_uint32_r0 env h K = maps_Keys_map_journal_name_uint32_journal_name_uint32_r0 env h K := rfl

/-- iter.go:26 -/
def maps_Keys_map_journal_name_uint32_journal_name_uint32_r1 (env : Env) (h : Hp) (K : Env → Hp → Prop) : Prop :=
  rd Try.prog (Instr.makeFunc (Go.Fn.func 39) #[] #[(env 1)]) noHp fun v3_0 =>
  K ((env.set 3 v3_0).set 2 v3_0) h
@[congr] theorem maps_Keys_map_journal_name_uint32_journal_name_uint32_r1_congr {env : Env} {h : Hp} {K : Env → Hp → Prop} : maps_Keys_map_journal_name_uint32_journal_name_uint32_r1 env h K = maps_Keys_map_journal_name_uint32_journal_name_uint32_r1 env h K := rfl

def maps_Keys_map_journal_name_uint32_journal_name_uint32_D : Den := (sq (rg maps_Keys_map_journal_name_uint32_journal_name_uint32_r0) (sq (rg maps_Keys_map_journal_name_uint32_journal_name_uint32_r1) (ex .ret)))

theorem maps_Keys_map_journal_name_uint32_journal_name_uint32_eq : (den Try.prog 4 maps_Keys_map_journal_name_uint32_journal_name_uint32_code).1 = maps_Keys_map_journal_name_uint32_journal_name_uint32_D := by kernel_rfl

theorem maps_Keys_map_journal_name_uint32_journal_name_uint32_ok {args : Array Value} {h : Hp} {Q : Value → Hp → Prop} (hn : args.size ≤ 4) (D : maps_Keys_map_journal_name_uint32_journal_name_uint32_D (fin Try.prog [(Go.ResultVar.tmp 2)] Q) (env0 args) h) : Ok Try.prog 31 args h Q :=
  ok_of_den progIsOk Try.func31 (c := maps_Keys_map_journal_name_uint32_journal_name_uint32_code) (by kernel_rfl) hn (by show (den Try.prog 4 maps_Keys_map_journal_name_uint32_journal_name_uint32_code).1 _ _ _; rw [maps_Keys_map_journal_name_uint32_journal_name_uint32_eq]; exact D)

/-! ### octroi/journal.compare: function 32 -/
noncomputable def journal_compare_code : Code := match Try.f32.body with | some c => c | none => .skip

/-- journal.go:25 -/
def journal_compare_r0 (env : Env) (h : Hp) (K : Env → Hp → Prop) : Prop :=
  arun Try.prog (Instr.box 55 (env 0)) h fun v2_0 h1 =>
  arun Try.prog (Instr.box 55 (env 1)) h1 fun v3_1 h2 =>
  K (((env.set 2 v2_0).set 3 v3_1).set 4 (Go.Value.int Go.IntKind.i64 0)) h2
@[congr] theorem journal_compare_r0_congr {env : Env} {h : Hp} {K : Env → Hp → Prop} : journal_compare_r0 env h K = journal_compare_r0 env h K := rfl

/-- journal.go:25 (in any order) -/
def journal_compare_r1 (env : Env) (h : Hp) (K : Env → Hp → Prop) : Prop :=
  rd Try.prog (Instr.fieldAt 55 (env 2) 0) noHp fun v5_0 =>
  rd Try.prog (Instr.loadAt 3 v5_0) h fun v6_1 =>
  rd Try.prog (Instr.fieldAt 55 (env 3) 0) noHp fun v7_2 =>
  rd Try.prog (Instr.loadAt 3 v7_2) h fun v8_3 =>
  rd Try.prog (Instr.fieldAt 55 (env 2) 1) noHp fun v10_4 =>
  rd Try.prog (Instr.loadAt 23 v10_4) h fun v11_5 =>
  rd Try.prog (Instr.fieldAt 55 (env 3) 1) noHp fun v12_6 =>
  rd Try.prog (Instr.loadAt 23 v12_6) h fun v13_7 =>
  Ok Try.prog 41 #[v6_1, v8_3] h fun v9_8 h1 =>
  (rrun Try.prog (Instr.loadAt 23 v12_6) h1 = some v13_7 ∧ rrun Try.prog (Instr.loadAt 23 v10_4) h1 = some v11_5 ∧ True) ∧
  Ok Try.prog 42 #[v11_5, v13_7] h1 fun v14_9 h2 =>
  (True) ∧
  arun Try.prog (Instr.buildSlice 81 2 #[(0, v9_8), (1, v14_9)]) h2 fun v15_10 h3 =>
  (True) ∧
  Ok Try.prog 40 #[v15_10] h3 fun v16_11 h4 =>
  (True) ∧
  K (((((((((((((env.set 5 v5_0).set 6 v6_1).set 7 v7_2).set 8 v8_3).set 10 v10_4).set 11 v11_5).set 12 v12_6).set 13 v13_7).set 9 v9_8).set 14 v14_9).set 15 v15_10).set 16 v16_11).set 4 v16_11) h4
@[congr] theorem journal_compare_r1_congr {env : Env} {h : Hp} {K : Env → Hp → Prop} : journal_compare_r1 env h K = journal_compare_r1 env h K := rfl

def journal_compare_D : Den := (sq (rg journal_compare_r0) (sq (rg journal_compare_r1) (ex .ret)))

theorem journal_compare_eq : (den Try.prog 17 journal_compare_code).1 = journal_compare_D := by kernel_rfl

theorem journal_compare_ok {args : Array Value} {h : Hp} {Q : Value → Hp → Prop} (hn : args.size ≤ 17) (D : journal_compare_D (fin Try.prog [(Go.ResultVar.tmp 4)] Q) (env0 args) h) : Ok Try.prog 32 args h Q :=
  ok_of_den progIsOk Try.func32 (c := journal_compare_code) (by kernel_rfl) hn (by show (den Try.prog 17 journal_compare_code).1 _ _ _; rw [journal_compare_eq]; exact D)

/-! ### octroi/octroiref01.Put: function 33 -/
noncomputable def octroiref01_Put_code : Code := match Try.f33.body with | some c => c | none => .skip

/-- ref.go:5 -/
def octroiref01_Put_r0 (env : Env) (h : Hp) (K : Env → Hp → Prop) : Prop :=
  K (env.set 4 (Go.Value.slice none 0 0)) h
@[congr] theorem octroiref01_Put_r0_congr {env : Env} {h : Hp} {K : Env → Hp → Prop} : octroiref01_Put_r0 env h K = octroiref01_Put_r0 env h K := rfl

/-- ref.go:6 -/
def octroiref01_Put_r1 (env : Env) (h : Hp) (K : Env → Hp → Prop) : Prop :=
  arun Try.prog (Instr.makeSlice 34 (env 1) (env 1)) h fun v8_1 h1 =>
  K (((env.set 7 (env 1)).set 8 v8_1).set 5 v8_1) h1
@[congr] theorem octroiref01_Put_r1_congr {env : Env} {h : Hp} {K : Env → Hp → Prop} : octroiref01_Put_r1 env h K = octroiref01_Put_r1 env h K := rfl

/-- ref.go:7 -/
def octroiref01_Put_r2 (env : Env) (h : Hp) (K : Env → Hp → Prop) : Prop :=
  rd Try.prog (bop Go.BinOp.sub 3 (Go.Operand.tmp 9) (Go.Operand.const (Go.Value.int Go.IntKind.i64 1)) (env 1) (Go.Value.int Go.IntKind.i64 1)) noHp fun v10_1 =>
  K (((env.set 9 (env 1)).set 10 v10_1).set 6 v10_1) h
@[congr] theorem octroiref01_Put_r2_congr {env : Env} {h : Hp} {K : Env → Hp → Prop} : octroiref01_Put_r2 env h K = octroiref01_Put_r2 env h K := rfl

/-- ref.go:7 -/
def octroiref01_Put_r3 (env : Env) (h : Hp) (K : Env → Hp → Prop) : Prop :=
  rd Try.prog (bop Go.BinOp.geq 3 (Go.Operand.tmp 11) (Go.Operand.const (Go.Value.int Go.IntKind.i64 0)) (env 6) (Go.Value.int Go.IntKind.i64 0)) noHp fun v12_1 =>
  K ((env.set 11 (env 6)).set 12 v12_1) h
@[congr] theorem octroiref01_Put_r3_congr {env : Env} {h : Hp} {K : Env → Hp → Prop} : octroiref01_Put_r3 env h K = octroiref01_Put_r3 env h K := rfl

/-- ref.go:8 -/
def octroiref01_Put_r4 (env : Env) (h : Hp) (K : Env → Hp → Prop) : Prop :=
  rd Try.prog (bop Go.BinOp.rem 23 (Go.Operand.tmp 17) (Go.Operand.const (Go.Value.int Go.IntKind.u32 256)) (env 0) (Go.Value.int Go.IntKind.u32 256)) noHp fun v18_3 =>
  rd Try.prog (convert 23 5 v18_3) noHp fun v19_4 =>
  rd Try.prog (Instr.indexAt 34 (env 5) (env 6)) noHp fun v20_5 =>
  arun Try.prog (Instr.storeAt 5 v20_5 v19_4) h fun _ h1 =>
  K ((((((env.set 15 (env 5)).set 16 (env 6)).set 17 (env 0)).set 18 v18_3).set 19 v19_4).set 20 v20_5) h1
@[congr] theorem octroiref01_Put_r4_congr {env : Env} {h : Hp} {K : Env → Hp → Prop} : octroiref01_Put_r4 env h K = octroiref01_Put_r4 env h K := rfl

/-- ref.go:9 -/
def octroiref01_Put_r5 (env : Env) (h : Hp) (K : Env → Hp → Prop) : Prop :=
  rd Try.prog (bop Go.BinOp.quo 23 (Go.Operand.tmp 21) (Go.Operand.const (Go.Value.int Go.IntKind.u32 256)) (env 0) (Go.Value.int Go.IntKind.u32 256)) noHp fun v22_1 =>
  K (((env.set 21 (env 0)).set 22 v22_1).set 0 v22_1) h
@[congr] theorem octroiref01_Put_r5_congr {env : Env} {h : Hp} {K : Env → Hp → Prop} : octroiref01_Put_r5 env h K = octroiref01_Put_r5 env h K := rfl

/-- ref.go:7 -/
def octroiref01_Put_r6 (env : Env) (h : Hp) (K : Env → Hp → Prop) : Prop :=
  rd Try.prog (bop Go.BinOp.sub 3 (Go.Operand.tmp 13) (Go.Operand.const (Go.Value.int Go.IntKind.i64 1)) (env 6) (Go.Value.int Go.IntKind.i64 1)) noHp fun v14_1 =>
  K (((env.set 13 (env 6)).set 14 v14_1).set 6 v14_1) h
@[congr] theorem octroiref01_Put_r6_congr {env : Env} {h : Hp} {K : Env → Hp → Prop} : octroiref01_Put_r6 env h K = octroiref01_Put_r6 env h K := rfl

def octroiref01_Put_L0 : Den := (sq (sq (rg octroiref01_Put_r3) (cnd (Go.Operand.tmp 12) (ex .normal) (ex (.exit 0)))) (sq (blk 1 (sq (rg octroiref01_Put_r4) (rg octroiref01_Put_r5))) (rg octroiref01_Put_r6)))

/-- ref.go:11 -/
def octroiref01_Put_r7 (env : Env) (h : Hp) (K : Env → Hp → Prop) : Prop :=
  K ((env.set 23 (env 5)).set 4 (env 5)) h
@[congr] theorem octroiref01_Put_r7_congr {env : Env} {h : Hp} {K : Env → Hp → Prop} : octroiref01_Put_r7 env h K = octroiref01_Put_r7 env h K := rfl

def octroiref01_Put_D : Den := (sq (rg octroiref01_Put_r0) (sq (rg octroiref01_Put_r1) (sq (sq (rg octroiref01_Put_r2) (blk 0 (lp octroiref01_Put_L0))) (sq (rg octroiref01_Put_r7) (ex .ret)))))

theorem octroiref01_Put_eq : (den Try.prog 24 octroiref01_Put_code).1 = octroiref01_Put_D := by kernel_rfl

theorem octroiref01_Put_ok {args : Array Value} {h : Hp} {Q : Value → Hp → Prop} (hn : args.size ≤ 24) (D : octroiref01_Put_D (fin Try.prog [(Go.ResultVar.tmp 4)] Q) (env0 args) h) : Ok Try.prog 33 args h Q :=
  ok_of_den progIsOk Try.func33 (c := octroiref01_Put_code) (by kernel_rfl) hn (by show (den Try.prog 24 octroiref01_Put_code).1 _ _ _; rw [octroiref01_Put_eq]; exact D)

/-! ### slices.Concat[[]byte,byte]: function 34 -/
noncomputable def slices_Concat_byte_byte_code : Code := match Try.f34.body with | some c => c | none => .skip

/-- slices.go:491 -/
def slices_Concat_byte_byte_r0 (env : Env) (h : Hp) (K : Env → Hp → Prop) : Prop :=
  K (env.set 2 (Go.Value.slice none 0 0)) h
@[congr] theorem slices_Concat_byte_byte_r0_congr {env : Env} {h : Hp} {K : Env → Hp → Prop} : slices_Concat_byte_byte_r0 env h K = slices_Concat_byte_byte_r0 env h K := rfl

/-- slices.go:492 -/
def slices_Concat_byte_byte_r1 (env : Env) (h : Hp) (K : Env → Hp → Prop) : Prop :=
  K (env.set 3 (Go.Value.int Go.IntKind.i64 0)) h
@[congr] theorem slices_Concat_byte_byte_r1_congr {env : Env} {h : Hp} {K : Env → Hp → Prop} : slices_Concat_byte_byte_r1 env h K = slices_Concat_byte_byte_r1 env h K := rfl

/-- slices.go:493 -/
def slices_Concat_byte_byte_r2 (env : Env) (h : Hp) (K : Env → Hp → Prop) : Prop :=
  rd Try.prog (Builtin.len_ #[74] 3 #[(env 0)]) h fun v10_1 =>
  K (((env.set 9 (env 0)).set 10 v10_1).set 11 (Go.Value.int Go.IntKind.i64 0)) h
@[congr] theorem slices_Concat_byte_byte_r2_congr {env : Env} {h : Hp} {K : Env → Hp → Prop} : slices_Concat_byte_byte_r2 env h K = slices_Concat_byte_byte_r2 env h K := rfl

/-- slices.go:493 -/
def slices_Concat_byte_byte_r3 (env : Env) (h : Hp) (K : Env → Hp → Prop) : Prop :=
  rd Try.prog (bop Go.BinOp.lss 3 (Go.Operand.tmp 11) (Go.Operand.tmp 10) (env 11) (env 10)) noHp fun v12_0 =>
  K (env.set 12 v12_0) h
@[congr] theorem slices_Concat_byte_byte_r3_congr {env : Env} {h : Hp} {K : Env → Hp → Prop} : slices_Concat_byte_byte_r3 env h K = slices_Concat_byte_byte_r3 env h K := rfl

/-- slices.go:493 -/
def slices_Concat_byte_byte_r4 (env : Env) (h : Hp) (K : Env → Hp → Prop) : Prop :=
  rd Try.prog (Instr.indexAt 74 (env 9) (env 11)) noHp fun v13_0 =>
  rd Try.prog (Instr.loadAt 34 v13_0) h fun v14_1 =>
  K (((env.set 13 v13_0).set 14 v14_1).set 5 v14_1) h
@[congr] theorem slices_Concat_byte_byte_r4_congr {env : Env} {h : Hp} {K : Env → Hp → Prop} : slices_Concat_byte_byte_r4 env h K = slices_Concat_byte_byte_r4 env h K := rfl

/-- slices.go:494 -/
def slices_Concat_byte_byte_r5 (env : Env) (h : Hp) (K : Env → Hp → Prop) : Prop :=
  rd Try.prog (Builtin.len_ #[34] 3 #[(env 5)]) h fun v17_2 =>
  rd Try.prog (bop Go.BinOp.add 3 (Go.Operand.tmp 15) (Go.Operand.tmp 17) (env 3) v17_2) noHp fun v18_3 =>
  K (((((env.set 15 (env 3)).set 16 (env 5)).set 17 v17_2).set 18 v18_3).set 3 v18_3) h
@[congr] theorem slices_Concat_byte_byte_r5_congr {env : Env} {h : Hp} {K : Env → Hp → Prop} : slices_Concat_byte_byte_r5 env h K = slices_Concat_byte_byte_r5 env h K := rfl

/-- slices.go:495 -/
def slices_Concat_byte_byte_r6 (env : Env) (h : Hp) (K : Env → Hp → Prop) : Prop :=
  rd Try.prog (bop Go.BinOp.lss 3 (Go.Operand.tmp 19) (Go.Operand.const (Go.Value.int Go.IntKind.i64 0)) (env 3) (Go.Value.int Go.IntKind.i64 0)) noHp fun v20_1 =>
  K ((env.set 19 (env 3)).set 20 v20_1) h
@[congr] theorem slices_Concat_byte_byte_r6_congr {env : Env} {h : Hp} {K : Env → Hp → Prop} : slices_Concat_byte_byte_r6 env h K = slices_Concat_byte_byte_r6 env h K := rfl

/-- slices.go:496 -/
def slices_Concat_byte_byte_r7 (env : Env) (h : Hp) (K : Env → Hp → Prop) : Prop :=
  rd Try.prog (Instr.makeInterface 9 (Go.Value.string (ByteArray.mk #[108, 101, 110, 32, 111, 117, 116, 32, 111, 102, 32, 114, 97, 110, 103, 101]))) noHp fun v21_0 =>
  False
@[congr] theorem slices_Concat_byte_byte_r7_congr {env : Env} {h : Hp} {K : Env → Hp → Prop} : slices_Concat_byte_byte_r7 env h K = slices_Concat_byte_byte_r7 env h K := rfl

/-- slices.go:493 -/
def slices_Concat_byte_byte_r8 (env : Env) (h : Hp) (K : Env → Hp → Prop) : Prop :=
  rd Try.prog (bop Go.BinOp.add 3 (Go.Operand.tmp 11) (Go.Operand.const (Go.Value.int Go.IntKind.i64 1)) (env 11) (Go.Value.int Go.IntKind.i64 1)) noHp fun v22_0 =>
  K ((env.set 22 v22_0).set 11 v22_0) h
@[congr] theorem slices_Concat_byte_byte_r8_congr {env : Env} {h : Hp} {K : Env → Hp → Prop} : slices_Concat_byte_byte_r8 env h K = slices_Concat_byte_byte_r8 env h K := rfl

def slices_Concat_byte_byte_L0 : Den := (sq (rg slices_Concat_byte_byte_r3) (sq (cnd (Go.Operand.tmp 12) (ex .normal) (ex (.exit 0))) (sq (blk 1 (sq (rg slices_Concat_byte_byte_r4) (sq (rg slices_Concat_byte_byte_r5) (sq (rg slices_Concat_byte_byte_r6) (cnd (Go.Operand.tmp 20) (rg slices_Concat_byte_byte_r7) (ex .normal)))))) (rg slices_Concat_byte_byte_r8))))

/-- slices.go:502 -/
def slices_Concat_byte_byte_r9 (env : Env) (h : Hp) (K : Env → Hp → Prop) : Prop :=
  Ok Try.prog 43 #[(Go.Value.slice none 0 0), (env 3)] h fun v24_1 h1 =>
  K (((env.set 23 (env 3)).set 24 v24_1).set 6 v24_1) h1
@[congr] theorem slices_Concat_byte_byte_r9_congr {env : Env} {h : Hp} {K : Env → Hp → Prop} : slices_Concat_byte_byte_r9 env h K = slices_Concat_byte_byte_r9 env h K := rfl

/-- slices.go:503 -/
def slices_Concat_byte_byte_r10 (env : Env) (h : Hp) (K : Env → Hp → Prop) : Prop :=
  rd Try.prog (Builtin.len_ #[74] 3 #[(env 0)]) h fun v26_1 =>
  K (((env.set 25 (env 0)).set 26 v26_1).set 27 (Go.Value.int Go.IntKind.i64 0)) h
@[congr] theorem slices_Concat_byte_byte_r10_congr {env : Env} {h : Hp} {K : Env → Hp → Prop} : slices_Concat_byte_byte_r10 env h K = slices_Concat_byte_byte_r10 env h K := rfl

/-- slices.go:503 -/
def slices_Concat_byte_byte_r11 (env : Env) (h : Hp) (K : Env → Hp → Prop) : Prop :=
  rd Try.prog (bop Go.BinOp.lss 3 (Go.Operand.tmp 27) (Go.Operand.tmp 26) (env 27) (env 26)) noHp fun v28_0 =>
  K (env.set 28 v28_0) h
@[congr] theorem slices_Concat_byte_byte_r11_congr {env : Env} {h : Hp} {K : Env → Hp → Prop} : slices_Concat_byte_byte_r11 env h K = slices_Concat_byte_byte_r11 env h K := rfl

/-- slices.go:503 -/
def slices_Concat_byte_byte_r12 (env : Env) (h : Hp) (K : Env → Hp → Prop) : Prop :=
  rd Try.prog (Instr.indexAt 74 (env 25) (env 27)) noHp fun v29_0 =>
  rd Try.prog (Instr.loadAt 34 v29_0) h fun v30_1 =>
  K (((env.set 29 v29_0).set 30 v30_1).set 8 v30_1) h
@[congr] theorem slices_Concat_byte_byte_r12_congr {env : Env} {h : Hp} {K : Env → Hp → Prop} : slices_Concat_byte_byte_r12 env h K = slices_Concat_byte_byte_r12 env h K := rfl

/-- slices.go:504 -/
def slices_Concat_byte_byte_r13 (env : Env) (h : Hp) (K : Env → Hp → Prop) : Prop :=
  arun Try.prog (Builtin.append_ #[34, 34] 34 #[(env 6), (env 8)]) h fun v33_2 h1 =>
  K ((((env.set 31 (env 6)).set 32 (env 8)).set 33 v33_2).set 6 v33_2) h1
@[congr] theorem slices_Concat_byte_byte_r13_congr {env : Env} {h : Hp} {K : Env → Hp → Prop} : slices_Concat_byte_byte_r13 env h K = slices_Concat_byte_byte_r13 env h K := rfl

/-- slices.go:503 -/
def slices_Concat_byte_byte_r14 (env : Env) (h : Hp) (K : Env → Hp → Prop) : Prop :=
  rd Try.prog (bop Go.BinOp.add 3 (Go.Operand.tmp 27) (Go.Operand.const (Go.Value.int Go.IntKind.i64 1)) (env 27) (Go.Value.int Go.IntKind.i64 1)) noHp fun v34_0 =>
  K ((env.set 34 v34_0).set 27 v34_0) h
@[congr] theorem slices_Concat_byte_byte_r14_congr {env : Env} {h : Hp} {K : Env → Hp → Prop} : slices_Concat_byte_byte_r14 env h K = slices_Concat_byte_byte_r14 env h K := rfl

def slices_Concat_byte_byte_L1 : Den := (sq (rg slices_Concat_byte_byte_r11) (sq (cnd (Go.Operand.tmp 28) (ex .normal) (ex (.exit 2))) (sq (blk 3 (sq (rg slices_Concat_byte_byte_r12) (rg slices_Concat_byte_byte_r13))) (rg slices_Concat_byte_byte_r14))))

/-- slices.go:506 -/
def slices_Concat_byte_byte_r15 (env : Env) (h : Hp) (K : Env → Hp → Prop) : Prop :=
  K ((env.set 35 (env 6)).set 2 (env 6)) h
@[congr] theorem slices_Concat_byte_byte_r15_congr {env : Env} {h : Hp} {K : Env → Hp → Prop} : slices_Concat_byte_byte_r15 env h K = slices_Concat_byte_byte_r15 env h K := rfl

def slices_Concat_byte_byte_D : Den := (sq (rg slices_Concat_byte_byte_r0) (sq (rg slices_Concat_byte_byte_r1) (sq (sq (rg slices_Concat_byte_byte_r2) (blk 0 (lp slices_Concat_byte_byte_L0))) (sq (rg slices_Concat_byte_byte_r9) (sq (sq (rg slices_Concat_byte_byte_r10) (blk 2 (lp slices_Concat_byte_byte_L1))) (sq (rg slices_Concat_byte_byte_r15) (ex .ret)))))))

theorem slices_Concat_byte_byte_eq : (den Try.prog 36 slices_Concat_byte_byte_code).1 = slices_Concat_byte_byte_D := by kernel_rfl

theorem slices_Concat_byte_byte_ok {args : Array Value} {h : Hp} {Q : Value → Hp → Prop} (hn : args.size ≤ 36) (D : slices_Concat_byte_byte_D (fin Try.prog [(Go.ResultVar.tmp 2)] Q) (env0 args) h) : Ok Try.prog 34 args h Q :=
  ok_of_den progIsOk Try.func34 (c := slices_Concat_byte_byte_code) (by kernel_rfl) hn (by show (den Try.prog 36 slices_Concat_byte_byte_code).1 _ _ _; rw [slices_Concat_byte_byte_eq]; exact D)

/-! ### octroi/num.Put32: function 35 -/
noncomputable def num_Put32_code : Code := match Try.f35.body with | some c => c | none => .skip

/-- num.go:23 -/
def num_Put32_r0 (env : Env) (h : Hp) (K : Env → Hp → Prop) : Prop :=
  K (env.set 2 (Go.Value.slice none 0 0)) h
@[congr] theorem num_Put32_r0_congr {env : Env} {h : Hp} {K : Env → Hp → Prop} : num_Put32_r0 env h K = num_Put32_r0 env h K := rfl

/-- num.go:23 -/
def num_Put32_r1 (env : Env) (h : Hp) (K : Env → Hp → Prop) : Prop :=
  Ok Try.prog 44 #[(env 0), (Go.Value.int Go.IntKind.i64 4)] h fun v4_1 h1 =>
  K (((env.set 3 (env 0)).set 4 v4_1).set 2 v4_1) h1
@[congr] theorem num_Put32_r1_congr {env : Env} {h : Hp} {K : Env → Hp → Prop} : num_Put32_r1 env h K = num_Put32_r1 env h K := rfl

def num_Put32_D : Den := (sq (rg num_Put32_r0) (sq (rg num_Put32_r1) (ex .ret)))

theorem num_Put32_eq : (den Try.prog 5 num_Put32_code).1 = num_Put32_D := by kernel_rfl

theorem num_Put32_ok {args : Array Value} {h : Hp} {Q : Value → Hp → Prop} (hn : args.size ≤ 5) (D : num_Put32_D (fin Try.prog [(Go.ResultVar.tmp 2)] Q) (env0 args) h) : Ok Try.prog 35 args h Q :=
  ok_of_den progIsOk Try.func35 (c := num_Put32_code) (by kernel_rfl) hn (by show (den Try.prog 5 num_Put32_code).1 _ _ _; rw [num_Put32_eq]; exact D)

/-! ### octroi/num.Get32: function 36 -/
noncomputable def num_Get32_code : Code := match Try.f36.body with | some c => c | none => .skip

/-- num.go:43 -/
def num_Get32_r0 (env : Env) (h : Hp) (K : Env → Hp → Prop) : Prop :=
  K ((env.set 4 (Go.Value.int Go.IntKind.u32 0)).set 5 (Go.Value.bool false)) h
@[congr] theorem num_Get32_r0_congr {env : Env} {h : Hp} {K : Env → Hp → Prop} : num_Get32_r0 env h K = num_Get32_r0 env h K := rfl

/-- num.go:43 -/
def num_Get32_r1 (env : Env) (h : Hp) (K : Env → Hp → Prop) : Prop :=
  Ok Try.prog 45 #[(env 0), (env 1), (Go.Value.int Go.IntKind.i64 4)] h fun v8_2 h1 =>
  rd Try.prog (Instr.extract v8_2 0) noHp fun v9_3 =>
  rd Try.prog (Instr.extract v8_2 1) noHp fun v10_4 =>
  K (((((((env.set 6 (env 0)).set 7 (env 1)).set 8 v8_2).set 9 v9_3).set 10 v10_4).set 4 v9_3).set 5 v10_4) h1
@[congr] theorem num_Get32_r1_congr {env : Env} {h : Hp} {K : Env → Hp → Prop} : num_Get32_r1 env h K = num_Get32_r1 env h K := rfl

def num_Get32_D : Den := (sq (rg num_Get32_r0) (sq (rg num_Get32_r1) (ex .ret)))

theorem num_Get32_eq : (den Try.prog 11 num_Get32_code).1 = num_Get32_D := by kernel_rfl

theorem num_Get32_ok {args : Array Value} {h : Hp} {Q : Value → Hp → Prop} (hn : args.size ≤ 11) (D : num_Get32_D (fin Try.prog [(Go.ResultVar.tmp 4), (Go.ResultVar.tmp 5)] Q) (env0 args) h) : Ok Try.prog 36 args h Q :=
  ok_of_den progIsOk Try.func36 (c := num_Get32_code) (by kernel_rfl) hn (by show (den Try.prog 11 num_Get32_code).1 _ _ _; rw [num_Get32_eq]; exact D)

/-! ### slices.Collect[octroi/journal.name]: function 37 -/
noncomputable def slices_Collect_journal_name_code : Code := match Try.f37.body with | some c => c | none => .skip

/-- iter.go:59 -/
def slices_Collect_journal_name_r0 (env : Env) (h : Hp) (K : Env → Hp → Prop) : Prop :=
  K (env.set 2 (Go.Value.slice none 0 0)) h
@[congr] theorem slices_Collect_journal_name_r0_congr {env : Env} {h : Hp} {K : Env → Hp → Prop} : slices_Collect_journal_name_r0 env h K = slices_Collect_journal_name_r0 env h K := rfl

/-- iter.go:60 -/
def slices_Collect_journal_name_r1 (env : Env) (h : Hp) (K : Env → Hp → Prop) : Prop :=
  Ok Try.prog 46 #[(Go.Value.slice none 0 0), (env 0)] h fun v4_1 h1 =>
  K (((env.set 3 (env 0)).set 4 v4_1).set 2 v4_1) h1
@[congr] theorem slices_Collect_journal_name_r1_congr {env : Env} {h : Hp} {K : Env → Hp → Prop} : slices_Collect_journal_name_r1 env h K = slices_Collect_journal_name_r1 env h K := rfl

def slices_Collect_journal_name_D : Den := (sq (rg slices_Collect_journal_name_r0) (sq (rg slices_Collect_journal_name_r1) (ex .ret)))

theorem slices_Collect_journal_name_eq : (den Try.prog 5 slices_Collect_journal_name_code).1 = slices_Collect_journal_name_D := by kernel_rfl

theorem slices_Collect_journal_name_ok {args : Array Value} {h : Hp} {Q : Value → Hp → Prop} (hn : args.size ≤ 5) (D : slices_Collect_journal_name_D (fin Try.prog [(Go.ResultVar.tmp 2)] Q) (env0 args) h) : Ok Try.prog 37 args h Q :=
  ok_of_den progIsOk Try.func37 (c := slices_Collect_journal_name_code) (by kernel_rfl) hn (by show (den Try.prog 5 slices_Collect_journal_name_code).1 _ _ _; rw [slices_Collect_journal_name_eq]; exact D)

/-! ### slices.SortFunc[[]octroi/journal.name,octroi/journal.name]: function 38 -/
noncomputable def slices_SortFunc_journal_name_journal_name_code : Code := match Try.f38.body with | some c => c | none => .skip

/-- sort.go:31 -/
def slices_SortFunc_journal_name_journal_name_r0 (env : Env) (h : Hp) (K : Env → Hp → Prop) : Prop :=
  rd Try.prog (Builtin.len_ #[58] 3 #[(env 0)]) h fun v6_1 =>
  K (((env.set 5 (env 0)).set 6 v6_1).set 4 v6_1) h
@[congr] theorem slices_SortFunc_journal_name_journal_name_r0_congr {env : Env} {h : Hp} {K : Env → Hp → Prop} : slices_SortFunc_journal_name_journal_name_r0 env h K = slices_SortFunc_journal_name_journal_name_r0 env h K := rfl

/-- sort.go:32 -/
def slices_SortFunc_journal_name_journal_name_r1 (env : Env) (h : Hp) (K : Env → Hp → Prop) : Prop :=
  rd Try.prog (convert 3 80 (env 4)) noHp fun v10_3 =>
  Ok Try.prog 48 #[v10_3] h fun v11_4 h1 =>
  Ok Try.prog 47 #[(env 0), (Go.Value.int Go.IntKind.i64 0), (env 4), v11_4, (env 1)] h1 fun v13_6 h2 =>
  K (((((((env.set 7 (env 0)).set 8 (env 4)).set 9 (env 4)).set 10 v10_3).set 11 v11_4).set 12 (env 1)).set 13 v13_6) h2
@[congr] theorem slices_SortFunc_journal_name_journal_name_r1_congr {env : Env} {h : Hp} {K : Env → Hp → Prop} : slices_SortFunc_journal_name_journal_name_r1 env h K = slices_SortFunc_journal_name_journal_name_r1 env h K := rfl

def slices_SortFunc_journal_name_journal_name_D : Den := (sq (rg slices_SortFunc_journal_name_journal_name_r0) (rg slices_SortFunc_journal_name_journal_name_r1))

theorem slices_SortFunc_journal_name_journal_name_eq : (den Try.prog 14 slices_SortFunc_journal_name_journal_name_code).1 = slices_SortFunc_journal_name_journal_name_D := by kernel_rfl

theorem slices_SortFunc_journal_name_journal_name_ok {args : Array Value} {h : Hp} {Q : Value → Hp → Prop} (hn : args.size ≤ 14) (D : slices_SortFunc_journal_name_journal_name_D (fin Try.prog [] Q) (env0 args) h) : Ok Try.prog 38 args h Q :=
  ok_of_den progIsOk Try.func38 (c := slices_SortFunc_journal_name_journal_name_code) (by kernel_rfl) hn (by show (den Try.prog 14 slices_SortFunc_journal_name_journal_name_code).1 _ _ _; rw [slices_SortFunc_journal_name_journal_name_eq]; exact D)

/-! ### maps.Keys[map[octroi/journal.name]uint32,octroi/journal.name,uint32]$1: function 39 -/
noncomputable def maps_Keys_map_journal_name_uint32_journal_name_uint32_1_code : Code := match Try.f39.body with | some c => c | none => .skip

/-- iter.go:27 -/
def maps_Keys_map_journal_name_uint32_journal_name_uint32_1_r0 (env : Env) (h : Hp) (K : Env → Hp → Prop) : Prop :=
  rd Try.prog (Instr.loadAt 50 (env 1)) h fun v4_0 =>
  arun Try.prog (Instr.range 50 v4_0) h fun v5_1 h1 =>
  K ((env.set 4 v4_0).set 5 v5_1) h1
@[congr] theorem maps_Keys_map_journal_name_uint32_journal_name_uint32_1_r0_congr {env : Env} {h : Hp} {K : Env → Hp → Prop} : maps_Keys_map_journal_name_uint32_journal_name_uint32_1_r0 env h K = maps_Keys_map_journal_name_uint32_journal_name_uint32_1_r0 env h K := rfl

/-- iter.go:27 -/
def maps_Keys_map_journal_name_uint32_journal_name_uint32_1_r1 (env : Env) (h : Hp) (K : Env → Hp → Prop) : Prop :=
  arun Try.prog (Instr.next (env 5) false 0) h fun v6_0 h1 =>
  rd Try.prog (Instr.extract v6_0 0) noHp fun v7_1 =>
  K ((env.set 6 v6_0).set 7 v7_1) h1
@[congr] theorem maps_Keys_map_journal_name_uint32_journal_name_uint32_1_r1_congr {env : Env} {h : Hp} {K : Env → Hp → Prop} : maps_Keys_map_journal_name_uint32_journal_name_uint32_1_r1 env h K = maps_Keys_map_journal_name_uint32_journal_name_uint32_1_r1 env h K := rfl

/-- iter.go:27 -/
def maps_Keys_map_journal_name_uint32_journal_name_uint32_1_r2 (env : Env) (h : Hp) (K : Env → Hp → Prop) : Prop :=
  arun Try.prog (Instr.entry (env 5)) h fun v8_0 h1 =>
  rd Try.prog (Instr.extract v8_0 0) noHp fun v9_1 =>
  arun Try.prog (Instr.alloc 55 true (Go.Value.tuple #[])) h1 fun v3_2 h2 =>
  arun Try.prog (Instr.storeAt 55 v3_2 v9_1) h2 fun _ h3 =>
  K (((env.set 8 v8_0).set 9 v9_1).set 3 v3_2) h3
@[congr] theorem maps_Keys_map_journal_name_uint32_journal_name_uint32_1_r2_congr {env : Env} {h : Hp} {K : Env → Hp → Prop} : maps_Keys_map_journal_name_uint32_journal_name_uint32_1_r2 env h K = maps_Keys_map_journal_name_uint32_journal_name_uint32_1_r2 env h K := rfl

/-- iter.go:28 -/
def maps_Keys_map_journal_name_uint32_journal_name_uint32_1_r3 (env : Env) (h : Hp) (K : Env → Hp → Prop) : Prop :=
  rd Try.prog (Instr.loadAt 55 (env 3)) h fun v11_1 =>
  callV Try.prog (env 0) #[v11_1] h fun v12_2 h1 =>
  rd Try.prog (Op.unary Go.UnOp.not v12_2) noHp fun v13_3 =>
  K ((((env.set 10 (env 0)).set 11 v11_1).set 12 v12_2).set 13 v13_3) h1
@[congr] theorem maps_Keys_map_journal_name_uint32_journal_name_uint32_1_r3_congr {env : Env} {h : Hp} {K : Env → Hp → Prop} : maps_Keys_map_journal_name_uint32_journal_name_uint32_1_r3 env h K = maps_Keys_map_journal_name_uint32_journal_name_uint32_1_r3 env h K := rfl

def maps_Keys_map_journal_name_uint32_journal_name_uint32_1_L0 : Den := (sq (rg maps_Keys_map_journal_name_uint32_journal_name_uint32_1_r1) (sq (cnd (Go.Operand.tmp 7) (ex .normal) (ex (.exit 0))) (blk 1 (sq (rg maps_Keys_map_journal_name_uint32_journal_name_uint32_1_r2) (sq (rg maps_Keys_map_journal_name_uint32_journal_name_uint32_1_r3) (cnd (Go.Operand.tmp 13) (ex .ret) (ex .normal)))))))

def maps_Keys_map_journal_name_uint32_journal_name_uint32_1_D : Den := (sq (rg maps_Keys_map_journal_name_uint32_journal_name_uint32_1_r0) (blk 0 (lp maps_Keys_map_journal_name_uint32_journal_name_uint32_1_L0)))

theorem maps_Keys_map_journal_name_uint32_journal_name_uint32_1_eq : (den Try.prog 14 maps_Keys_map_journal_name_uint32_journal_name_uint32_1_code).1 = maps_Keys_map_journal_name_uint32_journal_name_uint32_1_D := by kernel_rfl

theorem maps_Keys_map_journal_name_uint32_journal_name_uint32_1_ok {args : Array Value} {h : Hp} {Q : Value → Hp → Prop} (hn : args.size ≤ 14) (D : maps_Keys_map_journal_name_uint32_journal_name_uint32_1_D (fin Try.prog [] Q) (env0 args) h) : Ok Try.prog 39 args h Q :=
  ok_of_den progIsOk Try.func39 (c := maps_Keys_map_journal_name_uint32_journal_name_uint32_1_code) (by kernel_rfl) hn (by show (den Try.prog 14 maps_Keys_map_journal_name_uint32_journal_name_uint32_1_code).1 _ _ _; rw [maps_Keys_map_journal_name_uint32_journal_name_uint32_1_eq]; exact D)

/-! ### cmp.Or[int]: function 40 -/
noncomputable def cmp_Or_int_code : Code := match Try.f40.body with | some c => c | none => .skip

/-- cmp.go:69 -/
def cmp_Or_int_r0 (env : Env) (h : Hp) (K : Env → Hp → Prop) : Prop :=
  K (env.set 2 (Go.Value.int Go.IntKind.i64 0)) h
@[congr] theorem cmp_Or_int_r0_congr {env : Env} {h : Hp} {K : Env → Hp → Prop} : cmp_Or_int_r0 env h K = cmp_Or_int_r0 env h K := rfl

/-- cmp.go:70 -/
def cmp_Or_int_r1 (env : Env) (h : Hp) (K : Env → Hp → Prop) : Prop :=
  K (env.set 3 (Go.Value.int Go.IntKind.i64 0)) h
@[congr] theorem cmp_Or_int_r1_congr {env : Env} {h : Hp} {K : Env → Hp → Prop} : cmp_Or_int_r1 env h K = cmp_Or_int_r1 env h K := rfl

/-- cmp.go:71 -/
def cmp_Or_int_r2 (env : Env) (h : Hp) (K : Env → Hp → Prop) : Prop :=
  rd Try.prog (Builtin.len_ #[81] 3 #[(env 0)]) h fun v7_1 =>
  K (((env.set 6 (env 0)).set 7 v7_1).set 8 (Go.Value.int Go.IntKind.i64 0)) h
@[congr] theorem cmp_Or_int_r2_congr {env : Env} {h : Hp} {K : Env → Hp → Prop} : cmp_Or_int_r2 env h K = cmp_Or_int_r2 env h K := rfl

/-- cmp.go:71 -/
def cmp_Or_int_r3 (env : Env) (h : Hp) (K : Env → Hp → Prop) : Prop :=
  rd Try.prog (bop Go.BinOp.lss 3 (Go.Operand.tmp 8) (Go.Operand.tmp 7) (env 8) (env 7)) noHp fun v9_0 =>
  K (env.set 9 v9_0) h
@[congr] theorem cmp_Or_int_r3_congr {env : Env} {h : Hp} {K : Env → Hp → Prop} : cmp_Or_int_r3 env h K = cmp_Or_int_r3 env h K := rfl

/-- cmp.go:71 -/
def cmp_Or_int_r4 (env : Env) (h : Hp) (K : Env → Hp → Prop) : Prop :=
  rd Try.prog (Instr.indexAt 81 (env 6) (env 8)) noHp fun v10_0 =>
  rd Try.prog (Instr.loadAt 3 v10_0) h fun v11_1 =>
  K (((env.set 10 v10_0).set 11 v11_1).set 5 v11_1) h
@[congr] theorem cmp_Or_int_r4_congr {env : Env} {h : Hp} {K : Env → Hp → Prop} : cmp_Or_int_r4 env h K = cmp_Or_int_r4 env h K := rfl

/-- cmp.go:72 -/
def cmp_Or_int_r5 (env : Env) (h : Hp) (K : Env → Hp → Prop) : Prop :=
  rd Try.prog (bop Go.BinOp.neq 3 (Go.Operand.tmp 12) (Go.Operand.tmp 13) (env 5) (env 3)) noHp fun v14_2 =>
  K (((env.set 12 (env 5)).set 13 (env 3)).set 14 v14_2) h
@[congr] theorem cmp_Or_int_r5_congr {env : Env} {h : Hp} {K : Env → Hp → Prop} : cmp_Or_int_r5 env h K = cmp_Or_int_r5 env h K := rfl

/-- cmp.go:73 -/
def cmp_Or_int_r6 (env : Env) (h : Hp) (K : Env → Hp → Prop) : Prop :=
  K ((env.set 15 (env 5)).set 2 (env 5)) h
@[congr] theorem cmp_Or_int_r6_congr {env : Env} {h : Hp} {K : Env → Hp → Prop} : cmp_Or_int_r6 env h K = cmp_Or_int_r6 env h K := rfl

/-- cmp.go:71 -/
def cmp_Or_int_r7 (env : Env) (h : Hp) (K : Env → Hp → Prop) : Prop :=
  rd Try.prog (bop Go.BinOp.add 3 (Go.Operand.tmp 8) (Go.Operand.const (Go.Value.int Go.IntKind.i64 1)) (env 8) (Go.Value.int Go.IntKind.i64 1)) noHp fun v16_0 =>
  K ((env.set 16 v16_0).set 8 v16_0) h
@[congr] theorem cmp_Or_int_r7_congr {env : Env} {h : Hp} {K : Env → Hp → Prop} : cmp_Or_int_r7 env h K = cmp_Or_int_r7 env h K := rfl

def cmp_Or_int_L0 : Den := (sq (rg cmp_Or_int_r3) (sq (cnd (Go.Operand.tmp 9) (ex .normal) (ex (.exit 0))) (sq (blk 1 (sq (rg cmp_Or_int_r4) (sq (rg cmp_Or_int_r5) (cnd (Go.Operand.tmp 14) (sq (rg cmp_Or_int_r6) (ex .ret)) (ex .normal))))) (rg cmp_Or_int_r7))))

/-- cmp.go:76 -/
def cmp_Or_int_r8 (env : Env) (h : Hp) (K : Env → Hp → Prop) : Prop :=
  K ((env.set 17 (env 3)).set 2 (env 3)) h
@[congr] theorem cmp_Or_int_r8_congr {env : Env} {h : Hp} {K : Env → Hp → Prop} : cmp_Or_int_r8 env h K = cmp_Or_int_r8 env h K := rfl

def cmp_Or_int_D : Den := (sq (rg cmp_Or_int_r0) (sq (rg cmp_Or_int_r1) (sq (sq (rg cmp_Or_int_r2) (blk 0 (lp cmp_Or_int_L0))) (sq (rg cmp_Or_int_r8) (ex .ret)))))

theorem cmp_Or_int_eq : (den Try.prog 18 cmp_Or_int_code).1 = cmp_Or_int_D := by kernel_rfl

theorem cmp_Or_int_ok {args : Array Value} {h : Hp} {Q : Value → Hp → Prop} (hn : args.size ≤ 18) (D : cmp_Or_int_D (fin Try.prog [(Go.ResultVar.tmp 2)] Q) (env0 args) h) : Ok Try.prog 40 args h Q :=
  ok_of_den progIsOk Try.func40 (c := cmp_Or_int_code) (by kernel_rfl) hn (by show (den Try.prog 18 cmp_Or_int_code).1 _ _ _; rw [cmp_Or_int_eq]; exact D)

/-! ### cmp.Compare[int]: function 41 -/
noncomputable def cmp_Compare_int_code : Code := match Try.f41.body with | some c => c | none => .skip

/-- cmp.go:40 -/
def cmp_Compare_int_r0 (env : Env) (h : Hp) (K : Env → Hp → Prop) : Prop :=
  K (env.set 4 (Go.Value.int Go.IntKind.i64 0)) h
@[congr] theorem cmp_Compare_int_r0_congr {env : Env} {h : Hp} {K : Env → Hp → Prop} : cmp_Compare_int_r0 env h K = cmp_Compare_int_r0 env h K := rfl

/-- cmp.go:41 -/
def cmp_Compare_int_r1 (env : Env) (h : Hp) (K : Env → Hp → Prop) : Prop :=
  Ok Try.prog 49 #[(env 0)] h fun v8_1 h1 =>
  K (((env.set 7 (env 0)).set 8 v8_1).set 5 v8_1) h1
@[congr] theorem cmp_Compare_int_r1_congr {env : Env} {h : Hp} {K : Env → Hp → Prop} : cmp_Compare_int_r1 env h K = cmp_Compare_int_r1 env h K := rfl

/-- cmp.go:42 -/
def cmp_Compare_int_r2 (env : Env) (h : Hp) (K : Env → Hp → Prop) : Prop :=
  Ok Try.prog 49 #[(env 1)] h fun v10_1 h1 =>
  K (((env.set 9 (env 1)).set 10 v10_1).set 6 v10_1) h1
@[congr] theorem cmp_Compare_int_r2_congr {env : Env} {h : Hp} {K : Env → Hp → Prop} : cmp_Compare_int_r2 env h K = cmp_Compare_int_r2 env h K := rfl

/-- cmp.go:43 -/
def cmp_Compare_int_r3 (env : Env) (h : Hp) (K : Env → Hp → Prop) : Prop :=
  K (env.set 11 (env 5)) h
@[congr] theorem cmp_Compare_int_r3_congr {env : Env} {h : Hp} {K : Env → Hp → Prop} : cmp_Compare_int_r3 env h K = cmp_Compare_int_r3 env h K := rfl

/-- cmp.go:44 -/
def cmp_Compare_int_r4 (env : Env) (h : Hp) (K : Env → Hp → Prop) : Prop :=
  K (env.set 12 (env 6)) h
@[congr] theorem cmp_Compare_int_r4_congr {env : Env} {h : Hp} {K : Env → Hp → Prop} : cmp_Compare_int_r4 env h K = cmp_Compare_int_r4 env h K := rfl

/-- cmp.go:45 -/
def cmp_Compare_int_r5 (env : Env) (h : Hp) (K : Env → Hp → Prop) : Prop :=
  K (env.set 4 (Go.Value.int Go.IntKind.i64 0)) h
@[congr] theorem cmp_Compare_int_r5_congr {env : Env} {h : Hp} {K : Env → Hp → Prop} : cmp_Compare_int_r5 env h K = cmp_Compare_int_r5 env h K := rfl

/-- cmp.go:47 -/
def cmp_Compare_int_r6 (env : Env) (h : Hp) (K : Env → Hp → Prop) : Prop :=
  K (env.set 4 (Go.Value.int Go.IntKind.i64 (-1))) h
@[congr] theorem cmp_Compare_int_r6_congr {env : Env} {h : Hp} {K : Env → Hp → Prop} : cmp_Compare_int_r6 env h K = cmp_Compare_int_r6 env h K := rfl

/-- cmp.go:49 -/
def cmp_Compare_int_r7 (env : Env) (h : Hp) (K : Env → Hp → Prop) : Prop :=
  K (env.set 13 (env 6)) h
@[congr] theorem cmp_Compare_int_r7_congr {env : Env} {h : Hp} {K : Env → Hp → Prop} : cmp_Compare_int_r7 env h K = cmp_Compare_int_r7 env h K := rfl

/-- cmp.go:50 -/
def cmp_Compare_int_r8 (env : Env) (h : Hp) (K : Env → Hp → Prop) : Prop :=
  K (env.set 4 (Go.Value.int Go.IntKind.i64 1)) h
@[congr] theorem cmp_Compare_int_r8_congr {env : Env} {h : Hp} {K : Env → Hp → Prop} : cmp_Compare_int_r8 env h K = cmp_Compare_int_r8 env h K := rfl

/-- cmp.go:52 -/
def cmp_Compare_int_r9 (env : Env) (h : Hp) (K : Env → Hp → Prop) : Prop :=
  rd Try.prog (bop Go.BinOp.lss 3 (Go.Operand.tmp 14) (Go.Operand.tmp 15) (env 0) (env 1)) noHp fun v16_2 =>
  K (((env.set 14 (env 0)).set 15 (env 1)).set 16 v16_2) h
@[congr] theorem cmp_Compare_int_r9_congr {env : Env} {h : Hp} {K : Env → Hp → Prop} : cmp_Compare_int_r9 env h K = cmp_Compare_int_r9 env h K := rfl

/-- cmp.go:53 -/
def cmp_Compare_int_r10 (env : Env) (h : Hp) (K : Env → Hp → Prop) : Prop :=
  K (env.set 4 (Go.Value.int Go.IntKind.i64 (-1))) h
@[congr] theorem cmp_Compare_int_r10_congr {env : Env} {h : Hp} {K : Env → Hp → Prop} : cmp_Compare_int_r10 env h K = cmp_Compare_int_r10 env h K := rfl

/-- cmp.go:55 -/
def cmp_Compare_int_r11 (env : Env) (h : Hp) (K : Env → Hp → Prop) : Prop :=
  rd Try.prog (bop Go.BinOp.gtr 3 (Go.Operand.tmp 17) (Go.Operand.tmp 18) (env 0) (env 1)) noHp fun v19_2 =>
  K (((env.set 17 (env 0)).set 18 (env 1)).set 19 v19_2) h
@[congr] theorem cmp_Compare_int_r11_congr {env : Env} {h : Hp} {K : Env → Hp → Prop} : cmp_Compare_int_r11 env h K = cmp_Compare_int_r11 env h K := rfl

/-- cmp.go:56 -/
def cmp_Compare_int_r12 (env : Env) (h : Hp) (K : Env → Hp → Prop) : Prop :=
  K (env.set 4 (Go.Value.int Go.IntKind.i64 1)) h
@[congr] theorem cmp_Compare_int_r12_congr {env : Env} {h : Hp} {K : Env → Hp → Prop} : cmp_Compare_int_r12 env h K = cmp_Compare_int_r12 env h K := rfl

/-- cmp.go:58 -/
def cmp_Compare_int_r13 (env : Env) (h : Hp) (K : Env → Hp → Prop) : Prop :=
  K (env.set 4 (Go.Value.int Go.IntKind.i64 0)) h
@[congr] theorem cmp_Compare_int_r13_congr {env : Env} {h : Hp} {K : Env → Hp → Prop} : cmp_Compare_int_r13 env h K = cmp_Compare_int_r13 env h K := rfl

def cmp_Compare_int_D : Den := (sq (rg cmp_Compare_int_r0) (sq (rg cmp_Compare_int_r1) (sq (rg cmp_Compare_int_r2) (sq (sq (rg cmp_Compare_int_r3) (cnd (Go.Operand.tmp 11) (sq (sq (rg cmp_Compare_int_r4) (cnd (Go.Operand.tmp 12) (sq (rg cmp_Compare_int_r5) (ex .ret)) (ex .normal))) (sq (rg cmp_Compare_int_r6) (ex .ret))) (ex .normal))) (sq (sq (rg cmp_Compare_int_r7) (cnd (Go.Operand.tmp 13) (sq (rg cmp_Compare_int_r8) (ex .ret)) (ex .normal))) (sq (sq (rg cmp_Compare_int_r9) (cnd (Go.Operand.tmp 16) (sq (rg cmp_Compare_int_r10) (ex .ret)) (ex .normal))) (sq (sq (rg cmp_Compare_int_r11) (cnd (Go.Operand.tmp 19) (sq (rg cmp_Compare_int_r12) (ex .ret)) (ex .normal))) (sq (rg cmp_Compare_int_r13) (ex .ret)))))))))

theorem cmp_Compare_int_eq : (den Try.prog 20 cmp_Compare_int_code).1 = cmp_Compare_int_D := by kernel_rfl

theorem cmp_Compare_int_ok {args : Array Value} {h : Hp} {Q : Value → Hp → Prop} (hn : args.size ≤ 20) (D : cmp_Compare_int_D (fin Try.prog [(Go.ResultVar.tmp 4)] Q) (env0 args) h) : Ok Try.prog 41 args h Q :=
  ok_of_den progIsOk Try.func41 (c := cmp_Compare_int_code) (by kernel_rfl) hn (by show (den Try.prog 20 cmp_Compare_int_code).1 _ _ _; rw [cmp_Compare_int_eq]; exact D)

/-! ### cmp.Compare[uint32]: function 42 -/
noncomputable def cmp_Compare_uint32_code : Code := match Try.f42.body with | some c => c | none => .skip

/-- cmp.go:40 -/
def cmp_Compare_uint32_r0 (env : Env) (h : Hp) (K : Env → Hp → Prop) : Prop :=
  K (env.set 4 (Go.Value.int Go.IntKind.i64 0)) h
@[congr] theorem cmp_Compare_uint32_r0_congr {env : Env} {h : Hp} {K : Env → Hp → Prop} : cmp_Compare_uint32_r0 env h K = cmp_Compare_uint32_r0 env h K := rfl

/-- cmp.go:41 -/
def cmp_Compare_uint32_r1 (env : Env) (h : Hp) (K : Env → Hp → Prop) : Prop :=
  Ok Try.prog 50 #[(env 0)] h fun v8_1 h1 =>
  K (((env.set 7 (env 0)).set 8 v8_1).set 5 v8_1) h1
@[congr] theorem cmp_Compare_uint32_r1_congr {env : Env} {h : Hp} {K : Env → Hp → Prop} : cmp_Compare_uint32_r1 env h K = cmp_Compare_uint32_r1 env h K := rfl

/-- cmp.go:42 -/
def cmp_Compare_uint32_r2 (env : Env) (h : Hp) (K : Env → Hp → Prop) : Prop :=
  Ok Try.prog 50 #[(env 1)] h fun v10_1 h1 =>
  K (((env.set 9 (env 1)).set 10 v10_1).set 6 v10_1) h1
@[congr] theorem cmp_Compare_uint32_r2_congr {env : Env} {h : Hp} {K : Env → Hp → Prop} : cmp_Compare_uint32_r2 env h K = cmp_Compare_uint32_r2 env h K := rfl

/-- cmp.go:43 -/
def cmp_Compare_uint32_r3 (env : Env) (h : Hp) (K : Env → Hp → Prop) : Prop :=
  K (env.set 11 (env 5)) h
@[congr] theorem cmp_Compare_uint32_r3_congr {env : Env} {h : Hp} {K : Env → Hp → Prop} : cmp_Compare_uint32_r3 env h K = cmp_Compare_uint32_r3 env h K := rfl

/-- cmp.go:44 -/
def cmp_Compare_uint32_r4 (env : Env) (h : Hp) (K : Env → Hp → Prop) : Prop :=
  K (env.set 12 (env 6)) h
@[congr] theorem cmp_Compare_uint32_r4_congr {env : Env} {h : Hp} {K : Env → Hp → Prop} : cmp_Compare_uint32_r4 env h K = cmp_Compare_uint32_r4 env h K := rfl

/-- cmp.go:45 -/
def cmp_Compare_uint32_r5 (env : Env) (h : Hp) (K : Env → Hp → Prop) : Prop :=
  K (env.set 4 (Go.Value.int Go.IntKind.i64 0)) h
@[congr] theorem cmp_Compare_uint32_r5_congr {env : Env} {h : Hp} {K : Env → Hp → Prop} : cmp_Compare_uint32_r5 env h K = cmp_Compare_uint32_r5 env h K := rfl

/-- cmp.go:47 -/
def cmp_Compare_uint32_r6 (env : Env) (h : Hp) (K : Env → Hp → Prop) : Prop :=
  K (env.set 4 (Go.Value.int Go.IntKind.i64 (-1))) h
@[congr] theorem cmp_Compare_uint32_r6_congr {env : Env} {h : Hp} {K : Env → Hp → Prop} : cmp_Compare_uint32_r6 env h K = cmp_Compare_uint32_r6 env h K := rfl

/-- cmp.go:49 -/
def cmp_Compare_uint32_r7 (env : Env) (h : Hp) (K : Env → Hp → Prop) : Prop :=
  K (env.set 13 (env 6)) h
@[congr] theorem cmp_Compare_uint32_r7_congr {env : Env} {h : Hp} {K : Env → Hp → Prop} : cmp_Compare_uint32_r7 env h K = cmp_Compare_uint32_r7 env h K := rfl

/-- cmp.go:50 -/
def cmp_Compare_uint32_r8 (env : Env) (h : Hp) (K : Env → Hp → Prop) : Prop :=
  K (env.set 4 (Go.Value.int Go.IntKind.i64 1)) h
@[congr] theorem cmp_Compare_uint32_r8_congr {env : Env} {h : Hp} {K : Env → Hp → Prop} : cmp_Compare_uint32_r8 env h K = cmp_Compare_uint32_r8 env h K := rfl

/-- cmp.go:52 -/
def cmp_Compare_uint32_r9 (env : Env) (h : Hp) (K : Env → Hp → Prop) : Prop :=
  rd Try.prog (bop Go.BinOp.lss 23 (Go.Operand.tmp 14) (Go.Operand.tmp 15) (env 0) (env 1)) noHp fun v16_2 =>
  K (((env.set 14 (env 0)).set 15 (env 1)).set 16 v16_2) h
@[congr] theorem cmp_Compare_uint32_r9_congr {env : Env} {h : Hp} {K : Env → Hp → Prop} : cmp_Compare_uint32_r9 env h K = cmp_Compare_uint32_r9 env h K := rfl

/-- cmp.go:53 -/
def cmp_Compare_uint32_r10 (env : Env) (h : Hp) (K : Env → Hp → Prop) : Prop :=
  K (env.set 4 (Go.Value.int Go.IntKind.i64 (-1))) h
@[congr] theorem cmp_Compare_uint32_r10_congr {env : Env} {h : Hp} {K : Env → Hp → Prop} : cmp_Compare_uint32_r10 env h K = cmp_Compare_uint32_r10 env h K := rfl

/-- cmp.go:55 -/
def cmp_Compare_uint32_r11 (env : Env) (h : Hp) (K : Env → Hp → Prop) : Prop :=
  rd Try.prog (bop Go.BinOp.gtr 23 (Go.Operand.tmp 17) (Go.Operand.tmp 18) (env 0) (env 1)) noHp fun v19_2 =>
  K (((env.set 17 (env 0)).set 18 (env 1)).set 19 v19_2) h
@[congr] theorem cmp_Compare_uint32_r11_congr {env : Env} {h : Hp} {K : Env → Hp → Prop} : cmp_Compare_uint32_r11 env h K = cmp_Compare_uint32_r11 env h K := rfl

/-- cmp.go:56 -/
def cmp_Compare_uint32_r12 (env : Env) (h : Hp) (K : Env → Hp → Prop) : Prop :=
  K (env.set 4 (Go.Value.int Go.IntKind.i64 1)) h
@[congr] theorem cmp_Compare_uint32_r12_congr {env : Env} {h : Hp} {K : Env → Hp → Prop} : cmp_Compare_uint32_r12 env h K = cmp_Compare_uint32_r12 env h K := rfl

/-- cmp.go:58 -/
def cmp_Compare_uint32_r13 (env : Env) (h : Hp) (K : Env → Hp → Prop) : Prop :=
  K (env.set 4 (Go.Value.int Go.IntKind.i64 0)) h
@[congr] theorem cmp_Compare_uint32_r13_congr {env : Env} {h : Hp} {K : Env → Hp → Prop} : cmp_Compare_uint32_r13 env h K = cmp_Compare_uint32_r13 env h K := rfl

def cmp_Compare_uint32_D : Den := (sq (rg cmp_Compare_uint32_r0) (sq (rg cmp_Compare_uint32_r1) (sq (rg cmp_Compare_uint32_r2) (sq (sq (rg cmp_Compare_uint32_r3) (cnd (Go.Operand.tmp 11) (sq (sq (rg cmp_Compare_uint32_r4) (cnd (Go.Operand.tmp 12) (sq (rg cmp_Compare_uint32_r5) (ex .ret)) (ex .normal))) (sq (rg cmp_Compare_uint32_r6) (ex .ret))) (ex .normal))) (sq (sq (rg cmp_Compare_uint32_r7) (cnd (Go.Operand.tmp 13) (sq (rg cmp_Compare_uint32_r8) (ex .ret)) (ex .normal))) (sq (sq (rg cmp_Compare_uint32_r9) (cnd (Go.Operand.tmp 16) (sq (rg cmp_Compare_uint32_r10) (ex .ret)) (ex .normal))) (sq (sq (rg cmp_Compare_uint32_r11) (cnd (Go.Operand.tmp 19) (sq (rg cmp_Compare_uint32_r12) (ex .ret)) (ex .normal))) (sq (rg cmp_Compare_uint32_r13) (ex .ret)))))))))

theorem cmp_Compare_uint32_eq : (den Try.prog 20 cmp_Compare_uint32_code).1 = cmp_Compare_uint32_D := by kernel_rfl

theorem cmp_Compare_uint32_ok {args : Array Value} {h : Hp} {Q : Value → Hp → Prop} (hn : args.size ≤ 20) (D : cmp_Compare_uint32_D (fin Try.prog [(Go.ResultVar.tmp 4)] Q) (env0 args) h) : Ok Try.prog 42 args h Q :=
  ok_of_den progIsOk Try.func42 (c := cmp_Compare_uint32_code) (by kernel_rfl) hn (by show (den Try.prog 20 cmp_Compare_uint32_code).1 _ _ _; rw [cmp_Compare_uint32_eq]; exact D)

/-! ### slices.Grow[[]byte,byte]: function 43 -/
noncomputable def slices_Grow_byte_byte_code : Code := match Try.f43.body with | some c => c | none => .skip

/-- slices.go:422 -/
def slices_Grow_byte_byte_r0 (env : Env) (h : Hp) (K : Env → Hp → Prop) : Prop :=
  K (env.set 4 (Go.Value.slice none 0 0)) h
@[congr] theorem slices_Grow_byte_byte_r0_congr {env : Env} {h : Hp} {K : Env → Hp → Prop} : slices_Grow_byte_byte_r0 env h K = slices_Grow_byte_byte_r0 env h K := rfl

/-- slices.go:423 -/
def slices_Grow_byte_byte_r1 (env : Env) (h : Hp) (K : Env → Hp → Prop) : Prop :=
  rd Try.prog (bop Go.BinOp.lss 3 (Go.Operand.tmp 5) (Go.Operand.const (Go.Value.int Go.IntKind.i64 0)) (env 1) (Go.Value.int Go.IntKind.i64 0)) noHp fun v6_1 =>
  K ((env.set 5 (env 1)).set 6 v6_1) h
@[congr] theorem slices_Grow_byte_byte_r1_congr {env : Env} {h : Hp} {K : Env → Hp → Prop} : slices_Grow_byte_byte_r1 env h K = slices_Grow_byte_byte_r1 env h K := rfl

/-- slices.go:424 -/
def slices_Grow_byte_byte_r2 (env : Env) (h : Hp) (K : Env → Hp → Prop) : Prop :=
  rd Try.prog (Instr.makeInterface 9 (Go.Value.string (ByteArray.mk #[99, 97, 110, 110, 111, 116, 32, 98, 101, 32, 110, 101, 103, 97, 116, 105, 118, 101]))) noHp fun v7_0 =>
  False
@[congr] theorem slices_Grow_byte_byte_r2_congr {env : Env} {h : Hp} {K : Env → Hp → Prop} : slices_Grow_byte_byte_r2 env h K = slices_Grow_byte_byte_r2 env h K := rfl

/-- slices.go:426 -/
def slices_Grow_byte_byte_r3 (env : Env) (h : Hp) (K : Env → Hp → Prop) : Prop :=
  rd Try.prog (Builtin.cap_ #[34] 3 #[(env 0)]) h fun v10_2 =>
  rd Try.prog (Builtin.len_ #[34] 3 #[(env 0)]) h fun v12_4 =>
  rd Try.prog (bop Go.BinOp.sub 3 (Go.Operand.tmp 10) (Go.Operand.tmp 12) v10_2 v12_4) noHp fun v13_5 =>
  rd Try.prog (bop Go.BinOp.sub 3 (Go.Operand.tmp 8) (Go.Operand.tmp 13) (env 1) v13_5) noHp fun v14_6 =>
  K ((((((((env.set 8 (env 1)).set 9 (env 0)).set 10 v10_2).set 11 (env 0)).set 12 v12_4).set 13 v13_5).set 14 v14_6).set 1 v14_6) h
@[congr] theorem slices_Grow_byte_byte_r3_congr {env : Env} {h : Hp} {K : Env → Hp → Prop} : slices_Grow_byte_byte_r3 env h K = slices_Grow_byte_byte_r3 env h K := rfl

/-- slices.go:426 -/
def slices_Grow_byte_byte_r4 (env : Env) (h : Hp) (K : Env → Hp → Prop) : Prop :=
  rd Try.prog (bop Go.BinOp.gtr 3 (Go.Operand.tmp 15) (Go.Operand.const (Go.Value.int Go.IntKind.i64 0)) (env 1) (Go.Value.int Go.IntKind.i64 0)) noHp fun v16_1 =>
  K ((env.set 15 (env 1)).set 16 v16_1) h
@[congr] theorem slices_Grow_byte_byte_r4_congr {env : Env} {h : Hp} {K : Env → Hp → Prop} : slices_Grow_byte_byte_r4 env h K = slices_Grow_byte_byte_r4 env h K := rfl

/-- slices.go:428 -/
def slices_Grow_byte_byte_r5 (env : Env) (h : Hp) (K : Env → Hp → Prop) : Prop :=
  rd Try.prog (Builtin.cap_ #[34] 3 #[(env 0)]) h fun v19_2 =>
  rd Try.prog (Instr.sliceAt 34 (env 0) none (some v19_2) none) noHp fun v20_3 =>
  arun Try.prog (Builtin.append_ #[34, 3] 34 #[v20_3, (env 1)]) h fun v22_5 h1 =>
  rd Try.prog (Builtin.len_ #[34] 3 #[(env 0)]) h1 fun v24_7 =>
  rd Try.prog (Instr.sliceAt 34 v22_5 none (some v24_7) none) noHp fun v25_8 =>
  K ((((((((((env.set 17 (env 0)).set 18 (env 0)).set 19 v19_2).set 20 v20_3).set 21 (env 1)).set 22 v22_5).set 23 (env 0)).set 24 v24_7).set 25 v25_8).set 0 v25_8) h1
@[congr] theorem slices_Grow_byte_byte_r5_congr {env : Env} {h : Hp} {K : Env → Hp → Prop} : slices_Grow_byte_byte_r5 env h K = slices_Grow_byte_byte_r5 env h K := rfl

/-- slices.go:430 -/
def slices_Grow_byte_byte_r6 (env : Env) (h : Hp) (K : Env → Hp → Prop) : Prop :=
  K ((env.set 26 (env 0)).set 4 (env 0)) h
@[congr] theorem slices_Grow_byte_byte_r6_congr {env : Env} {h : Hp} {K : Env → Hp → Prop} : slices_Grow_byte_byte_r6 env h K = slices_Grow_byte_byte_r6 env h K := rfl

def slices_Grow_byte_byte_D : Den := (sq (rg slices_Grow_byte_byte_r0) (sq (sq (rg slices_Grow_byte_byte_r1) (cnd (Go.Operand.tmp 6) (rg slices_Grow_byte_byte_r2) (ex .normal))) (sq (sq (rg slices_Grow_byte_byte_r3) (sq (rg slices_Grow_byte_byte_r4) (cnd (Go.Operand.tmp 16) (rg slices_Grow_byte_byte_r5) (ex .normal)))) (sq (rg slices_Grow_byte_byte_r6) (ex .ret)))))

theorem slices_Grow_byte_byte_eq : (den Try.prog 27 slices_Grow_byte_byte_code).1 = slices_Grow_byte_byte_D := by kernel_rfl

theorem slices_Grow_byte_byte_ok {args : Array Value} {h : Hp} {Q : Value → Hp → Prop} (hn : args.size ≤ 27) (D : slices_Grow_byte_byte_D (fin Try.prog [(Go.ResultVar.tmp 4)] Q) (env0 args) h) : Ok Try.prog 43 args h Q :=
  ok_of_den progIsOk Try.func43 (c := slices_Grow_byte_byte_code) (by kernel_rfl) hn (by show (den Try.prog 27 slices_Grow_byte_byte_code).1 _ _ _; rw [slices_Grow_byte_byte_eq]; exact D)

/-! ### octroi/num.put: function 44 -/
noncomputable def num_put_code : Code := match Try.f44.body with | some c => c | none => .skip

/-- num.go:11 -/
def num_put_r0 (env : Env) (h : Hp) (K : Env → Hp → Prop) : Prop :=
  K (env.set 4 (Go.Value.slice none 0 0)) h
@[congr] theorem num_put_r0_congr {env : Env} {h : Hp} {K : Env → Hp → Prop} : num_put_r0 env h K = num_put_r0 env h K := rfl

/-- num.go:12 -/
def num_put_r1 (env : Env) (h : Hp) (K : Env → Hp → Prop) : Prop :=
  arun Try.prog (Instr.makeSlice 34 (env 1) (env 1)) h fun v8_1 h1 =>
  K (((env.set 7 (env 1)).set 8 v8_1).set 5 v8_1) h1
@[congr] theorem num_put_r1_congr {env : Env} {h : Hp} {K : Env → Hp → Prop} : num_put_r1 env h K = num_put_r1 env h K := rfl

/-- num.go:13 -/
def num_put_r2 (env : Env) (h : Hp) (K : Env → Hp → Prop) : Prop :=
  K ((env.set 9 (env 1)).set 10 (Go.Value.int Go.IntKind.i64 0)) h
@[congr] theorem num_put_r2_congr {env : Env} {h : Hp} {K : Env → Hp → Prop} : num_put_r2 env h K = num_put_r2 env h K := rfl

/-- num.go:13 -/
def num_put_r3 (env : Env) (h : Hp) (K : Env → Hp → Prop) : Prop :=
  rd Try.prog (bop Go.BinOp.lss 3 (Go.Operand.tmp 10) (Go.Operand.tmp 9) (env 10) (env 9)) noHp fun v11_0 =>
  K (env.set 11 v11_0) h
@[congr] theorem num_put_r3_congr {env : Env} {h : Hp} {K : Env → Hp → Prop} : num_put_r3 env h K = num_put_r3 env h K := rfl

/-- num.go:13 -/
def num_put_r4 (env : Env) (h : Hp) (K : Env → Hp → Prop) : Prop :=
  K ((env.set 12 (env 10)).set 6 (env 10)) h
@[congr] theorem num_put_r4_congr {env : Env} {h : Hp} {K : Env → Hp → Prop} : num_put_r4 env h K = num_put_r4 env h K := rfl

/-- num.go:14 -/
def num_put_r5 (env : Env) (h : Hp) (K : Env → Hp → Prop) : Prop :=
  rd Try.prog (bop Go.BinOp.sub 3 (Go.Operand.tmp 14) (Go.Operand.const (Go.Value.int Go.IntKind.i64 1)) (env 1) (Go.Value.int Go.IntKind.i64 1)) noHp fun v15_2 =>
  rd Try.prog (bop Go.BinOp.sub 3 (Go.Operand.tmp 15) (Go.Operand.tmp 16) v15_2 (env 6)) noHp fun v17_4 =>
  rd Try.prog (bop Go.BinOp.mul 3 (Go.Operand.const (Go.Value.int Go.IntKind.i64 8)) (Go.Operand.tmp 19) (Go.Value.int Go.IntKind.i64 8) (env 6)) noHp fun v20_7 =>
  rd Try.prog (bop Go.BinOp.shr 23 (Go.Operand.tmp 18) (Go.Operand.tmp 20) (env 0) v20_7) noHp fun v21_8 =>
  rd Try.prog (convert 23 5 v21_8) noHp fun v22_9 =>
  rd Try.prog (Instr.indexAt 34 (env 5) v17_4) noHp fun v23_10 =>
  arun Try.prog (Instr.storeAt 5 v23_10 v22_9) h fun _ h1 =>
  K (((((((((((env.set 13 (env 5)).set 14 (env 1)).set 15 v15_2).set 16 (env 6)).set 17 v17_4).set 18 (env 0)).set 19 (env 6)).set 20 v20_7).set 21 v21_8).set 22 v22_9).set 23 v23_10) h1
@[congr] theorem num_put_r5_congr {env : Env} {h : Hp} {K : Env → Hp → Prop} : num_put_r5 env h K = num_put_r5 env h K := rfl

/-- num.go:13 -/
def num_put_r6 (env : Env) (h : Hp) (K : Env → Hp → Prop) : Prop :=
  rd Try.prog (bop Go.BinOp.add 3 (Go.Operand.tmp 10) (Go.Operand.const (Go.Value.int Go.IntKind.i64 1)) (env 10) (Go.Value.int Go.IntKind.i64 1)) noHp fun v24_0 =>
  K ((env.set 24 v24_0).set 10 v24_0) h
@[congr] theorem num_put_r6_congr {env : Env} {h : Hp} {K : Env → Hp → Prop} : num_put_r6 env h K = num_put_r6 env h K := rfl

def num_put_L0 : Den := (sq (rg num_put_r3) (sq (cnd (Go.Operand.tmp 11) (ex .normal) (ex (.exit 0))) (sq (blk 1 (sq (rg num_put_r4) (rg num_put_r5))) (rg num_put_r6))))

/-- num.go:16 -/
def num_put_r7 (env : Env) (h : Hp) (K : Env → Hp → Prop) : Prop :=
  K ((env.set 25 (env 5)).set 4 (env 5)) h
@[congr] theorem num_put_r7_congr {env : Env} {h : Hp} {K : Env → Hp → Prop} : num_put_r7 env h K = num_put_r7 env h K := rfl

def num_put_D : Den := (sq (rg num_put_r0) (sq (rg num_put_r1) (sq (sq (rg num_put_r2) (blk 0 (lp num_put_L0))) (sq (rg num_put_r7) (ex .ret)))))

theorem num_put_eq : (den Try.prog 26 num_put_code).1 = num_put_D := by kernel_rfl

theorem num_put_ok {args : Array Value} {h : Hp} {Q : Value → Hp → Prop} (hn : args.size ≤ 26) (D : num_put_D (fin Try.prog [(Go.ResultVar.tmp 4)] Q) (env0 args) h) : Ok Try.prog 44 args h Q :=
  ok_of_den progIsOk Try.func44 (c := num_put_code) (by kernel_rfl) hn (by show (den Try.prog 26 num_put_code).1 _ _ _; rw [num_put_eq]; exact D)

/-! ### octroi/num.get: function 45 -/
noncomputable def num_get_code : Code := match Try.f45.body with | some c => c | none => .skip

/-- num.go:26 -/
def num_get_r0 (env : Env) (h : Hp) (K : Env → Hp → Prop) : Prop :=
  K ((env.set 6 (Go.Value.int Go.IntKind.u32 0)).set 7 (Go.Value.bool false)) h
@[congr] theorem num_get_r0_congr {env : Env} {h : Hp} {K : Env → Hp → Prop} : num_get_r0 env h K = num_get_r0 env h K := rfl

/-- num.go:27 -/
def num_get_r1 (env : Env) (h : Hp) (K : Env → Hp → Prop) : Prop :=
  rd Try.prog (bop Go.BinOp.lss 3 (Go.Operand.tmp 10) (Go.Operand.const (Go.Value.int Go.IntKind.i64 0)) (env 1) (Go.Value.int Go.IntKind.i64 0)) noHp fun v11_1 =>
  gd (yb v11_1 == some false) (fun h k => k (env 1) h) h fun v13_3 h1 =>
  gd (yb v11_1 == some false) (fun h k => k (env 0) h) h1 fun v14_4 h2 =>
  gd (yb v11_1 == some false) (fun h k => rd Try.prog (Builtin.len_ #[34] 3 #[v14_4]) h fun v => k v h) h2 fun v15_5 h3 =>
  gd (yb v11_1 == some false) (fun h k => k (env 2) h) h3 fun v16_6 h4 =>
  gd (yb v11_1 == some false) (fun h k => rd Try.prog (bop Go.BinOp.sub 3 (Go.Operand.tmp 15) (Go.Operand.tmp 16) v15_5 v16_6) noHp fun v => k v h) h4 fun v17_7 h5 =>
  gd (yb v11_1 == some false) (fun h k => rd Try.prog (bop Go.BinOp.gtr 3 (Go.Operand.tmp 13) (Go.Operand.tmp 17) v13_3 v17_7) noHp fun v => k v h) h5 fun v18_8 h6 =>
  rd Try.prog (pck v11_1 (Go.Value.bool true) v18_8) noHp fun v19_9 =>
  K ((((((((((env.set 10 (env 1)).set 11 v11_1).set 12 v11_1).set 13 v13_3).set 14 v14_4).set 15 v15_5).set 16 v16_6).set 17 v17_7).set 18 v18_8).set 19 v19_9) h6
@[congr] theorem num_get_r1_congr {env : Env} {h : Hp} {K : Env → Hp → Prop} : num_get_r1 env h K = num_get_r1 env h K := rfl

/-- num.go:28 -/
def num_get_r2 (env : Env) (h : Hp) (K : Env → Hp → Prop) : Prop :=
  K ((env.set 6 (Go.Value.int Go.IntKind.u32 0)).set 7 (Go.Value.bool false)) h
@[congr] theorem num_get_r2_congr {env : Env} {h : Hp} {K : Env → Hp → Prop} : num_get_r2 env h K = num_get_r2 env h K := rfl

/-- num.go:30 -/
def num_get_r3 (env : Env) (h : Hp) (K : Env → Hp → Prop) : Prop :=
  rd Try.prog (bop Go.BinOp.add 3 (Go.Operand.tmp 22) (Go.Operand.tmp 23) (env 1) (env 2)) noHp fun v24_4 =>
  rd Try.prog (Instr.sliceAt 34 (env 0) (some (env 1)) (some v24_4) none) noHp fun v25_5 =>
  rd Try.prog (Builtin.len_ #[34] 3 #[v25_5]) h fun v26_6 =>
  K ((((((((env.set 20 (env 0)).set 21 (env 1)).set 22 (env 1)).set 23 (env 2)).set 24 v24_4).set 25 v25_5).set 26 v26_6).set 27 (Go.Value.int Go.IntKind.i64 0)) h
@[congr] theorem num_get_r3_congr {env : Env} {h : Hp} {K : Env → Hp → Prop} : num_get_r3 env h K = num_get_r3 env h K := rfl

/-- num.go:30 -/
def num_get_r4 (env : Env) (h : Hp) (K : Env → Hp → Prop) : Prop :=
  rd Try.prog (bop Go.BinOp.lss 3 (Go.Operand.tmp 27) (Go.Operand.tmp 26) (env 27) (env 26)) noHp fun v28_0 =>
  K (env.set 28 v28_0) h
@[congr] theorem num_get_r4_congr {env : Env} {h : Hp} {K : Env → Hp → Prop} : num_get_r4 env h K = num_get_r4 env h K := rfl

/-- num.go:30 -/
def num_get_r5 (env : Env) (h : Hp) (K : Env → Hp → Prop) : Prop :=
  rd Try.prog (Instr.indexAt 34 (env 25) (env 27)) noHp fun v29_0 =>
  rd Try.prog (Instr.loadAt 5 v29_0) h fun v30_1 =>
  K (((env.set 29 v29_0).set 30 v30_1).set 9 v30_1) h
@[congr] theorem num_get_r5_congr {env : Env} {h : Hp} {K : Env → Hp → Prop} : num_get_r5 env h K = num_get_r5 env h K := rfl

/-- num.go:31 -/
def num_get_r6 (env : Env) (h : Hp) (K : Env → Hp → Prop) : Prop :=
  rd Try.prog (bop Go.BinOp.shl 23 (Go.Operand.tmp 31) (Go.Operand.const (Go.Value.int Go.IntKind.u64 8)) (env 6) (Go.Value.int Go.IntKind.u64 8)) noHp fun v32_1 =>
  rd Try.prog (convert 5 23 (env 9)) noHp fun v34_3 =>
  rd Try.prog (bop Go.BinOp.or 23 (Go.Operand.tmp 32) (Go.Operand.tmp 34) v32_1 v34_3) noHp fun v35_4 =>
  K ((((((env.set 31 (env 6)).set 32 v32_1).set 33 (env 9)).set 34 v34_3).set 35 v35_4).set 6 v35_4) h
@[congr] theorem num_get_r6_congr {env : Env} {h : Hp} {K : Env → Hp → Prop} : num_get_r6 env h K = num_get_r6 env h K := rfl

/-- num.go:30 -/
def num_get_r7 (env : Env) (h : Hp) (K : Env → Hp → Prop) : Prop :=
  rd Try.prog (bop Go.BinOp.add 3 (Go.Operand.tmp 27) (Go.Operand.const (Go.Value.int Go.IntKind.i64 1)) (env 27) (Go.Value.int Go.IntKind.i64 1)) noHp fun v36_0 =>
  K ((env.set 36 v36_0).set 27 v36_0) h
@[congr] theorem num_get_r7_congr {env : Env} {h : Hp} {K : Env → Hp → Prop} : num_get_r7 env h K = num_get_r7 env h K := rfl

def num_get_L0 : Den := (sq (rg num_get_r4) (sq (cnd (Go.Operand.tmp 28) (ex .normal) (ex (.exit 0))) (sq (blk 1 (sq (rg num_get_r5) (rg num_get_r6))) (rg num_get_r7))))

/-- num.go:33 -/
def num_get_r8 (env : Env) (h : Hp) (K : Env → Hp → Prop) : Prop :=
  K (((env.set 37 (env 6)).set 6 (env 6)).set 7 (Go.Value.bool true)) h
@[congr] theorem num_get_r8_congr {env : Env} {h : Hp} {K : Env → Hp → Prop} : num_get_r8 env h K = num_get_r8 env h K := rfl

def num_get_D : Den := (sq (rg num_get_r0) (sq (sq (rg num_get_r1) (cnd (Go.Operand.tmp 19) (sq (rg num_get_r2) (ex .ret)) (ex .normal))) (sq (sq (rg num_get_r3) (blk 0 (lp num_get_L0))) (sq (rg num_get_r8) (ex .ret)))))

theorem num_get_eq : (den Try.prog 38 num_get_code).1 = num_get_D := by kernel_rfl

theorem num_get_ok {args : Array Value} {h : Hp} {Q : Value → Hp → Prop} (hn : args.size ≤ 38) (D : num_get_D (fin Try.prog [(Go.ResultVar.tmp 6), (Go.ResultVar.tmp 7)] Q) (env0 args) h) : Ok Try.prog 45 args h Q :=
  ok_of_den progIsOk Try.func45 (c := num_get_code) (by kernel_rfl) hn (by show (den Try.prog 38 num_get_code).1 _ _ _; rw [num_get_eq]; exact D)

/-! ### slices.AppendSeq[[]octroi/journal.name,octroi/journal.name]: function 46 -/
noncomputable def slices_AppendSeq_journal_name_journal_name_code : Code := match Try.f46.body with | some c => c | none => .skip

/-- iter.go:50 -/
def slices_AppendSeq_journal_name_journal_name_r0 (env : Env) (h : Hp) (K : Env → Hp → Prop) : Prop :=
  arun Try.prog (Instr.box 58 (env 0)) h fun v2_0 h1 =>
  K ((env.set 2 v2_0).set 4 (Go.Value.slice none 0 0)) h1
@[congr] theorem slices_AppendSeq_journal_name_journal_name_r0_congr {env : Env} {h : Hp} {K : Env → Hp → Prop} : slices_AppendSeq_journal_name_journal_name_r0 env h K = slices_AppendSeq_journal_name_journal_name_r0 env h K := rfl

/-- iter.go:51 -/
def slices_AppendSeq_journal_name_journal_name_r1 (env : Env) (h : Hp) (K : Env → Hp → Prop) : Prop :=
  K (env.set 6 (env 1)) h
@[congr] theorem slices_AppendSeq_journal_name_journal_name_r1_congr {env : Env} {h : Hp} {K : Env → Hp → Prop} : slices_AppendSeq_journal_name_journal_name_r1 env h K = slices_AppendSeq_journal_name_journal_name_r1 env h K := rfl

/-- iter.go:51 -/
def slices_AppendSeq_journal_name_journal_name_r2 (env : Env) (h : Hp) (K : Env → Hp → Prop) : Prop :=
  arun Try.prog (Instr.alloc 55 true (Go.Value.tuple #[])) h fun v5_0 h1 =>
  arun Try.prog (Instr.storeAt 55 v5_0 (env 7)) h1 fun _ h2 =>
  K (env.set 5 v5_0) h2
@[congr] theorem slices_AppendSeq_journal_name_journal_name_r2_congr {env : Env} {h : Hp} {K : Env → Hp → Prop} : slices_AppendSeq_journal_name_journal_name_r2 env h K = slices_AppendSeq_journal_name_journal_name_r2 env h K := rfl

/-- iter.go:52 -/
def slices_AppendSeq_journal_name_journal_name_r3 (env : Env) (h : Hp) (K : Env → Hp → Prop) : Prop :=
  rd Try.prog (Instr.loadAt 58 (env 2)) h fun v8_0 =>
  rd Try.prog (Instr.loadAt 55 (env 5)) h fun v9_1 =>
  arun Try.prog (Instr.buildSlice 58 1 #[(0, v9_1)]) h fun v10_2 h1 =>
  arun Try.prog (Builtin.append_ #[58, 58] 58 #[v8_0, v10_2]) h1 fun v11_3 h2 =>
  arun Try.prog (Instr.storeAt 58 (env 2) v11_3) h2 fun _ h3 =>
  K ((((env.set 8 v8_0).set 9 v9_1).set 10 v10_2).set 11 v11_3) h3
@[congr] theorem slices_AppendSeq_journal_name_journal_name_r3_congr {env : Env} {h : Hp} {K : Env → Hp → Prop} : slices_AppendSeq_journal_name_journal_name_r3 env h K = slices_AppendSeq_journal_name_journal_name_r3 env h K := rfl

def slices_AppendSeq_journal_name_journal_name_F0_A : Den := (rg slices_AppendSeq_journal_name_journal_name_r2)
def slices_AppendSeq_journal_name_journal_name_F0_B : Den := (blk 1 (rg slices_AppendSeq_journal_name_journal_name_r3))

noncomputable def slices_AppendSeq_journal_name_journal_name_F0_a : Code := subCode [1, 0, 1, 0, 0] slices_AppendSeq_journal_name_journal_name_code
noncomputable def slices_AppendSeq_journal_name_journal_name_F0_b : Code := subCode [1, 0, 1, 0, 1] slices_AppendSeq_journal_name_journal_name_code

theorem slices_AppendSeq_journal_name_journal_name_F0_Aeq : (den Try.prog 13 slices_AppendSeq_journal_name_journal_name_F0_a).1 = slices_AppendSeq_journal_name_journal_name_F0_A := by kernel_rfl
theorem slices_AppendSeq_journal_name_journal_name_F0_Beq : (den Try.prog 13 slices_AppendSeq_journal_name_journal_name_F0_b).1 = slices_AppendSeq_journal_name_journal_name_F0_B := by kernel_rfl

theorem slices_AppendSeq_journal_name_journal_name_F0_yok {env : Env} {fn D l : Nat} {g : Hp} {x0 : Value} {k : Value → Hp → Prop} (hl : g l = some (recOf 13 env #[7] slices_AppendSeq_journal_name_journal_name_F0_a slices_AppendSeq_journal_name_journal_name_F0_b .ready none fn D)) (hu : ∀ t, 13 ≤ t → env t = undef)
    (H : rnd l (recOf 13 env #[7] slices_AppendSeq_journal_name_journal_name_F0_a slices_AppendSeq_journal_name_journal_name_F0_b .ready none fn D) (recOf 13 env #[7] slices_AppendSeq_journal_name_journal_name_F0_a slices_AppendSeq_journal_name_journal_name_F0_b .busy none fn D) slices_AppendSeq_journal_name_journal_name_F0_A slices_AppendSeq_journal_name_journal_name_F0_B (rndK l 13 env #[7] slices_AppendSeq_journal_name_journal_name_F0_a slices_AppendSeq_journal_name_journal_name_F0_b fn D k) (envPs 13 env [(7, x0)]) g) : YOk Try.prog l #[x0] g k := yok_rnd (args := #[x0]) progIsOk (by kernel_rfl) (by kernel_rfl) slices_AppendSeq_journal_name_journal_name_F0_Aeq slices_AppendSeq_journal_name_journal_name_F0_Beq hl hu rfl (by rw [show (Array.zip (#[7] : Array Tmp) #[x0]).toList = [(7, x0)] by simp]; exact H)

/-- iter.go:54 -/
def slices_AppendSeq_journal_name_journal_name_r4 (env : Env) (h : Hp) (K : Env → Hp → Prop) : Prop :=
  rd Try.prog (Instr.loadAt 58 (env 2)) h fun v12_0 =>
  K ((env.set 12 v12_0).set 4 v12_0) h
@[congr] theorem slices_AppendSeq_journal_name_journal_name_r4_congr {env : Env} {h : Hp} {K : Env → Hp → Prop} : slices_AppendSeq_journal_name_journal_name_r4 env h K = slices_AppendSeq_journal_name_journal_name_r4 env h K := rfl

def slices_AppendSeq_journal_name_journal_name_D : Den := (sq (rg slices_AppendSeq_journal_name_journal_name_r0) (sq (sq (rg slices_AppendSeq_journal_name_journal_name_r1) (blk 0 (rfn Try.prog 13 (Go.Operand.tmp 6) #[7] slices_AppendSeq_journal_name_journal_name_F0_a slices_AppendSeq_journal_name_journal_name_F0_b))) (sq (rg slices_AppendSeq_journal_name_journal_name_r4) (ex .ret))))

theorem slices_AppendSeq_journal_name_journal_name_eq : (den Try.prog 13 slices_AppendSeq_journal_name_journal_name_code).1 = slices_AppendSeq_journal_name_journal_name_D := by kernel_rfl

theorem slices_AppendSeq_journal_name_journal_name_ok {args : Array Value} {h : Hp} {Q : Value → Hp → Prop} (hn : args.size ≤ 13) (D : slices_AppendSeq_journal_name_journal_name_D (fin Try.prog [(Go.ResultVar.tmp 4)] Q) (env0 args) h) : Ok Try.prog 46 args h Q :=
  ok_of_den progIsOk Try.func46 (c := slices_AppendSeq_journal_name_journal_name_code) (by kernel_rfl) hn (by show (den Try.prog 13 slices_AppendSeq_journal_name_journal_name_code).1 _ _ _; rw [slices_AppendSeq_journal_name_journal_name_eq]; exact D)

end Go.Proofs.Ytjcecdjbllpmcaa

/- Printed by wip/kit/gen.py out of the translation: formulas of Go functions, and that they are these functions'. -/
namespace Go.Proofs.Ytjcecdjbllpmcaa
open Go

set_option maxRecDepth 100000
set_option linter.unusedVariables false

/-! ### slices.pdqsortCmpFunc[octroi/journal.name]: function 47 -/
noncomputable def slices_pdqsortCmpFunc_journal_name_code : Code := match Try.f47.body with | some c => c | none => .skip

/-- zsortanyfunc.go:65 -/
def slices_pdqsortCmpFunc_journal_name_r0 (env : Env) (h : Hp) (K : Env → Hp → Prop) : Prop :=
  K (env.set 10 (Go.Value.bool true)) h
@[congr] theorem slices_pdqsortCmpFunc_journal_name_r0_congr {env : Env} {h : Hp} {K : Env → Hp → Prop} : slices_pdqsortCmpFunc_journal_name_r0 env h K = slices_pdqsortCmpFunc_journal_name_r0 env h K := rfl

/-- zsortanyfunc.go:66 -/
def slices_pdqsortCmpFunc_journal_name_r1 (env : Env) (h : Hp) (K : Env → Hp → Prop) : Prop :=
  K (env.set 11 (Go.Value.bool true)) h
@[congr] theorem slices_pdqsortCmpFunc_journal_name_r1_congr {env : Env} {h : Hp} {K : Env → Hp → Prop} : slices_pdqsortCmpFunc_journal_name_r1 env h K = slices_pdqsortCmpFunc_journal_name_r1 env h K := rfl

/-- zsortanyfunc.go:70 -/
def slices_pdqsortCmpFunc_journal_name_r2 (env : Env) (h : Hp) (K : Env → Hp → Prop) : Prop :=
  rd Try.prog (bop Go.BinOp.sub 3 (Go.Operand.tmp 21) (Go.Operand.tmp 22) (env 2) (env 1)) noHp fun v23_2 =>
  K ((((env.set 21 (env 2)).set 22 (env 1)).set 23 v23_2).set 12 v23_2) h
@[congr] theorem slices_pdqsortCmpFunc_journal_name_r2_congr {env : Env} {h : Hp} {K : Env → Hp → Prop} : slices_pdqsortCmpFunc_journal_name_r2 env h K = slices_pdqsortCmpFunc_journal_name_r2 env h K := rfl

/-- zsortanyfunc.go:72 -/
def slices_pdqsortCmpFunc_journal_name_r3 (env : Env) (h : Hp) (K : Env → Hp → Prop) : Prop :=
  rd Try.prog (bop Go.BinOp.leq 3 (Go.Operand.tmp 24) (Go.Operand.const (Go.Value.int Go.IntKind.i64 12)) (env 12) (Go.Value.int Go.IntKind.i64 12)) noHp fun v25_1 =>
  K ((env.set 24 (env 12)).set 25 v25_1) h
@[congr] theorem slices_pdqsortCmpFunc_journal_name_r3_congr {env : Env} {h : Hp} {K : Env → Hp → Prop} : slices_pdqsortCmpFunc_journal_name_r3 env h K = slices_pdqsortCmpFunc_journal_name_r3 env h K := rfl

/-- zsortanyfunc.go:73 -/
def slices_pdqsortCmpFunc_journal_name_r4 (env : Env) (h : Hp) (K : Env → Hp → Prop) : Prop :=
  Ok Try.prog 51 #[(env 0), (env 1), (env 2), (env 4)] h fun v30_4 h1 =>
  K (((((env.set 26 (env 0)).set 27 (env 1)).set 28 (env 2)).set 29 (env 4)).set 30 v30_4) h1
@[congr] theorem slices_pdqsortCmpFunc_journal_name_r4_congr {env : Env} {h : Hp} {K : Env → Hp → Prop} : slices_pdqsortCmpFunc_journal_name_r4 env h K = slices_pdqsortCmpFunc_journal_name_r4 env h K := rfl

/-- zsortanyfunc.go:78 -/
def slices_pdqsortCmpFunc_journal_name_r5 (env : Env) (h : Hp) (K : Env → Hp → Prop) : Prop :=
  rd Try.prog (bop Go.BinOp.eql 3 (Go.Operand.tmp 31) (Go.Operand.const (Go.Value.int Go.IntKind.i64 0)) (env 3) (Go.Value.int Go.IntKind.i64 0)) noHp fun v32_1 =>
  K ((env.set 31 (env 3)).set 32 v32_1) h
@[congr] theorem slices_pdqsortCmpFunc_journal_name_r5_congr {env : Env} {h : Hp} {K : Env → Hp → Prop} : slices_pdqsortCmpFunc_journal_name_r5 env h K = slices_pdqsortCmpFunc_journal_name_r5 env h K := rfl

/-- zsortanyfunc.go:79 -/
def slices_pdqsortCmpFunc_journal_name_r6 (env : Env) (h : Hp) (K : Env → Hp → Prop) : Prop :=
  Ok Try.prog 52 #[(env 0), (env 1), (env 2), (env 4)] h fun v37_4 h1 =>
  K (((((env.set 33 (env 0)).set 34 (env 1)).set 35 (env 2)).set 36 (env 4)).set 37 v37_4) h1
@[congr] theorem slices_pdqsortCmpFunc_journal_name_r6_congr {env : Env} {h : Hp} {K : Env → Hp → Prop} : slices_pdqsortCmpFunc_journal_name_r6 env h K = slices_pdqsortCmpFunc_journal_name_r6 env h K := rfl

/-- zsortanyfunc.go:84 -/
def slices_pdqsortCmpFunc_journal_name_r7 (env : Env) (h : Hp) (K : Env → Hp → Prop) : Prop :=
  rd Try.prog (Op.unary Go.UnOp.not (env 10)) noHp fun v39_1 =>
  K ((env.set 38 (env 10)).set 39 v39_1) h
@[congr] theorem slices_pdqsortCmpFunc_journal_name_r7_congr {env : Env} {h : Hp} {K : Env → Hp → Prop} : slices_pdqsortCmpFunc_journal_name_r7 env h K = slices_pdqsortCmpFunc_journal_name_r7 env h K := rfl

/-- zsortanyfunc.go:85 -/
def slices_pdqsortCmpFunc_journal_name_r8 (env : Env) (h : Hp) (K : Env → Hp → Prop) : Prop :=
  Ok Try.prog 53 #[(env 0), (env 1), (env 2), (env 4)] h fun v44_4 h1 =>
  K (((((env.set 40 (env 0)).set 41 (env 1)).set 42 (env 2)).set 43 (env 4)).set 44 v44_4) h1
@[congr] theorem slices_pdqsortCmpFunc_journal_name_r8_congr {env : Env} {h : Hp} {K : Env → Hp → Prop} : slices_pdqsortCmpFunc_journal_name_r8 env h K = slices_pdqsortCmpFunc_journal_name_r8 env h K := rfl

/-- zsortanyfunc.go:86 -/
def slices_pdqsortCmpFunc_journal_name_r9 (env : Env) (h : Hp) (K : Env → Hp → Prop) : Prop :=
  rd Try.prog (bop Go.BinOp.sub 3 (Go.Operand.tmp 45) (Go.Operand.const (Go.Value.int Go.IntKind.i64 1)) (env 3) (Go.Value.int Go.IntKind.i64 1)) noHp fun v46_1 =>
  K (((env.set 45 (env 3)).set 46 v46_1).set 3 v46_1) h
@[congr] theorem slices_pdqsortCmpFunc_journal_name_r9_congr {env : Env} {h : Hp} {K : Env → Hp → Prop} : slices_pdqsortCmpFunc_journal_name_r9 env h K = slices_pdqsortCmpFunc_journal_name_r9 env h K := rfl

/-- zsortanyfunc.go:89 -/
def slices_pdqsortCmpFunc_journal_name_r10 (env : Env) (h : Hp) (K : Env → Hp → Prop) : Prop :=
  Ok Try.prog 54 #[(env 0), (env 1), (env 2), (env 4)] h fun v52_4 h1 =>
  rd Try.prog (Instr.extract v52_4 0) noHp fun v53_6 =>
  rd Try.prog (Instr.extract v52_4 1) noHp fun v54_7 =>
  K ((((((((((env.set 48 (env 0)).set 49 (env 1)).set 50 (env 2)).set 51 (env 4)).set 52 v52_4).set 47 v52_4).set 53 v53_6).set 54 v54_7).set 13 v53_6).set 14 v54_7) h1
@[congr] theorem slices_pdqsortCmpFunc_journal_name_r10_congr {env : Env} {h : Hp} {K : Env → Hp → Prop} : slices_pdqsortCmpFunc_journal_name_r10 env h K = slices_pdqsortCmpFunc_journal_name_r10 env h K := rfl

/-- zsortanyfunc.go:90 -/
def slices_pdqsortCmpFunc_journal_name_r11 (env : Env) (h : Hp) (K : Env → Hp → Prop) : Prop :=
  rd Try.prog (bop Go.BinOp.eql 85 (Go.Operand.tmp 55) (Go.Operand.const (Go.Value.int Go.IntKind.i64 2)) (env 14) (Go.Value.int Go.IntKind.i64 2)) noHp fun v56_1 =>
  K ((env.set 55 (env 14)).set 56 v56_1) h
@[congr] theorem slices_pdqsortCmpFunc_journal_name_r11_congr {env : Env} {h : Hp} {K : Env → Hp → Prop} : slices_pdqsortCmpFunc_journal_name_r11 env h K = slices_pdqsortCmpFunc_journal_name_r11 env h K := rfl

/-- zsortanyfunc.go:91 -/
def slices_pdqsortCmpFunc_journal_name_r12 (env : Env) (h : Hp) (K : Env → Hp → Prop) : Prop :=
  Ok Try.prog 55 #[(env 0), (env 1), (env 2), (env 4)] h fun v61_4 h1 =>
  K (((((env.set 57 (env 0)).set 58 (env 1)).set 59 (env 2)).set 60 (env 4)).set 61 v61_4) h1
@[congr] theorem slices_pdqsortCmpFunc_journal_name_r12_congr {env : Env} {h : Hp} {K : Env → Hp → Prop} : slices_pdqsortCmpFunc_journal_name_r12 env h K = slices_pdqsortCmpFunc_journal_name_r12 env h K := rfl

/-- zsortanyfunc.go:95 -/
def slices_pdqsortCmpFunc_journal_name_r13 (env : Env) (h : Hp) (K : Env → Hp → Prop) : Prop :=
  rd Try.prog (bop Go.BinOp.sub 3 (Go.Operand.tmp 62) (Go.Operand.const (Go.Value.int Go.IntKind.i64 1)) (env 2) (Go.Value.int Go.IntKind.i64 1)) noHp fun v63_1 =>
  rd Try.prog (bop Go.BinOp.sub 3 (Go.Operand.tmp 64) (Go.Operand.tmp 65) (env 13) (env 1)) noHp fun v66_4 =>
  rd Try.prog (bop Go.BinOp.sub 3 (Go.Operand.tmp 63) (Go.Operand.tmp 66) v63_1 v66_4) noHp fun v67_5 =>
  K (((((((env.set 62 (env 2)).set 63 v63_1).set 64 (env 13)).set 65 (env 1)).set 66 v66_4).set 67 v67_5).set 13 v67_5) h
@[congr] theorem slices_pdqsortCmpFunc_journal_name_r13_congr {env : Env} {h : Hp} {K : Env → Hp → Prop} : slices_pdqsortCmpFunc_journal_name_r13 env h K = slices_pdqsortCmpFunc_journal_name_r13 env h K := rfl

/-- zsortanyfunc.go:96 -/
def slices_pdqsortCmpFunc_journal_name_r14 (env : Env) (h : Hp) (K : Env → Hp → Prop) : Prop :=
  K (env.set 14 (Go.Value.int Go.IntKind.i64 1)) h
@[congr] theorem slices_pdqsortCmpFunc_journal_name_r14_congr {env : Env} {h : Hp} {K : Env → Hp → Prop} : slices_pdqsortCmpFunc_journal_name_r14 env h K = slices_pdqsortCmpFunc_journal_name_r14 env h K := rfl

/-- zsortanyfunc.go:100 -/
def slices_pdqsortCmpFunc_journal_name_r15 (env : Env) (h : Hp) (K : Env → Hp → Prop) : Prop :=
  gd (yb (env 10) == some true) (fun h k => k (env 11) h) h fun v70_2 h1 =>
  rd Try.prog (pck (env 10) v70_2 (Go.Value.bool false)) noHp fun v71_3 =>
  gd (yb v71_3 == some true) (fun h k => k (env 14) h) h1 fun v73_5 h2 =>
  gd (yb v71_3 == some true) (fun h k => rd Try.prog (bop Go.BinOp.eql 85 (Go.Operand.tmp 73) (Go.Operand.const (Go.Value.int Go.IntKind.i64 1)) v73_5 (Go.Value.int Go.IntKind.i64 1)) noHp fun v => k v h) h2 fun v74_6 h3 =>
  rd Try.prog (pck v71_3 v74_6 (Go.Value.bool false)) noHp fun v75_7 =>
  K ((((((((env.set 68 (env 10)).set 69 (env 10)).set 70 v70_2).set 71 v71_3).set 72 v71_3).set 73 v73_5).set 74 v74_6).set 75 v75_7) h3
@[congr] theorem slices_pdqsortCmpFunc_journal_name_r15_congr {env : Env} {h : Hp} {K : Env → Hp → Prop} : slices_pdqsortCmpFunc_journal_name_r15 env h K = slices_pdqsortCmpFunc_journal_name_r15 env h K := rfl

/-- zsortanyfunc.go:101 -/
def slices_pdqsortCmpFunc_journal_name_r16 (env : Env) (h : Hp) (K : Env → Hp → Prop) : Prop :=
  Ok Try.prog 56 #[(env 0), (env 1), (env 2), (env 4)] h fun v80_4 h1 =>
  K (((((env.set 76 (env 0)).set 77 (env 1)).set 78 (env 2)).set 79 (env 4)).set 80 v80_4) h1
@[congr] theorem slices_pdqsortCmpFunc_journal_name_r16_congr {env : Env} {h : Hp} {K : Env → Hp → Prop} : slices_pdqsortCmpFunc_journal_name_r16 env h K = slices_pdqsortCmpFunc_journal_name_r16 env h K := rfl

/-- zsortanyfunc.go:108 (in any order) -/
def slices_pdqsortCmpFunc_journal_name_r17 (env : Env) (h : Hp) (K : Env → Hp → Prop) : Prop :=
  rd Try.prog (bop Go.BinOp.gtr 3 (Go.Operand.tmp 81) (Go.Operand.const (Go.Value.int Go.IntKind.i64 0)) (env 1) (Go.Value.int Go.IntKind.i64 0)) noHp fun v82_1 =>
  gd (yb v82_1 == some true) (fun h k => k (env 4) h) h fun v84_3 h1 =>
  gd (yb v82_1 == some true) (fun h k => k (env 0) h) h1 fun v85_4 h2 =>
  gd (yb v82_1 == some true) (fun h k => k (env 1) h) h2 fun v86_5 h3 =>
  gd (yb v82_1 == some true) (fun h k => rd Try.prog (bop Go.BinOp.sub 3 (Go.Operand.tmp 86) (Go.Operand.const (Go.Value.int Go.IntKind.i64 1)) v86_5 (Go.Value.int Go.IntKind.i64 1)) noHp fun v => k v h) h3 fun v87_6 h4 =>
  gd (yb v82_1 == some true) (fun h k => rd Try.prog (Instr.indexAt 58 v85_4 v87_6) noHp fun v => k v h) h4 fun v88_7 h5 =>
  gd (yb v82_1 == some true) (fun h k => rd Try.prog (Instr.loadAt 55 v88_7) h fun v => k v h) h5 fun v89_8 h6 =>
  gd (yb v82_1 == some true) (fun h k => k (env 0) h) h6 fun v90_9 h7 =>
  gd (yb v82_1 == some true) (fun h k => k (env 13) h) h7 fun v91_10 h8 =>
  gd (yb v82_1 == some true) (fun h k => rd Try.prog (Instr.indexAt 58 v90_9 v91_10) noHp fun v => k v h) h8 fun v92_11 h9 =>
  gd (yb v82_1 == some true) (fun h k => rd Try.prog (Instr.loadAt 55 v92_11) h fun v => k v h) h9 fun v93_12 h10 =>
  gd (yb v82_1 == some true) (fun h k => callV Try.prog v84_3 #[v89_8, v93_12] h k) h10 fun v94_13 h11 =>
  (True) ∧
  gd (yb v82_1 == some true) (fun h k => rd Try.prog (bop Go.BinOp.lss 3 (Go.Operand.tmp 94) (Go.Operand.const (Go.Value.int Go.IntKind.i64 0)) v94_13 (Go.Value.int Go.IntKind.i64 0)) noHp fun v => k v h) h11 fun v95_14 h12 =>
  gd (yb v82_1 == some true) (fun h k => rd Try.prog (Op.unary Go.UnOp.not v95_14) noHp fun v => k v h) h12 fun v96_15 h13 =>
  rd Try.prog (pck v82_1 v96_15 (Go.Value.bool false)) noHp fun v97_16 =>
  K (((((((((((((((((env.set 81 (env 1)).set 82 v82_1).set 83 v82_1).set 84 v84_3).set 85 v85_4).set 86 v86_5).set 87 v87_6).set 88 v88_7).set 89 v89_8).set 90 v90_9).set 91 v91_10).set 92 v92_11).set 93 v93_12).set 94 v94_13).set 95 v95_14).set 96 v96_15).set 97 v97_16) h13
@[congr] theorem slices_pdqsortCmpFunc_journal_name_r17_congr {env : Env} {h : Hp} {K : Env → Hp → Prop} : slices_pdqsortCmpFunc_journal_name_r17 env h K = slices_pdqsortCmpFunc_journal_name_r17 env h K := rfl

/-- zsortanyfunc.go:109 -/
def slices_pdqsortCmpFunc_journal_name_r18 (env : Env) (h : Hp) (K : Env → Hp → Prop) : Prop :=
  Ok Try.prog 57 #[(env 0), (env 1), (env 2), (env 13), (env 4)] h fun v103_5 h1 =>
  K (((((((env.set 98 (env 0)).set 99 (env 1)).set 100 (env 2)).set 101 (env 13)).set 102 (env 4)).set 103 v103_5).set 15 v103_5) h1
@[congr] theorem slices_pdqsortCmpFunc_journal_name_r18_congr {env : Env} {h : Hp} {K : Env → Hp → Prop} : slices_pdqsortCmpFunc_journal_name_r18 env h K = slices_pdqsortCmpFunc_journal_name_r18 env h K := rfl

/-- zsortanyfunc.go:110 -/
def slices_pdqsortCmpFunc_journal_name_r19 (env : Env) (h : Hp) (K : Env → Hp → Prop) : Prop :=
  K ((env.set 104 (env 15)).set 1 (env 15)) h
@[congr] theorem slices_pdqsortCmpFunc_journal_name_r19_congr {env : Env} {h : Hp} {K : Env → Hp → Prop} : slices_pdqsortCmpFunc_journal_name_r19 env h K = slices_pdqsortCmpFunc_journal_name_r19 env h K := rfl

/-- zsortanyfunc.go:114 -/
def slices_pdqsortCmpFunc_journal_name_r20 (env : Env) (h : Hp) (K : Env → Hp → Prop) : Prop :=
  Ok Try.prog 58 #[(env 0), (env 1), (env 2), (env 13), (env 4)] h fun v111_5 h1 =>
  rd Try.prog (Instr.extract v111_5 0) noHp fun v112_7 =>
  rd Try.prog (Instr.extract v111_5 1) noHp fun v113_8 =>
  K (((((((((((env.set 106 (env 0)).set 107 (env 1)).set 108 (env 2)).set 109 (env 13)).set 110 (env 4)).set 111 v111_5).set 105 v111_5).set 112 v112_7).set 113 v113_8).set 16 v112_7).set 17 v113_8) h1
@[congr] theorem slices_pdqsortCmpFunc_journal_name_r20_congr {env : Env} {h : Hp} {K : Env → Hp → Prop} : slices_pdqsortCmpFunc_journal_name_r20 env h K = slices_pdqsortCmpFunc_journal_name_r20 env h K := rfl

/-- zsortanyfunc.go:115 -/
def slices_pdqsortCmpFunc_journal_name_r21 (env : Env) (h : Hp) (K : Env → Hp → Prop) : Prop :=
  K ((env.set 114 (env 17)).set 11 (env 17)) h
@[congr] theorem slices_pdqsortCmpFunc_journal_name_r21_congr {env : Env} {h : Hp} {K : Env → Hp → Prop} : slices_pdqsortCmpFunc_journal_name_r21 env h K = slices_pdqsortCmpFunc_journal_name_r21 env h K := rfl

/-- zsortanyfunc.go:117 -/
def slices_pdqsortCmpFunc_journal_name_r22 (env : Env) (h : Hp) (K : Env → Hp → Prop) : Prop :=
  rd Try.prog (bop Go.BinOp.sub 3 (Go.Operand.tmp 115) (Go.Operand.tmp 116) (env 16) (env 1)) noHp fun v117_2 =>
  rd Try.prog (bop Go.BinOp.sub 3 (Go.Operand.tmp 118) (Go.Operand.tmp 119) (env 2) (env 16)) noHp fun v120_5 =>
  K ((((((((env.set 115 (env 16)).set 116 (env 1)).set 117 v117_2).set 118 (env 2)).set 119 (env 16)).set 120 v120_5).set 18 v117_2).set 19 v120_5) h
@[congr] theorem slices_pdqsortCmpFunc_journal_name_r22_congr {env : Env} {h : Hp} {K : Env → Hp → Prop} : slices_pdqsortCmpFunc_journal_name_r22 env h K = slices_pdqsortCmpFunc_journal_name_r22 env h K := rfl

/-- zsortanyfunc.go:118 -/
def slices_pdqsortCmpFunc_journal_name_r23 (env : Env) (h : Hp) (K : Env → Hp → Prop) : Prop :=
  rd Try.prog (bop Go.BinOp.quo 3 (Go.Operand.tmp 121) (Go.Operand.const (Go.Value.int Go.IntKind.i64 8)) (env 12) (Go.Value.int Go.IntKind.i64 8)) noHp fun v122_1 =>
  K (((env.set 121 (env 12)).set 122 v122_1).set 20 v122_1) h
@[congr] theorem slices_pdqsortCmpFunc_journal_name_r23_congr {env : Env} {h : Hp} {K : Env → Hp → Prop} : slices_pdqsortCmpFunc_journal_name_r23 env h K = slices_pdqsortCmpFunc_journal_name_r23 env h K := rfl

/-- zsortanyfunc.go:119 -/
def slices_pdqsortCmpFunc_journal_name_r24 (env : Env) (h : Hp) (K : Env → Hp → Prop) : Prop :=
  rd Try.prog (bop Go.BinOp.lss 3 (Go.Operand.tmp 123) (Go.Operand.tmp 124) (env 18) (env 19)) noHp fun v125_2 =>
  K (((env.set 123 (env 18)).set 124 (env 19)).set 125 v125_2) h
@[congr] theorem slices_pdqsortCmpFunc_journal_name_r24_congr {env : Env} {h : Hp} {K : Env → Hp → Prop} : slices_pdqsortCmpFunc_journal_name_r24 env h K = slices_pdqsortCmpFunc_journal_name_r24 env h K := rfl

/-- zsortanyfunc.go:120 -/
def slices_pdqsortCmpFunc_journal_name_r25 (env : Env) (h : Hp) (K : Env → Hp → Prop) : Prop :=
  rd Try.prog (bop Go.BinOp.geq 3 (Go.Operand.tmp 126) (Go.Operand.tmp 127) (env 18) (env 20)) noHp fun v128_2 =>
  K ((((env.set 126 (env 18)).set 127 (env 20)).set 128 v128_2).set 10 v128_2) h
@[congr] theorem slices_pdqsortCmpFunc_journal_name_r25_congr {env : Env} {h : Hp} {K : Env → Hp → Prop} : slices_pdqsortCmpFunc_journal_name_r25 env h K = slices_pdqsortCmpFunc_journal_name_r25 env h K := rfl

/-- zsortanyfunc.go:121 -/
def slices_pdqsortCmpFunc_journal_name_r26 (env : Env) (h : Hp) (K : Env → Hp → Prop) : Prop :=
  Ok Try.prog 47 #[(env 0), (env 1), (env 16), (env 3), (env 4)] h fun v134_5 h1 =>
  K ((((((env.set 129 (env 0)).set 130 (env 1)).set 131 (env 16)).set 132 (env 3)).set 133 (env 4)).set 134 v134_5) h1
@[congr] theorem slices_pdqsortCmpFunc_journal_name_r26_congr {env : Env} {h : Hp} {K : Env → Hp → Prop} : slices_pdqsortCmpFunc_journal_name_r26 env h K = slices_pdqsortCmpFunc_journal_name_r26 env h K := rfl

/-- zsortanyfunc.go:122 -/
def slices_pdqsortCmpFunc_journal_name_r27 (env : Env) (h : Hp) (K : Env → Hp → Prop) : Prop :=
  rd Try.prog (bop Go.BinOp.add 3 (Go.Operand.tmp 135) (Go.Operand.const (Go.Value.int Go.IntKind.i64 1)) (env 16) (Go.Value.int Go.IntKind.i64 1)) noHp fun v136_1 =>
  K (((env.set 135 (env 16)).set 136 v136_1).set 1 v136_1) h
@[congr] theorem slices_pdqsortCmpFunc_journal_name_r27_congr {env : Env} {h : Hp} {K : Env → Hp → Prop} : slices_pdqsortCmpFunc_journal_name_r27 env h K = slices_pdqsortCmpFunc_journal_name_r27 env h K := rfl

/-- zsortanyfunc.go:124 -/
def slices_pdqsortCmpFunc_journal_name_r28 (env : Env) (h : Hp) (K : Env → Hp → Prop) : Prop :=
  rd Try.prog (bop Go.BinOp.geq 3 (Go.Operand.tmp 137) (Go.Operand.tmp 138) (env 19) (env 20)) noHp fun v139_2 =>
  K ((((env.set 137 (env 19)).set 138 (env 20)).set 139 v139_2).set 10 v139_2) h
@[congr] theorem slices_pdqsortCmpFunc_journal_name_r28_congr {env : Env} {h : Hp} {K : Env → Hp → Prop} : slices_pdqsortCmpFunc_journal_name_r28 env h K = slices_pdqsortCmpFunc_journal_name_r28 env h K := rfl

/-- zsortanyfunc.go:125 -/
def slices_pdqsortCmpFunc_journal_name_r29 (env : Env) (h : Hp) (K : Env → Hp → Prop) : Prop :=
  rd Try.prog (bop Go.BinOp.add 3 (Go.Operand.tmp 141) (Go.Operand.const (Go.Value.int Go.IntKind.i64 1)) (env 16) (Go.Value.int Go.IntKind.i64 1)) noHp fun v142_2 =>
  Ok Try.prog 47 #[(env 0), v142_2, (env 2), (env 3), (env 4)] h fun v146_6 h1 =>
  K (((((((env.set 140 (env 0)).set 141 (env 16)).set 142 v142_2).set 143 (env 2)).set 144 (env 3)).set 145 (env 4)).set 146 v146_6) h1
@[congr] theorem slices_pdqsortCmpFunc_journal_name_r29_congr {env : Env} {h : Hp} {K : Env → Hp → Prop} : slices_pdqsortCmpFunc_journal_name_r29 env h K = slices_pdqsortCmpFunc_journal_name_r29 env h K := rfl

/-- zsortanyfunc.go:126 -/
def slices_pdqsortCmpFunc_journal_name_r30 (env : Env) (h : Hp) (K : Env → Hp → Prop) : Prop :=
  K ((env.set 147 (env 16)).set 2 (env 16)) h
@[congr] theorem slices_pdqsortCmpFunc_journal_name_r30_congr {env : Env} {h : Hp} {K : Env → Hp → Prop} : slices_pdqsortCmpFunc_journal_name_r30 env h K = slices_pdqsortCmpFunc_journal_name_r30 env h K := rfl

def slices_pdqsortCmpFunc_journal_name_L0 : Den := (blk 1 (sq (rg slices_pdqsortCmpFunc_journal_name_r2) (sq (sq (rg slices_pdqsortCmpFunc_journal_name_r3) (cnd (Go.Operand.tmp 25) (sq (rg slices_pdqsortCmpFunc_journal_name_r4) (ex .ret)) (ex .normal))) (sq (sq (rg slices_pdqsortCmpFunc_journal_name_r5) (cnd (Go.Operand.tmp 32) (sq (rg slices_pdqsortCmpFunc_journal_name_r6) (ex .ret)) (ex .normal))) (sq (sq (rg slices_pdqsortCmpFunc_journal_name_r7) (cnd (Go.Operand.tmp 39) (sq (rg slices_pdqsortCmpFunc_journal_name_r8) (rg slices_pdqsortCmpFunc_journal_name_r9)) (ex .normal))) (sq (rg slices_pdqsortCmpFunc_journal_name_r10) (sq (sq (rg slices_pdqsortCmpFunc_journal_name_r11) (cnd (Go.Operand.tmp 56) (sq (rg slices_pdqsortCmpFunc_journal_name_r12) (sq (rg slices_pdqsortCmpFunc_journal_name_r13) (rg slices_pdqsortCmpFunc_journal_name_r14))) (ex .normal))) (sq (sq (rg slices_pdqsortCmpFunc_journal_name_r15) (cnd (Go.Operand.tmp 75) (sq (rg slices_pdqsortCmpFunc_journal_name_r16) (cnd (Go.Operand.tmp 80) (ex .ret) (ex .normal))) (ex .normal))) (sq (sq (rg slices_pdqsortCmpFunc_journal_name_r17) (cnd (Go.Operand.tmp 97) (sq (rg slices_pdqsortCmpFunc_journal_name_r18) (sq (rg slices_pdqsortCmpFunc_journal_name_r19) (ex (.exit 1)))) (ex .normal))) (sq (rg slices_pdqsortCmpFunc_journal_name_r20) (sq (rg slices_pdqsortCmpFunc_journal_name_r21) (sq (rg slices_pdqsortCmpFunc_journal_name_r22) (sq (rg slices_pdqsortCmpFunc_journal_name_r23) (sq (rg slices_pdqsortCmpFunc_journal_name_r24) (cnd (Go.Operand.tmp 125) (sq (rg slices_pdqsortCmpFunc_journal_name_r25) (sq (rg slices_pdqsortCmpFunc_journal_name_r26) (rg slices_pdqsortCmpFunc_journal_name_r27))) (sq (rg slices_pdqsortCmpFunc_journal_name_r28) (sq (rg slices_pdqsortCmpFunc_journal_name_r29) (rg slices_pdqsortCmpFunc_journal_name_r30))))))))))))))))))

def slices_pdqsortCmpFunc_journal_name_D : Den := (sq (rg slices_pdqsortCmpFunc_journal_name_r0) (sq (rg slices_pdqsortCmpFunc_journal_name_r1) (blk 0 (lp slices_pdqsortCmpFunc_journal_name_L0))))

theorem slices_pdqsortCmpFunc_journal_name_eq : (den Try.prog 148 slices_pdqsortCmpFunc_journal_name_code).1 = slices_pdqsortCmpFunc_journal_name_D := by kernel_rfl

theorem slices_pdqsortCmpFunc_journal_name_ok {args : Array Value} {h : Hp} {Q : Value → Hp → Prop} (hn : args.size ≤ 148) (D : slices_pdqsortCmpFunc_journal_name_D (fin Try.prog [] Q) (env0 args) h) : Ok Try.prog 47 args h Q :=
  ok_of_den progIsOk Try.func47 (c := slices_pdqsortCmpFunc_journal_name_code) (by kernel_rfl) hn (by show (den Try.prog 148 slices_pdqsortCmpFunc_journal_name_code).1 _ _ _; rw [slices_pdqsortCmpFunc_journal_name_eq]; exact D)

/-! ### math/bits.Len: function 48 -/
noncomputable def math_bits_Len_code : Code := match Try.f48.body with | some c => c | none => .skip

/-- bits.go:302 -/
def math_bits_Len_r0 (env : Env) (h : Hp) (K : Env → Hp → Prop) : Prop :=
  K (env.set 2 (Go.Value.int Go.IntKind.i64 0)) h
@[congr] theorem math_bits_Len_r0_congr {env : Env} {h : Hp} {K : Env → Hp → Prop} : math_bits_Len_r0 env h K = math_bits_Len_r0 env h K := rfl

/-- bits.go:304 -/
def math_bits_Len_r1 (env : Env) (h : Hp) (K : Env → Hp → Prop) : Prop :=
  rd Try.prog (convert 80 23 (env 0)) noHp fun v4_1 =>
  Ok Try.prog 59 #[v4_1] h fun v5_2 h1 =>
  K ((((env.set 3 (env 0)).set 4 v4_1).set 5 v5_2).set 2 v5_2) h1
@[congr] theorem math_bits_Len_r1_congr {env : Env} {h : Hp} {K : Env → Hp → Prop} : math_bits_Len_r1 env h K = math_bits_Len_r1 env h K := rfl

/-- bits.go:306 -/
def math_bits_Len_r2 (env : Env) (h : Hp) (K : Env → Hp → Prop) : Prop :=
  Ok Try.prog 60 #[(env 0)] h fun v7_1 h1 =>
  K (((env.set 6 (env 0)).set 7 v7_1).set 2 v7_1) h1
@[congr] theorem math_bits_Len_r2_congr {env : Env} {h : Hp} {K : Env → Hp → Prop} : math_bits_Len_r2 env h K = math_bits_Len_r2 env h K := rfl

def math_bits_Len_D : Den := (sq (rg math_bits_Len_r0) (sq (cnd (Go.Operand.const (Go.Value.bool false)) (sq (rg math_bits_Len_r1) (ex .ret)) (ex .normal)) (sq (rg math_bits_Len_r2) (ex .ret))))

theorem math_bits_Len_eq : (den Try.prog 8 math_bits_Len_code).1 = math_bits_Len_D := by kernel_rfl

theorem math_bits_Len_ok {args : Array Value} {h : Hp} {Q : Value → Hp → Prop} (hn : args.size ≤ 8) (D : math_bits_Len_D (fin Try.prog [(Go.ResultVar.tmp 2)] Q) (env0 args) h) : Ok Try.prog 48 args h Q :=
  ok_of_den progIsOk Try.func48 (c := math_bits_Len_code) (by kernel_rfl) hn (by show (den Try.prog 8 math_bits_Len_code).1 _ _ _; rw [math_bits_Len_eq]; exact D)

/-! ### cmp.isNaN[int]: function 49 -/
noncomputable def cmp_isNaN_int_code : Code := match Try.f49.body with | some c => c | none => .skip

/-- cmp.go:63 -/
def cmp_isNaN_int_r0 (env : Env) (h : Hp) (K : Env → Hp → Prop) : Prop :=
  K (env.set 2 (Go.Value.bool false)) h
@[congr] theorem cmp_isNaN_int_r0_congr {env : Env} {h : Hp} {K : Env → Hp → Prop} : cmp_isNaN_int_r0 env h K = cmp_isNaN_int_r0 env h K := rfl

/-- cmp.go:64 -/
def cmp_isNaN_int_r1 (env : Env) (h : Hp) (K : Env → Hp → Prop) : Prop :=
  rd Try.prog (bop Go.BinOp.neq 3 (Go.Operand.tmp 3) (Go.Operand.tmp 4) (env 0) (env 0)) noHp fun v5_2 =>
  K ((((env.set 3 (env 0)).set 4 (env 0)).set 5 v5_2).set 2 v5_2) h
@[congr] theorem cmp_isNaN_int_r1_congr {env : Env} {h : Hp} {K : Env → Hp → Prop} : cmp_isNaN_int_r1 env h K = cmp_isNaN_int_r1 env h K := rfl

def cmp_isNaN_int_D : Den := (sq (rg cmp_isNaN_int_r0) (sq (rg cmp_isNaN_int_r1) (ex .ret)))

theorem cmp_isNaN_int_eq : (den Try.prog 6 cmp_isNaN_int_code).1 = cmp_isNaN_int_D := by kernel_rfl

theorem cmp_isNaN_int_ok {args : Array Value} {h : Hp} {Q : Value → Hp → Prop} (hn : args.size ≤ 6) (D : cmp_isNaN_int_D (fin Try.prog [(Go.ResultVar.tmp 2)] Q) (env0 args) h) : Ok Try.prog 49 args h Q :=
  ok_of_den progIsOk Try.func49 (c := cmp_isNaN_int_code) (by kernel_rfl) hn (by show (den Try.prog 6 cmp_isNaN_int_code).1 _ _ _; rw [cmp_isNaN_int_eq]; exact D)

/-! ### cmp.isNaN[uint32]: function 50 -/
noncomputable def cmp_isNaN_uint32_code : Code := match Try.f50.body with | some c => c | none => .skip

/-- cmp.go:63 -/
def cmp_isNaN_uint32_r0 (env : Env) (h : Hp) (K : Env → Hp → Prop) : Prop :=
  K (env.set 2 (Go.Value.bool false)) h
@[congr] theorem cmp_isNaN_uint32_r0_congr {env : Env} {h : Hp} {K : Env → Hp → Prop} : cmp_isNaN_uint32_r0 env h K = cmp_isNaN_uint32_r0 env h K := rfl

/-- cmp.go:64 -/
def cmp_isNaN_uint32_r1 (env : Env) (h : Hp) (K : Env → Hp → Prop) : Prop :=
  rd Try.prog (bop Go.BinOp.neq 23 (Go.Operand.tmp 3) (Go.Operand.tmp 4) (env 0) (env 0)) noHp fun v5_2 =>
  K ((((env.set 3 (env 0)).set 4 (env 0)).set 5 v5_2).set 2 v5_2) h
@[congr] theorem cmp_isNaN_uint32_r1_congr {env : Env} {h : Hp} {K : Env → Hp → Prop} : cmp_isNaN_uint32_r1 env h K = cmp_isNaN_uint32_r1 env h K := rfl

def cmp_isNaN_uint32_D : Den := (sq (rg cmp_isNaN_uint32_r0) (sq (rg cmp_isNaN_uint32_r1) (ex .ret)))

theorem cmp_isNaN_uint32_eq : (den Try.prog 6 cmp_isNaN_uint32_code).1 = cmp_isNaN_uint32_D := by kernel_rfl

theorem cmp_isNaN_uint32_ok {args : Array Value} {h : Hp} {Q : Value → Hp → Prop} (hn : args.size ≤ 6) (D : cmp_isNaN_uint32_D (fin Try.prog [(Go.ResultVar.tmp 2)] Q) (env0 args) h) : Ok Try.prog 50 args h Q :=
  ok_of_den progIsOk Try.func50 (c := cmp_isNaN_uint32_code) (by kernel_rfl) hn (by show (den Try.prog 6 cmp_isNaN_uint32_code).1 _ _ _; rw [cmp_isNaN_uint32_eq]; exact D)

/-! ### slices.insertionSortCmpFunc[octroi/journal.name]: function 51 -/
noncomputable def slices_insertionSortCmpFunc_journal_name_code : Code := match Try.f51.body with | some c => c | none => .skip

/-- zsortanyfunc.go:11 -/
def slices_insertionSortCmpFunc_journal_name_r0 (env : Env) (h : Hp) (K : Env → Hp → Prop) : Prop :=
  rd Try.prog (bop Go.BinOp.add 3 (Go.Operand.tmp 10) (Go.Operand.const (Go.Value.int Go.IntKind.i64 1)) (env 1) (Go.Value.int Go.IntKind.i64 1)) noHp fun v11_1 =>
  K (((env.set 10 (env 1)).set 11 v11_1).set 8 v11_1) h
@[congr] theorem slices_insertionSortCmpFunc_journal_name_r0_congr {env : Env} {h : Hp} {K : Env → Hp → Prop} : slices_insertionSortCmpFunc_journal_name_r0 env h K = slices_insertionSortCmpFunc_journal_name_r0 env h K := rfl

/-- zsortanyfunc.go:11 -/
def slices_insertionSortCmpFunc_journal_name_r1 (env : Env) (h : Hp) (K : Env → Hp → Prop) : Prop :=
  rd Try.prog (bop Go.BinOp.lss 3 (Go.Operand.tmp 12) (Go.Operand.tmp 13) (env 8) (env 2)) noHp fun v14_2 =>
  K (((env.set 12 (env 8)).set 13 (env 2)).set 14 v14_2) h
@[congr] theorem slices_insertionSortCmpFunc_journal_name_r1_congr {env : Env} {h : Hp} {K : Env → Hp → Prop} : slices_insertionSortCmpFunc_journal_name_r1 env h K = slices_insertionSortCmpFunc_journal_name_r1 env h K := rfl

/-- zsortanyfunc.go:12 -/
def slices_insertionSortCmpFunc_journal_name_r2 (env : Env) (h : Hp) (K : Env → Hp → Prop) : Prop :=
  K ((env.set 17 (env 8)).set 9 (env 8)) h
@[congr] theorem slices_insertionSortCmpFunc_journal_name_r2_congr {env : Env} {h : Hp} {K : Env → Hp → Prop} : slices_insertionSortCmpFunc_journal_name_r2 env h K = slices_insertionSortCmpFunc_journal_name_r2 env h K := rfl

/-- zsortanyfunc.go:12 (in any order) -/
def slices_insertionSortCmpFunc_journal_name_r3 (env : Env) (h : Hp) (K : Env → Hp → Prop) : Prop :=
  rd Try.prog (bop Go.BinOp.gtr 3 (Go.Operand.tmp 18) (Go.Operand.tmp 19) (env 9) (env 1)) noHp fun v20_2 =>
  gd (yb v20_2 == some true) (fun h k => k (env 3) h) h fun v22_4 h1 =>
  gd (yb v20_2 == some true) (fun h k => k (env 0) h) h1 fun v23_5 h2 =>
  gd (yb v20_2 == some true) (fun h k => k (env 9) h) h2 fun v24_6 h3 =>
  gd (yb v20_2 == some true) (fun h k => rd Try.prog (Instr.indexAt 58 v23_5 v24_6) noHp fun v => k v h) h3 fun v25_7 h4 =>
  gd (yb v20_2 == some true) (fun h k => rd Try.prog (Instr.loadAt 55 v25_7) h fun v => k v h) h4 fun v26_8 h5 =>
  gd (yb v20_2 == some true) (fun h k => k (env 0) h) h5 fun v27_9 h6 =>
  gd (yb v20_2 == some true) (fun h k => k (env 9) h) h6 fun v28_10 h7 =>
  gd (yb v20_2 == some true) (fun h k => rd Try.prog (bop Go.BinOp.sub 3 (Go.Operand.tmp 28) (Go.Operand.const (Go.Value.int Go.IntKind.i64 1)) v28_10 (Go.Value.int Go.IntKind.i64 1)) noHp fun v => k v h) h7 fun v29_11 h8 =>
  gd (yb v20_2 == some true) (fun h k => rd Try.prog (Instr.indexAt 58 v27_9 v29_11) noHp fun v => k v h) h8 fun v30_12 h9 =>
  gd (yb v20_2 == some true) (fun h k => rd Try.prog (Instr.loadAt 55 v30_12) h fun v => k v h) h9 fun v31_13 h10 =>
  gd (yb v20_2 == some true) (fun h k => callV Try.prog v22_4 #[v26_8, v31_13] h k) h10 fun v32_14 h11 =>
  (True) ∧
  gd (yb v20_2 == some true) (fun h k => rd Try.prog (bop Go.BinOp.lss 3 (Go.Operand.tmp 32) (Go.Operand.const (Go.Value.int Go.IntKind.i64 0)) v32_14 (Go.Value.int Go.IntKind.i64 0)) noHp fun v => k v h) h11 fun v33_15 h12 =>
  rd Try.prog (pck v20_2 v33_15 (Go.Value.bool false)) noHp fun v34_16 =>
  K (((((((((((((((((env.set 18 (env 9)).set 19 (env 1)).set 20 v20_2).set 21 v20_2).set 22 v22_4).set 23 v23_5).set 24 v24_6).set 25 v25_7).set 26 v26_8).set 27 v27_9).set 28 v28_10).set 29 v29_11).set 30 v30_12).set 31 v31_13).set 32 v32_14).set 33 v33_15).set 34 v34_16) h12
@[congr] theorem slices_insertionSortCmpFunc_journal_name_r3_congr {env : Env} {h : Hp} {K : Env → Hp → Prop} : slices_insertionSortCmpFunc_journal_name_r3 env h K = slices_insertionSortCmpFunc_journal_name_r3 env h K := rfl

/-- zsortanyfunc.go:13 (in any order) -/
def slices_insertionSortCmpFunc_journal_name_r4 (env : Env) (h : Hp) (K : Env → Hp → Prop) : Prop :=
  rd Try.prog (bop Go.BinOp.sub 3 (Go.Operand.tmp 40) (Go.Operand.const (Go.Value.int Go.IntKind.i64 1)) (env 9) (Go.Value.int Go.IntKind.i64 1)) noHp fun v41_4 =>
  rd Try.prog (bop Go.BinOp.sub 3 (Go.Operand.tmp 43) (Go.Operand.const (Go.Value.int Go.IntKind.i64 1)) (env 9) (Go.Value.int Go.IntKind.i64 1)) noHp fun v44_7 =>
  rd Try.prog (Instr.indexAt 58 (env 0) v44_7) noHp fun v45_8 =>
  rd Try.prog (Instr.loadAt 55 v45_8) h fun v46_9 =>
  rd Try.prog (Instr.indexAt 58 (env 0) (env 9)) noHp fun v49_12 =>
  rd Try.prog (Instr.loadAt 55 v49_12) h fun v50_13 =>
  rd Try.prog (Instr.indexAt 58 (env 0) (env 9)) noHp fun v51_14 =>
  arun Try.prog (Instr.storeAt 55 v51_14 v46_9) h fun _ h1 =>
  (True) ∧
  rd Try.prog (Instr.indexAt 58 (env 0) v41_4) noHp fun v52_16 =>
  arun Try.prog (Instr.storeAt 55 v52_16 v50_13) h1 fun _ h2 =>
  (True) ∧
  K ((((((((((((((((env.set 37 (env 0)).set 38 (env 9)).set 39 (env 0)).set 40 (env 9)).set 41 v41_4).set 42 (env 0)).set 43 (env 9)).set 44 v44_7).set 45 v45_8).set 46 v46_9).set 47 (env 0)).set 48 (env 9)).set 49 v49_12).set 50 v50_13).set 51 v51_14).set 52 v52_16) h2
@[congr] theorem slices_insertionSortCmpFunc_journal_name_r4_congr {env : Env} {h : Hp} {K : Env → Hp → Prop} : slices_insertionSortCmpFunc_journal_name_r4 env h K = slices_insertionSortCmpFunc_journal_name_r4 env h K := rfl

/-- zsortanyfunc.go:12 -/
def slices_insertionSortCmpFunc_journal_name_r5 (env : Env) (h : Hp) (K : Env → Hp → Prop) : Prop :=
  rd Try.prog (bop Go.BinOp.sub 3 (Go.Operand.tmp 35) (Go.Operand.const (Go.Value.int Go.IntKind.i64 1)) (env 9) (Go.Value.int Go.IntKind.i64 1)) noHp fun v36_1 =>
  K (((env.set 35 (env 9)).set 36 v36_1).set 9 v36_1) h
@[congr] theorem slices_insertionSortCmpFunc_journal_name_r5_congr {env : Env} {h : Hp} {K : Env → Hp → Prop} : slices_insertionSortCmpFunc_journal_name_r5 env h K = slices_insertionSortCmpFunc_journal_name_r5 env h K := rfl

def slices_insertionSortCmpFunc_journal_name_L0 : Den := (sq (sq (rg slices_insertionSortCmpFunc_journal_name_r3) (cnd (Go.Operand.tmp 34) (ex .normal) (ex (.exit 2)))) (sq (blk 3 (rg slices_insertionSortCmpFunc_journal_name_r4)) (rg slices_insertionSortCmpFunc_journal_name_r5)))

/-- zsortanyfunc.go:11 -/
def slices_insertionSortCmpFunc_journal_name_r6 (env : Env) (h : Hp) (K : Env → Hp → Prop) : Prop :=
  rd Try.prog (bop Go.BinOp.add 3 (Go.Operand.tmp 15) (Go.Operand.const (Go.Value.int Go.IntKind.i64 1)) (env 8) (Go.Value.int Go.IntKind.i64 1)) noHp fun v16_1 =>
  K (((env.set 15 (env 8)).set 16 v16_1).set 8 v16_1) h
@[congr] theorem slices_insertionSortCmpFunc_journal_name_r6_congr {env : Env} {h : Hp} {K : Env → Hp → Prop} : slices_insertionSortCmpFunc_journal_name_r6 env h K = slices_insertionSortCmpFunc_journal_name_r6 env h K := rfl

def slices_insertionSortCmpFunc_journal_name_L1 : Den := (sq (sq (rg slices_insertionSortCmpFunc_journal_name_r1) (cnd (Go.Operand.tmp 14) (ex .normal) (ex (.exit 0)))) (sq (blk 1 (sq (rg slices_insertionSortCmpFunc_journal_name_r2) (blk 2 (lp slices_insertionSortCmpFunc_journal_name_L0)))) (rg slices_insertionSortCmpFunc_journal_name_r6)))

def slices_insertionSortCmpFunc_journal_name_D : Den := (sq (rg slices_insertionSortCmpFunc_journal_name_r0) (blk 0 (lp slices_insertionSortCmpFunc_journal_name_L1)))

theorem slices_insertionSortCmpFunc_journal_name_eq : (den Try.prog 53 slices_insertionSortCmpFunc_journal_name_code).1 = slices_insertionSortCmpFunc_journal_name_D := by kernel_rfl

theorem slices_insertionSortCmpFunc_journal_name_ok {args : Array Value} {h : Hp} {Q : Value → Hp → Prop} (hn : args.size ≤ 53) (D : slices_insertionSortCmpFunc_journal_name_D (fin Try.prog [] Q) (env0 args) h) : Ok Try.prog 51 args h Q :=
  ok_of_den progIsOk Try.func51 (c := slices_insertionSortCmpFunc_journal_name_code) (by kernel_rfl) hn (by show (den Try.prog 53 slices_insertionSortCmpFunc_journal_name_code).1 _ _ _; rw [slices_insertionSortCmpFunc_journal_name_eq]; exact D)

end Go.Proofs.Ytjcecdjbllpmcaa

/- Printed by wip/kit/gen.py: all formulas. -/
