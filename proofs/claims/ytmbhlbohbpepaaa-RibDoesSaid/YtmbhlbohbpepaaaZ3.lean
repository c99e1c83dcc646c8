/- Printed by wip/kit/gen.py out of the translation: formulas of Go functions, and that they are these functions'. -/
import Derived.Test.YtmbhlbohbpepaaaZ2

namespace Go.Proofs.Ytmbhlbohbpepaaa
open Go

set_option maxRecDepth 100000
set_option linter.unusedVariables false

/-! ### slices.MinFunc[[]octroi/api.Route,octroi/api.Route]: function 39 -/
noncomputable def slices_MinFunc_api_Route_api_Route_code : Code := match Try.f39.body with | some c => c | none => .skip

/-- sort.go:79 -/
def slices_MinFunc_api_Route_api_Route_r0 (env : Env) (h : Hp) (K : Env → Hp → Prop) : Prop :=
  arun Try.prog (Instr.alloc 27 true (Go.Value.tuple #[])) h fun v4_0 h1 =>
  K (env.set 4 v4_0) h1
@[congr] theorem slices_MinFunc_api_Route_api_Route_r0_congr {env : Env} {h : Hp} {K : Env → Hp → Prop} : slices_MinFunc_api_Route_api_Route_r0 env h K = slices_MinFunc_api_Route_api_Route_r0 env h K := rfl

/-- sort.go:80 -/
def slices_MinFunc_api_Route_api_Route_r1 (env : Env) (h : Hp) (K : Env → Hp → Prop) : Prop :=
  rd Try.prog (Builtin.len_ #[39] 3 #[(env 0)]) h fun v8_1 =>
  rd Try.prog (bop Go.BinOp.lss 3 (Go.Operand.tmp 8) (Go.Operand.const (Go.Value.int Go.IntKind.i64 1)) v8_1 (Go.Value.int Go.IntKind.i64 1)) noHp fun v9_2 =>
  K (((env.set 7 (env 0)).set 8 v8_1).set 9 v9_2) h
@[congr] theorem slices_MinFunc_api_Route_api_Route_r1_congr {env : Env} {h : Hp} {K : Env → Hp → Prop} : slices_MinFunc_api_Route_api_Route_r1 env h K = slices_MinFunc_api_Route_api_Route_r1 env h K := rfl

/-- sort.go:81 -/
def slices_MinFunc_api_Route_api_Route_r2 (env : Env) (h : Hp) (K : Env → Hp → Prop) : Prop :=
  rd Try.prog (Instr.makeInterface 9 (Go.Value.string (ByteArray.mk #[115, 108, 105, 99, 101, 115, 46, 77, 105, 110, 70, 117, 110, 99, 58, 32, 101, 109, 112, 116, 121, 32, 108, 105, 115, 116]))) noHp fun v10_0 =>
  False
@[congr] theorem slices_MinFunc_api_Route_api_Route_r2_congr {env : Env} {h : Hp} {K : Env → Hp → Prop} : slices_MinFunc_api_Route_api_Route_r2 env h K = slices_MinFunc_api_Route_api_Route_r2 env h K := rfl

/-- sort.go:83 -/
def slices_MinFunc_api_Route_api_Route_r3 (env : Env) (h : Hp) (K : Env → Hp → Prop) : Prop :=
  rd Try.prog (Instr.indexAt 39 (env 0) (Go.Value.int Go.IntKind.i64 0)) noHp fun v12_1 =>
  rd Try.prog (Instr.loadAt 27 v12_1) h fun v13_2 =>
  arun Try.prog (Instr.alloc 27 true (Go.Value.tuple #[])) h fun v5_3 h1 =>
  arun Try.prog (Instr.storeAt 27 v5_3 v13_2) h1 fun _ h2 =>
  K ((((env.set 11 (env 0)).set 12 v12_1).set 13 v13_2).set 5 v5_3) h2
@[congr] theorem slices_MinFunc_api_Route_api_Route_r3_congr {env : Env} {h : Hp} {K : Env → Hp → Prop} : slices_MinFunc_api_Route_api_Route_r3 env h K = slices_MinFunc_api_Route_api_Route_r3 env h K := rfl

/-- sort.go:84 -/
def slices_MinFunc_api_Route_api_Route_r4 (env : Env) (h : Hp) (K : Env → Hp → Prop) : Prop :=
  K (env.set 6 (Go.Value.int Go.IntKind.i64 1)) h
@[congr] theorem slices_MinFunc_api_Route_api_Route_r4_congr {env : Env} {h : Hp} {K : Env → Hp → Prop} : slices_MinFunc_api_Route_api_Route_r4 env h K = slices_MinFunc_api_Route_api_Route_r4 env h K := rfl

/-- sort.go:84 -/
def slices_MinFunc_api_Route_api_Route_r5 (env : Env) (h : Hp) (K : Env → Hp → Prop) : Prop :=
  rd Try.prog (Builtin.len_ #[39] 3 #[(env 0)]) h fun v16_2 =>
  rd Try.prog (bop Go.BinOp.lss 3 (Go.Operand.tmp 14) (Go.Operand.tmp 16) (env 6) v16_2) noHp fun v17_3 =>
  K ((((env.set 14 (env 6)).set 15 (env 0)).set 16 v16_2).set 17 v17_3) h
@[congr] theorem slices_MinFunc_api_Route_api_Route_r5_congr {env : Env} {h : Hp} {K : Env → Hp → Prop} : slices_MinFunc_api_Route_api_Route_r5 env h K = slices_MinFunc_api_Route_api_Route_r5 env h K := rfl

/-- sort.go:85 (in any order) -/
def slices_MinFunc_api_Route_api_Route_r6 (env : Env) (h : Hp) (K : Env → Hp → Prop) : Prop :=
  rd Try.prog (Instr.indexAt 39 (env 0) (env 6)) noHp fun v23_3 =>
  rd Try.prog (Instr.loadAt 27 v23_3) h fun v24_4 =>
  rd Try.prog (Instr.loadAt 27 (env 5)) h fun v25_5 =>
  callV Try.prog (env 1) #[v24_4, v25_5] h fun v26_6 h1 =>
  (True) ∧
  rd Try.prog (bop Go.BinOp.lss 3 (Go.Operand.tmp 26) (Go.Operand.const (Go.Value.int Go.IntKind.i64 0)) v26_6 (Go.Value.int Go.IntKind.i64 0)) noHp fun v27_7 =>
  K ((((((((env.set 20 (env 1)).set 21 (env 0)).set 22 (env 6)).set 23 v23_3).set 24 v24_4).set 25 v25_5).set 26 v26_6).set 27 v27_7) h1
@[congr] theorem slices_MinFunc_api_Route_api_Route_r6_congr {env : Env} {h : Hp} {K : Env → Hp → Prop} : slices_MinFunc_api_Route_api_Route_r6 env h K = slices_MinFunc_api_Route_api_Route_r6 env h K := rfl

/-- sort.go:86 -/
def slices_MinFunc_api_Route_api_Route_r7 (env : Env) (h : Hp) (K : Env → Hp → Prop) : Prop :=
  rd Try.prog (Instr.indexAt 39 (env 0) (env 6)) noHp fun v30_2 =>
  rd Try.prog (Instr.loadAt 27 v30_2) h fun v31_3 =>
  arun Try.prog (Instr.storeAt 27 (env 5) v31_3) h fun _ h1 =>
  K ((((env.set 28 (env 0)).set 29 (env 6)).set 30 v30_2).set 31 v31_3) h1
@[congr] theorem slices_MinFunc_api_Route_api_Route_r7_congr {env : Env} {h : Hp} {K : Env → Hp → Prop} : slices_MinFunc_api_Route_api_Route_r7 env h K = slices_MinFunc_api_Route_api_Route_r7 env h K := rfl

/-- sort.go:84 -/
def slices_MinFunc_api_Route_api_Route_r8 (env : Env) (h : Hp) (K : Env → Hp → Prop) : Prop :=
  rd Try.prog (bop Go.BinOp.add 3 (Go.Operand.tmp 18) (Go.Operand.const (Go.Value.int Go.IntKind.i64 1)) (env 6) (Go.Value.int Go.IntKind.i64 1)) noHp fun v19_1 =>
  K (((env.set 18 (env 6)).set 19 v19_1).set 6 v19_1) h
@[congr] theorem slices_MinFunc_api_Route_api_Route_r8_congr {env : Env} {h : Hp} {K : Env → Hp → Prop} : slices_MinFunc_api_Route_api_Route_r8 env h K = slices_MinFunc_api_Route_api_Route_r8 env h K := rfl

def slices_MinFunc_api_Route_api_Route_L0 : Den := (sq (sq (rg slices_MinFunc_api_Route_api_Route_r5) (cnd (Go.Operand.tmp 17) (ex .normal) (ex (.exit 0)))) (sq (blk 1 (sq (rg slices_MinFunc_api_Route_api_Route_r6) (cnd (Go.Operand.tmp 27) (rg slices_MinFunc_api_Route_api_Route_r7) (ex .normal)))) (rg slices_MinFunc_api_Route_api_Route_r8)))

/-- sort.go:89 -/
def slices_MinFunc_api_Route_api_Route_r9 (env : Env) (h : Hp) (K : Env → Hp → Prop) : Prop :=
  rd Try.prog (Instr.loadAt 27 (env 5)) h fun v32_0 =>
  arun Try.prog (Instr.storeAt 27 (env 4) v32_0) h fun _ h1 =>
  K (env.set 32 v32_0) h1
@[congr] theorem slices_MinFunc_api_Route_api_Route_r9_congr {env : Env} {h : Hp} {K : Env → Hp → Prop} : slices_MinFunc_api_Route_api_Route_r9 env h K = slices_MinFunc_api_Route_api_Route_r9 env h K := rfl

def slices_MinFunc_api_Route_api_Route_D : Den := (sq (rg slices_MinFunc_api_Route_api_Route_r0) (sq (sq (rg slices_MinFunc_api_Route_api_Route_r1) (cnd (Go.Operand.tmp 9) (rg slices_MinFunc_api_Route_api_Route_r2) (ex .normal))) (sq (rg slices_MinFunc_api_Route_api_Route_r3) (sq (sq (rg slices_MinFunc_api_Route_api_Route_r4) (blk 0 (lp slices_MinFunc_api_Route_api_Route_L0))) (sq (rg slices_MinFunc_api_Route_api_Route_r9) (ex .ret))))))

theorem slices_MinFunc_api_Route_api_Route_eq : (den Try.prog 33 slices_MinFunc_api_Route_api_Route_code).1 = slices_MinFunc_api_Route_api_Route_D := by kernel_rfl

theorem slices_MinFunc_api_Route_api_Route_ok {args : Array Value} {h : Hp} {Q : Value → Hp → Prop} (hn : args.size ≤ 33) (D : slices_MinFunc_api_Route_api_Route_D (fin Try.prog [(Go.ResultVar.cell 4 27)] Q) (env0 args) h) : Ok Try.prog 39 args h Q :=
  ok_of_den progIsOk Try.func39 (c := slices_MinFunc_api_Route_api_Route_code) (by kernel_rfl) hn (by show (den Try.prog 33 slices_MinFunc_api_Route_api_Route_code).1 _ _ _; rw [slices_MinFunc_api_Route_api_Route_eq]; exact D)

/-! ### (*octroi/trie.Trie).Find: function 40 -/
noncomputable def trie_Trie_Find_code : Code := match Try.f40.body with | some c => c | none => .skip

/-- trie.go:104 -/
def trie_Trie_Find_r0 (env : Env) (h : Hp) (K : Env → Hp → Prop) : Prop :=
  arun Try.prog (Instr.alloc 24 true (Go.Value.tuple #[])) h fun v4_0 h1 =>
  K (((env.set 4 v4_0).set 5 (Go.Value.int Go.IntKind.i64 0)).set 6 (Go.Value.bool false)) h1
@[congr] theorem trie_Trie_Find_r0_congr {env : Env} {h : Hp} {K : Env → Hp → Prop} : trie_Trie_Find_r0 env h K = trie_Trie_Find_r0 env h K := rfl

/-- trie.go:105 -/
def trie_Trie_Find_r1 (env : Env) (h : Hp) (K : Env → Hp → Prop) : Prop :=
  K ((env.set 7 (Go.Value.int Go.IntKind.i64 0)).set 8 (Go.Value.int Go.IntKind.i64 0)) h
@[congr] theorem trie_Trie_Find_r1_congr {env : Env} {h : Hp} {K : Env → Hp → Prop} : trie_Trie_Find_r1 env h K = trie_Trie_Find_r1 env h K := rfl

/-- trie.go:107 -/
def trie_Trie_Find_r2 (env : Env) (h : Hp) (K : Env → Hp → Prop) : Prop :=
  nck (env 0) (
  rd Try.prog (Instr.fieldAt 82 (env 0) 2) noHp fun v12_2 =>
  rd Try.prog (Instr.loadAt 80 v12_2) h fun v13_3 =>
  rd Try.prog (Instr.indexAt 80 v13_3 (env 7)) noHp fun v15_5 =>
  rd Try.prog (Instr.loadAt 87 v15_5) h fun v16_6 =>
  arun Try.prog (Instr.alloc 87 true (Go.Value.tuple #[])) h fun v9_7 h1 =>
  arun Try.prog (Instr.storeAt 87 v9_7 v16_6) h1 fun _ h2 =>
  K ((((((((env.set 10 (env 0)).set 11 (env 0)).set 12 v12_2).set 13 v13_3).set 14 (env 7)).set 15 v15_5).set 16 v16_6).set 9 v9_7) h2)
@[congr] theorem trie_Trie_Find_r2_congr {env : Env} {h : Hp} {K : Env → Hp → Prop} : trie_Trie_Find_r2 env h K = trie_Trie_Find_r2 env h K := rfl

/-- trie.go:107 -/
def trie_Trie_Find_r3 (env : Env) (h : Hp) (K : Env → Hp → Prop) : Prop :=
  rd Try.prog (Instr.fieldAt 87 (env 9) 2) noHp fun v17_0 =>
  rd Try.prog (Instr.loadAt 4 v17_0) h fun v18_1 =>
  K ((env.set 17 v17_0).set 18 v18_1) h
@[congr] theorem trie_Trie_Find_r3_congr {env : Env} {h : Hp} {K : Env → Hp → Prop} : trie_Trie_Find_r3 env h K = trie_Trie_Find_r3 env h K := rfl

/-- trie.go:108 (in any order) -/
def trie_Trie_Find_r4 (env : Env) (h : Hp) (K : Env → Hp → Prop) : Prop :=
  rd Try.prog (Instr.fieldAt 87 (env 9) 1) noHp fun v25_3 =>
  rd Try.prog (Instr.loadAt 3 v25_3) h fun v26_4 =>
  Ok Try.prog 46 #[(env 8)] h fun v21_5 h1 =>
  (rrun Try.prog (Instr.loadAt 3 v25_3) h1 = some v26_4 ∧ True) ∧
  rd Try.prog (bop Go.BinOp.and 22 (Go.Operand.tmp 19) (Go.Operand.tmp 21) (env 1) v21_5) noHp fun v22_6 =>
  rd Try.prog (Instr.build 24 #[(0, v22_6), (1, (env 8))]) noHp fun v24_7 =>
  arun Try.prog (Instr.storeAt 24 (env 4) v24_7) h1 fun _ h2 =>
  (rrun Try.prog (Instr.loadAt 3 v25_3) h2 = some v26_4 ∧ True) ∧
  K ((((((((((env.set 19 (env 1)).set 20 (env 8)).set 23 (env 8)).set 25 v25_3).set 26 v26_4).set 21 v21_5).set 22 v22_6).set 24 v24_7).set 5 v26_4).set 6 (Go.Value.bool true)) h2
@[congr] theorem trie_Trie_Find_r4_congr {env : Env} {h : Hp} {K : Env → Hp → Prop} : trie_Trie_Find_r4 env h K = trie_Trie_Find_r4 env h K := rfl

/-- trie.go:110 -/
def trie_Trie_Find_r5 (env : Env) (h : Hp) (K : Env → Hp → Prop) : Prop :=
  rd Try.prog (bop Go.BinOp.leq 3 (Go.Operand.tmp 27) (Go.Operand.const (Go.Value.int Go.IntKind.i64 31)) (env 8) (Go.Value.int Go.IntKind.i64 31)) noHp fun v28_1 =>
  K ((env.set 27 (env 8)).set 28 v28_1) h
@[congr] theorem trie_Trie_Find_r5_congr {env : Env} {h : Hp} {K : Env → Hp → Prop} : trie_Trie_Find_r5 env h K = trie_Trie_Find_r5 env h K := rfl

/-- trie.go:111 (in any order) -/
def trie_Trie_Find_r6 (env : Env) (h : Hp) (K : Env → Hp → Prop) : Prop :=
  nck (env 0) (
  rd Try.prog (Instr.fieldAt 82 (env 0) 2) noHp fun v31_2 =>
  rd Try.prog (Instr.loadAt 80 v31_2) h fun v32_3 =>
  rd Try.prog (Instr.indexAt 80 v32_3 (env 7)) noHp fun v37_7 =>
  rd Try.prog (Instr.fieldAt 87 v37_7 0) noHp fun v38_8 =>
  Ok Try.prog 54 #[(env 1), (env 8)] h fun v36_9 h1 =>
  (rrun Try.prog (Instr.loadAt 80 v31_2) h1 = some v32_3 ∧ True) ∧
  rd Try.prog (Instr.indexAt 85 v38_8 v36_9) noHp fun v39_10 =>
  rd Try.prog (Instr.loadAt 3 v39_10) h1 fun v40_11 =>
  K (((((((((((((env.set 29 (env 0)).set 30 (env 0)).set 31 v31_2).set 32 v32_3).set 33 (env 7)).set 34 (env 1)).set 35 (env 8)).set 37 v37_7).set 38 v38_8).set 36 v36_9).set 39 v39_10).set 40 v40_11).set 7 v40_11) h1)
@[congr] theorem trie_Trie_Find_r6_congr {env : Env} {h : Hp} {K : Env → Hp → Prop} : trie_Trie_Find_r6 env h K = trie_Trie_Find_r6 env h K := rfl

/-- trie.go:111 -/
def trie_Trie_Find_r7 (env : Env) (h : Hp) (K : Env → Hp → Prop) : Prop :=
  rd Try.prog (bop Go.BinOp.neq 3 (Go.Operand.tmp 41) (Go.Operand.const (Go.Value.int Go.IntKind.i64 0)) (env 7) (Go.Value.int Go.IntKind.i64 0)) noHp fun v42_1 =>
  K ((env.set 41 (env 7)).set 42 v42_1) h
@[congr] theorem trie_Trie_Find_r7_congr {env : Env} {h : Hp} {K : Env → Hp → Prop} : trie_Trie_Find_r7 env h K = trie_Trie_Find_r7 env h K := rfl

/-- trie.go:112 -/
def trie_Trie_Find_r8 (env : Env) (h : Hp) (K : Env → Hp → Prop) : Prop :=
  rd Try.prog (bop Go.BinOp.add 3 (Go.Operand.tmp 43) (Go.Operand.const (Go.Value.int Go.IntKind.i64 1)) (env 8) (Go.Value.int Go.IntKind.i64 1)) noHp fun v44_1 =>
  K (((env.set 43 (env 8)).set 44 v44_1).set 8 v44_1) h
@[congr] theorem trie_Trie_Find_r8_congr {env : Env} {h : Hp} {K : Env → Hp → Prop} : trie_Trie_Find_r8 env h K = trie_Trie_Find_r8 env h K := rfl

/-- trie.go:116 -/
def trie_Trie_Find_r9 (env : Env) (h : Hp) (K : Env → Hp → Prop) : Prop :=
  rd Try.prog (Instr.loadAt 24 (env 4)) h fun v45_0 =>
  arun Try.prog (Instr.storeAt 24 (env 4) v45_0) h fun _ h1 =>
  K (((((env.set 45 v45_0).set 46 (env 5)).set 47 (env 6)).set 5 (env 5)).set 6 (env 6)) h1
@[congr] theorem trie_Trie_Find_r9_congr {env : Env} {h : Hp} {K : Env → Hp → Prop} : trie_Trie_Find_r9 env h K = trie_Trie_Find_r9 env h K := rfl

def trie_Trie_Find_S0 : Den := (sq (rg trie_Trie_Find_r1) (sq (ex .normal) (sq (sq (rg trie_Trie_Find_r2) (sq (rg trie_Trie_Find_r3) (cnd (Go.Operand.tmp 18) (rg trie_Trie_Find_r4) (ex .normal)))) (sq (sq (rg trie_Trie_Find_r5) (cnd (Go.Operand.tmp 28) (sq (rg trie_Trie_Find_r6) (sq (rg trie_Trie_Find_r7) (cnd (Go.Operand.tmp 42) (sq (rg trie_Trie_Find_r8) (ex (.goto 0))) (ex .normal)))) (ex .normal))) (sq (rg trie_Trie_Find_r9) (ex .ret))))))

noncomputable def trie_Trie_Find_S0_code : Code := subCode [1, 0] trie_Trie_Find_code

def trie_Trie_Find_S0_at0 : Den := (sq (ex .normal) (sq (sq (rg trie_Trie_Find_r2) (sq (rg trie_Trie_Find_r3) (cnd (Go.Operand.tmp 18) (rg trie_Trie_Find_r4) (ex .normal)))) (sq (sq (rg trie_Trie_Find_r5) (cnd (Go.Operand.tmp 28) (sq (rg trie_Trie_Find_r6) (sq (rg trie_Trie_Find_r7) (cnd (Go.Operand.tmp 42) (sq (rg trie_Trie_Find_r8) (ex (.goto 0))) (ex .normal)))) (ex .normal))) (sq (rg trie_Trie_Find_r9) (ex .ret)))))

theorem trie_Trie_Find_S0_lab0 : (den Try.prog 48 trie_Trie_Find_S0_code).2 0 = some trie_Trie_Find_S0_at0 := by kernel_rfl

def trie_Trie_Find_D : Den := (sq (rg trie_Trie_Find_r0) (scp trie_Trie_Find_S0 (den Try.prog 48 trie_Trie_Find_S0_code).2))

theorem trie_Trie_Find_eq : (den Try.prog 48 trie_Trie_Find_code).1 = trie_Trie_Find_D := by kernel_rfl

theorem trie_Trie_Find_ok {args : Array Value} {h : Hp} {Q : Value → Hp → Prop} (hn : args.size ≤ 48) (D : trie_Trie_Find_D (fin Try.prog [(Go.ResultVar.cell 4 24), (Go.ResultVar.tmp 5), (Go.ResultVar.tmp 6)] Q) (env0 args) h) : Ok Try.prog 40 args h Q :=
  ok_of_den progIsOk Try.func40 (c := trie_Trie_Find_code) (by kernel_rfl) hn (by show (den Try.prog 48 trie_Trie_Find_code).1 _ _ _; rw [trie_Trie_Find_eq]; exact D)

/-! ### (*octroi/trie.Trie).Take: function 41 -/
noncomputable def trie_Trie_Take_code : Code := match Try.f41.body with | some c => c | none => .skip

/-- trie.go:84 -/
def trie_Trie_Take_r0 (env : Env) (h : Hp) (K : Env → Hp → Prop) : Prop :=
  arun Try.prog (Instr.box 24 (env 1)) h fun v3_0 h1 =>
  K ((env.set 3 v3_0).set 4 (Go.Value.int Go.IntKind.i64 0)) h1
@[congr] theorem trie_Trie_Take_r0_congr {env : Env} {h : Hp} {K : Env → Hp → Prop} : trie_Trie_Take_r0 env h K = trie_Trie_Take_r0 env h K := rfl

/-- trie.go:85 -/
def trie_Trie_Take_r1 (env : Env) (h : Hp) (K : Env → Hp → Prop) : Prop :=
  rd Try.prog (Instr.loadAt 24 (env 3)) h fun v7_1 =>
  Ok Try.prog 51 #[(env 0), v7_1] h fun v8_2 h1 =>
  K ((((env.set 6 (env 0)).set 7 v7_1).set 8 v8_2).set 5 v8_2) h1
@[congr] theorem trie_Trie_Take_r1_congr {env : Env} {h : Hp} {K : Env → Hp → Prop} : trie_Trie_Take_r1 env h K = trie_Trie_Take_r1 env h K := rfl

/-- trie.go:86 -/
def trie_Trie_Take_r2 (env : Env) (h : Hp) (K : Env → Hp → Prop) : Prop :=
  rd Try.prog (bop Go.BinOp.eql 83 (Go.Operand.tmp 9) (Go.Operand.const (Go.Value.pointer none)) (env 5) (Go.Value.pointer none)) noHp fun v10_1 =>
  K ((env.set 9 (env 5)).set 10 v10_1) h
@[congr] theorem trie_Trie_Take_r2_congr {env : Env} {h : Hp} {K : Env → Hp → Prop} : trie_Trie_Take_r2 env h K = trie_Trie_Take_r2 env h K := rfl

/-- trie.go:87 -/
def trie_Trie_Take_r3 (env : Env) (h : Hp) (K : Env → Hp → Prop) : Prop :=
  K (env.set 4 (Go.Value.int Go.IntKind.i64 5)) h
@[congr] theorem trie_Trie_Take_r3_congr {env : Env} {h : Hp} {K : Env → Hp → Prop} : trie_Trie_Take_r3 env h K = trie_Trie_Take_r3 env h K := rfl

/-- trie.go:89 -/
def trie_Trie_Take_r4 (env : Env) (h : Hp) (K : Env → Hp → Prop) : Prop :=
  nck (env 5) (
  rd Try.prog (Instr.fieldAt 87 (env 5) 1) noHp fun v14_3 =>
  arun Try.prog (Instr.storeAt 3 v14_3 (Go.Value.int Go.IntKind.i64 0)) h fun _ h1 =>
  nck (env 5) (
  rd Try.prog (Instr.fieldAt 87 (env 5) 2) noHp fun v16_6 =>
  arun Try.prog (Instr.storeAt 4 v16_6 (Go.Value.bool false)) h1 fun _ h2 =>
  K ((((((env.set 11 (env 5)).set 12 (env 5)).set 13 (env 5)).set 14 v14_3).set 15 (env 5)).set 16 v16_6) h2))
@[congr] theorem trie_Trie_Take_r4_congr {env : Env} {h : Hp} {K : Env → Hp → Prop} : trie_Trie_Take_r4 env h K = trie_Trie_Take_r4 env h K := rfl

/-- trie.go:90 -/
def trie_Trie_Take_r5 (env : Env) (h : Hp) (K : Env → Hp → Prop) : Prop :=
  nck (env 0) (
  rd Try.prog (Instr.fieldAt 82 (env 0) 1) noHp fun v19_2 =>
  rd Try.prog (Instr.loadAt 3 v19_2) h fun v20_3 =>
  rd Try.prog (bop Go.BinOp.sub 3 (Go.Operand.tmp 20) (Go.Operand.const (Go.Value.int Go.IntKind.i64 1)) v20_3 (Go.Value.int Go.IntKind.i64 1)) noHp fun v21_4 =>
  nck (env 0) (
  rd Try.prog (Instr.fieldAt 82 (env 0) 1) noHp fun v23_6 =>
  arun Try.prog (Instr.storeAt 3 v23_6 v21_4) h fun _ h1 =>
  K (((((((env.set 17 (env 0)).set 18 (env 0)).set 19 v19_2).set 20 v20_3).set 21 v21_4).set 22 (env 0)).set 23 v23_6) h1))
@[congr] theorem trie_Trie_Take_r5_congr {env : Env} {h : Hp} {K : Env → Hp → Prop} : trie_Trie_Take_r5 env h K = trie_Trie_Take_r5 env h K := rfl

/-- trie.go:91 -/
def trie_Trie_Take_r6 (env : Env) (h : Hp) (K : Env → Hp → Prop) : Prop :=
  K (env.set 4 (Go.Value.int Go.IntKind.i64 0)) h
@[congr] theorem trie_Trie_Take_r6_congr {env : Env} {h : Hp} {K : Env → Hp → Prop} : trie_Trie_Take_r6 env h K = trie_Trie_Take_r6 env h K := rfl

def trie_Trie_Take_D : Den := (sq (rg trie_Trie_Take_r0) (sq (rg trie_Trie_Take_r1) (sq (sq (rg trie_Trie_Take_r2) (cnd (Go.Operand.tmp 10) (sq (rg trie_Trie_Take_r3) (ex .ret)) (ex .normal))) (sq (rg trie_Trie_Take_r4) (sq (rg trie_Trie_Take_r5) (sq (rg trie_Trie_Take_r6) (ex .ret)))))))

theorem trie_Trie_Take_eq : (den Try.prog 24 trie_Trie_Take_code).1 = trie_Trie_Take_D := by kernel_rfl

theorem trie_Trie_Take_ok {args : Array Value} {h : Hp} {Q : Value → Hp → Prop} (hn : args.size ≤ 24) (D : trie_Trie_Take_D (fin Try.prog [(Go.ResultVar.tmp 4)] Q) (env0 args) h) : Ok Try.prog 41 args h Q :=
  ok_of_den progIsOk Try.func41 (c := trie_Trie_Take_code) (by kernel_rfl) hn (by show (den Try.prog 24 trie_Trie_Take_code).1 _ _ _; rw [trie_Trie_Take_eq]; exact D)

/-! ### (*octroi/octroiref09.Rib).at: function 42 -/
noncomputable def octroiref09_Rib_at_code : Code := match Try.f42.body with | some c => c | none => .skip

/-- ref.go:60 -/
def octroiref09_Rib_at_r0 (env : Env) (h : Hp) (K : Env → Hp → Prop) : Prop :=
  arun Try.prog (Instr.box 24 (env 1)) h fun v4_0 h1 =>
  K ((env.set 4 v4_0).set 6 (Go.Value.int Go.IntKind.i64 0)) h1
@[congr] theorem octroiref09_Rib_at_r0_congr {env : Env} {h : Hp} {K : Env → Hp → Prop} : octroiref09_Rib_at_r0 env h K = octroiref09_Rib_at_r0 env h K := rfl

/-- ref.go:61 -/
def octroiref09_Rib_at_r1 (env : Env) (h : Hp) (K : Env → Hp → Prop) : Prop :=
  K (env.set 7 (Go.Value.int Go.IntKind.i64 0)) h
@[congr] theorem octroiref09_Rib_at_r1_congr {env : Env} {h : Hp} {K : Env → Hp → Prop} : octroiref09_Rib_at_r1 env h K = octroiref09_Rib_at_r1 env h K := rfl

/-- ref.go:61 -/
def octroiref09_Rib_at_r2 (env : Env) (h : Hp) (K : Env → Hp → Prop) : Prop :=
  nck (env 0) (
  rd Try.prog (Instr.fieldAt 54 (env 0) 1) noHp fun v11_3 =>
  rd Try.prog (Instr.loadAt 39 v11_3) h fun v12_4 =>
  rd Try.prog (Builtin.len_ #[39] 3 #[v12_4]) h fun v13_5 =>
  rd Try.prog (bop Go.BinOp.lss 3 (Go.Operand.tmp 8) (Go.Operand.tmp 13) (env 7) v13_5) noHp fun v14_6 =>
  K (((((((env.set 8 (env 7)).set 9 (env 0)).set 10 (env 0)).set 11 v11_3).set 12 v12_4).set 13 v13_5).set 14 v14_6) h)
@[congr] theorem octroiref09_Rib_at_r2_congr {env : Env} {h : Hp} {K : Env → Hp → Prop} : octroiref09_Rib_at_r2 env h K = octroiref09_Rib_at_r2 env h K := rfl

/-- ref.go:62 (in any order) -/
def octroiref09_Rib_at_r3 (env : Env) (h : Hp) (K : Env → Hp → Prop) : Prop :=
  nck (env 0) (
  rd Try.prog (Instr.fieldAt 54 (env 0) 1) noHp fun v19_2 =>
  rd Try.prog (Instr.loadAt 39 v19_2) h fun v20_3 =>
  rd Try.prog (Instr.indexAt 39 v20_3 (env 7)) noHp fun v22_5 =>
  rd Try.prog (Instr.fieldAt 27 v22_5 0) noHp fun v23_6 =>
  rd Try.prog (Instr.loadAt 24 v23_6) h fun v24_7 =>
  rd Try.prog (Instr.loadAt 24 (env 4)) h fun v25_8 =>
  rd Try.prog (bop Go.BinOp.eql 24 (Go.Operand.tmp 24) (Go.Operand.tmp 25) v24_7 v25_8) noHp fun v26_9 =>
  gd (yb v26_9 == some true) (fun h k => k (env 0) h) h fun v28_11 h1 =>
  gd (yb v26_9 == some true) (fun h k => nck v28_11 (k v28_11 h)) h1 fun v29_12 h2 =>
  gd (yb v26_9 == some true) (fun h k => rd Try.prog (Instr.fieldAt 54 v29_12 1) noHp fun v => k v h) h2 fun v30_13 h3 =>
  gd (yb v26_9 == some true) (fun h k => rd Try.prog (Instr.loadAt 39 v30_13) h fun v => k v h) h3 fun v31_14 h4 =>
  gd (yb v26_9 == some true) (fun h k => k (env 7) h) h4 fun v32_15 h5 =>
  gd (yb v26_9 == some true) (fun h k => rd Try.prog (Instr.indexAt 39 v31_14 v32_15) noHp fun v => k v h) h5 fun v33_16 h6 =>
  gd (yb v26_9 == some true) (fun h k => rd Try.prog (Instr.fieldAt 27 v33_16 1) noHp fun v => k v h) h6 fun v34_17 h7 =>
  gd (yb v26_9 == some true) (fun h k => rd Try.prog (Instr.loadAt 3 v34_17) h fun v => k v h) h7 fun v35_18 h8 =>
  gd (yb v26_9 == some true) (fun h k => k (env 2) h) h8 fun v36_19 h9 =>
  gd (yb v26_9 == some true) (fun h k => rd Try.prog (bop Go.BinOp.eql 3 (Go.Operand.tmp 35) (Go.Operand.tmp 36) v35_18 v36_19) noHp fun v => k v h) h9 fun v37_20 h10 =>
  rd Try.prog (pck v26_9 v37_20 (Go.Value.bool false)) noHp fun v38_21 =>
  K ((((((((((((((((((((((env.set 17 (env 0)).set 18 (env 0)).set 19 v19_2).set 20 v20_3).set 21 (env 7)).set 22 v22_5).set 23 v23_6).set 24 v24_7).set 25 v25_8).set 26 v26_9).set 27 v26_9).set 28 v28_11).set 29 v29_12).set 30 v30_13).set 31 v31_14).set 32 v32_15).set 33 v33_16).set 34 v34_17).set 35 v35_18).set 36 v36_19).set 37 v37_20).set 38 v38_21) h10)
@[congr] theorem octroiref09_Rib_at_r3_congr {env : Env} {h : Hp} {K : Env → Hp → Prop} : octroiref09_Rib_at_r3 env h K = octroiref09_Rib_at_r3 env h K := rfl

/-- ref.go:63 -/
def octroiref09_Rib_at_r4 (env : Env) (h : Hp) (K : Env → Hp → Prop) : Prop :=
  K ((env.set 39 (env 7)).set 6 (env 7)) h
@[congr] theorem octroiref09_Rib_at_r4_congr {env : Env} {h : Hp} {K : Env → Hp → Prop} : octroiref09_Rib_at_r4 env h K = octroiref09_Rib_at_r4 env h K := rfl

/-- ref.go:61 -/
def octroiref09_Rib_at_r5 (env : Env) (h : Hp) (K : Env → Hp → Prop) : Prop :=
  rd Try.prog (bop Go.BinOp.add 3 (Go.Operand.tmp 15) (Go.Operand.const (Go.Value.int Go.IntKind.i64 1)) (env 7) (Go.Value.int Go.IntKind.i64 1)) noHp fun v16_1 =>
  K (((env.set 15 (env 7)).set 16 v16_1).set 7 v16_1) h
@[congr] theorem octroiref09_Rib_at_r5_congr {env : Env} {h : Hp} {K : Env → Hp → Prop} : octroiref09_Rib_at_r5 env h K = octroiref09_Rib_at_r5 env h K := rfl

def octroiref09_Rib_at_L0 : Den := (sq (sq (rg octroiref09_Rib_at_r2) (cnd (Go.Operand.tmp 14) (ex .normal) (ex (.exit 0)))) (sq (blk 1 (sq (rg octroiref09_Rib_at_r3) (cnd (Go.Operand.tmp 38) (sq (rg octroiref09_Rib_at_r4) (ex .ret)) (ex .normal)))) (rg octroiref09_Rib_at_r5)))

/-- ref.go:66 -/
def octroiref09_Rib_at_r6 (env : Env) (h : Hp) (K : Env → Hp → Prop) : Prop :=
  K (env.set 6 (Go.Value.int Go.IntKind.i64 (-1))) h
@[congr] theorem octroiref09_Rib_at_r6_congr {env : Env} {h : Hp} {K : Env → Hp → Prop} : octroiref09_Rib_at_r6 env h K = octroiref09_Rib_at_r6 env h K := rfl

def octroiref09_Rib_at_D : Den := (sq (rg octroiref09_Rib_at_r0) (sq (sq (rg octroiref09_Rib_at_r1) (blk 0 (lp octroiref09_Rib_at_L0))) (sq (rg octroiref09_Rib_at_r6) (ex .ret))))

theorem octroiref09_Rib_at_eq : (den Try.prog 40 octroiref09_Rib_at_code).1 = octroiref09_Rib_at_D := by kernel_rfl

theorem octroiref09_Rib_at_ok {args : Array Value} {h : Hp} {Q : Value → Hp → Prop} (hn : args.size ≤ 40) (D : octroiref09_Rib_at_D (fin Try.prog [(Go.ResultVar.tmp 6)] Q) (env0 args) h) : Ok Try.prog 42 args h Q :=
  ok_of_den progIsOk Try.func42 (c := octroiref09_Rib_at_code) (by kernel_rfl) hn (by show (den Try.prog 40 octroiref09_Rib_at_code).1 _ _ _; rw [octroiref09_Rib_at_eq]; exact D)

/-! ### octroi/octroiref09.ahead: function 43 -/
noncomputable def octroiref09_ahead_code : Code := match Try.f43.body with | some c => c | none => .skip

/-- ref.go:54 -/
def octroiref09_ahead_r0 (env : Env) (h : Hp) (K : Env → Hp → Prop) : Prop :=
  arun Try.prog (Instr.box 27 (env 0)) h fun v2_0 h1 =>
  arun Try.prog (Instr.box 27 (env 1)) h1 fun v3_1 h2 =>
  K (((env.set 2 v2_0).set 3 v3_1).set 4 (Go.Value.bool false)) h2
@[congr] theorem octroiref09_ahead_r0_congr {env : Env} {h : Hp} {K : Env → Hp → Prop} : octroiref09_ahead_r0 env h K = octroiref09_ahead_r0 env h K := rfl

/-- ref.go:55 -/
def octroiref09_ahead_r1 (env : Env) (h : Hp) (K : Env → Hp → Prop) : Prop :=
  rd Try.prog (Instr.fieldAt 27 (env 2) 0) noHp fun v6_0 =>
  rd Try.prog (Instr.loadAt 24 v6_0) h fun v7_1 =>
  rd Try.prog (Instr.fieldAt 27 (env 3) 0) noHp fun v8_2 =>
  rd Try.prog (Instr.loadAt 24 v8_2) h fun v9_3 =>
  Ok Try.prog 55 #[v7_1, v9_3] h fun v10_4 h1 =>
  K ((((((env.set 6 v6_0).set 7 v7_1).set 8 v8_2).set 9 v9_3).set 10 v10_4).set 5 v10_4) h1
@[congr] theorem octroiref09_ahead_r1_congr {env : Env} {h : Hp} {K : Env → Hp → Prop} : octroiref09_ahead_r1 env h K = octroiref09_ahead_r1 env h K := rfl

/-- ref.go:56 -/
def octroiref09_ahead_r2 (env : Env) (h : Hp) (K : Env → Hp → Prop) : Prop :=
  gd (yb (env 5) == some false) (fun h k => rd Try.prog (Instr.fieldAt 27 (env 2) 0) noHp fun v => k v h) h fun v13_2 h1 =>
  gd (yb (env 5) == some false) (fun h k => rd Try.prog (Instr.loadAt 24 v13_2) h fun v => k v h) h1 fun v14_3 h2 =>
  gd (yb (env 5) == some false) (fun h k => rd Try.prog (Instr.fieldAt 27 (env 3) 0) noHp fun v => k v h) h2 fun v15_4 h3 =>
  gd (yb (env 5) == some false) (fun h k => rd Try.prog (Instr.loadAt 24 v15_4) h fun v => k v h) h3 fun v16_5 h4 =>
  gd (yb (env 5) == some false) (fun h k => rd Try.prog (bop Go.BinOp.eql 24 (Go.Operand.tmp 14) (Go.Operand.tmp 16) v14_3 v16_5) noHp fun v => k v h) h4 fun v17_6 h5 =>
  gd (yb (env 5) == some false) (fun h k => k v17_6 h) h5 fun v18_7 h6 =>
  gd (yb v18_7 == some true) (fun h k => rd Try.prog (Instr.fieldAt 27 (env 2) 1) noHp fun v => k v h) h6 fun v19_8 h7 =>
  gd (yb v18_7 == some true) (fun h k => rd Try.prog (Instr.loadAt 3 v19_8) h fun v => k v h) h7 fun v20_9 h8 =>
  gd (yb v18_7 == some true) (fun h k => rd Try.prog (Instr.fieldAt 27 (env 3) 1) noHp fun v => k v h) h8 fun v21_10 h9 =>
  gd (yb v18_7 == some true) (fun h k => rd Try.prog (Instr.loadAt 3 v21_10) h fun v => k v h) h9 fun v22_11 h10 =>
  gd (yb v18_7 == some true) (fun h k => rd Try.prog (bop Go.BinOp.lss 3 (Go.Operand.tmp 20) (Go.Operand.tmp 22) v20_9 v22_11) noHp fun v => k v h) h10 fun v23_12 h11 =>
  gd (yb (env 5) == some false) (fun h k => rd Try.prog (pck v18_7 v23_12 (Go.Value.bool false)) noHp fun v => k v h) h11 fun v24_13 h12 =>
  rd Try.prog (pck (env 5) (Go.Value.bool true) v24_13) noHp fun v25_14 =>
  K ((((((((((((((((env.set 11 (env 5)).set 12 (env 5)).set 13 v13_2).set 14 v14_3).set 15 v15_4).set 16 v16_5).set 17 v17_6).set 18 v18_7).set 19 v19_8).set 20 v20_9).set 21 v21_10).set 22 v22_11).set 23 v23_12).set 24 v24_13).set 25 v25_14).set 4 v25_14) h12
@[congr] theorem octroiref09_ahead_r2_congr {env : Env} {h : Hp} {K : Env → Hp → Prop} : octroiref09_ahead_r2 env h K = octroiref09_ahead_r2 env h K := rfl

def octroiref09_ahead_D : Den := (sq (rg octroiref09_ahead_r0) (sq (rg octroiref09_ahead_r1) (sq (rg octroiref09_ahead_r2) (ex .ret))))

theorem octroiref09_ahead_eq : (den Try.prog 26 octroiref09_ahead_code).1 = octroiref09_ahead_D := by kernel_rfl

theorem octroiref09_ahead_ok {args : Array Value} {h : Hp} {Q : Value → Hp → Prop} (hn : args.size ≤ 26) (D : octroiref09_ahead_D (fin Try.prog [(Go.ResultVar.tmp 4)] Q) (env0 args) h) : Ok Try.prog 43 args h Q :=
  ok_of_den progIsOk Try.func43 (c := octroiref09_ahead_code) (by kernel_rfl) hn (by show (den Try.prog 26 octroiref09_ahead_code).1 _ _ _; rw [octroiref09_ahead_eq]; exact D)

/-! ### octroi/octroiref02.Has: function 44 -/
noncomputable def octroiref02_Has_code : Code := match Try.f44.body with | some c => c | none => .skip

/-- ref.go:41 -/
def octroiref02_Has_r0 (env : Env) (h : Hp) (K : Env → Hp → Prop) : Prop :=
  arun Try.prog (Instr.box 24 (env 0)) h fun v2_0 h1 =>
  K ((env.set 2 v2_0).set 4 (Go.Value.bool false)) h1
@[congr] theorem octroiref02_Has_r0_congr {env : Env} {h : Hp} {K : Env → Hp → Prop} : octroiref02_Has_r0 env h K = octroiref02_Has_r0 env h K := rfl

/-- ref.go:42 -/
def octroiref02_Has_r1 (env : Env) (h : Hp) (K : Env → Hp → Prop) : Prop :=
  rd Try.prog (Instr.loadAt 24 (env 2)) h fun v6_0 =>
  Ok Try.prog 30 #[v6_0] h fun v7_1 h1 =>
  K (((env.set 6 v6_0).set 7 v7_1).set 5 v7_1) h1
@[congr] theorem octroiref02_Has_r1_congr {env : Env} {h : Hp} {K : Env → Hp → Prop} : octroiref02_Has_r1 env h K = octroiref02_Has_r1 env h K := rfl

/-- ref.go:43 (in any order) -/
def octroiref02_Has_r2 (env : Env) (h : Hp) (K : Env → Hp → Prop) : Prop :=
  gd (yb (env 5) == some true) (fun h k => k (env 1) h) h fun v10_2 h1 =>
  gd (yb (env 5) == some true) (fun h k => rd Try.prog (Instr.fieldAt 24 (env 2) 1) noHp fun v => k v h) h1 fun v11_3 h2 =>
  gd (yb (env 5) == some true) (fun h k => rd Try.prog (Instr.loadAt 3 v11_3) h fun v => k v h) h2 fun v12_4 h3 =>
  gd (yb (env 5) == some true) (fun h k => rd Try.prog (Instr.fieldAt 24 (env 2) 0) noHp fun v => k v h) h3 fun v15_5 h4 =>
  gd (yb (env 5) == some true) (fun h k => rd Try.prog (Instr.loadAt 22 v15_5) h fun v => k v h) h4 fun v16_6 h5 =>
  gd (yb (env 5) == some true) (fun h k => Ok Try.prog 47 #[v12_4] h k) h5 fun v13_7 h6 =>
  (((yb (env 5) == some true) = true → rrun Try.prog (Instr.loadAt 22 v15_5) h6 = some v16_6) ∧ True) ∧
  gd (yb (env 5) == some true) (fun h k => rd Try.prog (bop Go.BinOp.and 22 (Go.Operand.tmp 10) (Go.Operand.tmp 13) v10_2 v13_7) noHp fun v => k v h) h6 fun v14_8 h7 =>
  gd (yb (env 5) == some true) (fun h k => rd Try.prog (bop Go.BinOp.eql 22 (Go.Operand.tmp 14) (Go.Operand.tmp 16) v14_8 v16_6) noHp fun v => k v h) h7 fun v17_9 h8 =>
  rd Try.prog (pck (env 5) v17_9 (Go.Value.bool false)) noHp fun v18_10 =>
  K ((((((((((((env.set 8 (env 5)).set 9 (env 5)).set 10 v10_2).set 11 v11_3).set 12 v12_4).set 15 v15_5).set 16 v16_6).set 13 v13_7).set 14 v14_8).set 17 v17_9).set 18 v18_10).set 4 v18_10) h8
@[congr] theorem octroiref02_Has_r2_congr {env : Env} {h : Hp} {K : Env → Hp → Prop} : octroiref02_Has_r2 env h K = octroiref02_Has_r2 env h K := rfl

def octroiref02_Has_D : Den := (sq (rg octroiref02_Has_r0) (sq (rg octroiref02_Has_r1) (sq (rg octroiref02_Has_r2) (ex .ret))))

theorem octroiref02_Has_eq : (den Try.prog 19 octroiref02_Has_code).1 = octroiref02_Has_D := by kernel_rfl

theorem octroiref02_Has_ok {args : Array Value} {h : Hp} {Q : Value → Hp → Prop} (hn : args.size ≤ 19) (D : octroiref02_Has_D (fin Try.prog [(Go.ResultVar.tmp 4)] Q) (env0 args) h) : Ok Try.prog 44 args h Q :=
  ok_of_den progIsOk Try.func44 (c := octroiref02_Has_code) (by kernel_rfl) hn (by show (den Try.prog 19 octroiref02_Has_code).1 _ _ _; rw [octroiref02_Has_eq]; exact D)

/-! ### octroi/prefix.May: function 45 -/
noncomputable def prefix_May_code : Code := match Try.f45.body with | some c => c | none => .skip

/-- prefix.go:39 -/
def prefix_May_r0 (env : Env) (h : Hp) (K : Env → Hp → Prop) : Prop :=
  arun Try.prog (Instr.box 24 (env 0)) h fun v1_0 h1 =>
  K ((env.set 1 v1_0).set 2 (Go.Value.bool false)) h1
@[congr] theorem prefix_May_r0_congr {env : Env} {h : Hp} {K : Env → Hp → Prop} : prefix_May_r0 env h K = prefix_May_r0 env h K := rfl

/-- prefix.go:39 (in any order) -/
def prefix_May_r1 (env : Env) (h : Hp) (K : Env → Hp → Prop) : Prop :=
  rd Try.prog (Instr.fieldAt 24 (env 1) 1) noHp fun v3_0 =>
  rd Try.prog (Instr.loadAt 3 v3_0) h fun v4_1 =>
  rd Try.prog (bop Go.BinOp.geq 3 (Go.Operand.tmp 4) (Go.Operand.const (Go.Value.int Go.IntKind.i64 0)) v4_1 (Go.Value.int Go.IntKind.i64 0)) noHp fun v5_2 =>
  gd (yb v5_2 == some true) (fun h k => rd Try.prog (Instr.fieldAt 24 (env 1) 1) noHp fun v => k v h) h fun v7_4 h1 =>
  gd (yb v5_2 == some true) (fun h k => rd Try.prog (Instr.loadAt 3 v7_4) h fun v => k v h) h1 fun v8_5 h2 =>
  gd (yb v5_2 == some true) (fun h k => rd Try.prog (bop Go.BinOp.leq 3 (Go.Operand.tmp 8) (Go.Operand.const (Go.Value.int Go.IntKind.i64 32)) v8_5 (Go.Value.int Go.IntKind.i64 32)) noHp fun v => k v h) h2 fun v9_6 h3 =>
  rd Try.prog (pck v5_2 v9_6 (Go.Value.bool false)) noHp fun v10_7 =>
  gd (yb v10_7 == some true) (fun h k => rd Try.prog (Instr.fieldAt 24 (env 1) 0) noHp fun v => k v h) h3 fun v12_9 h4 =>
  gd (yb v10_7 == some true) (fun h k => rd Try.prog (Instr.loadAt 22 v12_9) h fun v => k v h) h4 fun v13_10 h5 =>
  gd (yb v10_7 == some true) (fun h k => rd Try.prog (Instr.fieldAt 24 (env 1) 1) noHp fun v => k v h) h5 fun v14_11 h6 =>
  gd (yb v10_7 == some true) (fun h k => rd Try.prog (Instr.loadAt 3 v14_11) h fun v => k v h) h6 fun v15_12 h7 =>
  gd (yb v10_7 == some true) (fun h k => Ok Try.prog 46 #[v15_12] h k) h7 fun v16_13 h8 =>
  (((yb v10_7 == some true) = true → rrun Try.prog (Instr.loadAt 22 v12_9) h8 = some v13_10) ∧ True) ∧
  gd (yb v10_7 == some true) (fun h k => rd Try.prog (bop Go.BinOp.andNot 22 (Go.Operand.tmp 13) (Go.Operand.tmp 16) v13_10 v16_13) noHp fun v => k v h) h8 fun v17_14 h9 =>
  gd (yb v10_7 == some true) (fun h k => rd Try.prog (bop Go.BinOp.eql 22 (Go.Operand.tmp 17) (Go.Operand.const (Go.Value.int Go.IntKind.u32 0)) v17_14 (Go.Value.int Go.IntKind.u32 0)) noHp fun v => k v h) h9 fun v18_15 h10 =>
  rd Try.prog (pck v10_7 v18_15 (Go.Value.bool false)) noHp fun v19_16 =>
  K ((((((((((((((((((env.set 3 v3_0).set 4 v4_1).set 5 v5_2).set 6 v5_2).set 7 v7_4).set 8 v8_5).set 9 v9_6).set 10 v10_7).set 11 v10_7).set 12 v12_9).set 13 v13_10).set 14 v14_11).set 15 v15_12).set 16 v16_13).set 17 v17_14).set 18 v18_15).set 19 v19_16).set 2 v19_16) h10
@[congr] theorem prefix_May_r1_congr {env : Env} {h : Hp} {K : Env → Hp → Prop} : prefix_May_r1 env h K = prefix_May_r1 env h K := rfl

def prefix_May_D : Den := (sq (rg prefix_May_r0) (sq (rg prefix_May_r1) (ex .ret)))

theorem prefix_May_eq : (den Try.prog 20 prefix_May_code).1 = prefix_May_D := by kernel_rfl

theorem prefix_May_ok {args : Array Value} {h : Hp} {Q : Value → Hp → Prop} (hn : args.size ≤ 20) (D : prefix_May_D (fin Try.prog [(Go.ResultVar.tmp 2)] Q) (env0 args) h) : Ok Try.prog 45 args h Q :=
  ok_of_den progIsOk Try.func45 (c := prefix_May_code) (by kernel_rfl) hn (by show (den Try.prog 20 prefix_May_code).1 _ _ _; rw [prefix_May_eq]; exact D)

/-! ### octroi/prefix.Mask: function 46 -/
noncomputable def prefix_Mask_code : Code := match Try.f46.body with | some c => c | none => .skip

/-- prefix.go:19 -/
def prefix_Mask_r0 (env : Env) (h : Hp) (K : Env → Hp → Prop) : Prop :=
  K (env.set 2 (Go.Value.int Go.IntKind.u32 0)) h
@[congr] theorem prefix_Mask_r0_congr {env : Env} {h : Hp} {K : Env → Hp → Prop} : prefix_Mask_r0 env h K = prefix_Mask_r0 env h K := rfl

/-- prefix.go:19 -/
def prefix_Mask_r1 (env : Env) (h : Hp) (K : Env → Hp → Prop) : Prop :=
  rd Try.prog (Builtin.min_ #[3, 3] 3 #[(env 0), (Go.Value.int Go.IntKind.i64 32)]) h fun v4_1 =>
  rd Try.prog (Builtin.max_ #[3, 3] 3 #[(Go.Value.int Go.IntKind.i64 0), v4_1]) h fun v5_2 =>
  rd Try.prog (bop Go.BinOp.sub 3 (Go.Operand.const (Go.Value.int Go.IntKind.i64 32)) (Go.Operand.tmp 5) (Go.Value.int Go.IntKind.i64 32) v5_2) noHp fun v6_3 =>
  rd Try.prog (bop Go.BinOp.shl 22 (Go.Operand.const (Go.Value.int Go.IntKind.u32 4294967295)) (Go.Operand.tmp 6) (Go.Value.int Go.IntKind.u32 4294967295) v6_3) noHp fun v7_4 =>
  K ((((((env.set 3 (env 0)).set 4 v4_1).set 5 v5_2).set 6 v6_3).set 7 v7_4).set 2 v7_4) h
@[congr] theorem prefix_Mask_r1_congr {env : Env} {h : Hp} {K : Env → Hp → Prop} : prefix_Mask_r1 env h K = prefix_Mask_r1 env h K := rfl

def prefix_Mask_D : Den := (sq (rg prefix_Mask_r0) (sq (rg prefix_Mask_r1) (ex .ret)))

theorem prefix_Mask_eq : (den Try.prog 8 prefix_Mask_code).1 = prefix_Mask_D := by kernel_rfl

theorem prefix_Mask_ok {args : Array Value} {h : Hp} {Q : Value → Hp → Prop} (hn : args.size ≤ 8) (D : prefix_Mask_D (fin Try.prog [(Go.ResultVar.tmp 2)] Q) (env0 args) h) : Ok Try.prog 46 args h Q :=
  ok_of_den progIsOk Try.func46 (c := prefix_Mask_code) (by kernel_rfl) hn (by show (den Try.prog 8 prefix_Mask_code).1 _ _ _; rw [prefix_Mask_eq]; exact D)

/-! ### octroi/octroiref02.Mask: function 47 -/
noncomputable def octroiref02_Mask_code : Code := match Try.f47.body with | some c => c | none => .skip

/-- ref.go:7 -/
def octroiref02_Mask_r0 (env : Env) (h : Hp) (K : Env → Hp → Prop) : Prop :=
  K (env.set 2 (Go.Value.int Go.IntKind.u32 0)) h
@[congr] theorem octroiref02_Mask_r0_congr {env : Env} {h : Hp} {K : Env → Hp → Prop} : octroiref02_Mask_r0 env h K = octroiref02_Mask_r0 env h K := rfl

/-- ref.go:8 -/
def octroiref02_Mask_r1 (env : Env) (h : Hp) (K : Env → Hp → Prop) : Prop :=
  K (env.set 3 (Go.Value.int Go.IntKind.u32 0)) h
@[congr] theorem octroiref02_Mask_r1_congr {env : Env} {h : Hp} {K : Env → Hp → Prop} : octroiref02_Mask_r1 env h K = octroiref02_Mask_r1 env h K := rfl

/-- ref.go:9 -/
def octroiref02_Mask_r2 (env : Env) (h : Hp) (K : Env → Hp → Prop) : Prop :=
  K (env.set 4 (Go.Value.int Go.IntKind.u32 2147483648)) h
@[congr] theorem octroiref02_Mask_r2_congr {env : Env} {h : Hp} {K : Env → Hp → Prop} : octroiref02_Mask_r2 env h K = octroiref02_Mask_r2 env h K := rfl

/-- ref.go:10 -/
def octroiref02_Mask_r3 (env : Env) (h : Hp) (K : Env → Hp → Prop) : Prop :=
  K (env.set 5 (Go.Value.int Go.IntKind.i64 0)) h
@[congr] theorem octroiref02_Mask_r3_congr {env : Env} {h : Hp} {K : Env → Hp → Prop} : octroiref02_Mask_r3 env h K = octroiref02_Mask_r3 env h K := rfl

/-- ref.go:10 -/
def octroiref02_Mask_r4 (env : Env) (h : Hp) (K : Env → Hp → Prop) : Prop :=
  rd Try.prog (bop Go.BinOp.lss 3 (Go.Operand.tmp 6) (Go.Operand.tmp 7) (env 5) (env 0)) noHp fun v8_2 =>
  gd (yb v8_2 == some true) (fun h k => k (env 5) h) h fun v10_4 h1 =>
  gd (yb v8_2 == some true) (fun h k => rd Try.prog (bop Go.BinOp.lss 3 (Go.Operand.tmp 10) (Go.Operand.const (Go.Value.int Go.IntKind.i64 32)) v10_4 (Go.Value.int Go.IntKind.i64 32)) noHp fun v => k v h) h1 fun v11_5 h2 =>
  rd Try.prog (pck v8_2 v11_5 (Go.Value.bool false)) noHp fun v12_6 =>
  K (((((((env.set 6 (env 5)).set 7 (env 0)).set 8 v8_2).set 9 v8_2).set 10 v10_4).set 11 v11_5).set 12 v12_6) h2
@[congr] theorem octroiref02_Mask_r4_congr {env : Env} {h : Hp} {K : Env → Hp → Prop} : octroiref02_Mask_r4 env h K = octroiref02_Mask_r4 env h K := rfl

/-- ref.go:11 -/
def octroiref02_Mask_r5 (env : Env) (h : Hp) (K : Env → Hp → Prop) : Prop :=
  rd Try.prog (bop Go.BinOp.add 22 (Go.Operand.tmp 15) (Go.Operand.tmp 16) (env 3) (env 4)) noHp fun v17_2 =>
  K ((((env.set 15 (env 3)).set 16 (env 4)).set 17 v17_2).set 3 v17_2) h
@[congr] theorem octroiref02_Mask_r5_congr {env : Env} {h : Hp} {K : Env → Hp → Prop} : octroiref02_Mask_r5 env h K = octroiref02_Mask_r5 env h K := rfl

/-- ref.go:12 -/
def octroiref02_Mask_r6 (env : Env) (h : Hp) (K : Env → Hp → Prop) : Prop :=
  rd Try.prog (bop Go.BinOp.quo 22 (Go.Operand.tmp 18) (Go.Operand.const (Go.Value.int Go.IntKind.u32 2)) (env 4) (Go.Value.int Go.IntKind.u32 2)) noHp fun v19_1 =>
  K (((env.set 18 (env 4)).set 19 v19_1).set 4 v19_1) h
@[congr] theorem octroiref02_Mask_r6_congr {env : Env} {h : Hp} {K : Env → Hp → Prop} : octroiref02_Mask_r6 env h K = octroiref02_Mask_r6 env h K := rfl

/-- ref.go:10 -/
def octroiref02_Mask_r7 (env : Env) (h : Hp) (K : Env → Hp → Prop) : Prop :=
  rd Try.prog (bop Go.BinOp.add 3 (Go.Operand.tmp 13) (Go.Operand.const (Go.Value.int Go.IntKind.i64 1)) (env 5) (Go.Value.int Go.IntKind.i64 1)) noHp fun v14_1 =>
  K (((env.set 13 (env 5)).set 14 v14_1).set 5 v14_1) h
@[congr] theorem octroiref02_Mask_r7_congr {env : Env} {h : Hp} {K : Env → Hp → Prop} : octroiref02_Mask_r7 env h K = octroiref02_Mask_r7 env h K := rfl

def octroiref02_Mask_L0 : Den := (sq (sq (rg octroiref02_Mask_r4) (cnd (Go.Operand.tmp 12) (ex .normal) (ex (.exit 0)))) (sq (blk 1 (sq (rg octroiref02_Mask_r5) (rg octroiref02_Mask_r6))) (rg octroiref02_Mask_r7)))

/-- ref.go:14 -/
def octroiref02_Mask_r8 (env : Env) (h : Hp) (K : Env → Hp → Prop) : Prop :=
  K ((env.set 20 (env 3)).set 2 (env 3)) h
@[congr] theorem octroiref02_Mask_r8_congr {env : Env} {h : Hp} {K : Env → Hp → Prop} : octroiref02_Mask_r8 env h K = octroiref02_Mask_r8 env h K := rfl

def octroiref02_Mask_D : Den := (sq (rg octroiref02_Mask_r0) (sq (rg octroiref02_Mask_r1) (sq (rg octroiref02_Mask_r2) (sq (sq (rg octroiref02_Mask_r3) (blk 0 (lp octroiref02_Mask_L0))) (sq (rg octroiref02_Mask_r8) (ex .ret))))))

theorem octroiref02_Mask_eq : (den Try.prog 21 octroiref02_Mask_code).1 = octroiref02_Mask_D := by kernel_rfl

theorem octroiref02_Mask_ok {args : Array Value} {h : Hp} {Q : Value → Hp → Prop} (hn : args.size ≤ 21) (D : octroiref02_Mask_D (fin Try.prog [(Go.ResultVar.tmp 2)] Q) (env0 args) h) : Ok Try.prog 47 args h Q :=
  ok_of_den progIsOk Try.func47 (c := octroiref02_Mask_code) (by kernel_rfl) hn (by show (den Try.prog 21 octroiref02_Mask_code).1 _ _ _; rw [octroiref02_Mask_eq]; exact D)

/-! ### octroi/rib.first: function 48 -/
noncomputable def rib_first_code : Code := match Try.f48.body with | some c => c | none => .skip

/-- rib.go:17 -/
def rib_first_r0 (env : Env) (h : Hp) (K : Env → Hp → Prop) : Prop :=
  K (env.set 2 (Go.Value.int Go.IntKind.i64 0)) h
@[congr] theorem rib_first_r0_congr {env : Env} {h : Hp} {K : Env → Hp → Prop} : rib_first_r0 env h K = rib_first_r0 env h K := rfl

/-- rib.go:17 -/
def rib_first_r1 (env : Env) (h : Hp) (K : Env → Hp → Prop) : Prop :=
  Ok Try.prog 56 #[(env 0)] h fun v4_1 h1 =>
  K (((env.set 3 (env 0)).set 4 v4_1).set 2 v4_1) h1
@[congr] theorem rib_first_r1_congr {env : Env} {h : Hp} {K : Env → Hp → Prop} : rib_first_r1 env h K = rib_first_r1 env h K := rfl

def rib_first_D : Den := (sq (rg rib_first_r0) (sq (rg rib_first_r1) (ex .ret)))

theorem rib_first_eq : (den Try.prog 5 rib_first_code).1 = rib_first_D := by kernel_rfl

theorem rib_first_ok {args : Array Value} {h : Hp} {Q : Value → Hp → Prop} (hn : args.size ≤ 5) (D : rib_first_D (fin Try.prog [(Go.ResultVar.tmp 2)] Q) (env0 args) h) : Ok Try.prog 48 args h Q :=
  ok_of_den progIsOk Try.func48 (c := rib_first_code) (by kernel_rfl) hn (by show (den Try.prog 5 rib_first_code).1 _ _ _; rw [rib_first_eq]; exact D)

/-! ### cmp.Compare[int]: function 49 -/
noncomputable def cmp_Compare_int_code : Code := match Try.f49.body with | some c => c | none => .skip

/-- cmp.go:40 -/
def cmp_Compare_int_r0 (env : Env) (h : Hp) (K : Env → Hp → Prop) : Prop :=
  K (env.set 4 (Go.Value.int Go.IntKind.i64 0)) h
@[congr] theorem cmp_Compare_int_r0_congr {env : Env} {h : Hp} {K : Env → Hp → Prop} : cmp_Compare_int_r0 env h K = cmp_Compare_int_r0 env h K := rfl

/-- cmp.go:41 -/
def cmp_Compare_int_r1 (env : Env) (h : Hp) (K : Env → Hp → Prop) : Prop :=
  Ok Try.prog 57 #[(env 0)] h fun v8_1 h1 =>
  K (((env.set 7 (env 0)).set 8 v8_1).set 5 v8_1) h1
@[congr] theorem cmp_Compare_int_r1_congr {env : Env} {h : Hp} {K : Env → Hp → Prop} : cmp_Compare_int_r1 env h K = cmp_Compare_int_r1 env h K := rfl

/-- cmp.go:42 -/
def cmp_Compare_int_r2 (env : Env) (h : Hp) (K : Env → Hp → Prop) : Prop :=
  Ok Try.prog 57 #[(env 1)] h fun v10_1 h1 =>
  K (((env.set 9 (env 1)).set 10 v10_1).set 6 v10_1) h1
@[congr] theorem cmp_Compare_int_r2_congr {env : Env} {h : Hp} {K : Env → Hp → Prop} : cmp_Compare_int_r2 env h K = cmp_Compare_int_r2 env h K := rfl

/-- cmp.go:43 -/
def cmp_Compare_int_r3 (env : Env) (h : Hp) (K : Env → Hp → Prop) : Prop :=
  K (env.set 11 (env 5)) h
@[congr] theorem cmp_Compare_int_r3_congr {env : Env} {h : Hp} {K : Env → Hp → Prop} : cmp_Compare_int_r3 env h K = cmp_Compare_int_r3 env h K := rfl

/-- cmp.go:44 -/
def cmp_Compare_int_r4 (env : Env) (h : Hp) (K : Env → Hp → Prop) : Prop :=
  K (env.set 12 (env 6)) h
@[congr] theorem cmp_Compare_int_r4_congr {env : Env} {h : Hp} {K : Env → Hp → Prop} : cmp_Compare_int_r4 env h K = cmp_Compare_int_r4 env h K := rfl

/-- cmp.go:45 -/
def cmp_Compare_int_r5 (env : Env) (h : Hp) (K : Env → Hp → Prop) : Prop :=
  K (env.set 4 (Go.Value.int Go.IntKind.i64 0)) h
@[congr] theorem cmp_Compare_int_r5_congr {env : Env} {h : Hp} {K : Env → Hp → Prop} : cmp_Compare_int_r5 env h K = cmp_Compare_int_r5 env h K := rfl

/-- cmp.go:47 -/
def cmp_Compare_int_r6 (env : Env) (h : Hp) (K : Env → Hp → Prop) : Prop :=
  K (env.set 4 (Go.Value.int Go.IntKind.i64 (-1))) h
@[congr] theorem cmp_Compare_int_r6_congr {env : Env} {h : Hp} {K : Env → Hp → Prop} : cmp_Compare_int_r6 env h K = cmp_Compare_int_r6 env h K := rfl

/-- cmp.go:49 -/
def cmp_Compare_int_r7 (env : Env) (h : Hp) (K : Env → Hp → Prop) : Prop :=
  K (env.set 13 (env 6)) h
@[congr] theorem cmp_Compare_int_r7_congr {env : Env} {h : Hp} {K : Env → Hp → Prop} : cmp_Compare_int_r7 env h K = cmp_Compare_int_r7 env h K := rfl

/-- cmp.go:50 -/
def cmp_Compare_int_r8 (env : Env) (h : Hp) (K : Env → Hp → Prop) : Prop :=
  K (env.set 4 (Go.Value.int Go.IntKind.i64 1)) h
@[congr] theorem cmp_Compare_int_r8_congr {env : Env} {h : Hp} {K : Env → Hp → Prop} : cmp_Compare_int_r8 env h K = cmp_Compare_int_r8 env h K := rfl

/-- cmp.go:52 -/
def cmp_Compare_int_r9 (env : Env) (h : Hp) (K : Env → Hp → Prop) : Prop :=
  rd Try.prog (bop Go.BinOp.lss 3 (Go.Operand.tmp 14) (Go.Operand.tmp 15) (env 0) (env 1)) noHp fun v16_2 =>
  K (((env.set 14 (env 0)).set 15 (env 1)).set 16 v16_2) h
@[congr] theorem cmp_Compare_int_r9_congr {env : Env} {h : Hp} {K : Env → Hp → Prop} : cmp_Compare_int_r9 env h K = cmp_Compare_int_r9 env h K := rfl

/-- cmp.go:53 -/
def cmp_Compare_int_r10 (env : Env) (h : Hp) (K : Env → Hp → Prop) : Prop :=
  K (env.set 4 (Go.Value.int Go.IntKind.i64 (-1))) h
@[congr] theorem cmp_Compare_int_r10_congr {env : Env} {h : Hp} {K : Env → Hp → Prop} : cmp_Compare_int_r10 env h K = cmp_Compare_int_r10 env h K := rfl

/-- cmp.go:55 -/
def cmp_Compare_int_r11 (env : Env) (h : Hp) (K : Env → Hp → Prop) : Prop :=
  rd Try.prog (bop Go.BinOp.gtr 3 (Go.Operand.tmp 17) (Go.Operand.tmp 18) (env 0) (env 1)) noHp fun v19_2 =>
  K (((env.set 17 (env 0)).set 18 (env 1)).set 19 v19_2) h
@[congr] theorem cmp_Compare_int_r11_congr {env : Env} {h : Hp} {K : Env → Hp → Prop} : cmp_Compare_int_r11 env h K = cmp_Compare_int_r11 env h K := rfl

/-- cmp.go:56 -/
def cmp_Compare_int_r12 (env : Env) (h : Hp) (K : Env → Hp → Prop) : Prop :=
  K (env.set 4 (Go.Value.int Go.IntKind.i64 1)) h
@[congr] theorem cmp_Compare_int_r12_congr {env : Env} {h : Hp} {K : Env → Hp → Prop} : cmp_Compare_int_r12 env h K = cmp_Compare_int_r12 env h K := rfl

/-- cmp.go:58 -/
def cmp_Compare_int_r13 (env : Env) (h : Hp) (K : Env → Hp → Prop) : Prop :=
  K (env.set 4 (Go.Value.int Go.IntKind.i64 0)) h
@[congr] theorem cmp_Compare_int_r13_congr {env : Env} {h : Hp} {K : Env → Hp → Prop} : cmp_Compare_int_r13 env h K = cmp_Compare_int_r13 env h K := rfl

def cmp_Compare_int_D : Den := (sq (rg cmp_Compare_int_r0) (sq (rg cmp_Compare_int_r1) (sq (rg cmp_Compare_int_r2) (sq (sq (rg cmp_Compare_int_r3) (cnd (Go.Operand.tmp 11) (sq (sq (rg cmp_Compare_int_r4) (cnd (Go.Operand.tmp 12) (sq (rg cmp_Compare_int_r5) (ex .ret)) (ex .normal))) (sq (rg cmp_Compare_int_r6) (ex .ret))) (ex .normal))) (sq (sq (rg cmp_Compare_int_r7) (cnd (Go.Operand.tmp 13) (sq (rg cmp_Compare_int_r8) (ex .ret)) (ex .normal))) (sq (sq (rg cmp_Compare_int_r9) (cnd (Go.Operand.tmp 16) (sq (rg cmp_Compare_int_r10) (ex .ret)) (ex .normal))) (sq (sq (rg cmp_Compare_int_r11) (cnd (Go.Operand.tmp 19) (sq (rg cmp_Compare_int_r12) (ex .ret)) (ex .normal))) (sq (rg cmp_Compare_int_r13) (ex .ret)))))))))

theorem cmp_Compare_int_eq : (den Try.prog 20 cmp_Compare_int_code).1 = cmp_Compare_int_D := by kernel_rfl

theorem cmp_Compare_int_ok {args : Array Value} {h : Hp} {Q : Value → Hp → Prop} (hn : args.size ≤ 20) (D : cmp_Compare_int_D (fin Try.prog [(Go.ResultVar.tmp 4)] Q) (env0 args) h) : Ok Try.prog 49 args h Q :=
  ok_of_den progIsOk Try.func49 (c := cmp_Compare_int_code) (by kernel_rfl) hn (by show (den Try.prog 20 cmp_Compare_int_code).1 _ _ _; rw [cmp_Compare_int_eq]; exact D)

/-! ### cmp.Compare[uint16]: function 50 -/
noncomputable def cmp_Compare_uint16_code : Code := match Try.f50.body with | some c => c | none => .skip

/-- cmp.go:40 -/
def cmp_Compare_uint16_r0 (env : Env) (h : Hp) (K : Env → Hp → Prop) : Prop :=
  K (env.set 4 (Go.Value.int Go.IntKind.i64 0)) h
@[congr] theorem cmp_Compare_uint16_r0_congr {env : Env} {h : Hp} {K : Env → Hp → Prop} : cmp_Compare_uint16_r0 env h K = cmp_Compare_uint16_r0 env h K := rfl

/-- cmp.go:41 -/
def cmp_Compare_uint16_r1 (env : Env) (h : Hp) (K : Env → Hp → Prop) : Prop :=
  Ok Try.prog 58 #[(env 0)] h fun v8_1 h1 =>
  K (((env.set 7 (env 0)).set 8 v8_1).set 5 v8_1) h1
@[congr] theorem cmp_Compare_uint16_r1_congr {env : Env} {h : Hp} {K : Env → Hp → Prop} : cmp_Compare_uint16_r1 env h K = cmp_Compare_uint16_r1 env h K := rfl

/-- cmp.go:42 -/
def cmp_Compare_uint16_r2 (env : Env) (h : Hp) (K : Env → Hp → Prop) : Prop :=
  Ok Try.prog 58 #[(env 1)] h fun v10_1 h1 =>
  K (((env.set 9 (env 1)).set 10 v10_1).set 6 v10_1) h1
@[congr] theorem cmp_Compare_uint16_r2_congr {env : Env} {h : Hp} {K : Env → Hp → Prop} : cmp_Compare_uint16_r2 env h K = cmp_Compare_uint16_r2 env h K := rfl

/-- cmp.go:43 -/
def cmp_Compare_uint16_r3 (env : Env) (h : Hp) (K : Env → Hp → Prop) : Prop :=
  K (env.set 11 (env 5)) h
@[congr] theorem cmp_Compare_uint16_r3_congr {env : Env} {h : Hp} {K : Env → Hp → Prop} : cmp_Compare_uint16_r3 env h K = cmp_Compare_uint16_r3 env h K := rfl

/-- cmp.go:44 -/
def cmp_Compare_uint16_r4 (env : Env) (h : Hp) (K : Env → Hp → Prop) : Prop :=
  K (env.set 12 (env 6)) h
@[congr] theorem cmp_Compare_uint16_r4_congr {env : Env} {h : Hp} {K : Env → Hp → Prop} : cmp_Compare_uint16_r4 env h K = cmp_Compare_uint16_r4 env h K := rfl

/-- cmp.go:45 -/
def cmp_Compare_uint16_r5 (env : Env) (h : Hp) (K : Env → Hp → Prop) : Prop :=
  K (env.set 4 (Go.Value.int Go.IntKind.i64 0)) h
@[congr] theorem cmp_Compare_uint16_r5_congr {env : Env} {h : Hp} {K : Env → Hp → Prop} : cmp_Compare_uint16_r5 env h K = cmp_Compare_uint16_r5 env h K := rfl

/-- cmp.go:47 -/
def cmp_Compare_uint16_r6 (env : Env) (h : Hp) (K : Env → Hp → Prop) : Prop :=
  K (env.set 4 (Go.Value.int Go.IntKind.i64 (-1))) h
@[congr] theorem cmp_Compare_uint16_r6_congr {env : Env} {h : Hp} {K : Env → Hp → Prop} : cmp_Compare_uint16_r6 env h K = cmp_Compare_uint16_r6 env h K := rfl

/-- cmp.go:49 -/
def cmp_Compare_uint16_r7 (env : Env) (h : Hp) (K : Env → Hp → Prop) : Prop :=
  K (env.set 13 (env 6)) h
@[congr] theorem cmp_Compare_uint16_r7_congr {env : Env} {h : Hp} {K : Env → Hp → Prop} : cmp_Compare_uint16_r7 env h K = cmp_Compare_uint16_r7 env h K := rfl

/-- cmp.go:50 -/
def cmp_Compare_uint16_r8 (env : Env) (h : Hp) (K : Env → Hp → Prop) : Prop :=
  K (env.set 4 (Go.Value.int Go.IntKind.i64 1)) h
@[congr] theorem cmp_Compare_uint16_r8_congr {env : Env} {h : Hp} {K : Env → Hp → Prop} : cmp_Compare_uint16_r8 env h K = cmp_Compare_uint16_r8 env h K := rfl

/-- cmp.go:52 -/
def cmp_Compare_uint16_r9 (env : Env) (h : Hp) (K : Env → Hp → Prop) : Prop :=
  rd Try.prog (bop Go.BinOp.lss 25 (Go.Operand.tmp 14) (Go.Operand.tmp 15) (env 0) (env 1)) noHp fun v16_2 =>
  K (((env.set 14 (env 0)).set 15 (env 1)).set 16 v16_2) h
@[congr] theorem cmp_Compare_uint16_r9_congr {env : Env} {h : Hp} {K : Env → Hp → Prop} : cmp_Compare_uint16_r9 env h K = cmp_Compare_uint16_r9 env h K := rfl

/-- cmp.go:53 -/
def cmp_Compare_uint16_r10 (env : Env) (h : Hp) (K : Env → Hp → Prop) : Prop :=
  K (env.set 4 (Go.Value.int Go.IntKind.i64 (-1))) h
@[congr] theorem cmp_Compare_uint16_r10_congr {env : Env} {h : Hp} {K : Env → Hp → Prop} : cmp_Compare_uint16_r10 env h K = cmp_Compare_uint16_r10 env h K := rfl

/-- cmp.go:55 -/
def cmp_Compare_uint16_r11 (env : Env) (h : Hp) (K : Env → Hp → Prop) : Prop :=
  rd Try.prog (bop Go.BinOp.gtr 25 (Go.Operand.tmp 17) (Go.Operand.tmp 18) (env 0) (env 1)) noHp fun v19_2 =>
  K (((env.set 17 (env 0)).set 18 (env 1)).set 19 v19_2) h
@[congr] theorem cmp_Compare_uint16_r11_congr {env : Env} {h : Hp} {K : Env → Hp → Prop} : cmp_Compare_uint16_r11 env h K = cmp_Compare_uint16_r11 env h K := rfl

/-- cmp.go:56 -/
def cmp_Compare_uint16_r12 (env : Env) (h : Hp) (K : Env → Hp → Prop) : Prop :=
  K (env.set 4 (Go.Value.int Go.IntKind.i64 1)) h
@[congr] theorem cmp_Compare_uint16_r12_congr {env : Env} {h : Hp} {K : Env → Hp → Prop} : cmp_Compare_uint16_r12 env h K = cmp_Compare_uint16_r12 env h K := rfl

/-- cmp.go:58 -/
def cmp_Compare_uint16_r13 (env : Env) (h : Hp) (K : Env → Hp → Prop) : Prop :=
  K (env.set 4 (Go.Value.int Go.IntKind.i64 0)) h
@[congr] theorem cmp_Compare_uint16_r13_congr {env : Env} {h : Hp} {K : Env → Hp → Prop} : cmp_Compare_uint16_r13 env h K = cmp_Compare_uint16_r13 env h K := rfl

def cmp_Compare_uint16_D : Den := (sq (rg cmp_Compare_uint16_r0) (sq (rg cmp_Compare_uint16_r1) (sq (rg cmp_Compare_uint16_r2) (sq (sq (rg cmp_Compare_uint16_r3) (cnd (Go.Operand.tmp 11) (sq (sq (rg cmp_Compare_uint16_r4) (cnd (Go.Operand.tmp 12) (sq (rg cmp_Compare_uint16_r5) (ex .ret)) (ex .normal))) (sq (rg cmp_Compare_uint16_r6) (ex .ret))) (ex .normal))) (sq (sq (rg cmp_Compare_uint16_r7) (cnd (Go.Operand.tmp 13) (sq (rg cmp_Compare_uint16_r8) (ex .ret)) (ex .normal))) (sq (sq (rg cmp_Compare_uint16_r9) (cnd (Go.Operand.tmp 16) (sq (rg cmp_Compare_uint16_r10) (ex .ret)) (ex .normal))) (sq (sq (rg cmp_Compare_uint16_r11) (cnd (Go.Operand.tmp 19) (sq (rg cmp_Compare_uint16_r12) (ex .ret)) (ex .normal))) (sq (rg cmp_Compare_uint16_r13) (ex .ret)))))))))

theorem cmp_Compare_uint16_eq : (den Try.prog 20 cmp_Compare_uint16_code).1 = cmp_Compare_uint16_D := by kernel_rfl

theorem cmp_Compare_uint16_ok {args : Array Value} {h : Hp} {Q : Value → Hp → Prop} (hn : args.size ≤ 20) (D : cmp_Compare_uint16_D (fin Try.prog [(Go.ResultVar.tmp 4)] Q) (env0 args) h) : Ok Try.prog 50 args h Q :=
  ok_of_den progIsOk Try.func50 (c := cmp_Compare_uint16_code) (by kernel_rfl) hn (by show (den Try.prog 20 cmp_Compare_uint16_code).1 _ _ _; rw [cmp_Compare_uint16_eq]; exact D)

/-! ### (*octroi/trie.Trie).find: function 51 -/
noncomputable def trie_Trie_find_code : Code := match Try.f51.body with | some c => c | none => .skip

/-- trie.go:54 -/
def trie_Trie_find_r0 (env : Env) (h : Hp) (K : Env → Hp → Prop) : Prop :=
  arun Try.prog (Instr.box 24 (env 1)) h fun v3_0 h1 =>
  K ((env.set 3 v3_0).set 4 (Go.Value.pointer none)) h1
@[congr] theorem trie_Trie_find_r0_congr {env : Env} {h : Hp} {K : Env → Hp → Prop} : trie_Trie_find_r0 env h K = trie_Trie_find_r0 env h K := rfl

/-- trie.go:55 -/
def trie_Trie_find_r1 (env : Env) (h : Hp) (K : Env → Hp → Prop) : Prop :=
  rd Try.prog (Instr.loadAt 24 (env 3)) h fun v7_0 =>
  Ok Try.prog 45 #[v7_0] h fun v8_1 h1 =>
  rd Try.prog (Op.unary Go.UnOp.not v8_1) noHp fun v9_2 =>
  K (((env.set 7 v7_0).set 8 v8_1).set 9 v9_2) h1
@[congr] theorem trie_Trie_find_r1_congr {env : Env} {h : Hp} {K : Env → Hp → Prop} : trie_Trie_find_r1 env h K = trie_Trie_find_r1 env h K := rfl

/-- trie.go:56 -/
def trie_Trie_find_r2 (env : Env) (h : Hp) (K : Env → Hp → Prop) : Prop :=
  K (env.set 4 (Go.Value.pointer none)) h
@[congr] theorem trie_Trie_find_r2_congr {env : Env} {h : Hp} {K : Env → Hp → Prop} : trie_Trie_find_r2 env h K = trie_Trie_find_r2 env h K := rfl

/-- trie.go:58 -/
def trie_Trie_find_r3 (env : Env) (h : Hp) (K : Env → Hp → Prop) : Prop :=
  rd Try.prog (Instr.loadAt 24 (env 3)) h fun v12_1 =>
  Ok Try.prog 52 #[(env 0), v12_1, (Go.Value.bool false)] h fun v13_2 h1 =>
  rd Try.prog (Instr.extract v13_2 0) noHp fun v14_4 =>
  rd Try.prog (Instr.extract v13_2 1) noHp fun v15_5 =>
  K ((((((((env.set 11 (env 0)).set 12 v12_1).set 13 v13_2).set 10 v13_2).set 14 v14_4).set 15 v15_5).set 5 v14_4).set 6 v15_5) h1
@[congr] theorem trie_Trie_find_r3_congr {env : Env} {h : Hp} {K : Env → Hp → Prop} : trie_Trie_find_r3 env h K = trie_Trie_find_r3 env h K := rfl

/-- trie.go:59 -/
def trie_Trie_find_r4 (env : Env) (h : Hp) (K : Env → Hp → Prop) : Prop :=
  rd Try.prog (Op.unary Go.UnOp.not (env 6)) noHp fun v17_1 =>
  gd (yb v17_1 == some false) (fun h k => k (env 0) h) h fun v19_3 h1 =>
  gd (yb v17_1 == some false) (fun h k => nck v19_3 (k v19_3 h)) h1 fun v20_4 h2 =>
  gd (yb v17_1 == some false) (fun h k => rd Try.prog (Instr.fieldAt 82 v20_4 2) noHp fun v => k v h) h2 fun v21_5 h3 =>
  gd (yb v17_1 == some false) (fun h k => rd Try.prog (Instr.loadAt 80 v21_5) h fun v => k v h) h3 fun v22_6 h4 =>
  gd (yb v17_1 == some false) (fun h k => k (env 5) h) h4 fun v23_7 h5 =>
  gd (yb v17_1 == some false) (fun h k => rd Try.prog (Instr.indexAt 80 v22_6 v23_7) noHp fun v => k v h) h5 fun v24_8 h6 =>
  gd (yb v17_1 == some false) (fun h k => rd Try.prog (Instr.fieldAt 87 v24_8 2) noHp fun v => k v h) h6 fun v25_9 h7 =>
  gd (yb v17_1 == some false) (fun h k => rd Try.prog (Instr.loadAt 4 v25_9) h fun v => k v h) h7 fun v26_10 h8 =>
  gd (yb v17_1 == some false) (fun h k => rd Try.prog (Op.unary Go.UnOp.not v26_10) noHp fun v => k v h) h8 fun v27_11 h9 =>
  rd Try.prog (pck v17_1 (Go.Value.bool true) v27_11) noHp fun v28_12 =>
  K (((((((((((((env.set 16 (env 6)).set 17 v17_1).set 18 v17_1).set 19 v19_3).set 20 v20_4).set 21 v21_5).set 22 v22_6).set 23 v23_7).set 24 v24_8).set 25 v25_9).set 26 v26_10).set 27 v27_11).set 28 v28_12) h9
@[congr] theorem trie_Trie_find_r4_congr {env : Env} {h : Hp} {K : Env → Hp → Prop} : trie_Trie_find_r4 env h K = trie_Trie_find_r4 env h K := rfl

/-- trie.go:60 -/
def trie_Trie_find_r5 (env : Env) (h : Hp) (K : Env → Hp → Prop) : Prop :=
  K (env.set 4 (Go.Value.pointer none)) h
@[congr] theorem trie_Trie_find_r5_congr {env : Env} {h : Hp} {K : Env → Hp → Prop} : trie_Trie_find_r5 env h K = trie_Trie_find_r5 env h K := rfl

/-- trie.go:62 -/
def trie_Trie_find_r6 (env : Env) (h : Hp) (K : Env → Hp → Prop) : Prop :=
  nck (env 0) (
  rd Try.prog (Instr.fieldAt 82 (env 0) 2) noHp fun v31_2 =>
  rd Try.prog (Instr.loadAt 80 v31_2) h fun v32_3 =>
  rd Try.prog (Instr.indexAt 80 v32_3 (env 5)) noHp fun v34_5 =>
  K (((((((env.set 29 (env 0)).set 30 (env 0)).set 31 v31_2).set 32 v32_3).set 33 (env 5)).set 34 v34_5).set 4 v34_5) h)
@[congr] theorem trie_Trie_find_r6_congr {env : Env} {h : Hp} {K : Env → Hp → Prop} : trie_Trie_find_r6 env h K = trie_Trie_find_r6 env h K := rfl

def trie_Trie_find_D : Den := (sq (rg trie_Trie_find_r0) (sq (sq (rg trie_Trie_find_r1) (cnd (Go.Operand.tmp 9) (sq (rg trie_Trie_find_r2) (ex .ret)) (ex .normal))) (sq (rg trie_Trie_find_r3) (sq (sq (rg trie_Trie_find_r4) (cnd (Go.Operand.tmp 28) (sq (rg trie_Trie_find_r5) (ex .ret)) (ex .normal))) (sq (rg trie_Trie_find_r6) (ex .ret))))))

theorem trie_Trie_find_eq : (den Try.prog 35 trie_Trie_find_code).1 = trie_Trie_find_D := by kernel_rfl

theorem trie_Trie_find_ok {args : Array Value} {h : Hp} {Q : Value → Hp → Prop} (hn : args.size ≤ 35) (D : trie_Trie_find_D (fin Try.prog [(Go.ResultVar.tmp 4)] Q) (env0 args) h) : Ok Try.prog 51 args h Q :=
  ok_of_den progIsOk Try.func51 (c := trie_Trie_find_code) (by kernel_rfl) hn (by show (den Try.prog 35 trie_Trie_find_code).1 _ _ _; rw [trie_Trie_find_eq]; exact D)

/-! ### (*octroi/trie.Trie).walk: function 52 -/
noncomputable def trie_Trie_walk_code : Code := match Try.f52.body with | some c => c | none => .skip

/-- trie.go:34 -/
def trie_Trie_walk_r0 (env : Env) (h : Hp) (K : Env → Hp → Prop) : Prop :=
  arun Try.prog (Instr.box 24 (env 1)) h fun v4_0 h1 =>
  K (((env.set 4 v4_0).set 6 (Go.Value.int Go.IntKind.i64 0)).set 7 (Go.Value.bool false)) h1
@[congr] theorem trie_Trie_walk_r0_congr {env : Env} {h : Hp} {K : Env → Hp → Prop} : trie_Trie_walk_r0 env h K = trie_Trie_walk_r0 env h K := rfl

/-- trie.go:35 -/
def trie_Trie_walk_r1 (env : Env) (h : Hp) (K : Env → Hp → Prop) : Prop :=
  K ((env.set 8 (Go.Value.int Go.IntKind.i64 0)).set 9 (Go.Value.int Go.IntKind.i64 0)) h
@[congr] theorem trie_Trie_walk_r1_congr {env : Env} {h : Hp} {K : Env → Hp → Prop} : trie_Trie_walk_r1 env h K = trie_Trie_walk_r1 env h K := rfl

/-- trie.go:37 -/
def trie_Trie_walk_r2 (env : Env) (h : Hp) (K : Env → Hp → Prop) : Prop :=
  rd Try.prog (Instr.fieldAt 24 (env 4) 1) noHp fun v12_1 =>
  rd Try.prog (Instr.loadAt 3 v12_1) h fun v13_2 =>
  rd Try.prog (bop Go.BinOp.eql 3 (Go.Operand.tmp 11) (Go.Operand.tmp 13) (env 9) v13_2) noHp fun v14_3 =>
  K ((((env.set 11 (env 9)).set 12 v12_1).set 13 v13_2).set 14 v14_3) h
@[congr] theorem trie_Trie_walk_r2_congr {env : Env} {h : Hp} {K : Env → Hp → Prop} : trie_Trie_walk_r2 env h K = trie_Trie_walk_r2 env h K := rfl

/-- trie.go:38 -/
def trie_Trie_walk_r3 (env : Env) (h : Hp) (K : Env → Hp → Prop) : Prop :=
  K (((env.set 15 (env 8)).set 6 (env 8)).set 7 (Go.Value.bool true)) h
@[congr] theorem trie_Trie_walk_r3_congr {env : Env} {h : Hp} {K : Env → Hp → Prop} : trie_Trie_walk_r3 env h K = trie_Trie_walk_r3 env h K := rfl

/-- trie.go:40 -/
def trie_Trie_walk_r4 (env : Env) (h : Hp) (K : Env → Hp → Prop) : Prop :=
  rd Try.prog (Instr.fieldAt 24 (env 4) 0) noHp fun v16_0 =>
  rd Try.prog (Instr.loadAt 22 v16_0) h fun v17_1 =>
  Ok Try.prog 54 #[v17_1, (env 9)] h fun v19_3 h1 =>
  K (((((env.set 16 v16_0).set 17 v17_1).set 18 (env 9)).set 19 v19_3).set 10 v19_3) h1
@[congr] theorem trie_Trie_walk_r4_congr {env : Env} {h : Hp} {K : Env → Hp → Prop} : trie_Trie_walk_r4 env h K = trie_Trie_walk_r4 env h K := rfl

/-- trie.go:41 -/
def trie_Trie_walk_r5 (env : Env) (h : Hp) (K : Env → Hp → Prop) : Prop :=
  nck (env 0) (
  rd Try.prog (Instr.fieldAt 82 (env 0) 2) noHp fun v22_2 =>
  rd Try.prog (Instr.loadAt 80 v22_2) h fun v23_3 =>
  rd Try.prog (Instr.indexAt 80 v23_3 (env 8)) noHp fun v26_6 =>
  rd Try.prog (Instr.fieldAt 87 v26_6 0) noHp fun v27_7 =>
  rd Try.prog (Instr.indexAt 85 v27_7 (env 10)) noHp fun v28_8 =>
  rd Try.prog (Instr.loadAt 3 v28_8) h fun v29_9 =>
  rd Try.prog (bop Go.BinOp.eql 3 (Go.Operand.tmp 29) (Go.Operand.const (Go.Value.int Go.IntKind.i64 0)) v29_9 (Go.Value.int Go.IntKind.i64 0)) noHp fun v30_10 =>
  K (((((((((((env.set 20 (env 0)).set 21 (env 0)).set 22 v22_2).set 23 v23_3).set 24 (env 8)).set 25 (env 10)).set 26 v26_6).set 27 v27_7).set 28 v28_8).set 29 v29_9).set 30 v30_10) h)
@[congr] theorem trie_Trie_walk_r5_congr {env : Env} {h : Hp} {K : Env → Hp → Prop} : trie_Trie_walk_r5 env h K = trie_Trie_walk_r5 env h K := rfl

/-- trie.go:42 -/
def trie_Trie_walk_r6 (env : Env) (h : Hp) (K : Env → Hp → Prop) : Prop :=
  rd Try.prog (Op.unary Go.UnOp.not (env 2)) noHp fun v32_1 =>
  K ((env.set 31 (env 2)).set 32 v32_1) h
@[congr] theorem trie_Trie_walk_r6_congr {env : Env} {h : Hp} {K : Env → Hp → Prop} : trie_Trie_walk_r6 env h K = trie_Trie_walk_r6 env h K := rfl

/-- trie.go:43 -/
def trie_Trie_walk_r7 (env : Env) (h : Hp) (K : Env → Hp → Prop) : Prop :=
  K ((env.set 6 (Go.Value.int Go.IntKind.i64 0)).set 7 (Go.Value.bool false)) h
@[congr] theorem trie_Trie_walk_r7_congr {env : Env} {h : Hp} {K : Env → Hp → Prop} : trie_Trie_walk_r7 env h K = trie_Trie_walk_r7 env h K := rfl

/-- trie.go:45 -/
def trie_Trie_walk_r8 (env : Env) (h : Hp) (K : Env → Hp → Prop) : Prop :=
  nck (env 0) (
  rd Try.prog (Instr.fieldAt 82 (env 0) 2) noHp fun v36_3 =>
  rd Try.prog (Instr.loadAt 80 v36_3) h fun v37_4 =>
  rd Try.prog (Instr.build 87 #[]) noHp fun v38_5 =>
  arun Try.prog (Instr.buildSlice 80 1 #[(0, v38_5)]) h fun v39_6 h1 =>
  arun Try.prog (Builtin.append_ #[80, 80] 80 #[v37_4, v39_6]) h1 fun v40_7 h2 =>
  nck (env 0) (
  rd Try.prog (Instr.fieldAt 82 (env 0) 2) noHp fun v42_9 =>
  arun Try.prog (Instr.storeAt 80 v42_9 v40_7) h2 fun _ h3 =>
  K ((((((((((env.set 33 (env 0)).set 34 (env 0)).set 35 (env 0)).set 36 v36_3).set 37 v37_4).set 38 v38_5).set 39 v39_6).set 40 v40_7).set 41 (env 0)).set 42 v42_9) h3))
@[congr] theorem trie_Trie_walk_r8_congr {env : Env} {h : Hp} {K : Env → Hp → Prop} : trie_Trie_walk_r8 env h K = trie_Trie_walk_r8 env h K := rfl

/-- trie.go:46 (in any order) -/
def trie_Trie_walk_r9 (env : Env) (h : Hp) (K : Env → Hp → Prop) : Prop :=
  nck (env 0) (
  rd Try.prog (Instr.fieldAt 82 (env 0) 2) noHp fun v45_2 =>
  rd Try.prog (Instr.loadAt 80 v45_2) h fun v46_3 =>
  nck (env 0) (
  rd Try.prog (Instr.fieldAt 82 (env 0) 2) noHp fun v51_8 =>
  rd Try.prog (Instr.loadAt 80 v51_8) h fun v52_9 =>
  rd Try.prog (Builtin.len_ #[80] 3 #[v52_9]) h fun v53_10 =>
  rd Try.prog (bop Go.BinOp.sub 3 (Go.Operand.tmp 53) (Go.Operand.const (Go.Value.int Go.IntKind.i64 1)) v53_10 (Go.Value.int Go.IntKind.i64 1)) noHp fun v54_11 =>
  rd Try.prog (Instr.indexAt 80 v46_3 (env 8)) noHp fun v55_12 =>
  rd Try.prog (Instr.fieldAt 87 v55_12 0) noHp fun v56_13 =>
  rd Try.prog (Instr.indexAt 85 v56_13 (env 10)) noHp fun v57_14 =>
  arun Try.prog (Instr.storeAt 3 v57_14 v54_11) h fun _ h1 =>
  (True) ∧
  K (((((((((((((((env.set 43 (env 0)).set 44 (env 0)).set 45 v45_2).set 46 v46_3).set 47 (env 8)).set 48 (env 10)).set 49 (env 0)).set 50 (env 0)).set 51 v51_8).set 52 v52_9).set 53 v53_10).set 54 v54_11).set 55 v55_12).set 56 v56_13).set 57 v57_14) h1))
@[congr] theorem trie_Trie_walk_r9_congr {env : Env} {h : Hp} {K : Env → Hp → Prop} : trie_Trie_walk_r9 env h K = trie_Trie_walk_r9 env h K := rfl

/-- trie.go:48 -/
def trie_Trie_walk_r10 (env : Env) (h : Hp) (K : Env → Hp → Prop) : Prop :=
  nck (env 0) (
  rd Try.prog (Instr.fieldAt 82 (env 0) 2) noHp fun v60_2 =>
  rd Try.prog (Instr.loadAt 80 v60_2) h fun v61_3 =>
  rd Try.prog (Instr.indexAt 80 v61_3 (env 8)) noHp fun v64_6 =>
  rd Try.prog (Instr.fieldAt 87 v64_6 0) noHp fun v65_7 =>
  rd Try.prog (Instr.indexAt 85 v65_7 (env 10)) noHp fun v66_8 =>
  rd Try.prog (Instr.loadAt 3 v66_8) h fun v67_9 =>
  K (((((((((((env.set 58 (env 0)).set 59 (env 0)).set 60 v60_2).set 61 v61_3).set 62 (env 8)).set 63 (env 10)).set 64 v64_6).set 65 v65_7).set 66 v66_8).set 67 v67_9).set 8 v67_9) h)
@[congr] theorem trie_Trie_walk_r10_congr {env : Env} {h : Hp} {K : Env → Hp → Prop} : trie_Trie_walk_r10 env h K = trie_Trie_walk_r10 env h K := rfl

/-- trie.go:49 -/
def trie_Trie_walk_r11 (env : Env) (h : Hp) (K : Env → Hp → Prop) : Prop :=
  rd Try.prog (bop Go.BinOp.add 3 (Go.Operand.tmp 68) (Go.Operand.const (Go.Value.int Go.IntKind.i64 1)) (env 9) (Go.Value.int Go.IntKind.i64 1)) noHp fun v69_1 =>
  K (((env.set 68 (env 9)).set 69 v69_1).set 9 v69_1) h
@[congr] theorem trie_Trie_walk_r11_congr {env : Env} {h : Hp} {K : Env → Hp → Prop} : trie_Trie_walk_r11 env h K = trie_Trie_walk_r11 env h K := rfl

def trie_Trie_walk_S0 : Den := (sq (rg trie_Trie_walk_r1) (sq (ex .normal) (sq (sq (rg trie_Trie_walk_r2) (cnd (Go.Operand.tmp 14) (sq (rg trie_Trie_walk_r3) (ex .ret)) (ex .normal))) (sq (rg trie_Trie_walk_r4) (sq (sq (rg trie_Trie_walk_r5) (cnd (Go.Operand.tmp 30) (sq (sq (rg trie_Trie_walk_r6) (cnd (Go.Operand.tmp 32) (sq (rg trie_Trie_walk_r7) (ex .ret)) (ex .normal))) (sq (rg trie_Trie_walk_r8) (rg trie_Trie_walk_r9))) (ex .normal))) (sq (rg trie_Trie_walk_r10) (sq (rg trie_Trie_walk_r11) (ex (.goto 0)))))))))

noncomputable def trie_Trie_walk_S0_code : Code := subCode [1, 0] trie_Trie_walk_code

def trie_Trie_walk_S0_at0 : Den := (sq (ex .normal) (sq (sq (rg trie_Trie_walk_r2) (cnd (Go.Operand.tmp 14) (sq (rg trie_Trie_walk_r3) (ex .ret)) (ex .normal))) (sq (rg trie_Trie_walk_r4) (sq (sq (rg trie_Trie_walk_r5) (cnd (Go.Operand.tmp 30) (sq (sq (rg trie_Trie_walk_r6) (cnd (Go.Operand.tmp 32) (sq (rg trie_Trie_walk_r7) (ex .ret)) (ex .normal))) (sq (rg trie_Trie_walk_r8) (rg trie_Trie_walk_r9))) (ex .normal))) (sq (rg trie_Trie_walk_r10) (sq (rg trie_Trie_walk_r11) (ex (.goto 0))))))))

theorem trie_Trie_walk_S0_lab0 : (den Try.prog 70 trie_Trie_walk_S0_code).2 0 = some trie_Trie_walk_S0_at0 := by kernel_rfl

def trie_Trie_walk_D : Den := (sq (rg trie_Trie_walk_r0) (scp trie_Trie_walk_S0 (den Try.prog 70 trie_Trie_walk_S0_code).2))

theorem trie_Trie_walk_eq : (den Try.prog 70 trie_Trie_walk_code).1 = trie_Trie_walk_D := by kernel_rfl

theorem trie_Trie_walk_ok {args : Array Value} {h : Hp} {Q : Value → Hp → Prop} (hn : args.size ≤ 70) (D : trie_Trie_walk_D (fin Try.prog [(Go.ResultVar.tmp 6), (Go.ResultVar.tmp 7)] Q) (env0 args) h) : Ok Try.prog 52 args h Q :=
  ok_of_den progIsOk Try.func52 (c := trie_Trie_walk_code) (by kernel_rfl) hn (by show (den Try.prog 70 trie_Trie_walk_code).1 _ _ _; rw [trie_Trie_walk_eq]; exact D)

/-! ### (*octroi/trie.Trie).gather: function 53 -/
noncomputable def trie_Trie_gather_code : Code := match Try.f53.body with | some c => c | none => .skip

/-- trie.go:120 -/
def trie_Trie_gather_r0 (env : Env) (h : Hp) (K : Env → Hp → Prop) : Prop :=
  arun Try.prog (Instr.box 24 (env 3)) h fun v7_0 h1 =>
  K ((env.set 7 v7_0).set 8 (Go.Value.slice none 0 0)) h1
@[congr] theorem trie_Trie_gather_r0_congr {env : Env} {h : Hp} {K : Env → Hp → Prop} : trie_Trie_gather_r0 env h K = trie_Trie_gather_r0 env h K := rfl

/-- trie.go:121 -/
def trie_Trie_gather_r1 (env : Env) (h : Hp) (K : Env → Hp → Prop) : Prop :=
  nck (env 0) (
  rd Try.prog (Instr.fieldAt 82 (env 0) 2) noHp fun v14_2 =>
  rd Try.prog (Instr.loadAt 80 v14_2) h fun v15_3 =>
  rd Try.prog (Instr.indexAt 80 v15_3 (env 2)) noHp fun v17_5 =>
  rd Try.prog (Instr.loadAt 87 v17_5) h fun v18_6 =>
  arun Try.prog (Instr.alloc 87 true (Go.Value.tuple #[])) h fun v9_7 h1 =>
  arun Try.prog (Instr.storeAt 87 v9_7 v18_6) h1 fun _ h2 =>
  K ((((((((env.set 12 (env 0)).set 13 (env 0)).set 14 v14_2).set 15 v15_3).set 16 (env 2)).set 17 v17_5).set 18 v18_6).set 9 v9_7) h2)
@[congr] theorem trie_Trie_gather_r1_congr {env : Env} {h : Hp} {K : Env → Hp → Prop} : trie_Trie_gather_r1 env h K = trie_Trie_gather_r1 env h K := rfl

/-- trie.go:122 -/
def trie_Trie_gather_r2 (env : Env) (h : Hp) (K : Env → Hp → Prop) : Prop :=
  rd Try.prog (Instr.fieldAt 87 (env 9) 2) noHp fun v19_0 =>
  rd Try.prog (Instr.loadAt 4 v19_0) h fun v20_1 =>
  K ((env.set 19 v19_0).set 20 v20_1) h
@[congr] theorem trie_Trie_gather_r2_congr {env : Env} {h : Hp} {K : Env → Hp → Prop} : trie_Trie_gather_r2 env h K = trie_Trie_gather_r2 env h K := rfl

/-- trie.go:123 -/
def trie_Trie_gather_r3 (env : Env) (h : Hp) (K : Env → Hp → Prop) : Prop :=
  rd Try.prog (Instr.loadAt 24 (env 7)) h fun v22_1 =>
  arun Try.prog (Instr.buildSlice 68 1 #[(0, v22_1)]) h fun v23_2 h1 =>
  arun Try.prog (Builtin.append_ #[68, 68] 68 #[(env 1), v23_2]) h1 fun v24_3 h2 =>
  K (((((env.set 21 (env 1)).set 22 v22_1).set 23 v23_2).set 24 v24_3).set 1 v24_3) h2
@[congr] theorem trie_Trie_gather_r3_congr {env : Env} {h : Hp} {K : Env → Hp → Prop} : trie_Trie_gather_r3 env h K = trie_Trie_gather_r3 env h K := rfl

/-- trie.go:125 -/
def trie_Trie_gather_r4 (env : Env) (h : Hp) (K : Env → Hp → Prop) : Prop :=
  rd Try.prog (Instr.fieldAt 87 (env 9) 0) noHp fun v25_0 =>
  rd Try.prog (Instr.loadAt 85 v25_0) h fun v26_1 =>
  K (((env.set 25 v25_0).set 26 v26_1).set 27 (Go.Value.int Go.IntKind.i64 0)) h
@[congr] theorem trie_Trie_gather_r4_congr {env : Env} {h : Hp} {K : Env → Hp → Prop} : trie_Trie_gather_r4 env h K = trie_Trie_gather_r4 env h K := rfl

/-- trie.go:125 -/
def trie_Trie_gather_r5 (env : Env) (h : Hp) (K : Env → Hp → Prop) : Prop :=
  rd Try.prog (bop Go.BinOp.lss 3 (Go.Operand.tmp 27) (Go.Operand.const (Go.Value.int Go.IntKind.i64 2)) (env 27) (Go.Value.int Go.IntKind.i64 2)) noHp fun v28_0 =>
  K (env.set 28 v28_0) h
@[congr] theorem trie_Trie_gather_r5_congr {env : Env} {h : Hp} {K : Env → Hp → Prop} : trie_Trie_gather_r5 env h K = trie_Trie_gather_r5 env h K := rfl

/-- trie.go:125 -/
def trie_Trie_gather_r6 (env : Env) (h : Hp) (K : Env → Hp → Prop) : Prop :=
  rd Try.prog (Instr.index 85 (env 26) (env 27)) noHp fun v30_1 =>
  K ((((env.set 29 (env 27)).set 30 v30_1).set 10 (env 27)).set 11 v30_1) h
@[congr] theorem trie_Trie_gather_r6_congr {env : Env} {h : Hp} {K : Env → Hp → Prop} : trie_Trie_gather_r6 env h K = trie_Trie_gather_r6 env h K := rfl

/-- trie.go:126 -/
def trie_Trie_gather_r7 (env : Env) (h : Hp) (K : Env → Hp → Prop) : Prop :=
  rd Try.prog (bop Go.BinOp.neq 3 (Go.Operand.tmp 31) (Go.Operand.const (Go.Value.int Go.IntKind.i64 0)) (env 11) (Go.Value.int Go.IntKind.i64 0)) noHp fun v32_1 =>
  K ((env.set 31 (env 11)).set 32 v32_1) h
@[congr] theorem trie_Trie_gather_r7_congr {env : Env} {h : Hp} {K : Env → Hp → Prop} : trie_Trie_gather_r7 env h K = trie_Trie_gather_r7 env h K := rfl

/-- trie.go:127 (in any order) -/
def trie_Trie_gather_r8 (env : Env) (h : Hp) (K : Env → Hp → Prop) : Prop :=
  rd Try.prog (Instr.fieldAt 24 (env 7) 0) noHp fun v36_3 =>
  rd Try.prog (Instr.loadAt 22 v36_3) h fun v37_4 =>
  rd Try.prog (convert 3 22 (env 10)) noHp fun v39_6 =>
  rd Try.prog (Instr.fieldAt 24 (env 7) 1) noHp fun v40_7 =>
  rd Try.prog (Instr.loadAt 3 v40_7) h fun v41_8 =>
  rd Try.prog (bop Go.BinOp.sub 3 (Go.Operand.const (Go.Value.int Go.IntKind.i64 31)) (Go.Operand.tmp 41) (Go.Value.int Go.IntKind.i64 31) v41_8) noHp fun v42_9 =>
  rd Try.prog (bop Go.BinOp.shl 22 (Go.Operand.tmp 39) (Go.Operand.tmp 42) v39_6 v42_9) noHp fun v43_10 =>
  rd Try.prog (bop Go.BinOp.or 22 (Go.Operand.tmp 37) (Go.Operand.tmp 43) v37_4 v43_10) noHp fun v44_11 =>
  rd Try.prog (Instr.fieldAt 24 (env 7) 1) noHp fun v45_12 =>
  rd Try.prog (Instr.loadAt 3 v45_12) h fun v46_13 =>
  rd Try.prog (bop Go.BinOp.add 3 (Go.Operand.tmp 46) (Go.Operand.const (Go.Value.int Go.IntKind.i64 1)) v46_13 (Go.Value.int Go.IntKind.i64 1)) noHp fun v47_14 =>
  rd Try.prog (Instr.build 24 #[(0, v44_11), (1, v47_14)]) noHp fun v48_15 =>
  Ok Try.prog 53 #[(env 0), (env 1), (env 11), v48_15] h fun v49_16 h1 =>
  (True) ∧
  K ((((((((((((((((((env.set 33 (env 0)).set 34 (env 1)).set 35 (env 11)).set 36 v36_3).set 37 v37_4).set 38 (env 10)).set 39 v39_6).set 40 v40_7).set 41 v41_8).set 42 v42_9).set 43 v43_10).set 44 v44_11).set 45 v45_12).set 46 v46_13).set 47 v47_14).set 48 v48_15).set 49 v49_16).set 1 v49_16) h1
@[congr] theorem trie_Trie_gather_r8_congr {env : Env} {h : Hp} {K : Env → Hp → Prop} : trie_Trie_gather_r8 env h K = trie_Trie_gather_r8 env h K := rfl

/-- trie.go:125 -/
def trie_Trie_gather_r9 (env : Env) (h : Hp) (K : Env → Hp → Prop) : Prop :=
  rd Try.prog (bop Go.BinOp.add 3 (Go.Operand.tmp 27) (Go.Operand.const (Go.Value.int Go.IntKind.i64 1)) (env 27) (Go.Value.int Go.IntKind.i64 1)) noHp fun v50_0 =>
  K ((env.set 50 v50_0).set 27 v50_0) h
@[congr] theorem trie_Trie_gather_r9_congr {env : Env} {h : Hp} {K : Env → Hp → Prop} : trie_Trie_gather_r9 env h K = trie_Trie_gather_r9 env h K := rfl

def trie_Trie_gather_L0 : Den := (sq (rg trie_Trie_gather_r5) (sq (cnd (Go.Operand.tmp 28) (ex .normal) (ex (.exit 0))) (sq (blk 1 (sq (rg trie_Trie_gather_r6) (sq (rg trie_Trie_gather_r7) (cnd (Go.Operand.tmp 32) (rg trie_Trie_gather_r8) (ex .normal))))) (rg trie_Trie_gather_r9))))

/-- trie.go:130 -/
def trie_Trie_gather_r10 (env : Env) (h : Hp) (K : Env → Hp → Prop) : Prop :=
  K ((env.set 51 (env 1)).set 8 (env 1)) h
@[congr] theorem trie_Trie_gather_r10_congr {env : Env} {h : Hp} {K : Env → Hp → Prop} : trie_Trie_gather_r10 env h K = trie_Trie_gather_r10 env h K := rfl

def trie_Trie_gather_D : Den := (sq (rg trie_Trie_gather_r0) (sq (rg trie_Trie_gather_r1) (sq (sq (rg trie_Trie_gather_r2) (cnd (Go.Operand.tmp 20) (rg trie_Trie_gather_r3) (ex .normal))) (sq (sq (rg trie_Trie_gather_r4) (blk 0 (lp trie_Trie_gather_L0))) (sq (rg trie_Trie_gather_r10) (ex .ret))))))

theorem trie_Trie_gather_eq : (den Try.prog 52 trie_Trie_gather_code).1 = trie_Trie_gather_D := by kernel_rfl

theorem trie_Trie_gather_ok {args : Array Value} {h : Hp} {Q : Value → Hp → Prop} (hn : args.size ≤ 52) (D : trie_Trie_gather_D (fin Try.prog [(Go.ResultVar.tmp 8)] Q) (env0 args) h) : Ok Try.prog 53 args h Q :=
  ok_of_den progIsOk Try.func53 (c := trie_Trie_gather_code) (by kernel_rfl) hn (by show (den Try.prog 52 trie_Trie_gather_code).1 _ _ _; rw [trie_Trie_gather_eq]; exact D)

/-! ### octroi/trie.bit: function 54 -/
noncomputable def trie_bit_code : Code := match Try.f54.body with | some c => c | none => .skip

/-- trie.go:31 -/
def trie_bit_r0 (env : Env) (h : Hp) (K : Env → Hp → Prop) : Prop :=
  K (env.set 4 (Go.Value.int Go.IntKind.i64 0)) h
@[congr] theorem trie_bit_r0_congr {env : Env} {h : Hp} {K : Env → Hp → Prop} : trie_bit_r0 env h K = trie_bit_r0 env h K := rfl

/-- trie.go:31 -/
def trie_bit_r1 (env : Env) (h : Hp) (K : Env → Hp → Prop) : Prop :=
  rd Try.prog (bop Go.BinOp.sub 3 (Go.Operand.const (Go.Value.int Go.IntKind.i64 31)) (Go.Operand.tmp 6) (Go.Value.int Go.IntKind.i64 31) (env 1)) noHp fun v7_2 =>
  rd Try.prog (bop Go.BinOp.shr 22 (Go.Operand.tmp 5) (Go.Operand.tmp 7) (env 0) v7_2) noHp fun v8_3 =>
  rd Try.prog (bop Go.BinOp.and 22 (Go.Operand.tmp 8) (Go.Operand.const (Go.Value.int Go.IntKind.u32 1)) v8_3 (Go.Value.int Go.IntKind.u32 1)) noHp fun v9_4 =>
  rd Try.prog (convert 22 3 v9_4) noHp fun v10_5 =>
  K (((((((env.set 5 (env 0)).set 6 (env 1)).set 7 v7_2).set 8 v8_3).set 9 v9_4).set 10 v10_5).set 4 v10_5) h
@[congr] theorem trie_bit_r1_congr {env : Env} {h : Hp} {K : Env → Hp → Prop} : trie_bit_r1 env h K = trie_bit_r1 env h K := rfl

def trie_bit_D : Den := (sq (rg trie_bit_r0) (sq (rg trie_bit_r1) (ex .ret)))

theorem trie_bit_eq : (den Try.prog 11 trie_bit_code).1 = trie_bit_D := by kernel_rfl

theorem trie_bit_ok {args : Array Value} {h : Hp} {Q : Value → Hp → Prop} (hn : args.size ≤ 11) (D : trie_bit_D (fin Try.prog [(Go.ResultVar.tmp 4)] Q) (env0 args) h) : Ok Try.prog 54 args h Q :=
  ok_of_den progIsOk Try.func54 (c := trie_bit_code) (by kernel_rfl) hn (by show (den Try.prog 11 trie_bit_code).1 _ _ _; rw [trie_bit_eq]; exact D)

/-! ### octroi/octroiref02.Less: function 55 -/
noncomputable def octroiref02_Less_code : Code := match Try.f55.body with | some c => c | none => .skip

/-- ref.go:54 -/
def octroiref02_Less_r0 (env : Env) (h : Hp) (K : Env → Hp → Prop) : Prop :=
  arun Try.prog (Instr.box 24 (env 0)) h fun v2_0 h1 =>
  arun Try.prog (Instr.box 24 (env 1)) h1 fun v3_1 h2 =>
  K (((env.set 2 v2_0).set 3 v3_1).set 4 (Go.Value.bool false)) h2
@[congr] theorem octroiref02_Less_r0_congr {env : Env} {h : Hp} {K : Env → Hp → Prop} : octroiref02_Less_r0 env h K = octroiref02_Less_r0 env h K := rfl

/-- ref.go:55 -/
def octroiref02_Less_r1 (env : Env) (h : Hp) (K : Env → Hp → Prop) : Prop :=
  rd Try.prog (Instr.fieldAt 24 (env 2) 0) noHp fun v5_0 =>
  rd Try.prog (Instr.loadAt 22 v5_0) h fun v6_1 =>
  rd Try.prog (Instr.fieldAt 24 (env 3) 0) noHp fun v7_2 =>
  rd Try.prog (Instr.loadAt 22 v7_2) h fun v8_3 =>
  rd Try.prog (bop Go.BinOp.lss 22 (Go.Operand.tmp 6) (Go.Operand.tmp 8) v6_1 v8_3) noHp fun v9_4 =>
  gd (yb v9_4 == some false) (fun h k => rd Try.prog (Instr.fieldAt 24 (env 2) 0) noHp fun v => k v h) h fun v11_6 h1 =>
  gd (yb v9_4 == some false) (fun h k => rd Try.prog (Instr.loadAt 22 v11_6) h fun v => k v h) h1 fun v12_7 h2 =>
  gd (yb v9_4 == some false) (fun h k => rd Try.prog (Instr.fieldAt 24 (env 3) 0) noHp fun v => k v h) h2 fun v13_8 h3 =>
  gd (yb v9_4 == some false) (fun h k => rd Try.prog (Instr.loadAt 22 v13_8) h fun v => k v h) h3 fun v14_9 h4 =>
  gd (yb v9_4 == some false) (fun h k => rd Try.prog (bop Go.BinOp.eql 22 (Go.Operand.tmp 12) (Go.Operand.tmp 14) v12_7 v14_9) noHp fun v => k v h) h4 fun v15_10 h5 =>
  gd (yb v9_4 == some false) (fun h k => k v15_10 h) h5 fun v16_11 h6 =>
  gd (yb v16_11 == some true) (fun h k => rd Try.prog (Instr.fieldAt 24 (env 2) 1) noHp fun v => k v h) h6 fun v17_12 h7 =>
  gd (yb v16_11 == some true) (fun h k => rd Try.prog (Instr.loadAt 3 v17_12) h fun v => k v h) h7 fun v18_13 h8 =>
  gd (yb v16_11 == some true) (fun h k => rd Try.prog (Instr.fieldAt 24 (env 3) 1) noHp fun v => k v h) h8 fun v19_14 h9 =>
  gd (yb v16_11 == some true) (fun h k => rd Try.prog (Instr.loadAt 3 v19_14) h fun v => k v h) h9 fun v20_15 h10 =>
  gd (yb v16_11 == some true) (fun h k => rd Try.prog (bop Go.BinOp.lss 3 (Go.Operand.tmp 18) (Go.Operand.tmp 20) v18_13 v20_15) noHp fun v => k v h) h10 fun v21_16 h11 =>
  gd (yb v9_4 == some false) (fun h k => rd Try.prog (pck v16_11 v21_16 (Go.Value.bool false)) noHp fun v => k v h) h11 fun v22_17 h12 =>
  rd Try.prog (pck v9_4 (Go.Value.bool true) v22_17) noHp fun v23_18 =>
  K ((((((((((((((((((((env.set 5 v5_0).set 6 v6_1).set 7 v7_2).set 8 v8_3).set 9 v9_4).set 10 v9_4).set 11 v11_6).set 12 v12_7).set 13 v13_8).set 14 v14_9).set 15 v15_10).set 16 v16_11).set 17 v17_12).set 18 v18_13).set 19 v19_14).set 20 v20_15).set 21 v21_16).set 22 v22_17).set 23 v23_18).set 4 v23_18) h12
@[congr] theorem octroiref02_Less_r1_congr {env : Env} {h : Hp} {K : Env → Hp → Prop} : octroiref02_Less_r1 env h K = octroiref02_Less_r1 env h K := rfl

def octroiref02_Less_D : Den := (sq (rg octroiref02_Less_r0) (sq (rg octroiref02_Less_r1) (ex .ret)))

theorem octroiref02_Less_eq : (den Try.prog 24 octroiref02_Less_code).1 = octroiref02_Less_D := by kernel_rfl

theorem octroiref02_Less_ok {args : Array Value} {h : Hp} {Q : Value → Hp → Prop} (hn : args.size ≤ 24) (D : octroiref02_Less_D (fin Try.prog [(Go.ResultVar.tmp 4)] Q) (env0 args) h) : Ok Try.prog 55 args h Q :=
  ok_of_den progIsOk Try.func55 (c := octroiref02_Less_code) (by kernel_rfl) hn (by show (den Try.prog 24 octroiref02_Less_code).1 _ _ _; rw [octroiref02_Less_eq]; exact D)

/-! ### cmp.Or[int]: function 56 -/
noncomputable def cmp_Or_int_code : Code := match Try.f56.body with | some c => c | none => .skip

/-- cmp.go:69 -/
def cmp_Or_int_r0 (env : Env) (h : Hp) (K : Env → Hp → Prop) : Prop :=
  K (env.set 2 (Go.Value.int Go.IntKind.i64 0)) h
@[congr] theorem cmp_Or_int_r0_congr {env : Env} {h : Hp} {K : Env → Hp → Prop} : cmp_Or_int_r0 env h K = cmp_Or_int_r0 env h K := rfl

/-- cmp.go:70 -/
def cmp_Or_int_r1 (env : Env) (h : Hp) (K : Env → Hp → Prop) : Prop :=
  K (env.set 3 (Go.Value.int Go.IntKind.i64 0)) h
@[congr] theorem cmp_Or_int_r1_congr {env : Env} {h : Hp} {K : Env → Hp → Prop} : cmp_Or_int_r1 env h K = cmp_Or_int_r1 env h K := rfl

/-- cmp.go:71 -/
def cmp_Or_int_r2 (env : Env) (h : Hp) (K : Env → Hp → Prop) : Prop :=
  rd Try.prog (Builtin.len_ #[92] 3 #[(env 0)]) h fun v7_1 =>
  K (((env.set 6 (env 0)).set 7 v7_1).set 8 (Go.Value.int Go.IntKind.i64 0)) h
@[congr] theorem cmp_Or_int_r2_congr {env : Env} {h : Hp} {K : Env → Hp → Prop} : cmp_Or_int_r2 env h K = cmp_Or_int_r2 env h K := rfl

/-- cmp.go:71 -/
def cmp_Or_int_r3 (env : Env) (h : Hp) (K : Env → Hp → Prop) : Prop :=
  rd Try.prog (bop Go.BinOp.lss 3 (Go.Operand.tmp 8) (Go.Operand.tmp 7) (env 8) (env 7)) noHp fun v9_0 =>
  K (env.set 9 v9_0) h
@[congr] theorem cmp_Or_int_r3_congr {env : Env} {h : Hp} {K : Env → Hp → Prop} : cmp_Or_int_r3 env h K = cmp_Or_int_r3 env h K := rfl

/-- cmp.go:71 -/
def cmp_Or_int_r4 (env : Env) (h : Hp) (K : Env → Hp → Prop) : Prop :=
  rd Try.prog (Instr.indexAt 92 (env 6) (env 8)) noHp fun v10_0 =>
  rd Try.prog (Instr.loadAt 3 v10_0) h fun v11_1 =>
  K (((env.set 10 v10_0).set 11 v11_1).set 5 v11_1) h
@[congr] theorem cmp_Or_int_r4_congr {env : Env} {h : Hp} {K : Env → Hp → Prop} : cmp_Or_int_r4 env h K = cmp_Or_int_r4 env h K := rfl

/-- cmp.go:72 -/
def cmp_Or_int_r5 (env : Env) (h : Hp) (K : Env → Hp → Prop) : Prop :=
  rd Try.prog (bop Go.BinOp.neq 3 (Go.Operand.tmp 12) (Go.Operand.tmp 13) (env 5) (env 3)) noHp fun v14_2 =>
  K (((env.set 12 (env 5)).set 13 (env 3)).set 14 v14_2) h
@[congr] theorem cmp_Or_int_r5_congr {env : Env} {h : Hp} {K : Env → Hp → Prop} : cmp_Or_int_r5 env h K = cmp_Or_int_r5 env h K := rfl

/-- cmp.go:73 -/
def cmp_Or_int_r6 (env : Env) (h : Hp) (K : Env → Hp → Prop) : Prop :=
  K ((env.set 15 (env 5)).set 2 (env 5)) h
@[congr] theorem cmp_Or_int_r6_congr {env : Env} {h : Hp} {K : Env → Hp → Prop} : cmp_Or_int_r6 env h K = cmp_Or_int_r6 env h K := rfl

/-- cmp.go:71 -/
def cmp_Or_int_r7 (env : Env) (h : Hp) (K : Env → Hp → Prop) : Prop :=
  rd Try.prog (bop Go.BinOp.add 3 (Go.Operand.tmp 8) (Go.Operand.const (Go.Value.int Go.IntKind.i64 1)) (env 8) (Go.Value.int Go.IntKind.i64 1)) noHp fun v16_0 =>
  K ((env.set 16 v16_0).set 8 v16_0) h
@[congr] theorem cmp_Or_int_r7_congr {env : Env} {h : Hp} {K : Env → Hp → Prop} : cmp_Or_int_r7 env h K = cmp_Or_int_r7 env h K := rfl

def cmp_Or_int_L0 : Den := (sq (rg cmp_Or_int_r3) (sq (cnd (Go.Operand.tmp 9) (ex .normal) (ex (.exit 0))) (sq (blk 1 (sq (rg cmp_Or_int_r4) (sq (rg cmp_Or_int_r5) (cnd (Go.Operand.tmp 14) (sq (rg cmp_Or_int_r6) (ex .ret)) (ex .normal))))) (rg cmp_Or_int_r7))))

/-- cmp.go:76 -/
def cmp_Or_int_r8 (env : Env) (h : Hp) (K : Env → Hp → Prop) : Prop :=
  K ((env.set 17 (env 3)).set 2 (env 3)) h
@[congr] theorem cmp_Or_int_r8_congr {env : Env} {h : Hp} {K : Env → Hp → Prop} : cmp_Or_int_r8 env h K = cmp_Or_int_r8 env h K := rfl

def cmp_Or_int_D : Den := (sq (rg cmp_Or_int_r0) (sq (rg cmp_Or_int_r1) (sq (sq (rg cmp_Or_int_r2) (blk 0 (lp cmp_Or_int_L0))) (sq (rg cmp_Or_int_r8) (ex .ret)))))

theorem cmp_Or_int_eq : (den Try.prog 18 cmp_Or_int_code).1 = cmp_Or_int_D := by kernel_rfl

theorem cmp_Or_int_ok {args : Array Value} {h : Hp} {Q : Value → Hp → Prop} (hn : args.size ≤ 18) (D : cmp_Or_int_D (fin Try.prog [(Go.ResultVar.tmp 2)] Q) (env0 args) h) : Ok Try.prog 56 args h Q :=
  ok_of_den progIsOk Try.func56 (c := cmp_Or_int_code) (by kernel_rfl) hn (by show (den Try.prog 18 cmp_Or_int_code).1 _ _ _; rw [cmp_Or_int_eq]; exact D)

/-! ### cmp.isNaN[int]: function 57 -/
noncomputable def cmp_isNaN_int_code : Code := match Try.f57.body with | some c => c | none => .skip

/-- cmp.go:63 -/
def cmp_isNaN_int_r0 (env : Env) (h : Hp) (K : Env → Hp → Prop) : Prop :=
  K (env.set 2 (Go.Value.bool false)) h
@[congr] theorem cmp_isNaN_int_r0_congr {env : Env} {h : Hp} {K : Env → Hp → Prop} : cmp_isNaN_int_r0 env h K = cmp_isNaN_int_r0 env h K := rfl

/-- cmp.go:64 -/
def cmp_isNaN_int_r1 (env : Env) (h : Hp) (K : Env → Hp → Prop) : Prop :=
  rd Try.prog (bop Go.BinOp.neq 3 (Go.Operand.tmp 3) (Go.Operand.tmp 4) (env 0) (env 0)) noHp fun v5_2 =>
  K ((((env.set 3 (env 0)).set 4 (env 0)).set 5 v5_2).set 2 v5_2) h
@[congr] theorem cmp_isNaN_int_r1_congr {env : Env} {h : Hp} {K : Env → Hp → Prop} : cmp_isNaN_int_r1 env h K = cmp_isNaN_int_r1 env h K := rfl

def cmp_isNaN_int_D : Den := (sq (rg cmp_isNaN_int_r0) (sq (rg cmp_isNaN_int_r1) (ex .ret)))

theorem cmp_isNaN_int_eq : (den Try.prog 6 cmp_isNaN_int_code).1 = cmp_isNaN_int_D := by kernel_rfl

theorem cmp_isNaN_int_ok {args : Array Value} {h : Hp} {Q : Value → Hp → Prop} (hn : args.size ≤ 6) (D : cmp_isNaN_int_D (fin Try.prog [(Go.ResultVar.tmp 2)] Q) (env0 args) h) : Ok Try.prog 57 args h Q :=
  ok_of_den progIsOk Try.func57 (c := cmp_isNaN_int_code) (by kernel_rfl) hn (by show (den Try.prog 6 cmp_isNaN_int_code).1 _ _ _; rw [cmp_isNaN_int_eq]; exact D)

/-! ### cmp.isNaN[uint16]: function 58 -/
noncomputable def cmp_isNaN_uint16_code : Code := match Try.f58.body with | some c => c | none => .skip

/-- cmp.go:63 -/
def cmp_isNaN_uint16_r0 (env : Env) (h : Hp) (K : Env → Hp → Prop) : Prop :=
  K (env.set 2 (Go.Value.bool false)) h
@[congr] theorem cmp_isNaN_uint16_r0_congr {env : Env} {h : Hp} {K : Env → Hp → Prop} : cmp_isNaN_uint16_r0 env h K = cmp_isNaN_uint16_r0 env h K := rfl

/-- cmp.go:64 -/
def cmp_isNaN_uint16_r1 (env : Env) (h : Hp) (K : Env → Hp → Prop) : Prop :=
  rd Try.prog (bop Go.BinOp.neq 25 (Go.Operand.tmp 3) (Go.Operand.tmp 4) (env 0) (env 0)) noHp fun v5_2 =>
  K ((((env.set 3 (env 0)).set 4 (env 0)).set 5 v5_2).set 2 v5_2) h
@[congr] theorem cmp_isNaN_uint16_r1_congr {env : Env} {h : Hp} {K : Env → Hp → Prop} : cmp_isNaN_uint16_r1 env h K = cmp_isNaN_uint16_r1 env h K := rfl

def cmp_isNaN_uint16_D : Den := (sq (rg cmp_isNaN_uint16_r0) (sq (rg cmp_isNaN_uint16_r1) (ex .ret)))

theorem cmp_isNaN_uint16_eq : (den Try.prog 6 cmp_isNaN_uint16_code).1 = cmp_isNaN_uint16_D := by kernel_rfl

theorem cmp_isNaN_uint16_ok {args : Array Value} {h : Hp} {Q : Value → Hp → Prop} (hn : args.size ≤ 6) (D : cmp_isNaN_uint16_D (fin Try.prog [(Go.ResultVar.tmp 2)] Q) (env0 args) h) : Ok Try.prog 58 args h Q :=
  ok_of_den progIsOk Try.func58 (c := cmp_isNaN_uint16_code) (by kernel_rfl) hn (by show (den Try.prog 6 cmp_isNaN_uint16_code).1 _ _ _; rw [cmp_isNaN_uint16_eq]; exact D)

end Go.Proofs.Ytmbhlbohbpepaaa

/- Printed by wip/kit/gen.py: all formulas. -/

/- Rules by which the printed formulas are worked off. -/
namespace Go.Proofs.Ytmbhlbohbpepaaa
open Go
set_option linter.unusedSimpArgs false

/-! ### Control -/
section
variable {A B : Den} {Q : Post} {env : Env} {h : Hp}

@[congr] theorem sq_congr : sq A B Q env h = sq A B Q env h := rfl
@[simp ↓] theorem sq_def : sq A B Q env h = A (thenK B Q) env h := Eq.trans rfl (Eq.symm (Eq.trans rfl rfl))
@[congr] theorem rg_congr {r : Env → Hp → (Env → Hp → Prop) → Prop} : rg r Q env h = rg r Q env h := rfl
@[simp ↓] theorem rg_def {r : Env → Hp → (Env → Hp → Prop) → Prop} : rg r Q env h = r env h (Q .normal) := Eq.trans rfl (Eq.symm (Eq.trans rfl rfl))
@[congr] theorem thenK_congr {e : Exit} : thenK B Q e env h = thenK B Q e env h := rfl
@[simp ↓] theorem thenK_normal : thenK B Q .normal env h = B Q env h := rfl
@[simp ↓] theorem thenK_ret : thenK B Q .ret env h = Q .ret env h := rfl
@[simp ↓] theorem thenK_exit {i : Nat} : thenK B Q (.exit i) env h = Q (.exit i) env h := rfl
@[simp ↓] theorem thenK_goto {i : Nat} : thenK B Q (.goto i) env h = Q (.goto i) env h := rfl
@[congr] theorem ex_congr {e : Exit} : ex e Q env h = ex e Q env h := rfl
@[simp ↓] theorem ex_def {e : Exit} : ex e Q env h = Q e env h := Eq.trans rfl (Eq.symm (Eq.trans rfl rfl))
@[congr] theorem blk_congr {i : Nat} : blk i A Q env h = blk i A Q env h := rfl
@[simp ↓] theorem blk_def {i : Nat} : blk i A Q env h = A (inBlk i Q) env h := Eq.trans rfl (Eq.symm (Eq.trans rfl rfl))
@[congr] theorem inBlk_congr {i : Nat} {e : Exit} : inBlk i Q e env h = inBlk i Q e env h := rfl
@[simp ↓] theorem inBlk_normal {i : Nat} : inBlk i Q .normal env h = Q .normal env h := rfl
@[simp ↓] theorem inBlk_ret {i : Nat} : inBlk i Q .ret env h = Q .ret env h := rfl
@[simp ↓] theorem inBlk_goto {i l : Nat} : inBlk i Q (.goto l) env h = Q (.goto l) env h := rfl
@[simp ↓] theorem inBlk_exit {i j : Nat} : inBlk i Q (.exit j) env h = if j = i then Q .normal env h else Q (.exit j) env h := rfl
@[congr] theorem roundK_congr {I : Nat → Env → Hp → Prop} {n : Nat} {e : Exit} : roundK I n Q e env h = roundK I n Q e env h := rfl
@[simp ↓] theorem roundK_normal {I : Nat → Env → Hp → Prop} {n : Nat} : roundK I n Q .normal env h = ∃ m, m < n ∧ I m env h := rfl
@[simp ↓] theorem roundK_ret {I : Nat → Env → Hp → Prop} {n : Nat} : roundK I n Q .ret env h = Q .ret env h := rfl
@[simp ↓] theorem roundK_exit {I : Nat → Env → Hp → Prop} {n i : Nat} : roundK I n Q (.exit i) env h = Q (.exit i) env h := rfl
@[simp ↓] theorem roundK_goto {I : Nat → Env → Hp → Prop} {n i : Nat} : roundK I n Q (.goto i) env h = Q (.goto i) env h := rfl
@[congr] theorem jumpK_congr {I : Nat → Env → Hp → Prop} {e : Exit} : jumpK I Q e env h = jumpK I Q e env h := rfl
@[simp ↓] theorem jumpK_normal {I : Nat → Env → Hp → Prop} : jumpK I Q .normal env h = Q .normal env h := rfl
@[simp ↓] theorem jumpK_ret {I : Nat → Env → Hp → Prop} : jumpK I Q .ret env h = Q .ret env h := rfl
@[simp ↓] theorem jumpK_goto {I : Nat → Env → Hp → Prop} {l : Nat} : jumpK I Q (.goto l) env h = I l env h := rfl
@[simp ↓] theorem jumpK_exit {I : Nat → Env → Hp → Prop} {i : Nat} : jumpK I Q (.exit i) env h = Q (.exit i) env h := rfl
@[congr] theorem lp_congr : lp A Q env h = lp A Q env h := rfl
@[congr] theorem scp_congr {lab : Nat → Option Den} : scp A lab Q env h = scp A lab Q env h := rfl

/-- A branch at a value. -/
def brv (v : Value) (x y : Prop) : Prop := ∃ b, v = .bool b ∧ (match b with | true => x | false => y)
@[congr] theorem brv_congr {v v' : Value} {x y : Prop} (e : v = v') : brv v x y = brv v' x y := by rw [e]
@[simp ↓] theorem brv_true {x y : Prop} : brv (.bool true) x y = x := by unfold brv; simp
@[simp ↓] theorem brv_false {x y : Prop} : brv (.bool false) x y = y := by unfold brv; simp
@[congr] theorem cnd_congr {x : Operand} : cnd x A B Q env h = cnd x A B Q env h := rfl
@[simp ↓] theorem cnd_def {x : Operand} : cnd x A B Q env h = brv (ev env x) (A Q env h) (B Q env h) := Eq.trans rfl (Eq.symm (Eq.trans rfl rfl))
theorem brv_of {b : Bool} {x y : Prop} (h1 : b = true → x) (h2 : b = false → y) : brv (.bool b) x y := by
  cases b
  · exact ⟨false, rfl, h2 rfl⟩
  · exact ⟨true, rfl, h1 rfl⟩
@[simp ↓] theorem ev_tmp {t : Nat} : ev env (.tmp t) = env t := rfl
@[simp ↓] theorem ev_const {v : Value} : ev env (.const v) = v := rfl
end

@[congr] theorem callV_congr {P : Program} {v v' : Value} {args args' : Array Value} {h : Hp} {k : Value → Hp → Prop} (e : v = v') (e2 : args = args') : callV P v args h k = callV P v' args' h k := by rw [e, e2]
@[simp] theorem callV_func {P : Program} {f : FuncId} {first captured args : Array Value} {h : Hp} {k : Value → Hp → Prop} : callV P (.func (.func f) first captured) args h k = Ok P f (first ++ args ++ captured) h k := by unfold callV; rfl

@[simp ↓] theorem Env.set_get {env : Env} {d i : Nat} {v : Value} : env.set d v i = if i = d then v else env i := rfl
@[simp ↓] theorem env0_0 {a0 : Value} {l : List Value} : env0 (List.toArray (a0 :: l)) 0 = a0 := rfl
@[simp ↓] theorem env0_1 {a0 a1 : Value} {l : List Value} : env0 (List.toArray (a0 :: a1 :: l)) 1 = a1 := rfl
@[simp ↓] theorem env0_2 {a0 a1 a2 : Value} {l : List Value} : env0 (List.toArray (a0 :: a1 :: a2 :: l)) 2 = a2 := rfl
@[simp ↓] theorem env0_3 {a0 a1 a2 a3 : Value} {l : List Value} : env0 (List.toArray (a0 :: a1 :: a2 :: a3 :: l)) 3 = a3 := rfl
@[simp ↓] theorem env0_4 {a0 a1 a2 a3 a4 : Value} {l : List Value} : env0 (List.toArray (a0 :: a1 :: a2 :: a3 :: a4 :: l)) 4 = a4 := rfl
@[simp ↓] theorem env0_5 {a0 a1 a2 a3 a4 a5 : Value} {l : List Value} : env0 (List.toArray (a0 :: a1 :: a2 :: a3 :: a4 :: a5 :: l)) 5 = a5 := rfl
@[simp ↓] theorem env0_6 {a0 a1 a2 a3 a4 a5 a6 : Value} {l : List Value} : env0 (List.toArray (a0 :: a1 :: a2 :: a3 :: a4 :: a5 :: a6 :: l)) 6 = a6 := rfl
@[simp ↓] theorem env0_7 {a0 a1 a2 a3 a4 a5 a6 a7 : Value} {l : List Value} : env0 (List.toArray (a0 :: a1 :: a2 :: a3 :: a4 :: a5 :: a6 :: a7 :: l)) 7 = a7 := rfl
@[simp ↓] theorem env0_8 {a0 a1 a2 a3 a4 a5 a6 a7 a8 : Value} {l : List Value} : env0 (List.toArray (a0 :: a1 :: a2 :: a3 :: a4 :: a5 :: a6 :: a7 :: a8 :: l)) 8 = a8 := rfl
@[simp ↓] theorem env0_9 {a0 a1 a2 a3 a4 a5 a6 a7 a8 a9 : Value} {l : List Value} : env0 (List.toArray (a0 :: a1 :: a2 :: a3 :: a4 :: a5 :: a6 :: a7 :: a8 :: a9 :: l)) 9 = a9 := rfl

/-! ### Ends -/
def Le (h h' : Hp) : Prop := ∀ b o, h b = some o → h' b = some o
theorem Le.refl (h : Hp) : Le h h := fun _ _ e => e
theorem Le.trans {a b c : Hp} (x : Le a b) (y : Le b c) : Le a c := fun i o e => y i o (x i o e)
theorem Le.upd {a b : Hp} (x : Le a b) {i : Nat} {o : Obj} (hi : b i = none) : Le a (b.upd i o) := by
  intro j u e
  have := x j u e
  unfold Hp.upd
  by_cases hj : j = i
  · subst hj; rw [this] at hi; cases hi
  · rw [if_neg hj]; exact this
theorem Le.new {h : Hp} {i : Nat} {o : Obj} (hi : h i = none) : Le h (h.upd i o) := (Le.refl h).upd hi
theorem Le.put {a b : Hp} (x : Le a b) {i : Nat} {o : Obj} (hi : a i = none) : Le a (b.upd i o) := by
  intro j u e
  have := x j u e
  unfold Hp.upd
  by_cases hj : j = i
  · subst hj; rw [e] at hi; cases hi
  · rw [if_neg hj]; exact this
theorem ne_new {h : Hp} {x b : Nat} {o : Obj} (hx : h x = some o) (hb : h b = none) : x ≠ b := by
  rintro rfl; rw [hx] at hb; cases hb

/-- The end of a function: what nobody needs any more may be let go. -/
def drp (Q : Value → Hp → Prop) (v : Value) (h : Hp) : Prop := ∃ h', Le h' h ∧ Q v h'
@[congr] theorem drp_congr {Q : Value → Hp → Prop} {v v' : Value} {h : Hp} (e : v = v') : drp Q v h = drp Q v' h := by rw [e]
theorem drp.to {Q : Value → Hp → Prop} {v : Value} {h : Hp} (h' : Hp) (l : Le h' h) (q : Q v h') : drp Q v h := ⟨h', l, q⟩
def finr (o : Option (List Value)) (h : Hp) (Q : Value → Hp → Prop) : Prop := ∃ vs, o = some vs ∧ drp Q (retv vs) h
@[congr] theorem finr_congr {o o' : Option (List Value)} {h : Hp} {Q : Value → Hp → Prop} (e : o = o') : finr o h Q = finr o' h Q := by rw [e]
@[simp ↓] theorem finr_some {vs : List Value} {h : Hp} {Q : Value → Hp → Prop} : finr (some vs) h Q = drp Q (retv vs) h := by unfold finr; simp
@[simp ↓] theorem retv_1 {a : Value} : retv [a] = a := rfl
@[simp ↓] theorem retv_0 : retv [] = .tuple #[] := rfl
@[simp ↓] theorem retv_2 {a b : Value} {l : List Value} : retv (a :: b :: l) = .tuple (List.toArray (a :: b :: l)) := rfl
section
variable {P : Program} {rs : List ResultVar} {Q : Value → Hp → Prop} {env : Env} {h : Hp}
@[congr] theorem fin_congr {e : Exit} : fin P rs Q e env h = fin P rs Q e env h := rfl
@[simp ↓] theorem fin_ret : fin P rs Q .ret env h = finr (resv P env h rs) h Q := rfl
@[simp ↓] theorem fin_normal : fin P rs Q .normal env h = finr (resv P env h rs) h Q := rfl
@[simp ↓] theorem resv_nil : resv P env h [] = some [] := rfl
@[simp ↓] theorem resv_tmp {t : Nat} : resv P env h (.tmp t :: rs) = (resv P env h rs).map (env t :: ·) := rfl
def loadV (P : Program) (t : TypeId) (v : Value) (h : Hp) : Option Value := match v with | .pointer (some a) => rrun P (Instr.loadAt t (.pointer (some a))) h | _ => none
@[simp] theorem resv_cell {t a : Nat} : resv P env h (.cell a t :: rs) = (loadV P t (env a) h).bind fun v => (resv P env h rs).map (v :: ·) := by
  simp only [resv, loadV]
  cases env a <;> try rfl
  rename_i p
  cases p with
  | none => rfl
  | some ad =>
    simp only
    have : rrun P (Instr.loadAt t (.pointer (some ad))) h = rrun P (loadVar t ad) h := rfl
    rw [this]
    cases rrun P (loadVar t ad) h <;> rfl
@[simp ↓] theorem loadV_ptr {t : TypeId} {a : Addr} : loadV P t (.pointer (some a)) h = rrun P (Instr.loadAt t (.pointer (some a))) h := rfl
end

/-! ### Short arrays -/
@[simp ↓] theorem aget_0 {α : Type} {a0 : α} {l : List α} : (List.toArray (a0 :: l))[0]? = some a0 := rfl
@[simp ↓] theorem lget_0 {α : Type} {a0 : α} {l : List α} : (a0 :: l)[0]? = some a0 := rfl
@[simp ↓] theorem aset_0 {α : Type} {a0 v : α} {l : List α} : (List.toArray (a0 :: l)).setIfInBounds 0 v = List.toArray (v :: l) := by simp
@[simp ↓] theorem aget_1 {α : Type} {a0 a1 : α} {l : List α} : (List.toArray (a0 :: a1 :: l))[1]? = some a1 := rfl
@[simp ↓] theorem lget_1 {α : Type} {a0 a1 : α} {l : List α} : (a0 :: a1 :: l)[1]? = some a1 := rfl
@[simp ↓] theorem aset_1 {α : Type} {a0 a1 v : α} {l : List α} : (List.toArray (a0 :: a1 :: l)).setIfInBounds 1 v = List.toArray (a0 :: v :: l) := by simp
@[simp ↓] theorem aget_2 {α : Type} {a0 a1 a2 : α} {l : List α} : (List.toArray (a0 :: a1 :: a2 :: l))[2]? = some a2 := rfl
@[simp ↓] theorem lget_2 {α : Type} {a0 a1 a2 : α} {l : List α} : (a0 :: a1 :: a2 :: l)[2]? = some a2 := rfl
@[simp ↓] theorem aset_2 {α : Type} {a0 a1 a2 v : α} {l : List α} : (List.toArray (a0 :: a1 :: a2 :: l)).setIfInBounds 2 v = List.toArray (a0 :: a1 :: v :: l) := by simp
@[simp ↓] theorem aget_3 {α : Type} {a0 a1 a2 a3 : α} {l : List α} : (List.toArray (a0 :: a1 :: a2 :: a3 :: l))[3]? = some a3 := rfl
@[simp ↓] theorem lget_3 {α : Type} {a0 a1 a2 a3 : α} {l : List α} : (a0 :: a1 :: a2 :: a3 :: l)[3]? = some a3 := rfl
@[simp ↓] theorem aset_3 {α : Type} {a0 a1 a2 a3 v : α} {l : List α} : (List.toArray (a0 :: a1 :: a2 :: a3 :: l)).setIfInBounds 3 v = List.toArray (a0 :: a1 :: a2 :: v :: l) := by simp
@[simp ↓] theorem aget_4 {α : Type} {a0 a1 a2 a3 a4 : α} {l : List α} : (List.toArray (a0 :: a1 :: a2 :: a3 :: a4 :: l))[4]? = some a4 := rfl
@[simp ↓] theorem lget_4 {α : Type} {a0 a1 a2 a3 a4 : α} {l : List α} : (a0 :: a1 :: a2 :: a3 :: a4 :: l)[4]? = some a4 := rfl
@[simp ↓] theorem aset_4 {α : Type} {a0 a1 a2 a3 a4 v : α} {l : List α} : (List.toArray (a0 :: a1 :: a2 :: a3 :: a4 :: l)).setIfInBounds 4 v = List.toArray (a0 :: a1 :: a2 :: a3 :: v :: l) := by simp
@[simp ↓] theorem aget_5 {α : Type} {a0 a1 a2 a3 a4 a5 : α} {l : List α} : (List.toArray (a0 :: a1 :: a2 :: a3 :: a4 :: a5 :: l))[5]? = some a5 := rfl
@[simp ↓] theorem lget_5 {α : Type} {a0 a1 a2 a3 a4 a5 : α} {l : List α} : (a0 :: a1 :: a2 :: a3 :: a4 :: a5 :: l)[5]? = some a5 := rfl
@[simp ↓] theorem aset_5 {α : Type} {a0 a1 a2 a3 a4 a5 v : α} {l : List α} : (List.toArray (a0 :: a1 :: a2 :: a3 :: a4 :: a5 :: l)).setIfInBounds 5 v = List.toArray (a0 :: a1 :: a2 :: a3 :: a4 :: v :: l) := by simp
@[simp ↓] theorem aget_6 {α : Type} {a0 a1 a2 a3 a4 a5 a6 : α} {l : List α} : (List.toArray (a0 :: a1 :: a2 :: a3 :: a4 :: a5 :: a6 :: l))[6]? = some a6 := rfl
@[simp ↓] theorem lget_6 {α : Type} {a0 a1 a2 a3 a4 a5 a6 : α} {l : List α} : (a0 :: a1 :: a2 :: a3 :: a4 :: a5 :: a6 :: l)[6]? = some a6 := rfl
@[simp ↓] theorem aset_6 {α : Type} {a0 a1 a2 a3 a4 a5 a6 v : α} {l : List α} : (List.toArray (a0 :: a1 :: a2 :: a3 :: a4 :: a5 :: a6 :: l)).setIfInBounds 6 v = List.toArray (a0 :: a1 :: a2 :: a3 :: a4 :: a5 :: v :: l) := by simp
@[simp ↓] theorem aget_7 {α : Type} {a0 a1 a2 a3 a4 a5 a6 a7 : α} {l : List α} : (List.toArray (a0 :: a1 :: a2 :: a3 :: a4 :: a5 :: a6 :: a7 :: l))[7]? = some a7 := rfl
@[simp ↓] theorem lget_7 {α : Type} {a0 a1 a2 a3 a4 a5 a6 a7 : α} {l : List α} : (a0 :: a1 :: a2 :: a3 :: a4 :: a5 :: a6 :: a7 :: l)[7]? = some a7 := rfl
@[simp ↓] theorem aset_7 {α : Type} {a0 a1 a2 a3 a4 a5 a6 a7 v : α} {l : List α} : (List.toArray (a0 :: a1 :: a2 :: a3 :: a4 :: a5 :: a6 :: a7 :: l)).setIfInBounds 7 v = List.toArray (a0 :: a1 :: a2 :: a3 :: a4 :: a5 :: a6 :: v :: l) := by simp
@[simp ↓] theorem aget_8 {α : Type} {a0 a1 a2 a3 a4 a5 a6 a7 a8 : α} {l : List α} : (List.toArray (a0 :: a1 :: a2 :: a3 :: a4 :: a5 :: a6 :: a7 :: a8 :: l))[8]? = some a8 := rfl
@[simp ↓] theorem lget_8 {α : Type} {a0 a1 a2 a3 a4 a5 a6 a7 a8 : α} {l : List α} : (a0 :: a1 :: a2 :: a3 :: a4 :: a5 :: a6 :: a7 :: a8 :: l)[8]? = some a8 := rfl
@[simp ↓] theorem aset_8 {α : Type} {a0 a1 a2 a3 a4 a5 a6 a7 a8 v : α} {l : List α} : (List.toArray (a0 :: a1 :: a2 :: a3 :: a4 :: a5 :: a6 :: a7 :: a8 :: l)).setIfInBounds 8 v = List.toArray (a0 :: a1 :: a2 :: a3 :: a4 :: a5 :: a6 :: a7 :: v :: l) := by simp
@[simp ↓] theorem aget_9 {α : Type} {a0 a1 a2 a3 a4 a5 a6 a7 a8 a9 : α} {l : List α} : (List.toArray (a0 :: a1 :: a2 :: a3 :: a4 :: a5 :: a6 :: a7 :: a8 :: a9 :: l))[9]? = some a9 := rfl
@[simp ↓] theorem lget_9 {α : Type} {a0 a1 a2 a3 a4 a5 a6 a7 a8 a9 : α} {l : List α} : (a0 :: a1 :: a2 :: a3 :: a4 :: a5 :: a6 :: a7 :: a8 :: a9 :: l)[9]? = some a9 := rfl
@[simp ↓] theorem aset_9 {α : Type} {a0 a1 a2 a3 a4 a5 a6 a7 a8 a9 v : α} {l : List α} : (List.toArray (a0 :: a1 :: a2 :: a3 :: a4 :: a5 :: a6 :: a7 :: a8 :: a9 :: l)).setIfInBounds 9 v = List.toArray (a0 :: a1 :: a2 :: a3 :: a4 :: a5 :: a6 :: a7 :: a8 :: v :: l) := by simp
@[simp ↓] theorem aget_10 {α : Type} {a0 a1 a2 a3 a4 a5 a6 a7 a8 a9 a10 : α} {l : List α} : (List.toArray (a0 :: a1 :: a2 :: a3 :: a4 :: a5 :: a6 :: a7 :: a8 :: a9 :: a10 :: l))[10]? = some a10 := rfl
@[simp ↓] theorem lget_10 {α : Type} {a0 a1 a2 a3 a4 a5 a6 a7 a8 a9 a10 : α} {l : List α} : (a0 :: a1 :: a2 :: a3 :: a4 :: a5 :: a6 :: a7 :: a8 :: a9 :: a10 :: l)[10]? = some a10 := rfl
@[simp ↓] theorem aset_10 {α : Type} {a0 a1 a2 a3 a4 a5 a6 a7 a8 a9 a10 v : α} {l : List α} : (List.toArray (a0 :: a1 :: a2 :: a3 :: a4 :: a5 :: a6 :: a7 :: a8 :: a9 :: a10 :: l)).setIfInBounds 10 v = List.toArray (a0 :: a1 :: a2 :: a3 :: a4 :: a5 :: a6 :: a7 :: a8 :: a9 :: v :: l) := by simp
@[simp ↓] theorem aget_11 {α : Type} {a0 a1 a2 a3 a4 a5 a6 a7 a8 a9 a10 a11 : α} {l : List α} : (List.toArray (a0 :: a1 :: a2 :: a3 :: a4 :: a5 :: a6 :: a7 :: a8 :: a9 :: a10 :: a11 :: l))[11]? = some a11 := rfl
@[simp ↓] theorem lget_11 {α : Type} {a0 a1 a2 a3 a4 a5 a6 a7 a8 a9 a10 a11 : α} {l : List α} : (a0 :: a1 :: a2 :: a3 :: a4 :: a5 :: a6 :: a7 :: a8 :: a9 :: a10 :: a11 :: l)[11]? = some a11 := rfl
@[simp ↓] theorem aset_11 {α : Type} {a0 a1 a2 a3 a4 a5 a6 a7 a8 a9 a10 a11 v : α} {l : List α} : (List.toArray (a0 :: a1 :: a2 :: a3 :: a4 :: a5 :: a6 :: a7 :: a8 :: a9 :: a10 :: a11 :: l)).setIfInBounds 11 v = List.toArray (a0 :: a1 :: a2 :: a3 :: a4 :: a5 :: a6 :: a7 :: a8 :: a9 :: a10 :: v :: l) := by simp

/-! ### Operations -/
def bits_and (k : IntKind) (a b : Int) : Int := k.wrap (BitVec.ofInt k.bits a &&& BitVec.ofInt k.bits b : BitVec k.bits).toNat
def bits_or (k : IntKind) (a b : Int) : Int := k.wrap (BitVec.ofInt k.bits a ||| BitVec.ofInt k.bits b : BitVec k.bits).toNat
def bits_xor (k : IntKind) (a b : Int) : Int := k.wrap (BitVec.ofInt k.bits a ^^^ BitVec.ofInt k.bits b : BitVec k.bits).toNat
def bits_andNot (k : IntKind) (a b : Int) : Int := k.wrap (BitVec.ofInt k.bits a &&& ~~~(BitVec.ofInt k.bits b) : BitVec k.bits).toNat
section
variable {P : Program} {h : Hp}

@[congr] theorem rdv_congr {o o' : Option Value} {k : Value → Prop} (e : o = o') : rdv o k = rdv o' k := by rw [e]
@[simp ↓] theorem rdv_some {v : Value} {k : Value → Prop} : rdv (some v) k = k v := by unfold rdv; simp
@[congr] theorem rd_congr {s s' : Sem Value} {k : Value → Prop} (e : s = s') : rd P s h k = rd P s' h k := by rw [e]
@[simp] theorem rd_def {s : Sem Value} {k : Value → Prop} : rd P s h k = rdv (rrun P s h) k := rfl
@[congr] theorem arun_congr {α : Type} {s s' : Sem α} {k : α → Hp → Prop} (e : s = s') : arun P s h k = arun P s' h k := by rw [e]
@[congr] theorem Ok_congr {f : Nat} {a a' : Array Value} {k : Value → Hp → Prop} (e : a = a') : Ok P f a h k = Ok P f a' h k := by rw [e]
@[congr] theorem nck_congr {x x' : Value} {q : Prop} (e : x = x') : nck x q = nck x' q := by rw [e]
@[simp ↓] theorem nck_ptr {a : Addr} {q : Prop} : nck (.pointer (some a)) q = q := by simp [nck, nilOk]
@[simp ↓] theorem nck_map {a : Option Nat} {q : Prop} : nck (.map a) q = q := by simp [nck, nilOk]
@[simp ↓] theorem nck_iface {t : TypeId} {v : Value} {q : Prop} : nck (.iface t v) q = q := by simp [nck, nilOk]
@[congr] theorem gd_congr {c c' : Bool} {ex : Hp → (Value → Hp → Prop) → Prop} {k : Value → Hp → Prop} (e : c = c') : gd c ex h k = gd c' ex h k := by rw [e]
attribute [simp ↓] gd_true gd_false
@[simp] theorem yb_bool {b : Bool} : yb (.bool b) = some b := rfl
@[simp] theorem yb_undef : yb undef = none := rfl

/-- A new block. -/
def nw (h : Hp) (o : Obj) (k : Nat → Hp → Prop) : Prop := ∀ b, h b = none → k b (h.upd b o)
@[congr] theorem nw_congr {o o' : Obj} {k : Nat → Hp → Prop} (e : o = o') : nw h o k = nw h o' k := by rw [e]

/-- A store. -/
def stw (c : Option Value) (f : Bool) (q : Prop) : Prop := (∃ u, c = some u) ∧ f = false ∧ q
@[congr] theorem stw_congr {c c' : Option Value} {f f' : Bool} {q : Prop} (e : c = c') (e2 : f = f') : stw c f q = stw c' f' q := by rw [e, e2]
@[simp ↓] theorem stw_ok {u : Value} {q : Prop} : stw (some u) false q = q := by unfold stw; simp

@[simp ↓] theorem arun_box {t : TypeId} {v : Value} {k : Value → Hp → Prop} : arun P (Instr.box t v) h k = nw h (.cells v.cells t) fun b h => k (.pointer (some ⟨b, 0, none⟩)) h := rfl
@[simp] theorem cells_agg {c : Array Value} : Value.cells (.agg c) = c := rfl
@[simp] theorem cells_int {k : IntKind} {n : Int} : Value.cells (.int k n) = #[.int k n] := rfl
@[simp] theorem cells_bool {n : Bool} : Value.cells (.bool n) = #[.bool n] := rfl
@[simp] theorem cells_slice {a : Option Addr} {n c : Nat} : Value.cells (.slice a n c) = #[.slice a n c] := rfl
@[simp] theorem cells_ptr {a : Option Addr} : Value.cells (.pointer a) = #[.pointer a] := rfl
@[simp] theorem cells_map {a : Option Nat} : Value.cells (.map a) = #[.map a] := rfl

@[simp] theorem rr_extract {vs : Array Value} {i : Nat} : rrun P (Instr.extract (.tuple vs) i) h = vs[i]? := by
  cases h' : vs[i]? <;> simp only [Instr.extract, h'] <;> rfl
@[simp] theorem rr_not {b : Bool} : rrun P (Op.unary .not (.bool b)) h = some (.bool !b) := rfl
@[simp] theorem rr_pck {b : Bool} {x y : Value} : rrun P (pck (.bool b) x y) h = some (if b then x else y) := rfl

@[simp] theorem rr_add_i64 {t : TypeId} {x y : Operand} {a b : Int} : rrun P (bop .add t x y (.int .i64 a) (.int .i64 b)) h = some (.int .i64 (IntKind.i64.wrap (a + b))) := rfl
@[simp] theorem rr_sub_i64 {t : TypeId} {x y : Operand} {a b : Int} : rrun P (bop .sub t x y (.int .i64 a) (.int .i64 b)) h = some (.int .i64 (IntKind.i64.wrap (a - b))) := rfl
@[simp] theorem rr_mul_i64 {t : TypeId} {x y : Operand} {a b : Int} : rrun P (bop .mul t x y (.int .i64 a) (.int .i64 b)) h = some (.int .i64 (IntKind.i64.wrap (a * b))) := rfl
@[simp] theorem rr_eql_i64 {t : TypeId} {x y : Operand} {a b : Int} : rrun P (bop .eql t x y (.int .i64 a) (.int .i64 b)) h = some (.bool (decide (a = b))) := rfl
@[simp] theorem rr_neq_i64 {t : TypeId} {x y : Operand} {a b : Int} : rrun P (bop .neq t x y (.int .i64 a) (.int .i64 b)) h = some (.bool (!decide (a = b))) := rfl
@[simp] theorem rr_lss_i64 {t : TypeId} {x y : Operand} {a b : Int} : rrun P (bop .lss t x y (.int .i64 a) (.int .i64 b)) h = some (.bool (decide (a < b))) := rfl
@[simp] theorem rr_leq_i64 {t : TypeId} {x y : Operand} {a b : Int} : rrun P (bop .leq t x y (.int .i64 a) (.int .i64 b)) h = some (.bool (decide (a ≤ b))) := rfl
@[simp] theorem rr_gtr_i64 {t : TypeId} {x y : Operand} {a b : Int} : rrun P (bop .gtr t x y (.int .i64 a) (.int .i64 b)) h = some (.bool (decide (a > b))) := rfl
@[simp] theorem rr_geq_i64 {t : TypeId} {x y : Operand} {a b : Int} : rrun P (bop .geq t x y (.int .i64 a) (.int .i64 b)) h = some (.bool (decide (a ≥ b))) := rfl
@[simp] theorem rr_and_i64 {t : TypeId} {x y : Operand} {a b : Int} : rrun P (bop .and t x y (.int .i64 a) (.int .i64 b)) h = some (.int .i64 (bits_and .i64 a b)) := rfl
@[simp] theorem rr_or_i64 {t : TypeId} {x y : Operand} {a b : Int} : rrun P (bop .or t x y (.int .i64 a) (.int .i64 b)) h = some (.int .i64 (bits_or .i64 a b)) := rfl
@[simp] theorem rr_xor_i64 {t : TypeId} {x y : Operand} {a b : Int} : rrun P (bop .xor t x y (.int .i64 a) (.int .i64 b)) h = some (.int .i64 (bits_xor .i64 a b)) := rfl
@[simp] theorem rr_andNot_i64 {t : TypeId} {x y : Operand} {a b : Int} : rrun P (bop .andNot t x y (.int .i64 a) (.int .i64 b)) h = some (.int .i64 (bits_andNot .i64 a b)) := rfl
@[simp] theorem rr_quo_i64 {t : TypeId} {x y : Operand} {a b : Int} (hb : b ≠ 0) : rrun P (bop .quo t x y (.int .i64 a) (.int .i64 b)) h = some (.int .i64 (IntKind.i64.wrap (a.tdiv b))) := by
  show rrun P (Op.intDiv .quo .i64 a b) h = _
  simp only [Op.intDiv, if_neg hb]; rfl
@[simp] theorem rr_rem_i64 {t : TypeId} {x y : Operand} {a b : Int} (hb : b ≠ 0) : rrun P (bop .rem t x y (.int .i64 a) (.int .i64 b)) h = some (.int .i64 (a.tmod b)) := by
  show rrun P (Op.intDiv .rem .i64 a b) h = _
  simp only [Op.intDiv, if_neg hb]; rfl
@[simp] theorem rr_shl_i64_i64 {t : TypeId} {x y : Operand} {a b : Int} (hb : 0 ≤ b) : rrun P (bop .shl t x y (.int .i64 a) (.int .i64 b)) h = some (.int .i64 (IntKind.i64.wrap (a * 2 ^ (min b.toNat 64)))) := by
  show rrun P (Op.shift .shl .i64 a .i64 b) h = _
  simp only [Op.shift, if_neg (Int.not_lt.2 hb)]; rfl
@[simp] theorem rr_shr_i64_i64 {t : TypeId} {x y : Operand} {a b : Int} (hb : 0 ≤ b) : rrun P (bop .shr t x y (.int .i64 a) (.int .i64 b)) h = some (.int .i64 (a.fdiv (2 ^ (min b.toNat 64)))) := by
  show rrun P (Op.shift .shr .i64 a .i64 b) h = _
  simp only [Op.shift, if_neg (Int.not_lt.2 hb)]; rfl
@[simp] theorem rr_shl_i64_u32 {t : TypeId} {x y : Operand} {a b : Int} (hb : 0 ≤ b) : rrun P (bop .shl t x y (.int .i64 a) (.int .u32 b)) h = some (.int .i64 (IntKind.i64.wrap (a * 2 ^ (min b.toNat 64)))) := by
  show rrun P (Op.shift .shl .i64 a .u32 b) h = _
  simp only [Op.shift, if_neg (Int.not_lt.2 hb)]; rfl
@[simp] theorem rr_shr_i64_u32 {t : TypeId} {x y : Operand} {a b : Int} (hb : 0 ≤ b) : rrun P (bop .shr t x y (.int .i64 a) (.int .u32 b)) h = some (.int .i64 (a.fdiv (2 ^ (min b.toNat 64)))) := by
  show rrun P (Op.shift .shr .i64 a .u32 b) h = _
  simp only [Op.shift, if_neg (Int.not_lt.2 hb)]; rfl
@[simp] theorem rr_shl_i64_u64 {t : TypeId} {x y : Operand} {a b : Int} (hb : 0 ≤ b) : rrun P (bop .shl t x y (.int .i64 a) (.int .u64 b)) h = some (.int .i64 (IntKind.i64.wrap (a * 2 ^ (min b.toNat 64)))) := by
  show rrun P (Op.shift .shl .i64 a .u64 b) h = _
  simp only [Op.shift, if_neg (Int.not_lt.2 hb)]; rfl
@[simp] theorem rr_shr_i64_u64 {t : TypeId} {x y : Operand} {a b : Int} (hb : 0 ≤ b) : rrun P (bop .shr t x y (.int .i64 a) (.int .u64 b)) h = some (.int .i64 (a.fdiv (2 ^ (min b.toNat 64)))) := by
  show rrun P (Op.shift .shr .i64 a .u64 b) h = _
  simp only [Op.shift, if_neg (Int.not_lt.2 hb)]; rfl
@[simp] theorem rr_min_i64 {ts : Array TypeId} {t : TypeId} {a b : Int} : rrun P (Builtin.min_ ts t #[.int .i64 a, .int .i64 b]) h = some (.int .i64 (min a b)) := by
  show some (Value.int .i64 (if b < a then b else a)) = _
  congr 2; split <;> omega
@[simp] theorem rr_max_i64 {ts : Array TypeId} {t : TypeId} {a b : Int} : rrun P (Builtin.max_ ts t #[.int .i64 a, .int .i64 b]) h = some (.int .i64 (max a b)) := by
  show some (Value.int .i64 (if b > a then b else a)) = _
  congr 2; split <;> omega
@[simp] theorem rr_add_u32 {t : TypeId} {x y : Operand} {a b : Int} : rrun P (bop .add t x y (.int .u32 a) (.int .u32 b)) h = some (.int .u32 (IntKind.u32.wrap (a + b))) := rfl
@[simp] theorem rr_sub_u32 {t : TypeId} {x y : Operand} {a b : Int} : rrun P (bop .sub t x y (.int .u32 a) (.int .u32 b)) h = some (.int .u32 (IntKind.u32.wrap (a - b))) := rfl
@[simp] theorem rr_mul_u32 {t : TypeId} {x y : Operand} {a b : Int} : rrun P (bop .mul t x y (.int .u32 a) (.int .u32 b)) h = some (.int .u32 (IntKind.u32.wrap (a * b))) := rfl
@[simp] theorem rr_eql_u32 {t : TypeId} {x y : Operand} {a b : Int} : rrun P (bop .eql t x y (.int .u32 a) (.int .u32 b)) h = some (.bool (decide (a = b))) := rfl
@[simp] theorem rr_neq_u32 {t : TypeId} {x y : Operand} {a b : Int} : rrun P (bop .neq t x y (.int .u32 a) (.int .u32 b)) h = some (.bool (!decide (a = b))) := rfl
@[simp] theorem rr_lss_u32 {t : TypeId} {x y : Operand} {a b : Int} : rrun P (bop .lss t x y (.int .u32 a) (.int .u32 b)) h = some (.bool (decide (a < b))) := rfl
@[simp] theorem rr_leq_u32 {t : TypeId} {x y : Operand} {a b : Int} : rrun P (bop .leq t x y (.int .u32 a) (.int .u32 b)) h = some (.bool (decide (a ≤ b))) := rfl
@[simp] theorem rr_gtr_u32 {t : TypeId} {x y : Operand} {a b : Int} : rrun P (bop .gtr t x y (.int .u32 a) (.int .u32 b)) h = some (.bool (decide (a > b))) := rfl
@[simp] theorem rr_geq_u32 {t : TypeId} {x y : Operand} {a b : Int} : rrun P (bop .geq t x y (.int .u32 a) (.int .u32 b)) h = some (.bool (decide (a ≥ b))) := rfl
@[simp] theorem rr_and_u32 {t : TypeId} {x y : Operand} {a b : Int} : rrun P (bop .and t x y (.int .u32 a) (.int .u32 b)) h = some (.int .u32 (bits_and .u32 a b)) := rfl
@[simp] theorem rr_or_u32 {t : TypeId} {x y : Operand} {a b : Int} : rrun P (bop .or t x y (.int .u32 a) (.int .u32 b)) h = some (.int .u32 (bits_or .u32 a b)) := rfl
@[simp] theorem rr_xor_u32 {t : TypeId} {x y : Operand} {a b : Int} : rrun P (bop .xor t x y (.int .u32 a) (.int .u32 b)) h = some (.int .u32 (bits_xor .u32 a b)) := rfl
@[simp] theorem rr_andNot_u32 {t : TypeId} {x y : Operand} {a b : Int} : rrun P (bop .andNot t x y (.int .u32 a) (.int .u32 b)) h = some (.int .u32 (bits_andNot .u32 a b)) := rfl
@[simp] theorem rr_quo_u32 {t : TypeId} {x y : Operand} {a b : Int} (hb : b ≠ 0) : rrun P (bop .quo t x y (.int .u32 a) (.int .u32 b)) h = some (.int .u32 (IntKind.u32.wrap (a.tdiv b))) := by
  show rrun P (Op.intDiv .quo .u32 a b) h = _
  simp only [Op.intDiv, if_neg hb]; rfl
@[simp] theorem rr_rem_u32 {t : TypeId} {x y : Operand} {a b : Int} (hb : b ≠ 0) : rrun P (bop .rem t x y (.int .u32 a) (.int .u32 b)) h = some (.int .u32 (a.tmod b)) := by
  show rrun P (Op.intDiv .rem .u32 a b) h = _
  simp only [Op.intDiv, if_neg hb]; rfl
@[simp] theorem rr_shl_u32_i64 {t : TypeId} {x y : Operand} {a b : Int} (hb : 0 ≤ b) : rrun P (bop .shl t x y (.int .u32 a) (.int .i64 b)) h = some (.int .u32 (IntKind.u32.wrap (a * 2 ^ (min b.toNat 32)))) := by
  show rrun P (Op.shift .shl .u32 a .i64 b) h = _
  simp only [Op.shift, if_neg (Int.not_lt.2 hb)]; rfl
@[simp] theorem rr_shr_u32_i64 {t : TypeId} {x y : Operand} {a b : Int} (hb : 0 ≤ b) : rrun P (bop .shr t x y (.int .u32 a) (.int .i64 b)) h = some (.int .u32 (a.fdiv (2 ^ (min b.toNat 32)))) := by
  show rrun P (Op.shift .shr .u32 a .i64 b) h = _
  simp only [Op.shift, if_neg (Int.not_lt.2 hb)]; rfl
@[simp] theorem rr_shl_u32_u32 {t : TypeId} {x y : Operand} {a b : Int} (hb : 0 ≤ b) : rrun P (bop .shl t x y (.int .u32 a) (.int .u32 b)) h = some (.int .u32 (IntKind.u32.wrap (a * 2 ^ (min b.toNat 32)))) := by
  show rrun P (Op.shift .shl .u32 a .u32 b) h = _
  simp only [Op.shift, if_neg (Int.not_lt.2 hb)]; rfl
@[simp] theorem rr_shr_u32_u32 {t : TypeId} {x y : Operand} {a b : Int} (hb : 0 ≤ b) : rrun P (bop .shr t x y (.int .u32 a) (.int .u32 b)) h = some (.int .u32 (a.fdiv (2 ^ (min b.toNat 32)))) := by
  show rrun P (Op.shift .shr .u32 a .u32 b) h = _
  simp only [Op.shift, if_neg (Int.not_lt.2 hb)]; rfl
@[simp] theorem rr_shl_u32_u64 {t : TypeId} {x y : Operand} {a b : Int} (hb : 0 ≤ b) : rrun P (bop .shl t x y (.int .u32 a) (.int .u64 b)) h = some (.int .u32 (IntKind.u32.wrap (a * 2 ^ (min b.toNat 32)))) := by
  show rrun P (Op.shift .shl .u32 a .u64 b) h = _
  simp only [Op.shift, if_neg (Int.not_lt.2 hb)]; rfl
@[simp] theorem rr_shr_u32_u64 {t : TypeId} {x y : Operand} {a b : Int} (hb : 0 ≤ b) : rrun P (bop .shr t x y (.int .u32 a) (.int .u64 b)) h = some (.int .u32 (a.fdiv (2 ^ (min b.toNat 32)))) := by
  show rrun P (Op.shift .shr .u32 a .u64 b) h = _
  simp only [Op.shift, if_neg (Int.not_lt.2 hb)]; rfl
@[simp] theorem rr_min_u32 {ts : Array TypeId} {t : TypeId} {a b : Int} : rrun P (Builtin.min_ ts t #[.int .u32 a, .int .u32 b]) h = some (.int .u32 (min a b)) := by
  show some (Value.int .u32 (if b < a then b else a)) = _
  congr 2; split <;> omega
@[simp] theorem rr_max_u32 {ts : Array TypeId} {t : TypeId} {a b : Int} : rrun P (Builtin.max_ ts t #[.int .u32 a, .int .u32 b]) h = some (.int .u32 (max a b)) := by
  show some (Value.int .u32 (if b > a then b else a)) = _
  congr 2; split <;> omega
@[simp] theorem rr_add_u16 {t : TypeId} {x y : Operand} {a b : Int} : rrun P (bop .add t x y (.int .u16 a) (.int .u16 b)) h = some (.int .u16 (IntKind.u16.wrap (a + b))) := rfl
@[simp] theorem rr_sub_u16 {t : TypeId} {x y : Operand} {a b : Int} : rrun P (bop .sub t x y (.int .u16 a) (.int .u16 b)) h = some (.int .u16 (IntKind.u16.wrap (a - b))) := rfl
@[simp] theorem rr_mul_u16 {t : TypeId} {x y : Operand} {a b : Int} : rrun P (bop .mul t x y (.int .u16 a) (.int .u16 b)) h = some (.int .u16 (IntKind.u16.wrap (a * b))) := rfl
@[simp] theorem rr_eql_u16 {t : TypeId} {x y : Operand} {a b : Int} : rrun P (bop .eql t x y (.int .u16 a) (.int .u16 b)) h = some (.bool (decide (a = b))) := rfl
@[simp] theorem rr_neq_u16 {t : TypeId} {x y : Operand} {a b : Int} : rrun P (bop .neq t x y (.int .u16 a) (.int .u16 b)) h = some (.bool (!decide (a = b))) := rfl
@[simp] theorem rr_lss_u16 {t : TypeId} {x y : Operand} {a b : Int} : rrun P (bop .lss t x y (.int .u16 a) (.int .u16 b)) h = some (.bool (decide (a < b))) := rfl
@[simp] theorem rr_leq_u16 {t : TypeId} {x y : Operand} {a b : Int} : rrun P (bop .leq t x y (.int .u16 a) (.int .u16 b)) h = some (.bool (decide (a ≤ b))) := rfl
@[simp] theorem rr_gtr_u16 {t : TypeId} {x y : Operand} {a b : Int} : rrun P (bop .gtr t x y (.int .u16 a) (.int .u16 b)) h = some (.bool (decide (a > b))) := rfl
@[simp] theorem rr_geq_u16 {t : TypeId} {x y : Operand} {a b : Int} : rrun P (bop .geq t x y (.int .u16 a) (.int .u16 b)) h = some (.bool (decide (a ≥ b))) := rfl
@[simp] theorem rr_and_u16 {t : TypeId} {x y : Operand} {a b : Int} : rrun P (bop .and t x y (.int .u16 a) (.int .u16 b)) h = some (.int .u16 (bits_and .u16 a b)) := rfl
@[simp] theorem rr_or_u16 {t : TypeId} {x y : Operand} {a b : Int} : rrun P (bop .or t x y (.int .u16 a) (.int .u16 b)) h = some (.int .u16 (bits_or .u16 a b)) := rfl
@[simp] theorem rr_xor_u16 {t : TypeId} {x y : Operand} {a b : Int} : rrun P (bop .xor t x y (.int .u16 a) (.int .u16 b)) h = some (.int .u16 (bits_xor .u16 a b)) := rfl
@[simp] theorem rr_andNot_u16 {t : TypeId} {x y : Operand} {a b : Int} : rrun P (bop .andNot t x y (.int .u16 a) (.int .u16 b)) h = some (.int .u16 (bits_andNot .u16 a b)) := rfl
@[simp] theorem rr_quo_u16 {t : TypeId} {x y : Operand} {a b : Int} (hb : b ≠ 0) : rrun P (bop .quo t x y (.int .u16 a) (.int .u16 b)) h = some (.int .u16 (IntKind.u16.wrap (a.tdiv b))) := by
  show rrun P (Op.intDiv .quo .u16 a b) h = _
  simp only [Op.intDiv, if_neg hb]; rfl
@[simp] theorem rr_rem_u16 {t : TypeId} {x y : Operand} {a b : Int} (hb : b ≠ 0) : rrun P (bop .rem t x y (.int .u16 a) (.int .u16 b)) h = some (.int .u16 (a.tmod b)) := by
  show rrun P (Op.intDiv .rem .u16 a b) h = _
  simp only [Op.intDiv, if_neg hb]; rfl
@[simp] theorem rr_shl_u16_i64 {t : TypeId} {x y : Operand} {a b : Int} (hb : 0 ≤ b) : rrun P (bop .shl t x y (.int .u16 a) (.int .i64 b)) h = some (.int .u16 (IntKind.u16.wrap (a * 2 ^ (min b.toNat 16)))) := by
  show rrun P (Op.shift .shl .u16 a .i64 b) h = _
  simp only [Op.shift, if_neg (Int.not_lt.2 hb)]; rfl
@[simp] theorem rr_shr_u16_i64 {t : TypeId} {x y : Operand} {a b : Int} (hb : 0 ≤ b) : rrun P (bop .shr t x y (.int .u16 a) (.int .i64 b)) h = some (.int .u16 (a.fdiv (2 ^ (min b.toNat 16)))) := by
  show rrun P (Op.shift .shr .u16 a .i64 b) h = _
  simp only [Op.shift, if_neg (Int.not_lt.2 hb)]; rfl
@[simp] theorem rr_shl_u16_u32 {t : TypeId} {x y : Operand} {a b : Int} (hb : 0 ≤ b) : rrun P (bop .shl t x y (.int .u16 a) (.int .u32 b)) h = some (.int .u16 (IntKind.u16.wrap (a * 2 ^ (min b.toNat 16)))) := by
  show rrun P (Op.shift .shl .u16 a .u32 b) h = _
  simp only [Op.shift, if_neg (Int.not_lt.2 hb)]; rfl
@[simp] theorem rr_shr_u16_u32 {t : TypeId} {x y : Operand} {a b : Int} (hb : 0 ≤ b) : rrun P (bop .shr t x y (.int .u16 a) (.int .u32 b)) h = some (.int .u16 (a.fdiv (2 ^ (min b.toNat 16)))) := by
  show rrun P (Op.shift .shr .u16 a .u32 b) h = _
  simp only [Op.shift, if_neg (Int.not_lt.2 hb)]; rfl
@[simp] theorem rr_shl_u16_u64 {t : TypeId} {x y : Operand} {a b : Int} (hb : 0 ≤ b) : rrun P (bop .shl t x y (.int .u16 a) (.int .u64 b)) h = some (.int .u16 (IntKind.u16.wrap (a * 2 ^ (min b.toNat 16)))) := by
  show rrun P (Op.shift .shl .u16 a .u64 b) h = _
  simp only [Op.shift, if_neg (Int.not_lt.2 hb)]; rfl
@[simp] theorem rr_shr_u16_u64 {t : TypeId} {x y : Operand} {a b : Int} (hb : 0 ≤ b) : rrun P (bop .shr t x y (.int .u16 a) (.int .u64 b)) h = some (.int .u16 (a.fdiv (2 ^ (min b.toNat 16)))) := by
  show rrun P (Op.shift .shr .u16 a .u64 b) h = _
  simp only [Op.shift, if_neg (Int.not_lt.2 hb)]; rfl
@[simp] theorem rr_min_u16 {ts : Array TypeId} {t : TypeId} {a b : Int} : rrun P (Builtin.min_ ts t #[.int .u16 a, .int .u16 b]) h = some (.int .u16 (min a b)) := by
  show some (Value.int .u16 (if b < a then b else a)) = _
  congr 2; split <;> omega
@[simp] theorem rr_max_u16 {ts : Array TypeId} {t : TypeId} {a b : Int} : rrun P (Builtin.max_ ts t #[.int .u16 a, .int .u16 b]) h = some (.int .u16 (max a b)) := by
  show some (Value.int .u16 (if b > a then b else a)) = _
  congr 2; split <;> omega
@[simp] theorem rr_add_u64 {t : TypeId} {x y : Operand} {a b : Int} : rrun P (bop .add t x y (.int .u64 a) (.int .u64 b)) h = some (.int .u64 (IntKind.u64.wrap (a + b))) := rfl
@[simp] theorem rr_sub_u64 {t : TypeId} {x y : Operand} {a b : Int} : rrun P (bop .sub t x y (.int .u64 a) (.int .u64 b)) h = some (.int .u64 (IntKind.u64.wrap (a - b))) := rfl
@[simp] theorem rr_mul_u64 {t : TypeId} {x y : Operand} {a b : Int} : rrun P (bop .mul t x y (.int .u64 a) (.int .u64 b)) h = some (.int .u64 (IntKind.u64.wrap (a * b))) := rfl
@[simp] theorem rr_eql_u64 {t : TypeId} {x y : Operand} {a b : Int} : rrun P (bop .eql t x y (.int .u64 a) (.int .u64 b)) h = some (.bool (decide (a = b))) := rfl
@[simp] theorem rr_neq_u64 {t : TypeId} {x y : Operand} {a b : Int} : rrun P (bop .neq t x y (.int .u64 a) (.int .u64 b)) h = some (.bool (!decide (a = b))) := rfl
@[simp] theorem rr_lss_u64 {t : TypeId} {x y : Operand} {a b : Int} : rrun P (bop .lss t x y (.int .u64 a) (.int .u64 b)) h = some (.bool (decide (a < b))) := rfl
@[simp] theorem rr_leq_u64 {t : TypeId} {x y : Operand} {a b : Int} : rrun P (bop .leq t x y (.int .u64 a) (.int .u64 b)) h = some (.bool (decide (a ≤ b))) := rfl
@[simp] theorem rr_gtr_u64 {t : TypeId} {x y : Operand} {a b : Int} : rrun P (bop .gtr t x y (.int .u64 a) (.int .u64 b)) h = some (.bool (decide (a > b))) := rfl
@[simp] theorem rr_geq_u64 {t : TypeId} {x y : Operand} {a b : Int} : rrun P (bop .geq t x y (.int .u64 a) (.int .u64 b)) h = some (.bool (decide (a ≥ b))) := rfl
@[simp] theorem rr_and_u64 {t : TypeId} {x y : Operand} {a b : Int} : rrun P (bop .and t x y (.int .u64 a) (.int .u64 b)) h = some (.int .u64 (bits_and .u64 a b)) := rfl
@[simp] theorem rr_or_u64 {t : TypeId} {x y : Operand} {a b : Int} : rrun P (bop .or t x y (.int .u64 a) (.int .u64 b)) h = some (.int .u64 (bits_or .u64 a b)) := rfl
@[simp] theorem rr_xor_u64 {t : TypeId} {x y : Operand} {a b : Int} : rrun P (bop .xor t x y (.int .u64 a) (.int .u64 b)) h = some (.int .u64 (bits_xor .u64 a b)) := rfl
@[simp] theorem rr_andNot_u64 {t : TypeId} {x y : Operand} {a b : Int} : rrun P (bop .andNot t x y (.int .u64 a) (.int .u64 b)) h = some (.int .u64 (bits_andNot .u64 a b)) := rfl
@[simp] theorem rr_quo_u64 {t : TypeId} {x y : Operand} {a b : Int} (hb : b ≠ 0) : rrun P (bop .quo t x y (.int .u64 a) (.int .u64 b)) h = some (.int .u64 (IntKind.u64.wrap (a.tdiv b))) := by
  show rrun P (Op.intDiv .quo .u64 a b) h = _
  simp only [Op.intDiv, if_neg hb]; rfl
@[simp] theorem rr_rem_u64 {t : TypeId} {x y : Operand} {a b : Int} (hb : b ≠ 0) : rrun P (bop .rem t x y (.int .u64 a) (.int .u64 b)) h = some (.int .u64 (a.tmod b)) := by
  show rrun P (Op.intDiv .rem .u64 a b) h = _
  simp only [Op.intDiv, if_neg hb]; rfl
@[simp] theorem rr_shl_u64_i64 {t : TypeId} {x y : Operand} {a b : Int} (hb : 0 ≤ b) : rrun P (bop .shl t x y (.int .u64 a) (.int .i64 b)) h = some (.int .u64 (IntKind.u64.wrap (a * 2 ^ (min b.toNat 64)))) := by
  show rrun P (Op.shift .shl .u64 a .i64 b) h = _
  simp only [Op.shift, if_neg (Int.not_lt.2 hb)]; rfl
@[simp] theorem rr_shr_u64_i64 {t : TypeId} {x y : Operand} {a b : Int} (hb : 0 ≤ b) : rrun P (bop .shr t x y (.int .u64 a) (.int .i64 b)) h = some (.int .u64 (a.fdiv (2 ^ (min b.toNat 64)))) := by
  show rrun P (Op.shift .shr .u64 a .i64 b) h = _
  simp only [Op.shift, if_neg (Int.not_lt.2 hb)]; rfl
@[simp] theorem rr_shl_u64_u32 {t : TypeId} {x y : Operand} {a b : Int} (hb : 0 ≤ b) : rrun P (bop .shl t x y (.int .u64 a) (.int .u32 b)) h = some (.int .u64 (IntKind.u64.wrap (a * 2 ^ (min b.toNat 64)))) := by
  show rrun P (Op.shift .shl .u64 a .u32 b) h = _
  simp only [Op.shift, if_neg (Int.not_lt.2 hb)]; rfl
@[simp] theorem rr_shr_u64_u32 {t : TypeId} {x y : Operand} {a b : Int} (hb : 0 ≤ b) : rrun P (bop .shr t x y (.int .u64 a) (.int .u32 b)) h = some (.int .u64 (a.fdiv (2 ^ (min b.toNat 64)))) := by
  show rrun P (Op.shift .shr .u64 a .u32 b) h = _
  simp only [Op.shift, if_neg (Int.not_lt.2 hb)]; rfl
@[simp] theorem rr_shl_u64_u64 {t : TypeId} {x y : Operand} {a b : Int} (hb : 0 ≤ b) : rrun P (bop .shl t x y (.int .u64 a) (.int .u64 b)) h = some (.int .u64 (IntKind.u64.wrap (a * 2 ^ (min b.toNat 64)))) := by
  show rrun P (Op.shift .shl .u64 a .u64 b) h = _
  simp only [Op.shift, if_neg (Int.not_lt.2 hb)]; rfl
@[simp] theorem rr_shr_u64_u64 {t : TypeId} {x y : Operand} {a b : Int} (hb : 0 ≤ b) : rrun P (bop .shr t x y (.int .u64 a) (.int .u64 b)) h = some (.int .u64 (a.fdiv (2 ^ (min b.toNat 64)))) := by
  show rrun P (Op.shift .shr .u64 a .u64 b) h = _
  simp only [Op.shift, if_neg (Int.not_lt.2 hb)]; rfl
@[simp] theorem rr_min_u64 {ts : Array TypeId} {t : TypeId} {a b : Int} : rrun P (Builtin.min_ ts t #[.int .u64 a, .int .u64 b]) h = some (.int .u64 (min a b)) := by
  show some (Value.int .u64 (if b < a then b else a)) = _
  congr 2; split <;> omega
@[simp] theorem rr_max_u64 {ts : Array TypeId} {t : TypeId} {a b : Int} : rrun P (Builtin.max_ ts t #[.int .u64 a, .int .u64 b]) h = some (.int .u64 (max a b)) := by
  show some (Value.int .u64 (if b > a then b else a)) = _
  congr 2; split <;> omega
@[simp] theorem rr_add_u8 {t : TypeId} {x y : Operand} {a b : Int} : rrun P (bop .add t x y (.int .u8 a) (.int .u8 b)) h = some (.int .u8 (IntKind.u8.wrap (a + b))) := rfl
@[simp] theorem rr_sub_u8 {t : TypeId} {x y : Operand} {a b : Int} : rrun P (bop .sub t x y (.int .u8 a) (.int .u8 b)) h = some (.int .u8 (IntKind.u8.wrap (a - b))) := rfl
@[simp] theorem rr_mul_u8 {t : TypeId} {x y : Operand} {a b : Int} : rrun P (bop .mul t x y (.int .u8 a) (.int .u8 b)) h = some (.int .u8 (IntKind.u8.wrap (a * b))) := rfl
@[simp] theorem rr_eql_u8 {t : TypeId} {x y : Operand} {a b : Int} : rrun P (bop .eql t x y (.int .u8 a) (.int .u8 b)) h = some (.bool (decide (a = b))) := rfl
@[simp] theorem rr_neq_u8 {t : TypeId} {x y : Operand} {a b : Int} : rrun P (bop .neq t x y (.int .u8 a) (.int .u8 b)) h = some (.bool (!decide (a = b))) := rfl
@[simp] theorem rr_lss_u8 {t : TypeId} {x y : Operand} {a b : Int} : rrun P (bop .lss t x y (.int .u8 a) (.int .u8 b)) h = some (.bool (decide (a < b))) := rfl
@[simp] theorem rr_leq_u8 {t : TypeId} {x y : Operand} {a b : Int} : rrun P (bop .leq t x y (.int .u8 a) (.int .u8 b)) h = some (.bool (decide (a ≤ b))) := rfl
@[simp] theorem rr_gtr_u8 {t : TypeId} {x y : Operand} {a b : Int} : rrun P (bop .gtr t x y (.int .u8 a) (.int .u8 b)) h = some (.bool (decide (a > b))) := rfl
@[simp] theorem rr_geq_u8 {t : TypeId} {x y : Operand} {a b : Int} : rrun P (bop .geq t x y (.int .u8 a) (.int .u8 b)) h = some (.bool (decide (a ≥ b))) := rfl
@[simp] theorem rr_and_u8 {t : TypeId} {x y : Operand} {a b : Int} : rrun P (bop .and t x y (.int .u8 a) (.int .u8 b)) h = some (.int .u8 (bits_and .u8 a b)) := rfl
@[simp] theorem rr_or_u8 {t : TypeId} {x y : Operand} {a b : Int} : rrun P (bop .or t x y (.int .u8 a) (.int .u8 b)) h = some (.int .u8 (bits_or .u8 a b)) := rfl
@[simp] theorem rr_xor_u8 {t : TypeId} {x y : Operand} {a b : Int} : rrun P (bop .xor t x y (.int .u8 a) (.int .u8 b)) h = some (.int .u8 (bits_xor .u8 a b)) := rfl
@[simp] theorem rr_andNot_u8 {t : TypeId} {x y : Operand} {a b : Int} : rrun P (bop .andNot t x y (.int .u8 a) (.int .u8 b)) h = some (.int .u8 (bits_andNot .u8 a b)) := rfl
@[simp] theorem rr_quo_u8 {t : TypeId} {x y : Operand} {a b : Int} (hb : b ≠ 0) : rrun P (bop .quo t x y (.int .u8 a) (.int .u8 b)) h = some (.int .u8 (IntKind.u8.wrap (a.tdiv b))) := by
  show rrun P (Op.intDiv .quo .u8 a b) h = _
  simp only [Op.intDiv, if_neg hb]; rfl
@[simp] theorem rr_rem_u8 {t : TypeId} {x y : Operand} {a b : Int} (hb : b ≠ 0) : rrun P (bop .rem t x y (.int .u8 a) (.int .u8 b)) h = some (.int .u8 (a.tmod b)) := by
  show rrun P (Op.intDiv .rem .u8 a b) h = _
  simp only [Op.intDiv, if_neg hb]; rfl
@[simp] theorem rr_shl_u8_i64 {t : TypeId} {x y : Operand} {a b : Int} (hb : 0 ≤ b) : rrun P (bop .shl t x y (.int .u8 a) (.int .i64 b)) h = some (.int .u8 (IntKind.u8.wrap (a * 2 ^ (min b.toNat 8)))) := by
  show rrun P (Op.shift .shl .u8 a .i64 b) h = _
  simp only [Op.shift, if_neg (Int.not_lt.2 hb)]; rfl
@[simp] theorem rr_shr_u8_i64 {t : TypeId} {x y : Operand} {a b : Int} (hb : 0 ≤ b) : rrun P (bop .shr t x y (.int .u8 a) (.int .i64 b)) h = some (.int .u8 (a.fdiv (2 ^ (min b.toNat 8)))) := by
  show rrun P (Op.shift .shr .u8 a .i64 b) h = _
  simp only [Op.shift, if_neg (Int.not_lt.2 hb)]; rfl
@[simp] theorem rr_shl_u8_u32 {t : TypeId} {x y : Operand} {a b : Int} (hb : 0 ≤ b) : rrun P (bop .shl t x y (.int .u8 a) (.int .u32 b)) h = some (.int .u8 (IntKind.u8.wrap (a * 2 ^ (min b.toNat 8)))) := by
  show rrun P (Op.shift .shl .u8 a .u32 b) h = _
  simp only [Op.shift, if_neg (Int.not_lt.2 hb)]; rfl
@[simp] theorem rr_shr_u8_u32 {t : TypeId} {x y : Operand} {a b : Int} (hb : 0 ≤ b) : rrun P (bop .shr t x y (.int .u8 a) (.int .u32 b)) h = some (.int .u8 (a.fdiv (2 ^ (min b.toNat 8)))) := by
  show rrun P (Op.shift .shr .u8 a .u32 b) h = _
  simp only [Op.shift, if_neg (Int.not_lt.2 hb)]; rfl
@[simp] theorem rr_shl_u8_u64 {t : TypeId} {x y : Operand} {a b : Int} (hb : 0 ≤ b) : rrun P (bop .shl t x y (.int .u8 a) (.int .u64 b)) h = some (.int .u8 (IntKind.u8.wrap (a * 2 ^ (min b.toNat 8)))) := by
  show rrun P (Op.shift .shl .u8 a .u64 b) h = _
  simp only [Op.shift, if_neg (Int.not_lt.2 hb)]; rfl
@[simp] theorem rr_shr_u8_u64 {t : TypeId} {x y : Operand} {a b : Int} (hb : 0 ≤ b) : rrun P (bop .shr t x y (.int .u8 a) (.int .u64 b)) h = some (.int .u8 (a.fdiv (2 ^ (min b.toNat 8)))) := by
  show rrun P (Op.shift .shr .u8 a .u64 b) h = _
  simp only [Op.shift, if_neg (Int.not_lt.2 hb)]; rfl
@[simp] theorem rr_min_u8 {ts : Array TypeId} {t : TypeId} {a b : Int} : rrun P (Builtin.min_ ts t #[.int .u8 a, .int .u8 b]) h = some (.int .u8 (min a b)) := by
  show some (Value.int .u8 (if b < a then b else a)) = _
  congr 2; split <;> omega
@[simp] theorem rr_max_u8 {ts : Array TypeId} {t : TypeId} {a b : Int} : rrun P (Builtin.max_ ts t #[.int .u8 a, .int .u8 b]) h = some (.int .u8 (max a b)) := by
  show some (Value.int .u8 (if b > a then b else a)) = _
  congr 2; split <;> omega

theorem wrap_i64 {x : Int} (h1 : -9223372036854775808 ≤ x) (h2 : x < 9223372036854775808) : IntKind.i64.wrap x = x := by
  show (if (decide (x % 18446744073709551616 ≥ 9223372036854775808)) = true then x % 18446744073709551616 - 18446744073709551616 else x % 18446744073709551616) = x
  by_cases c : x % 18446744073709551616 ≥ 9223372036854775808
  · rw [if_pos (by simpa using c)]; omega
  · rw [if_neg (by simpa using c)]; omega
theorem wrap_u32 {x : Int} (h1 : 0 ≤ x) (h2 : x < 4294967296) : IntKind.u32.wrap x = x := by
  show x % 4294967296 = x
  omega
theorem wrap_u16 {x : Int} (h1 : 0 ≤ x) (h2 : x < 65536) : IntKind.u16.wrap x = x := by
  show x % 65536 = x
  omega
theorem wrap_u8 {x : Int} (h1 : 0 ≤ x) (h2 : x < 256) : IntKind.u8.wrap x = x := by
  show x % 256 = x
  omega
theorem wrap_u64 {x : Int} (h1 : 0 ≤ x) (h2 : x < 18446744073709551616) : IntKind.u64.wrap x = x := by
  show x % 18446744073709551616 = x
  omega

/-! ### Memory -/

@[simp] theorem add_none {b o n : Nat} : Addr.add ⟨b, o, none⟩ n = ⟨b, o + n, none⟩ := by
  unfold Addr.add; split
  · rename_i e; subst e; rfl
  · rfl

/-- n cells from a place on. -/
def ldN (h : Hp) (b : Nat) : Nat → Nat → Option (List Value)
  | _, 0 => some []
  | o, n + 1 =>
    match h.cell? ⟨b, o, none⟩ with
    | some v => (ldN h b (o + 1) n).map (v :: ·)
    | none => none

theorem rr_loadCellsFrom {b o : Nat} : ∀ (n i : Nat) (acc : Array Value), rrun P (loadCellsFrom ⟨b, o, none⟩ i n acc) h = (ldN h b (o + i) n).map fun l => acc ++ l.toArray := by
  intro n
  induction n with
  | zero => intro i acc; simp [loadCellsFrom, ldN]; rfl
  | succ n ih =>
    intro i acc
    simp only [loadCellsFrom, ldN, add_none]
    rw [show (do let v ← load ⟨b, o + i, none⟩; loadCellsFrom ⟨b, o, none⟩ (i + 1) n (acc.push v) : Sem (Array Value)) = Sem.load .plain ⟨b, o + i, none⟩ fun v => loadCellsFrom ⟨b, o, none⟩ (i + 1) n (acc.push v) from rfl]
    simp only [rrun]
    cases h.cell? ⟨b, o + i, none⟩ with
    | none => rfl
    | some v =>
      simp only
      rw [ih]
      have : o + (i + 1) = o + i + 1 := by omega
      rw [this]
      cases ldN h b (o + i + 1) n <;> simp

theorem rr_bind_none {α β : Type} (s : Sem α) (f : α → Sem β) : ∀ {h : Hp}, rrun P s h = none → ∀ v, rrun P (s.bind f) h ≠ some v := by
  induction s with
  | pure a => intro h A; simp [rrun] at A
  | load m a k ih =>
    intro h A v
    simp only [rrun, Sem.bind] at A ⊢
    cases hc : h.cell? a with
    | none => simp
    | some u => simp only [hc] at A ⊢; exact ih u A v
  | shape r k ih =>
    intro h A v
    simp only [rrun, Sem.bind] at A ⊢
    cases ho : h r with
    | none => simp
    | some o => simp only [ho] at A ⊢; exact ih _ A v
  | frozen a k ih =>
    intro h A v
    simp only [rrun, Sem.bind] at A ⊢
    cases ho : h a.block with
    | none => simp
    | some o => simp only [ho] at A ⊢; exact ih _ A v
  | getObj r k ih =>
    intro h A v
    simp only [rrun, Sem.bind] at A ⊢
    cases ho : h r with
    | none => simp
    | some o =>
      simp only [ho] at A ⊢
      cases hr : isRow o with
      | true => simp
      | false => simp only [hr] at A ⊢; exact ih _ A v
  | choose q k ih =>
    intro h A v
    simp only [rrun, Sem.bind] at A ⊢
    by_cases hq : q.forced = true
    · simp only [hq, if_true] at A ⊢; exact ih _ A v
    · simp [hq]
  | program k ih => intro h A v; simp only [rrun, Sem.bind] at A ⊢; exact ih P A v
  | mark m k ih => intro h A v; simp only [rrun, Sem.bind] at A ⊢; exact ih A v
  | _ => intro h A v; simp [rrun, Sem.bind]

theorem rr_load_agg {t : TypeId} {n b o : Nat} (ha : rrun P (isAgg t) h = some true) (hs : rrun P (sizeOf t) h = some n) :
    rrun P (Instr.loadAt t (.pointer (some ⟨b, o, none⟩))) h = (ldN h b o n).map fun l => .agg l.toArray := by
  have e : Instr.loadAt t (.pointer (some ⟨b, o, none⟩)) = (isAgg t).bind fun g => if g then (sizeOf t).bind fun n => (loadCells ⟨b, o, none⟩ n).bind fun c => .pure (.agg c) else load ⟨b, o, none⟩ := rfl
  rw [e, rrun_bind _ _ ha]
  simp only [if_true]
  rw [rrun_bind _ _ hs]
  have := rr_loadCellsFrom (P := P) (h := h) (b := b) (o := o) n 0 #[]
  cases hl : ldN h b o n with
  | none =>
    simp only [Nat.add_zero, hl, Option.map_none] at this
    simp only [Option.map_none]
    cases hx : rrun P ((loadCells ⟨b, o, none⟩ n).bind fun c => .pure (Value.agg c)) h with
    | none => rfl
    | some v => exact absurd hx (rr_bind_none _ _ this v)
  | some l =>
    simp only [Nat.add_zero, hl, Option.map_some] at this
    rw [rrun_bind _ _ (show rrun P (loadCells ⟨b, o, none⟩ n) h = _ from this)]
    simp [rrun]

theorem rr_load_one {t : TypeId} {a : Addr} (ha : rrun P (isAgg t) h = some false) : rrun P (Instr.loadAt t (.pointer (some a))) h = h.cell? a := by
  have e : Instr.loadAt t (.pointer (some a)) = (isAgg t).bind fun g => if g then (sizeOf t).bind fun n => (loadCells a n).bind fun c => .pure (.agg c) else load a := rfl
  rw [e, rrun_bind _ _ ha, if_neg (by simp)]
  rw [show load a = Sem.load .plain a .pure from rfl]
  simp only [rrun]
  cases h.cell? a <;> rfl

/-- Cells stored one behind the other. -/
def stN (h : Hp) (b : Nat) : Nat → List Value → (Hp → Prop) → Prop
  | _, [], k => k h
  | o, v :: rest, k => stw (h.cell? ⟨b, o, none⟩) (h.frozen? ⟨b, o, none⟩) (oneCell v = true ∧ stN (h.setCell ⟨b, o, none⟩ v) b (o + 1) rest k)

theorem arun_storeCells {b o : Nat} : ∀ (l : List Value) (i : Nat) (h : Hp) (k : Unit → Hp → Prop), stN h b (o + i) l (k ()) → arun P (storeCells ⟨b, o, none⟩ l i) h k := by
  intro l
  induction l with
  | nil => intro i h k H; exact H
  | cons v rest ih =>
    intro i h k H
    obtain ⟨⟨u, hu⟩, hf, ho, H⟩ := H
    show arun P (Sem.store .plain (Addr.add ⟨b, o, none⟩ i) v _) h k
    rw [add_none]
    exact ⟨ho, ⟨u, hu⟩, hf, ih (i + 1) _ k H⟩

theorem arun_store {t : TypeId} {n b o : Nat} {v : Value} {k : Unit → Hp → Prop} (hs : ∀ h, rrun P (sizeOf t) h = some n) (hc : v.cells.size = n) (H : stN h b o v.cells.toList (k ())) :
    arun P (Instr.storeAt t (.pointer (some ⟨b, o, none⟩)) v) h k := by
  have e : Instr.storeAt t (.pointer (some ⟨b, o, none⟩)) v = (sizeOf t).bind fun n => if v.cells.size ≠ n then (stuck "storeVar: the value has not the size of the variable" : Sem Unit).bind fun _ => storeCells ⟨b, o, none⟩ v.cells.toList else storeCells ⟨b, o, none⟩ v.cells.toList := rfl
  rw [e]
  refine arun_bind _ _ (arun_of_rrun _ (hs h) ?_)
  rw [if_neg (by simp [hc])]
  exact arun_storeCells v.cells.toList 0 h k H


/-! ### Computing what a piece reads -/

theorem rrun_bnd {α β : Type} (s : Sem α) (f : α → Sem β) : rrun P (s >>= f) h = (rrun P s h).bind fun a => rrun P (f a) h := by
  cases hs : rrun P s h with
  | some a => exact rrun_bind s f hs
  | none =>
    simp only [Option.bind_none]
    cases hx : rrun P (s >>= f) h with
    | none => rfl
    | some v => exact absurd hx (rr_bind_none s f hs v)
theorem rrun_pure {α : Type} (a : α) : rrun P (pure a : Sem α) h = some a := rfl
theorem rrun_stuck {α : Type} (w : String) : rrun P (stuck w : Sem α) h = none := rfl
theorem rrun_unsup {α : Type} (w : Unsupported) : rrun P (unsupported w : Sem α) h = none := rfl
theorem rrun_ite {α : Type} (c : Prop) [Decidable c] (x y : Sem α) : rrun P (if c then x else y) h = if c then rrun P x h else rrun P y h := by split <;> rfl
theorem rr_underlying {t : TypeId} : rrun P (underlying t) h = P.underlying t := by
  have e : underlying t = Sem.program fun p => match p.underlying t with | some d => .pure d | none => stuck "no such type" := rfl
  rw [e]
  simp only [rrun]
  cases P.underlying t <;> rfl
theorem rr_info {t : TypeId} : rrun P (typeInfo t) h = P.info? t := by
  have e : typeInfo t = Sem.program fun p => match p.info? t with | some d => .pure d | none => stuck "no such type" := rfl
  rw [e]
  simp only [rrun]
  cases P.info? t <;> rfl
theorem rr_sizeOf {t : TypeId} : rrun P (sizeOf t) h = (P.info? t).map (·.size) := by
  unfold sizeOf
  rw [rrun_bnd, rr_info]
  cases P.info? t <;> rfl
theorem rr_zeroValue {t : TypeId} {v : Value} (hz : (P.info? t).bind (·.zero) = some v) : rrun P (zeroValue t) h = some v := by
  unfold zeroValue
  rw [rrun_bnd, rr_info]
  cases hi : P.info? t with
  | none => simp [hi] at hz
  | some i => simp only [hi, Option.bind_some] at hz ⊢; rw [hz]; rfl
theorem rr_boundsPanic {α : Type} {k : IntKind} {x y : Int} {c : BoundsCode} : rrun P (boundsPanic k x y c : Sem α) h = none := by
  have hp : ∀ (e : Bool), rrun P (runtimePanic (RuntimeError.bounds (IntKind.i64.wrap x) y e c) : Sem α) h = none := fun e => rfl
  unfold boundsPanic
  simp only []
  split
  · rw [rrun_bnd]
    cases hs : rrun P ((fun x => x == 1) <$> choose (Question.extern "runtime.boundsError.signed" 2)) h with
    | none => rfl
    | some v => exact hp v
  · exact hp _

theorem rr_indexAt_slice {t e : TypeId} {sz b o len cap : Nat} {i : Int} (hu : P.underlying t = some (.slice e)) (hs : (P.info? e).map (·.size) = some sz) (h0 : 0 ≤ i) (h1 : i < (len : Int)) :
    rrun P (Instr.indexAt t (.slice (some ⟨b, o, none⟩) len cap) (.int .i64 i)) h = some (.pointer (some ⟨b, o + i.toNat * sz, none⟩)) := by
  unfold Instr.indexAt
  simp only [rrun_bnd, asIntOf, rrun_pure, Option.bind_some, rr_underlying, hu]
  rw [if_pos ⟨h0, h1⟩]
  simp only [rrun_bnd, rr_sizeOf, hs, Option.bind_some, rrun_pure, add_none]

theorem rr_indexAt_array {t e : TypeId} {sz b o len : Nat} {i : Int} (hu : P.underlying t = some (.array len e)) (hs : (P.info? e).map (·.size) = some sz) (h0 : 0 ≤ i) (h1 : i < (len : Int)) :
    rrun P (Instr.indexAt t (.pointer (some ⟨b, o, none⟩)) (.int .i64 i)) h = some (.pointer (some ⟨b, o + i.toNat * sz, none⟩)) := by
  unfold Instr.indexAt
  simp only [rrun_bnd, asIntOf, Instr.sureAddr, rrun_pure, Option.bind_some, rr_underlying, hu]
  rw [if_pos ⟨h0, h1⟩]
  simp only [rrun_bnd, rr_sizeOf, hs, Option.bind_some, rrun_pure, add_none]

theorem rr_part_one {t : TypeId} {cs : Array Value} {o : Nat} (ha : rrun P (isAgg t) h = some false) : rrun P (part t cs o) h = cs[o]? := by
  unfold part
  rw [rrun_bnd, ha, Option.bind_some]
  simp only [Bool.false_eq_true, if_false]
  cases cs[o]? <;> rfl

theorem rr_index_array {t e n : Nat} {cs : Array Value} {i : Int} (hu : P.underlying t = some (.array n e)) (hs : (P.info? e).map (·.size) = some 1) (ha : rrun P (isAgg e) h = some false) (h0 : 0 ≤ i) (h1 : i < (n : Int)) :
    rrun P (Instr.index t (.agg cs) (.int .i64 i)) h = cs[i.toNat]? := by
  unfold Instr.index
  simp only [rrun_bnd, asIntOf, rrun_pure, Option.bind_some, rr_underlying, hu]
  rw [if_pos ⟨h0, h1⟩]
  simp only [rrun_bnd, rr_sizeOf, hs, Option.bind_some, Nat.mul_one, rr_part_one ha]

theorem arun_bind_rr {α β : Type} (s : Sem α) (f : α → Sem β) : ∀ {h : Hp} {Q : β → Hp → Prop} {a : α}, rrun P s h = some a → arun P (s.bind f) h Q = arun P (f a) h Q := by
  induction s with
  | pure a => intro h Q b A; simp only [rrun, Option.some.injEq] at A; subst A; rfl
  | load m a k ih =>
    intro h Q b A
    simp only [rrun] at A
    cases hc : h.cell? a with
    | none => simp [hc] at A
    | some v => simp only [hc] at A; simp only [Sem.bind, arun, hc, Option.some.injEq, exists_eq_left']; exact ih v A
  | shape r k ih =>
    intro h Q b A
    simp only [rrun] at A
    cases ho : h r with
    | none => simp [ho] at A
    | some o => simp only [ho] at A; simp only [Sem.bind, arun, ho, Option.some.injEq, exists_eq_left']; exact ih _ A
  | frozen a k ih =>
    intro h Q b A
    simp only [rrun] at A
    cases ho : h a.block with
    | none => simp [ho] at A
    | some o => simp only [ho] at A; simp only [Sem.bind, arun, ho, Option.some.injEq, exists_eq', true_and]; exact ih _ A
  | getObj r k ih =>
    intro h Q b A
    simp only [rrun] at A
    cases ho : h r with
    | none => simp [ho] at A
    | some o =>
      simp only [ho] at A
      cases hr : isRow o with
      | true => simp [hr] at A
      | false => simp only [hr] at A; simp only [Sem.bind, arun, ho, Option.some.injEq, exists_eq_left', hr, true_and]; exact ih _ A
  | choose q k ih =>
    intro h Q b A
    simp only [rrun] at A
    by_cases hq : q.forced = true
    · simp only [hq, if_true] at A; simp only [Sem.bind, arun, hq, if_true]; exact ih _ A
    · simp [hq] at A
  | program k ih => intro h Q b A; simp only [rrun] at A; simp only [Sem.bind, arun]; exact ih P A
  | mark m k ih => intro h Q b A; simp only [rrun] at A; simp only [Sem.bind, arun]; exact ih A
  | _ => intro h Q b A; simp [rrun] at A

theorem arun_storeCells_eq {b o : Nat} : ∀ (l : List Value) (i : Nat) (h : Hp) (k : Unit → Hp → Prop), arun P (storeCells ⟨b, o, none⟩ l i) h k = stN h b (o + i) l (k ()) := by
  intro l
  induction l with
  | nil => intro i h k; rfl
  | cons v rest ih =>
    intro i h k
    have e : storeCells ⟨b, o, none⟩ (v :: rest) i = Sem.store .plain (Addr.add ⟨b, o, none⟩ i) v (storeCells ⟨b, o, none⟩ rest (i + 1)) := rfl
    rw [e, add_none]
    simp only [arun, stN, stw]
    rw [ih (i + 1)]
    have : o + (i + 1) = o + i + 1 := by omega
    rw [this]
    apply propext
    constructor
    · rintro ⟨h1, h2, h3, h4⟩; exact ⟨h2, h3, h1, h4⟩
    · rintro ⟨h2, h3, h1, h4⟩; exact ⟨h1, h2, h3, h4⟩

theorem arun_store_eq {t : TypeId} {n b o : Nat} {v : Value} {k : Unit → Hp → Prop} (hs : (P.info? t).map (·.size) = some n) (hc : v.cells.size = n) :
    arun P (Instr.storeAt t (.pointer (some ⟨b, o, none⟩)) v) h k = stN h b o v.cells.toList (k ()) := by
  have e : Instr.storeAt t (.pointer (some ⟨b, o, none⟩)) v = (sizeOf t).bind fun n => if v.cells.size ≠ n then (stuck "storeVar: the value has not the size of the variable" : Sem Unit).bind fun _ => storeCells ⟨b, o, none⟩ v.cells.toList else storeCells ⟨b, o, none⟩ v.cells.toList := rfl
  rw [e, arun_bind_rr _ _ (rr_sizeOf.trans hs), if_neg (by simp [hc])]
  exact arun_storeCells_eq v.cells.toList 0 h k

theorem arun_alloc {t : TypeId} {v : Value} {k : Value → Hp → Prop} (hz : (P.info? t).bind (·.zero) = some v) :
    arun P (Instr.alloc t true (.tuple #[])) h k = nw h (.cells v.cells t) fun b h => k (.pointer (some ⟨b, 0, none⟩)) h := by
  have e : Instr.alloc t true (.tuple #[]) = (zeroValue t).bind fun z => (newVar t z).bind fun a => .pure (.pointer (some a)) := rfl
  rw [e, arun_bind_rr _ _ (rr_zeroValue hz)]
  rfl

/-! ### The partial heap -/
@[simp ↓] theorem upd_get {b x : Nat} {o : Obj} : (h.upd b o) x = if x = b then some o else h x := rfl
@[simp] theorem upd_upd {b : Nat} {o o' : Obj} : (h.upd b o).upd b o' = h.upd b o' := by
  funext x; simp only [Hp.upd]; split <;> rfl
@[simp] theorem cell_def {b o : Nat} : h.cell? ⟨b, o, none⟩ = match h b with | some (.cells c _ _) => c[o]? | _ => none := by
  unfold Hp.cell?; simp only; split <;> simp_all
@[simp] theorem frozen_def {b o : Nat} : h.frozen? ⟨b, o, none⟩ = match h b with | some (.cells _ _ (lo, hi)) => decide (lo ≤ o) && decide (o < hi) | _ => false := by
  unfold Hp.frozen?; rfl
@[simp] theorem setCell_def {b o : Nat} {v : Value} : h.setCell ⟨b, o, none⟩ v = match h b with | some (.cells c e fr) => h.upd b (.cells (c.setIfInBounds o v) e fr) | _ => h := by
  unfold Hp.setCell; simp only; split <;> simp_all
@[simp] theorem ldN_0 {b o : Nat} : ldN h b o 0 = some [] := rfl
theorem ldN_succ {b o n : Nat} : ldN h b o (n + 1) = (h.cell? ⟨b, o, none⟩).bind fun v => (ldN h b (o + 1) n).map (v :: ·) := by
  simp only [ldN]; cases h.cell? ⟨b, o, none⟩ <;> rfl
@[simp] theorem ldN_1 {b o : Nat} : ldN h b o 1 = (h.cell? ⟨b, o, none⟩).bind fun a0 => some [a0] := by
  simp only [ldN_succ, ldN_0, Nat.add_assoc, Option.map_some, Nat.reduceAdd]
  first | done | rfl | (simp only [Option.map_bind, Function.comp_def, Option.map_some]; try rfl)
@[simp] theorem ldN_2 {b o : Nat} : ldN h b o 2 = (h.cell? ⟨b, o, none⟩).bind fun a0 => (h.cell? ⟨b, o + 1, none⟩).bind fun a1 => some [a0, a1] := by
  simp only [ldN_succ, ldN_0, Nat.add_assoc, Option.map_some, Nat.reduceAdd]
  first | done | rfl | (simp only [Option.map_bind, Function.comp_def, Option.map_some]; try rfl)
@[simp] theorem ldN_3 {b o : Nat} : ldN h b o 3 = (h.cell? ⟨b, o, none⟩).bind fun a0 => (h.cell? ⟨b, o + 1, none⟩).bind fun a1 => (h.cell? ⟨b, o + 2, none⟩).bind fun a2 => some [a0, a1, a2] := by
  simp only [ldN_succ, ldN_0, Nat.add_assoc, Option.map_some, Nat.reduceAdd]
  first | done | rfl | (simp only [Option.map_bind, Function.comp_def, Option.map_some]; try rfl)
@[simp] theorem ldN_4 {b o : Nat} : ldN h b o 4 = (h.cell? ⟨b, o, none⟩).bind fun a0 => (h.cell? ⟨b, o + 1, none⟩).bind fun a1 => (h.cell? ⟨b, o + 2, none⟩).bind fun a2 => (h.cell? ⟨b, o + 3, none⟩).bind fun a3 => some [a0, a1, a2, a3] := by
  simp only [ldN_succ, ldN_0, Nat.add_assoc, Option.map_some, Nat.reduceAdd]
  first | done | rfl | (simp only [Option.map_bind, Function.comp_def, Option.map_some]; try rfl)
@[simp] theorem ldN_5 {b o : Nat} : ldN h b o 5 = (h.cell? ⟨b, o, none⟩).bind fun a0 => (h.cell? ⟨b, o + 1, none⟩).bind fun a1 => (h.cell? ⟨b, o + 2, none⟩).bind fun a2 => (h.cell? ⟨b, o + 3, none⟩).bind fun a3 => (h.cell? ⟨b, o + 4, none⟩).bind fun a4 => some [a0, a1, a2, a3, a4] := by
  simp only [ldN_succ, ldN_0, Nat.add_assoc, Option.map_some, Nat.reduceAdd]
  first | done | rfl | (simp only [Option.map_bind, Function.comp_def, Option.map_some]; try rfl)
@[simp] theorem ldN_6 {b o : Nat} : ldN h b o 6 = (h.cell? ⟨b, o, none⟩).bind fun a0 => (h.cell? ⟨b, o + 1, none⟩).bind fun a1 => (h.cell? ⟨b, o + 2, none⟩).bind fun a2 => (h.cell? ⟨b, o + 3, none⟩).bind fun a3 => (h.cell? ⟨b, o + 4, none⟩).bind fun a4 => (h.cell? ⟨b, o + 5, none⟩).bind fun a5 => some [a0, a1, a2, a3, a4, a5] := by
  simp only [ldN_succ, ldN_0, Nat.add_assoc, Option.map_some, Nat.reduceAdd]
  first | done | rfl | (simp only [Option.map_bind, Function.comp_def, Option.map_some]; try rfl)
@[simp] theorem ldN_7 {b o : Nat} : ldN h b o 7 = (h.cell? ⟨b, o, none⟩).bind fun a0 => (h.cell? ⟨b, o + 1, none⟩).bind fun a1 => (h.cell? ⟨b, o + 2, none⟩).bind fun a2 => (h.cell? ⟨b, o + 3, none⟩).bind fun a3 => (h.cell? ⟨b, o + 4, none⟩).bind fun a4 => (h.cell? ⟨b, o + 5, none⟩).bind fun a5 => (h.cell? ⟨b, o + 6, none⟩).bind fun a6 => some [a0, a1, a2, a3, a4, a5, a6] := by
  simp only [ldN_succ, ldN_0, Nat.add_assoc, Option.map_some, Nat.reduceAdd]
  first | done | rfl | (simp only [Option.map_bind, Function.comp_def, Option.map_some]; try rfl)
@[simp] theorem ldN_8 {b o : Nat} : ldN h b o 8 = (h.cell? ⟨b, o, none⟩).bind fun a0 => (h.cell? ⟨b, o + 1, none⟩).bind fun a1 => (h.cell? ⟨b, o + 2, none⟩).bind fun a2 => (h.cell? ⟨b, o + 3, none⟩).bind fun a3 => (h.cell? ⟨b, o + 4, none⟩).bind fun a4 => (h.cell? ⟨b, o + 5, none⟩).bind fun a5 => (h.cell? ⟨b, o + 6, none⟩).bind fun a6 => (h.cell? ⟨b, o + 7, none⟩).bind fun a7 => some [a0, a1, a2, a3, a4, a5, a6, a7] := by
  simp only [ldN_succ, ldN_0, Nat.add_assoc, Option.map_some, Nat.reduceAdd]
  first | done | rfl | (simp only [Option.map_bind, Function.comp_def, Option.map_some]; try rfl)
@[simp] theorem ldN_9 {b o : Nat} : ldN h b o 9 = (h.cell? ⟨b, o, none⟩).bind fun a0 => (h.cell? ⟨b, o + 1, none⟩).bind fun a1 => (h.cell? ⟨b, o + 2, none⟩).bind fun a2 => (h.cell? ⟨b, o + 3, none⟩).bind fun a3 => (h.cell? ⟨b, o + 4, none⟩).bind fun a4 => (h.cell? ⟨b, o + 5, none⟩).bind fun a5 => (h.cell? ⟨b, o + 6, none⟩).bind fun a6 => (h.cell? ⟨b, o + 7, none⟩).bind fun a7 => (h.cell? ⟨b, o + 8, none⟩).bind fun a8 => some [a0, a1, a2, a3, a4, a5, a6, a7, a8] := by
  simp only [ldN_succ, ldN_0, Nat.add_assoc, Option.map_some, Nat.reduceAdd]
  first | done | rfl | (simp only [Option.map_bind, Function.comp_def, Option.map_some]; try rfl)
theorem upd_none {b x : Nat} {o : Obj} (hx : (h.upd b o) x = none) : x ≠ b ∧ h x = none := by
  unfold Hp.upd at hx; split at hx
  · cases hx
  · rename_i hne; exact ⟨hne, hx⟩
@[simp] theorem oneCell_int {k : IntKind} {n : Int} : oneCell (.int k n) = true := rfl
@[simp] theorem oneCell_bool {n : Bool} : oneCell (.bool n) = true := rfl
@[simp] theorem oneCell_slice {a : Option Addr} {n c : Nat} : oneCell (.slice a n c) = true := rfl
@[simp] theorem oneCell_ptr {a : Option Addr} : oneCell (.pointer a) = true := rfl
@[simp] theorem oneCell_map {a : Option Nat} : oneCell (.map a) = true := rfl
@[simp] theorem oneCell_string {a : ByteArray} : oneCell (.string a) = true := rfl
@[congr] theorem stN_congr {b o : Nat} {l l' : List Value} {k : Hp → Prop} (e : l = l') : stN h b o l k = stN h b o l' k := by rw [e]
@[simp ↓] theorem stN_nil {b o : Nat} {k : Hp → Prop} : stN h b o [] k = k h := rfl
@[simp] theorem stN_cons {b o : Nat} {v : Value} {l : List Value} {k : Hp → Prop} : stN h b o (v :: l) k = stw (h.cell? ⟨b, o, none⟩) (h.frozen? ⟨b, o, none⟩) (oneCell v = true ∧ stN (h.setCell ⟨b, o, none⟩ v) b (o + 1) l k) := rfl


/-! ### A whole object stored -/
def stA (h : Hp) (b : Nat) (o : Nat) (l : List Value) (k : Hp → Prop) : Prop := stN h b o l k
@[congr] theorem stA_congr {h h' : Hp} {b o : Nat} {l l' : List Value} {k : Hp → Prop} (e0 : h = h') (e : l = l') : stA h b o l k = stA h' b o l' k := by rw [e0, e]

theorem upd_self {h : Hp} {b : Nat} {o : Obj} (hb : h b = some o) : h.upd b o = h := by
  funext i
  rw [upd_get]
  split
  · rename_i e; rw [e, hb]
  · rfl

theorem stN_run {b : Nat} {E : TypeId} {k : Hp → Prop} : ∀ (vals rest pre : List Value) (h : Hp), h b = some (.cells (pre ++ rest).toArray E (0, 0)) → rest.length = vals.length → vals.all oneCell = true →
    stN h b pre.length vals k = k (h.upd b (.cells (pre ++ vals).toArray E (0, 0)))
  | [], rest, pre, h, hb, hl, _ => by
    have : rest = [] := List.length_eq_zero_iff.1 hl
    subst this
    rw [stN_nil, upd_self hb]
  | v :: vals, [], pre, h, hb, hl, _ => by simp at hl
  | v :: vals, u :: rest, pre, h, hb, hl, ho => by
    simp only [List.all_cons, Bool.and_eq_true] at ho
    rw [stN_cons]
    have hc : h.cell? ⟨b, pre.length, none⟩ = some u := by unfold Hp.cell?; simp [hb]
    have hf : h.frozen? ⟨b, pre.length, none⟩ = false := by unfold Hp.frozen?; simp [hb]
    have hs : h.setCell ⟨b, pre.length, none⟩ v = h.upd b (.cells ((pre ++ [v]) ++ rest).toArray E (0, 0)) := by
      rw [setCell_def, hb]
      simp only []
      congr 2
      simp
    rw [hc, hf, stw_ok, hs, ho.1]
    simp only [true_and]
    have := stN_run (k := k) vals rest (pre ++ [v]) (h.upd b (.cells ((pre ++ [v]) ++ rest).toArray E (0, 0))) (by rw [upd_get, if_pos rfl]) (by simpa using hl) ho.2
    rw [List.length_append, List.length_singleton] at this
    rw [this]
    congr 1
    funext i
    rw [upd_get, upd_get, upd_get]
    split <;> simp

theorem stA_of {h : Hp} {b : Nat} {l vals : List Value} {E : TypeId} {k : Hp → Prop} (hb : h b = some (.cells l.toArray E (0, 0))) (hl : l.length = vals.length) (ho : vals.all oneCell = true) : stA h b 0 vals k = k (h.upd b (.cells vals.toArray E (0, 0))) :=
  stN_run vals l [] h hb hl ho

/-- Where the object was just made. -/
@[simp] theorem stA_upd {h : Hp} {b : Nat} {l vals : List Value} {E : TypeId} {k : Hp → Prop} : stA (h.upd b (.cells l.toArray E (0, 0))) b 0 vals k = if l.length = vals.length ∧ vals.all oneCell = true then k (h.upd b (.cells vals.toArray E (0, 0))) else stN (h.upd b (.cells l.toArray E (0, 0))) b 0 vals k := by
  split
  · rename_i e
    rw [stA_of (h := h.upd b (.cells l.toArray E (0, 0))) (by rw [upd_get, if_pos rfl]) e.1 e.2]
    congr 1
    funext i
    rw [upd_get, upd_get, upd_get]
    split <;> simp
  · rfl

end
end Go.Proofs.Ytmbhlbohbpepaaa

/- '==' of structs, as one Bool. -/
namespace Go.Proofs.Ytmbhlbohbpepaaa
open Go
section
variable {P : Program} {h : Hp} {d : Nat} {xs ys : Array Value} {f : Field} {fs : List Field} {a b : Value} {r s : Bool}

theorem rr_program : rrun P program h = some P := rfl

theorem rr_equalIn_struct {t : TypeId} {fs : Array Field} (hu : P.underlying t = some (.struct fs)) (hp : P.stoodInHeld t = false) :
    rrun P (Op.equalIn (d + 1) t (.agg xs) (.agg ys)) h = rrun P (Op.eqFields d xs ys fs.toList) h := by
  simp only [Op.equalIn, rrun_bnd, rr_underlying, hu, Option.bind_some, rr_program, hp, Bool.false_eq_true, if_false]
  rw [← Array.forIn_toList]
  generalize fs.toList = l
  clear hu
  induction l with
  | nil => simp [Op.eqFields, rrun_pure]
  | cons f fs ih =>
    simp only [List.forIn_cons, Op.eqFields, rrun_bnd, rrun_ite]
    split
    · cases rrun P (part f.type xs f.offset) h with
      | none => rfl
      | some a =>
        cases rrun P (part f.type ys f.offset) h with
        | none => rfl
        | some b =>
          simp only [Option.bind_some]
          cases rrun P (Op.equalIn d f.type a b) h with
          | none => rfl
          | some r =>
            cases r
            · simp [rrun_pure]
            · simp only [Option.bind_some, Bool.not_true, Bool.false_eq_true, if_false, rrun_pure]
              exact ih
    · simp only [rrun_pure, Option.bind_some]
      exact ih

theorem rr_eqf_nil : rrun P (Op.eqFields d xs ys []) h = some true := rfl

theorem rr_eqf_cons (hn : (f.name == "_") = false) (ha : rrun P (part f.type xs f.offset) h = some a) (hb : rrun P (part f.type ys f.offset) h = some b)
    (he : rrun P (Op.equalIn d f.type a b) h = some r) (hr : rrun P (Op.eqFields d xs ys fs) h = some s) : rrun P (Op.eqFields d xs ys (f :: fs)) h = some (r && s) := by
  have hn' : f.name ≠ "_" := by simpa using hn
  rw [Op.eqFields]
  simp only [if_pos hn', rrun_bnd, ha, hb, he, Option.bind_some, rrun_ite, rrun_pure]
  cases r
  · simp
  · simpa using hr

theorem rr_eql_struct {t : TypeId} {fs : Array Field} {x y : Operand} (hu : P.underlying t = some (.struct fs)) (hp : P.stoodInHeld t = false) (hg : P.eqGuardType P.depth t = false)
    (hr : rrun P (Op.eqFields 9999 xs ys fs.toList) h = some r) : rrun P (bop .eql t x y (.agg xs) (.agg ys)) h = some (.bool r) := by
  have hgd : rrun P (eqGuard .eql t x y (.agg xs) (.agg ys)) h = some () := by
    simp [eqGuard, rrun_bnd, rr_program, hg, rrun_pure]
  unfold bop
  rw [rrun_bnd, hgd, Option.bind_some]
  have e : binOp .eql t (.agg xs) (.agg ys) = (Op.equalIn (9999 + 1) t (.agg xs) (.agg ys) >>= fun b => pure (.bool b)) := rfl
  rw [e, rrun_bnd, rr_equalIn_struct hu hp, hr]
  rfl

theorem rr_neq_struct {t : TypeId} {fs : Array Field} {x y : Operand} (hu : P.underlying t = some (.struct fs)) (hp : P.stoodInHeld t = false) (hg : P.eqGuardType P.depth t = false)
    (hr : rrun P (Op.eqFields 9999 xs ys fs.toList) h = some r) : rrun P (bop .neq t x y (.agg xs) (.agg ys)) h = some (.bool !r) := by
  have hgd : rrun P (eqGuard .neq t x y (.agg xs) (.agg ys)) h = some () := by
    simp [eqGuard, rrun_bnd, rr_program, hg, rrun_pure]
  unfold bop
  rw [rrun_bnd, hgd, Option.bind_some]
  have e : binOp .neq t (.agg xs) (.agg ys) = (Op.equalIn (9999 + 1) t (.agg xs) (.agg ys) >>= fun b => pure (.bool (!b))) := rfl
  rw [e, rrun_bnd, rr_equalIn_struct hu hp, hr]
  rfl

end
end Go.Proofs.Ytmbhlbohbpepaaa

/- Slices that a function owns: reading, appending. -/
namespace Go.Proofs.Ytmbhlbohbpepaaa
open Go
set_option linter.unusedSimpArgs false
section
variable {P : Program} {h : Hp}

def writeL (c : Array Value) : Nat → List Value → Array Value
  | _, [] => c
  | o, v :: l => writeL (c.setIfInBounds o v) (o + 1) l

theorem writeL_size : ∀ (l : List Value) (c : Array Value) (o : Nat), (writeL c o l).size = c.size
  | [], _, _ => rfl
  | v :: l, c, o => by simp only [writeL]; rw [writeL_size l]; simp

theorem writeL_get : ∀ (l : List Value) (c : Array Value) (o i : Nat), o + l.length ≤ c.size → (writeL c o l)[i]? = if o ≤ i ∧ i < o + l.length then l[i - o]? else c[i]?
  | [], c, o, i, _ => by simp [writeL]; omega
  | v :: l, c, o, i, hl => by
    simp only [List.length_cons] at hl ⊢
    simp only [writeL]
    rw [writeL_get l _ (o + 1) i (by simp; omega)]
    by_cases h1 : o + 1 ≤ i ∧ i < o + 1 + l.length
    · rw [if_pos h1, if_pos (by omega)]
      have : i - o = (i - (o + 1)) + 1 := by omega
      rw [this, List.getElem?_cons_succ]
    · rw [if_neg h1]
      by_cases h2 : i = o
      · subst h2
        rw [if_pos (by omega)]
        have : i < c.size := by omega
        simp [this]
      · rw [if_neg (by omega), Array.getElem?_setIfInBounds_ne (Ne.symm h2)]

theorem stN_write {b : Nat} {e : TypeId} {k : Hp → Prop} : ∀ (l : List Value) (o : Nat) (c : Array Value) (h : Hp), h b = some (.cells c e (0, 0)) → o + l.length ≤ c.size → (∀ v ∈ l, oneCell v = true) →
    k (h.upd b (.cells (writeL c o l) e (0, 0))) → stN h b o l k := by
  intro l
  induction l with
  | nil =>
    intro o c h hb _ _ hk
    have : h.upd b (.cells c e (0, 0)) = h := by
      funext x; unfold Hp.upd; split
      · rename_i hx; subst hx; exact hb.symm
      · rfl
    simp only [writeL, this] at hk
    exact hk
  | cons v l ih =>
    intro o c h hb hl hv hk
    simp only [List.length_cons] at hl
    rw [stN_cons]
    have hlt : o < c.size := by omega
    have hc : h.cell? ⟨b, o, none⟩ = some c[o] := by simp [hb, hlt]
    have hf : h.frozen? ⟨b, o, none⟩ = false := by simp [hb]
    rw [hc, hf, stw_ok]
    refine ⟨hv v (by simp), ?_⟩
    have hs : h.setCell ⟨b, o, none⟩ v = h.upd b (.cells (c.setIfInBounds o v) e (0, 0)) := by simp [hb]
    rw [hs]
    refine ih (o + 1) (c.setIfInBounds o v) _ (by simp) (by simp; omega) (fun u hu => hv u (by simp [hu])) ?_
    rw [upd_upd]
    exact hk

theorem arun_askRoom {n : Nat} {Q : Unit → Hp → Prop} : arun P (askRoom n) h Q = Q () h := by
  unfold askRoom; split <;> rfl

theorem arun_bnd_rr {α β : Type} {s : Sem α} {f : α → Sem β} {Q : β → Hp → Prop} {a : α} (A : rrun P s h = some a) : arun P (s >>= f) h Q = arun P (f a) h Q := arun_bind_rr s f A

theorem growBy_le (n : Nat) : ∀ r c, c < n → Builtin.growBy n r c ≤ 2 * n + 768
  | 0, c, hc => by simp only [Builtin.growBy]; omega
  | r + 1, c, hc => by
    simp only [Builtin.growBy]
    split
    · omega
    · by_cases h2 : c + (c + 768) / 4 < n
      · exact growBy_le n r _ h2
      · have stop : ∀ r d, n ≤ d → Builtin.growBy n r d = d := by
          intro r d hd
          cases r with
          | zero => rfl
          | succ r => simp only [Builtin.growBy]; rw [if_pos hd]
        rw [stop r _ (by omega)]
        omega

theorem nextcap_le {n c : Nat} (h : c < n) : Builtin.nextslicecap n c ≤ 2 * n + 768 := by
  unfold Builtin.nextslicecap
  split
  · omega
  · split
    · omega
    · exact growBy_le n 4 c h

theorem arun_append {sT xT R E E2 sz bytes : Nat} {z : Value} (hs : P.underlying sT = some (.slice E)) (hx : P.underlying xT = some (.slice E2))
    (hsz : (P.info? E).map (·.size) = some sz) (hby : (P.info? E).map (·.bytes) = some bytes) (hz : (P.info? E).bind (·.zero) = some z)
    {base xb : Option Addr} {len cap m xc : Nat} {k : Value → Hp → Prop} {new : Array Value} (hb0 : 0 < bytes)
    (hnew : rrun P (Builtin.firstCells sz m (.slice xb m xc)) h = some new)
    (hfit : len + m ≤ cap → (match base with
      | some a => arun P (storeCells (a.add (len * sz)) new.toList) h fun _ h' => k (.slice base (len + m) cap) h'
      | none => k (.slice base (len + m) cap) h))
    (hgrow : cap < len + m → Builtin.nextslicecap (len + m) cap * bytes ≤ 2 ^ 48 ∧ ∃ old, rrun P (Builtin.firstCells sz len (.slice base len cap)) h = some old ∧
      ∀ cap' b, len + m ≤ cap' → h b = none → k (.slice (some ⟨b, 0, none⟩) (len + m) cap') (h.upd b (.cells (old ++ new ++ Builtin.zeroCells z.cells (cap' - (len + m))) E))) :
    arun P (Builtin.append_ #[sT, xT] R #[.slice base len cap, .slice xb m xc]) h k := by
  unfold Builtin.append_
  simp only [aget_0, aget_1]
  rw [arun_bnd_rr (a := .slice E) (by rw [rr_underlying, hs])]
  simp only []
  rw [arun_bnd_rr (a := sz) (by rw [rr_sizeOf, hsz]), arun_bnd_rr (a := .slice E2) (by rw [rr_underlying, hx]), arun_bnd_rr (a := false) rfl]
  simp only [Bool.false_eq_true, if_false]
  rw [arun_bnd_rr (a := m) rfl]
  simp only [Bool.not_false, if_true]
  by_cases hn : len + m ≤ cap
  · rw [if_pos hn]
    have := hfit hn
    refine arun_bind _ _ (arun_of_rrun _ hnew ?_)
    cases base with
    | none => exact this
    | some a => exact arun_bind _ _ this
  · rw [if_neg hn]
    obtain ⟨hcap, old, hold, hk⟩ := hgrow (by omega)
    obtain ⟨info, hinfo⟩ : ∃ i, P.info? E = some i := by
      cases hi : P.info? E with
      | none => simp [hi] at hsz
      | some i => exact ⟨i, rfl⟩
    have hbi : info.bytes = bytes := by simpa [hinfo] using hby
    have tail : arun P (do
        let newCap ← choose (.appendCap (len + m) cap E)
        askRoom (newCap * (← typeInfo E).bytes)
        let old ← Builtin.firstCells sz len (.slice base len cap)
        let new ← Builtin.firstCells sz m (.slice xb m xc)
        let rest := Builtin.zeroCells (← zeroValue E).cells (newCap - (len + m))
        pure (.slice (some (← newRow E (old ++ new ++ rest))) (len + m) newCap)) h k := by
      refine arun_bind _ _ ?_
      show arun P (Sem.choose _ Sem.pure) h _
      unfold arun
      rw [if_neg (by simp [Question.forced])]
      intro t
      show arun P (Sem.bind _ _) h _
      refine arun_bind _ _ (arun_of_rrun _ (a := info) (by rw [rr_info, hinfo]) ?_)
      refine arun_bind _ _ ?_
      rw [arun_askRoom]
      refine arun_bind _ _ (arun_of_rrun _ hold ?_)
      refine arun_bind _ _ (arun_of_rrun _ hnew ?_)
      refine arun_bind _ _ (arun_of_rrun _ (rr_zeroValue hz) ?_)
      intro b hb
      refine hk _ b ?_ hb
      simp only [Question.cut]
      omega
    rw [arun_bnd_rr (a := info) (by rw [rr_info, hinfo])]
    rw [if_neg (by simp; intro _; omega)]
    rw [arun_bnd_rr (a := info) (by rw [rr_info, hinfo])]
    rw [if_neg (by rw [hbi]; omega)]
    exact tail


theorem rr_loadCells {b o n : Nat} : rrun P (loadCells ⟨b, o, none⟩ n) h = (ldN h b o n).map List.toArray := by
  have := rr_loadCellsFrom (P := P) (h := h) (b := b) (o := o) n 0 #[]
  simp only [Nat.add_zero] at this
  rw [show loadCells ⟨b, o, none⟩ n = loadCellsFrom ⟨b, o, none⟩ 0 n #[] from rfl, this]
  cases ldN h b o n <;> simp

theorem ldN_of {b : Nat} {c : Array Value} {e : TypeId} {fr : Nat × Nat} (hb : h b = some (.cells c e fr)) : ∀ (n o : Nat), o + n ≤ c.size → ldN h b o n = some ((c.toList.drop o).take n)
  | 0, o, _ => by simp
  | n + 1, o, hn => by
    have hlt : o < c.size := by omega
    rw [ldN_succ, ldN_of hb n (o + 1) (by omega)]
    simp only [cell_def, hb, Array.getElem?_eq_getElem hlt, Option.bind_some, Option.map_some]
    congr 1
    have hl2 : o < c.toList.length := by simpa using hlt
    rw [List.drop_eq_getElem_cons hl2, List.take_succ_cons]
    simp

/-- The cells of a block hold these, each as so many cells. -/
def Enc {α : Type} (c : Array Value) (o sz : Nat) (enc : α → List Value) (xs : List α) : Prop := ∀ i x, xs[i]? = some x → ∀ j, j < sz → c[o + i * sz + j]? = (enc x)[j]?

/-- A slice that begins its block, and whose elements read so. -/
def SlAt {α : Type} (h : Hp) (E sz : Nat) (enc : α → List Value) (v : Value) (xs : List α) : Prop :=
  (v = .slice none 0 0 ∧ xs = []) ∨
  ∃ b cap c, v = .slice (some ⟨b, 0, none⟩) xs.length cap ∧ h b = some (.cells c E (0, 0)) ∧ xs.length ≤ cap ∧ cap * sz ≤ c.size ∧ Enc c 0 sz enc xs

def blkOf : Value → Option Nat
  | .slice (some a) _ _ => some a.block
  | _ => none

theorem SlAt.keep {α : Type} {h h' : Hp} {E sz : Nat} {enc : α → List Value} {v : Value} {xs : List α} (s : SlAt h E sz enc v xs) (hk : ∀ b o, blkOf v = some b → h b = some o → h' b = some o) : SlAt h' E sz enc v xs := by
  rcases s with s | ⟨b, cap, c, rfl, hb, h1, h2, h3⟩
  · exact .inl s
  · exact .inr ⟨b, cap, c, rfl, hk b _ rfl hb, h1, h2, h3⟩

theorem Enc.push {α : Type} {c c' : Array Value} {o sz : Nat} {enc : α → List Value} {xs : List α} {y : α} (H : Enc c o sz enc xs)
    (h1 : ∀ i, i < xs.length * sz → c'[o + i]? = c[o + i]?) (h2 : ∀ j, j < sz → c'[o + xs.length * sz + j]? = (enc y)[j]?) : Enc c' o sz enc (xs ++ [y]) := by
  intro i x hx j hj
  rcases Nat.lt_or_ge i xs.length with hi | hi
  · rw [List.getElem?_append_left hi] at hx
    rw [← H i x hx j hj]
    have : i * sz + j < xs.length * sz := by
      have : (i + 1) * sz ≤ xs.length * sz := Nat.mul_le_mul_right _ hi
      rw [Nat.add_mul] at this
      omega
    have := h1 (i * sz + j) this
    simpa [Nat.add_assoc] using this
  · rw [List.getElem?_append_right hi] at hx
    have hi0 : i - xs.length = 0 := by
      rcases Nat.eq_zero_or_pos (i - xs.length) with h0 | h0
      · exact h0
      · rw [List.getElem?_eq_none (by simp; omega)] at hx; cases hx
    rw [hi0] at hx
    simp at hx
    subst hx
    have : i = xs.length := by omega
    subst this
    exact h2 j hj

theorem arun_push {α : Type} {sT xT R E E2 sz bytes : Nat} {z : Value} (hs : P.underlying sT = some (.slice E)) (hx : P.underlying xT = some (.slice E2))
    (hsz : (P.info? E).map (·.size) = some sz) (hby : (P.info? E).map (·.bytes) = some bytes) (hz : (P.info? E).bind (·.zero) = some z) (hb0 : 0 < bytes) (hzs : z.cells.size = sz)
    {enc : α → List Value} {v : Value} {xs : List α} {y : α} {b2 o2 c2 : Nat} {k : Value → Hp → Prop} (S : SlAt h E sz enc v xs) (hy : ldN h b2 o2 sz = some (enc y)) (hyl : (enc y).length = sz)
    (hone : ∀ u ∈ enc y, oneCell u = true) (hbd : (2 * xs.length + 770) * bytes ≤ 2 ^ 48)
    (K : ∀ b c cap, (some b = blkOf v ∨ h b = none) → xs.length + 1 ≤ cap → cap * sz ≤ c.size → Enc c 0 sz enc (xs ++ [y]) →
      k (.slice (some ⟨b, 0, none⟩) (xs.length + 1) cap) (h.upd b (.cells c E (0, 0)))) :
    arun P (Builtin.append_ #[sT, xT] R #[v, .slice (some ⟨b2, o2, none⟩) 1 c2]) h k := by
  have hnew : rrun P (Builtin.firstCells sz 1 (.slice (some ⟨b2, o2, none⟩) 1 c2)) h = some (enc y).toArray := by
    show rrun P (loadCells ⟨b2, o2, none⟩ (1 * sz)) h = _
    rw [Nat.one_mul, rr_loadCells, hy]; rfl
  have hzc : ∀ n, (Builtin.zeroCells z.cells n).size = n * sz := by intro n; simp [Builtin.zeroCells, hzs]
  rcases S with ⟨rfl, rfl⟩ | ⟨b, cap, c, rfl, hb, h1, h2, h3⟩
  · refine arun_append hs hx hsz hby hz hb0 hnew (fun h0 => absurd h0 (by omega)) (fun _ => ⟨?_, #[], rfl, fun cap' b hc hb => ?_⟩)
    · refine Nat.le_trans (Nat.mul_le_mul_right bytes ?_) hbd
      have := nextcap_le (n := 0 + 1) (c := 0) (by omega)
      simp only [List.length_nil]; omega
    · refine K b _ cap' (.inr hb) (by simpa using hc) ?_ ?_
      · obtain ⟨d, rfl⟩ : ∃ d, cap' = 1 + d := ⟨cap' - 1, by omega⟩
        simp only [Array.size_append, hzc, List.size_toArray, hyl, List.length_nil]
        have : 1 + d - (0 + 1) = d := by omega
        rw [this, Nat.add_mul, Nat.one_mul]
        omega
      · refine Enc.push (c := #[]) (fun i x hx => by cases hx) (fun i hi => absurd hi (by simp)) (fun j hj => ?_)
        rw [Array.getElem?_append_left (by simp [hyl]; omega)]
        simp
  · refine arun_append hs hx hsz hby hz hb0 hnew (fun hle => ?_) (fun hlt => ⟨?_, ((c.toList.drop 0).take (xs.length * sz)).toArray, ?_, fun cap' b' hc hb' => ?_⟩)
    · simp only [add_none]
      rw [arun_storeCells_eq]
      have hsz2 : xs.length * sz + sz ≤ c.size := by
        have : (xs.length + 1) * sz ≤ cap * sz := Nat.mul_le_mul_right _ hle
        rw [Nat.add_mul] at this
        omega
      refine stN_write _ _ c h hb (by simp [hyl]; omega) (by simpa using hone) ?_
      refine K b _ cap (.inl rfl) hle (by rw [writeL_size]; exact h2) ?_
      refine Enc.push h3 (fun i hi => ?_) (fun j hj => ?_)
      · rw [writeL_get _ _ _ _ (by simp [hyl]; omega), if_neg (by omega)]
      · rw [writeL_get _ _ _ _ (by simp [hyl]; omega), if_pos (by simp [hyl]; omega)]
        have : 0 + xs.length * sz + j - (0 + xs.length * sz + 0) = j := by omega
        simp [this]
    · refine Nat.le_trans (Nat.mul_le_mul_right bytes ?_) hbd
      have := nextcap_le hlt
      omega
    · show rrun P (loadCells ⟨b, 0, none⟩ (xs.length * sz)) h = _
      have : xs.length * sz ≤ c.size := Nat.le_trans (Nat.mul_le_mul_right _ h1) h2
      rw [rr_loadCells, ldN_of hb _ _ (by omega)]; rfl
    · have hold : ((c.toList.drop 0).take (xs.length * sz)).toArray.size = xs.length * sz := by
        have : xs.length * sz ≤ c.size := Nat.le_trans (Nat.mul_le_mul_right _ h1) h2
        simp; omega
      refine K b' _ cap' (.inr hb') hc ?_ ?_
      · simp only [Array.size_append, hzc, List.size_toArray, hyl]
        have e : cap' = xs.length + (1 + (cap' - (xs.length + 1))) := by omega
        have e2 : ((c.toList.drop 0).take (xs.length * sz)).length = xs.length * sz := by simpa using hold
        rw [e2]
        conv => lhs; rw [e]
        rw [Nat.add_mul, Nat.add_mul]; omega
      · refine Enc.push h3 (fun i hi => ?_) (fun j hj => ?_)
        · rw [Nat.zero_add, Array.getElem?_append_left (by simp only [Array.size_append, hold]; omega), Array.getElem?_append_left (by rw [hold]; exact hi)]
          simp [List.getElem?_take, hi]
        · rw [Array.getElem?_append_left (by simp only [Array.size_append, hold, List.size_toArray, hyl]; omega), Array.getElem?_append_right (by rw [hold]; omega), hold]
          have : 0 + xs.length * sz + j - xs.length * sz = j := by omega
          rw [this]; simp

end
end Go.Proofs.Ytmbhlbohbpepaaa
