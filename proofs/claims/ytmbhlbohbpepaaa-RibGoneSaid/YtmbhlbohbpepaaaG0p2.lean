/- Printed by wip/kit/gen.py out of the translation: formulas of Go functions, and that they are these functions'. -/
import Derived.Test.YtmbhlbohbpepaaaG0p0
namespace Go.Proofs.Ytmbhlbohbpepaaa
open Go

set_option maxRecDepth 100000
set_option linter.unusedVariables false

/-! ### slices.MinFunc[[]octroi/api.Route,octroi/api.Route]: function 39 -/
noncomputable def slices_MinFunc_api_Route_api_Route_code : Code := match Try.f39.body with | some c => c | none => .skip

/-- sort.go:79 -/
def slices_MinFunc_api_Route_api_Route_r0 (env : Env) (h : Hp) (K : Env → Hp → Prop) : Prop :=
  arun Try.prog (Instr.alloc 27 true (Go.Value.tuple #[])) h fun v4_0 h1 =>
  K (env.set 4 v4_0) h1
@[congr] theorem slices_MinFunc_api_Route_api_Route_r0_congr {env : Env} {h : Hp} {K : Env → Hp → Prop} : slices_MinFunc_api_Route_api_Route_r0 env h K = slices_MinFunc_api_Route_api_Route_r0 env h K := rfl

/-- sort.go:80 -/
def slices_MinFunc_api_Route_api_Route_r1 (env : Env) (h : Hp) (K : Env → Hp → Prop) : Prop :=
  rd Try.prog (Builtin.len_ #[39] 3 #[(env 0)]) h fun v8_1 =>
  rd Try.prog (bop Go.BinOp.lss 3 (Go.Operand.tmp 8) (Go.Operand.const (Go.Value.int Go.IntKind.i64 1)) v8_1 (Go.Value.int Go.IntKind.i64 1)) noHp fun v9_2 =>
  K (((env.set 7 (env 0)).set 8 v8_1).set 9 v9_2) h
@[congr] theorem slices_MinFunc_api_Route_api_Route_r1_congr {env : Env} {h : Hp} {K : Env → Hp → Prop} : slices_MinFunc_api_Route_api_Route_r1 env h K = slices_MinFunc_api_Route_api_Route_r1 env h K := rfl

/-- sort.go:81 -/
def slices_MinFunc_api_Route_api_Route_r2 (env : Env) (h : Hp) (K : Env → Hp → Prop) : Prop :=
  rd Try.prog (Instr.makeInterface 9 (Go.Value.string (ByteArray.mk #[115, 108, 105, 99, 101, 115, 46, 77, 105, 110, 70, 117, 110, 99, 58, 32, 101, 109, 112, 116, 121, 32, 108, 105, 115, 116]))) noHp fun v10_0 =>
  False
@[congr] theorem slices_MinFunc_api_Route_api_Route_r2_congr {env : Env} {h : Hp} {K : Env → Hp → Prop} : slices_MinFunc_api_Route_api_Route_r2 env h K = slices_MinFunc_api_Route_api_Route_r2 env h K := rfl

/-- sort.go:83 -/
def slices_MinFunc_api_Route_api_Route_r3 (env : Env) (h : Hp) (K : Env → Hp → Prop) : Prop :=
  rd Try.prog (Instr.indexAt 39 (env 0) (Go.Value.int Go.IntKind.i64 0)) noHp fun v12_1 =>
  rd Try.prog (Instr.loadAt 27 v12_1) h fun v13_2 =>
  arun Try.prog (Instr.alloc 27 true (Go.Value.tuple #[])) h fun v5_3 h1 =>
  arun Try.prog (Instr.storeAt 27 v5_3 v13_2) h1 fun _ h2 =>
  K ((((env.set 11 (env 0)).set 12 v12_1).set 13 v13_2).set 5 v5_3) h2
@[congr] theorem slices_MinFunc_api_Route_api_Route_r3_congr {env : Env} {h : Hp} {K : Env → Hp → Prop} : slices_MinFunc_api_Route_api_Route_r3 env h K = slices_MinFunc_api_Route_api_Route_r3 env h K := rfl

/-- sort.go:84 -/
def slices_MinFunc_api_Route_api_Route_r4 (env : Env) (h : Hp) (K : Env → Hp → Prop) : Prop :=
  K (env.set 6 (Go.Value.int Go.IntKind.i64 1)) h
@[congr] theorem slices_MinFunc_api_Route_api_Route_r4_congr {env : Env} {h : Hp} {K : Env → Hp → Prop} : slices_MinFunc_api_Route_api_Route_r4 env h K = slices_MinFunc_api_Route_api_Route_r4 env h K := rfl

/-- sort.go:84 -/
def slices_MinFunc_api_Route_api_Route_r5 (env : Env) (h : Hp) (K : Env → Hp → Prop) : Prop :=
  rd Try.prog (Builtin.len_ #[39] 3 #[(env 0)]) h fun v16_2 =>
  rd Try.prog (bop Go.BinOp.lss 3 (Go.Operand.tmp 14) (Go.Operand.tmp 16) (env 6) v16_2) noHp fun v17_3 =>
  K ((((env.set 14 (env 6)).set 15 (env 0)).set 16 v16_2).set 17 v17_3) h
@[congr] theorem slices_MinFunc_api_Route_api_Route_r5_congr {env : Env} {h : Hp} {K : Env → Hp → Prop} : slices_MinFunc_api_Route_api_Route_r5 env h K = slices_MinFunc_api_Route_api_Route_r5 env h K := rfl

/-- sort.go:85 (in any order) -/
def slices_MinFunc_api_Route_api_Route_r6 (env : Env) (h : Hp) (K : Env → Hp → Prop) : Prop :=
  rd Try.prog (Instr.indexAt 39 (env 0) (env 6)) noHp fun v23_3 =>
  rd Try.prog (Instr.loadAt 27 v23_3) h fun v24_4 =>
  rd Try.prog (Instr.loadAt 27 (env 5)) h fun v25_5 =>
  callV Try.prog (env 1) #[v24_4, v25_5] h fun v26_6 h1 =>
  (True) ∧
  rd Try.prog (bop Go.BinOp.lss 3 (Go.Operand.tmp 26) (Go.Operand.const (Go.Value.int Go.IntKind.i64 0)) v26_6 (Go.Value.int Go.IntKind.i64 0)) noHp fun v27_7 =>
  K ((((((((env.set 20 (env 1)).set 21 (env 0)).set 22 (env 6)).set 23 v23_3).set 24 v24_4).set 25 v25_5).set 26 v26_6).set 27 v27_7) h1
@[congr] theorem slices_MinFunc_api_Route_api_Route_r6_congr {env : Env} {h : Hp} {K : Env → Hp → Prop} : slices_MinFunc_api_Route_api_Route_r6 env h K = slices_MinFunc_api_Route_api_Route_r6 env h K := rfl

/-- sort.go:86 -/
def slices_MinFunc_api_Route_api_Route_r7 (env : Env) (h : Hp) (K : Env → Hp → Prop) : Prop :=
  rd Try.prog (Instr.indexAt 39 (env 0) (env 6)) noHp fun v30_2 =>
  rd Try.prog (Instr.loadAt 27 v30_2) h fun v31_3 =>
  arun Try.prog (Instr.storeAt 27 (env 5) v31_3) h fun _ h1 =>
  K ((((env.set 28 (env 0)).set 29 (env 6)).set 30 v30_2).set 31 v31_3) h1
@[congr] theorem slices_MinFunc_api_Route_api_Route_r7_congr {env : Env} {h : Hp} {K : Env → Hp → Prop} : slices_MinFunc_api_Route_api_Route_r7 env h K = slices_MinFunc_api_Route_api_Route_r7 env h K := rfl

/-- sort.go:84 -/
def slices_MinFunc_api_Route_api_Route_r8 (env : Env) (h : Hp) (K : Env → Hp → Prop) : Prop :=
  rd Try.prog (bop Go.BinOp.add 3 (Go.Operand.tmp 18) (Go.Operand.const (Go.Value.int Go.IntKind.i64 1)) (env 6) (Go.Value.int Go.IntKind.i64 1)) noHp fun v19_1 =>
  K (((env.set 18 (env 6)).set 19 v19_1).set 6 v19_1) h
@[congr] theorem slices_MinFunc_api_Route_api_Route_r8_congr {env : Env} {h : Hp} {K : Env → Hp → Prop} : slices_MinFunc_api_Route_api_Route_r8 env h K = slices_MinFunc_api_Route_api_Route_r8 env h K := rfl

def slices_MinFunc_api_Route_api_Route_L0 : Den := (sq (sq (rg slices_MinFunc_api_Route_api_Route_r5) (cnd (Go.Operand.tmp 17) (ex .normal) (ex (.exit 0)))) (sq (blk 1 (sq (rg slices_MinFunc_api_Route_api_Route_r6) (cnd (Go.Operand.tmp 27) (rg slices_MinFunc_api_Route_api_Route_r7) (ex .normal)))) (rg slices_MinFunc_api_Route_api_Route_r8)))

/-- sort.go:89 -/
def slices_MinFunc_api_Route_api_Route_r9 (env : Env) (h : Hp) (K : Env → Hp → Prop) : Prop :=
  rd Try.prog (Instr.loadAt 27 (env 5)) h fun v32_0 =>
  arun Try.prog (Instr.storeAt 27 (env 4) v32_0) h fun _ h1 =>
  K (env.set 32 v32_0) h1
@[congr] theorem slices_MinFunc_api_Route_api_Route_r9_congr {env : Env} {h : Hp} {K : Env → Hp → Prop} : slices_MinFunc_api_Route_api_Route_r9 env h K = slices_MinFunc_api_Route_api_Route_r9 env h K := rfl

def slices_MinFunc_api_Route_api_Route_D : Den := (sq (rg slices_MinFunc_api_Route_api_Route_r0) (sq (sq (rg slices_MinFunc_api_Route_api_Route_r1) (cnd (Go.Operand.tmp 9) (rg slices_MinFunc_api_Route_api_Route_r2) (ex .normal))) (sq (rg slices_MinFunc_api_Route_api_Route_r3) (sq (sq (rg slices_MinFunc_api_Route_api_Route_r4) (blk 0 (lp slices_MinFunc_api_Route_api_Route_L0))) (sq (rg slices_MinFunc_api_Route_api_Route_r9) (ex .ret))))))

theorem slices_MinFunc_api_Route_api_Route_eq : (den Try.prog 33 slices_MinFunc_api_Route_api_Route_code).1 = slices_MinFunc_api_Route_api_Route_D := by kernel_rfl

theorem slices_MinFunc_api_Route_api_Route_ok {args : Array Value} {h : Hp} {Q : Value → Hp → Prop} (hn : args.size ≤ 33) (D : slices_MinFunc_api_Route_api_Route_D (fin Try.prog [(Go.ResultVar.cell 4 27)] Q) (env0 args) h) : Ok Try.prog 39 args h Q :=
  ok_of_den progIsOk Try.func39 (c := slices_MinFunc_api_Route_api_Route_code) (by kernel_rfl) hn (by show (den Try.prog 33 slices_MinFunc_api_Route_api_Route_code).1 _ _ _; rw [slices_MinFunc_api_Route_api_Route_eq]; exact D)

/-! ### (*octroi/trie.Trie).Find: function 40 -/
noncomputable def trie_Trie_Find_code : Code := match Try.f40.body with | some c => c | none => .skip

/-- trie.go:104 -/
def trie_Trie_Find_r0 (env : Env) (h : Hp) (K : Env → Hp → Prop) : Prop :=
  arun Try.prog (Instr.alloc 24 true (Go.Value.tuple #[])) h fun v4_0 h1 =>
  K (((env.set 4 v4_0).set 5 (Go.Value.int Go.IntKind.i64 0)).set 6 (Go.Value.bool false)) h1
@[congr] theorem trie_Trie_Find_r0_congr {env : Env} {h : Hp} {K : Env → Hp → Prop} : trie_Trie_Find_r0 env h K = trie_Trie_Find_r0 env h K := rfl

/-- trie.go:105 -/
def trie_Trie_Find_r1 (env : Env) (h : Hp) (K : Env → Hp → Prop) : Prop :=
  K ((env.set 7 (Go.Value.int Go.IntKind.i64 0)).set 8 (Go.Value.int Go.IntKind.i64 0)) h
@[congr] theorem trie_Trie_Find_r1_congr {env : Env} {h : Hp} {K : Env → Hp → Prop} : trie_Trie_Find_r1 env h K = trie_Trie_Find_r1 env h K := rfl

/-- trie.go:107 -/
def trie_Trie_Find_r2 (env : Env) (h : Hp) (K : Env → Hp → Prop) : Prop :=
  nck (env 0) (
  rd Try.prog (Instr.fieldAt 82 (env 0) 2) noHp fun v12_2 =>
  rd Try.prog (Instr.loadAt 80 v12_2) h fun v13_3 =>
  rd Try.prog (Instr.indexAt 80 v13_3 (env 7)) noHp fun v15_5 =>
  rd Try.prog (Instr.loadAt 87 v15_5) h fun v16_6 =>
  arun Try.prog (Instr.alloc 87 true (Go.Value.tuple #[])) h fun v9_7 h1 =>
  arun Try.prog (Instr.storeAt 87 v9_7 v16_6) h1 fun _ h2 =>
  K ((((((((env.set 10 (env 0)).set 11 (env 0)).set 12 v12_2).set 13 v13_3).set 14 (env 7)).set 15 v15_5).set 16 v16_6).set 9 v9_7) h2)
@[congr] theorem trie_Trie_Find_r2_congr {env : Env} {h : Hp} {K : Env → Hp → Prop} : trie_Trie_Find_r2 env h K = trie_Trie_Find_r2 env h K := rfl

/-- trie.go:107 -/
def trie_Trie_Find_r3 (env : Env) (h : Hp) (K : Env → Hp → Prop) : Prop :=
  rd Try.prog (Instr.fieldAt 87 (env 9) 2) noHp fun v17_0 =>
  rd Try.prog (Instr.loadAt 4 v17_0) h fun v18_1 =>
  K ((env.set 17 v17_0).set 18 v18_1) h
@[congr] theorem trie_Trie_Find_r3_congr {env : Env} {h : Hp} {K : Env → Hp → Prop} : trie_Trie_Find_r3 env h K = trie_Trie_Find_r3 env h K := rfl

/-- trie.go:108 (in any order) -/
def trie_Trie_Find_r4 (env : Env) (h : Hp) (K : Env → Hp → Prop) : Prop :=
  rd Try.prog (Instr.fieldAt 87 (env 9) 1) noHp fun v25_3 =>
  rd Try.prog (Instr.loadAt 3 v25_3) h fun v26_4 =>
  Ok Try.prog 46 #[(env 8)] h fun v21_5 h1 =>
  (rrun Try.prog (Instr.loadAt 3 v25_3) h1 = some v26_4 ∧ True) ∧
  rd Try.prog (bop Go.BinOp.and 22 (Go.Operand.tmp 19) (Go.Operand.tmp 21) (env 1) v21_5) noHp fun v22_6 =>
  rd Try.prog (Instr.build 24 #[(0, v22_6), (1, (env 8))]) noHp fun v24_7 =>
  arun Try.prog (Instr.storeAt 24 (env 4) v24_7) h1 fun _ h2 =>
  (rrun Try.prog (Instr.loadAt 3 v25_3) h2 = some v26_4 ∧ True) ∧
  K ((((((((((env.set 19 (env 1)).set 20 (env 8)).set 23 (env 8)).set 25 v25_3).set 26 v26_4).set 21 v21_5).set 22 v22_6).set 24 v24_7).set 5 v26_4).set 6 (Go.Value.bool true)) h2
@[congr] theorem trie_Trie_Find_r4_congr {env : Env} {h : Hp} {K : Env → Hp → Prop} : trie_Trie_Find_r4 env h K = trie_Trie_Find_r4 env h K := rfl

/-- trie.go:110 -/
def trie_Trie_Find_r5 (env : Env) (h : Hp) (K : Env → Hp → Prop) : Prop :=
  rd Try.prog (bop Go.BinOp.leq 3 (Go.Operand.tmp 27) (Go.Operand.const (Go.Value.int Go.IntKind.i64 31)) (env 8) (Go.Value.int Go.IntKind.i64 31)) noHp fun v28_1 =>
  K ((env.set 27 (env 8)).set 28 v28_1) h
@[congr] theorem trie_Trie_Find_r5_congr {env : Env} {h : Hp} {K : Env → Hp → Prop} : trie_Trie_Find_r5 env h K = trie_Trie_Find_r5 env h K := rfl

/-- trie.go:111 (in any order) -/
def trie_Trie_Find_r6 (env : Env) (h : Hp) (K : Env → Hp → Prop) : Prop :=
  nck (env 0) (
  rd Try.prog (Instr.fieldAt 82 (env 0) 2) noHp fun v31_2 =>
  rd Try.prog (Instr.loadAt 80 v31_2) h fun v32_3 =>
  rd Try.prog (Instr.indexAt 80 v32_3 (env 7)) noHp fun v37_7 =>
  rd Try.prog (Instr.fieldAt 87 v37_7 0) noHp fun v38_8 =>
  Ok Try.prog 54 #[(env 1), (env 8)] h fun v36_9 h1 =>
  (rrun Try.prog (Instr.loadAt 80 v31_2) h1 = some v32_3 ∧ True) ∧
  rd Try.prog (Instr.indexAt 85 v38_8 v36_9) noHp fun v39_10 =>
  rd Try.prog (Instr.loadAt 3 v39_10) h1 fun v40_11 =>
  K (((((((((((((env.set 29 (env 0)).set 30 (env 0)).set 31 v31_2).set 32 v32_3).set 33 (env 7)).set 34 (env 1)).set 35 (env 8)).set 37 v37_7).set 38 v38_8).set 36 v36_9).set 39 v39_10).set 40 v40_11).set 7 v40_11) h1)
@[congr] theorem trie_Trie_Find_r6_congr {env : Env} {h : Hp} {K : Env → Hp → Prop} : trie_Trie_Find_r6 env h K = trie_Trie_Find_r6 env h K := rfl

/-- trie.go:111 -/
def trie_Trie_Find_r7 (env : Env) (h : Hp) (K : Env → Hp → Prop) : Prop :=
  rd Try.prog (bop Go.BinOp.neq 3 (Go.Operand.tmp 41) (Go.Operand.const (Go.Value.int Go.IntKind.i64 0)) (env 7) (Go.Value.int Go.IntKind.i64 0)) noHp fun v42_1 =>
  K ((env.set 41 (env 7)).set 42 v42_1) h
@[congr] theorem trie_Trie_Find_r7_congr {env : Env} {h : Hp} {K : Env → Hp → Prop} : trie_Trie_Find_r7 env h K = trie_Trie_Find_r7 env h K := rfl

/-- trie.go:112 -/
def trie_Trie_Find_r8 (env : Env) (h : Hp) (K : Env → Hp → Prop) : Prop :=
  rd Try.prog (bop Go.BinOp.add 3 (Go.Operand.tmp 43) (Go.Operand.const (Go.Value.int Go.IntKind.i64 1)) (env 8) (Go.Value.int Go.IntKind.i64 1)) noHp fun v44_1 =>
  K (((env.set 43 (env 8)).set 44 v44_1).set 8 v44_1) h
@[congr] theorem trie_Trie_Find_r8_congr {env : Env} {h : Hp} {K : Env → Hp → Prop} : trie_Trie_Find_r8 env h K = trie_Trie_Find_r8 env h K := rfl

/-- trie.go:116 -/
def trie_Trie_Find_r9 (env : Env) (h : Hp) (K : Env → Hp → Prop) : Prop :=
  rd Try.prog (Instr.loadAt 24 (env 4)) h fun v45_0 =>
  arun Try.prog (Instr.storeAt 24 (env 4) v45_0) h fun _ h1 =>
  K (((((env.set 45 v45_0).set 46 (env 5)).set 47 (env 6)).set 5 (env 5)).set 6 (env 6)) h1
@[congr] theorem trie_Trie_Find_r9_congr {env : Env} {h : Hp} {K : Env → Hp → Prop} : trie_Trie_Find_r9 env h K = trie_Trie_Find_r9 env h K := rfl

def trie_Trie_Find_S0 : Den := (sq (rg trie_Trie_Find_r1) (sq (ex .normal) (sq (sq (rg trie_Trie_Find_r2) (sq (rg trie_Trie_Find_r3) (cnd (Go.Operand.tmp 18) (rg trie_Trie_Find_r4) (ex .normal)))) (sq (sq (rg trie_Trie_Find_r5) (cnd (Go.Operand.tmp 28) (sq (rg trie_Trie_Find_r6) (sq (rg trie_Trie_Find_r7) (cnd (Go.Operand.tmp 42) (sq (rg trie_Trie_Find_r8) (ex (.goto 0))) (ex .normal)))) (ex .normal))) (sq (rg trie_Trie_Find_r9) (ex .ret))))))

noncomputable def trie_Trie_Find_S0_code : Code := subCode [1, 0] trie_Trie_Find_code

def trie_Trie_Find_S0_at0 : Den := (sq (ex .normal) (sq (sq (rg trie_Trie_Find_r2) (sq (rg trie_Trie_Find_r3) (cnd (Go.Operand.tmp 18) (rg trie_Trie_Find_r4) (ex .normal)))) (sq (sq (rg trie_Trie_Find_r5) (cnd (Go.Operand.tmp 28) (sq (rg trie_Trie_Find_r6) (sq (rg trie_Trie_Find_r7) (cnd (Go.Operand.tmp 42) (sq (rg trie_Trie_Find_r8) (ex (.goto 0))) (ex .normal)))) (ex .normal))) (sq (rg trie_Trie_Find_r9) (ex .ret)))))

theorem trie_Trie_Find_S0_lab0 : (den Try.prog 48 trie_Trie_Find_S0_code).2 0 = some trie_Trie_Find_S0_at0 := by kernel_rfl

def trie_Trie_Find_D : Den := (sq (rg trie_Trie_Find_r0) (scp trie_Trie_Find_S0 (den Try.prog 48 trie_Trie_Find_S0_code).2))

theorem trie_Trie_Find_eq : (den Try.prog 48 trie_Trie_Find_code).1 = trie_Trie_Find_D := by kernel_rfl

theorem trie_Trie_Find_ok {args : Array Value} {h : Hp} {Q : Value → Hp → Prop} (hn : args.size ≤ 48) (D : trie_Trie_Find_D (fin Try.prog [(Go.ResultVar.cell 4 24), (Go.ResultVar.tmp 5), (Go.ResultVar.tmp 6)] Q) (env0 args) h) : Ok Try.prog 40 args h Q :=
  ok_of_den progIsOk Try.func40 (c := trie_Trie_Find_code) (by kernel_rfl) hn (by show (den Try.prog 48 trie_Trie_Find_code).1 _ _ _; rw [trie_Trie_Find_eq]; exact D)

/-! ### (*octroi/trie.Trie).Take: function 41 -/
noncomputable def trie_Trie_Take_code : Code := match Try.f41.body with | some c => c | none => .skip

/-- trie.go:84 -/
def trie_Trie_Take_r0 (env : Env) (h : Hp) (K : Env → Hp → Prop) : Prop :=
  arun Try.prog (Instr.box 24 (env 1)) h fun v3_0 h1 =>
  K ((env.set 3 v3_0).set 4 (Go.Value.int Go.IntKind.i64 0)) h1
@[congr] theorem trie_Trie_Take_r0_congr {env : Env} {h : Hp} {K : Env → Hp → Prop} : trie_Trie_Take_r0 env h K = trie_Trie_Take_r0 env h K := rfl

/-- trie.go:85 -/
def trie_Trie_Take_r1 (env : Env) (h : Hp) (K : Env → Hp → Prop) : Prop :=
  rd Try.prog (Instr.loadAt 24 (env 3)) h fun v7_1 =>
  Ok Try.prog 51 #[(env 0), v7_1] h fun v8_2 h1 =>
  K ((((env.set 6 (env 0)).set 7 v7_1).set 8 v8_2).set 5 v8_2) h1
@[congr] theorem trie_Trie_Take_r1_congr {env : Env} {h : Hp} {K : Env → Hp → Prop} : trie_Trie_Take_r1 env h K = trie_Trie_Take_r1 env h K := rfl

/-- trie.go:86 -/
def trie_Trie_Take_r2 (env : Env) (h : Hp) (K : Env → Hp → Prop) : Prop :=
  rd Try.prog (bop Go.BinOp.eql 83 (Go.Operand.tmp 9) (Go.Operand.const (Go.Value.pointer none)) (env 5) (Go.Value.pointer none)) noHp fun v10_1 =>
  K ((env.set 9 (env 5)).set 10 v10_1) h
@[congr] theorem trie_Trie_Take_r2_congr {env : Env} {h : Hp} {K : Env → Hp → Prop} : trie_Trie_Take_r2 env h K = trie_Trie_Take_r2 env h K := rfl

/-- trie.go:87 -/
def trie_Trie_Take_r3 (env : Env) (h : Hp) (K : Env → Hp → Prop) : Prop :=
  K (env.set 4 (Go.Value.int Go.IntKind.i64 5)) h
@[congr] theorem trie_Trie_Take_r3_congr {env : Env} {h : Hp} {K : Env → Hp → Prop} : trie_Trie_Take_r3 env h K = trie_Trie_Take_r3 env h K := rfl

/-- trie.go:89 -/
def trie_Trie_Take_r4 (env : Env) (h : Hp) (K : Env → Hp → Prop) : Prop :=
  nck (env 5) (
  rd Try.prog (Instr.fieldAt 87 (env 5) 1) noHp fun v14_3 =>
  arun Try.prog (Instr.storeAt 3 v14_3 (Go.Value.int Go.IntKind.i64 0)) h fun _ h1 =>
  nck (env 5) (
  rd Try.prog (Instr.fieldAt 87 (env 5) 2) noHp fun v16_6 =>
  arun Try.prog (Instr.storeAt 4 v16_6 (Go.Value.bool false)) h1 fun _ h2 =>
  K ((((((env.set 11 (env 5)).set 12 (env 5)).set 13 (env 5)).set 14 v14_3).set 15 (env 5)).set 16 v16_6) h2))
@[congr] theorem trie_Trie_Take_r4_congr {env : Env} {h : Hp} {K : Env → Hp → Prop} : trie_Trie_Take_r4 env h K = trie_Trie_Take_r4 env h K := rfl

/-- trie.go:90 -/
def trie_Trie_Take_r5 (env : Env) (h : Hp) (K : Env → Hp → Prop) : Prop :=
  nck (env 0) (
  rd Try.prog (Instr.fieldAt 82 (env 0) 1) noHp fun v19_2 =>
  rd Try.prog (Instr.loadAt 3 v19_2) h fun v20_3 =>
  rd Try.prog (bop Go.BinOp.sub 3 (Go.Operand.tmp 20) (Go.Operand.const (Go.Value.int Go.IntKind.i64 1)) v20_3 (Go.Value.int Go.IntKind.i64 1)) noHp fun v21_4 =>
  nck (env 0) (
  rd Try.prog (Instr.fieldAt 82 (env 0) 1) noHp fun v23_6 =>
  arun Try.prog (Instr.storeAt 3 v23_6 v21_4) h fun _ h1 =>
  K (((((((env.set 17 (env 0)).set 18 (env 0)).set 19 v19_2).set 20 v20_3).set 21 v21_4).set 22 (env 0)).set 23 v23_6) h1))
@[congr] theorem trie_Trie_Take_r5_congr {env : Env} {h : Hp} {K : Env → Hp → Prop} : trie_Trie_Take_r5 env h K = trie_Trie_Take_r5 env h K := rfl

/-- trie.go:91 -/
def trie_Trie_Take_r6 (env : Env) (h : Hp) (K : Env → Hp → Prop) : Prop :=
  K (env.set 4 (Go.Value.int Go.IntKind.i64 0)) h
@[congr] theorem trie_Trie_Take_r6_congr {env : Env} {h : Hp} {K : Env → Hp → Prop} : trie_Trie_Take_r6 env h K = trie_Trie_Take_r6 env h K := rfl

def trie_Trie_Take_D : Den := (sq (rg trie_Trie_Take_r0) (sq (rg trie_Trie_Take_r1) (sq (sq (rg trie_Trie_Take_r2) (cnd (Go.Operand.tmp 10) (sq (rg trie_Trie_Take_r3) (ex .ret)) (ex .normal))) (sq (rg trie_Trie_Take_r4) (sq (rg trie_Trie_Take_r5) (sq (rg trie_Trie_Take_r6) (ex .ret)))))))

theorem trie_Trie_Take_eq : (den Try.prog 24 trie_Trie_Take_code).1 = trie_Trie_Take_D := by kernel_rfl

theorem trie_Trie_Take_ok {args : Array Value} {h : Hp} {Q : Value → Hp → Prop} (hn : args.size ≤ 24) (D : trie_Trie_Take_D (fin Try.prog [(Go.ResultVar.tmp 4)] Q) (env0 args) h) : Ok Try.prog 41 args h Q :=
  ok_of_den progIsOk Try.func41 (c := trie_Trie_Take_code) (by kernel_rfl) hn (by show (den Try.prog 24 trie_Trie_Take_code).1 _ _ _; rw [trie_Trie_Take_eq]; exact D)

/-! ### (*octroi/octroiref09.Rib).at: function 42 -/
noncomputable def octroiref09_Rib_at_code : Code := match Try.f42.body with | some c => c | none => .skip

/-- ref.go:60 -/
def octroiref09_Rib_at_r0 (env : Env) (h : Hp) (K : Env → Hp → Prop) : Prop :=
  arun Try.prog (Instr.box 24 (env 1)) h fun v4_0 h1 =>
  K ((env.set 4 v4_0).set 6 (Go.Value.int Go.IntKind.i64 0)) h1
@[congr] theorem octroiref09_Rib_at_r0_congr {env : Env} {h : Hp} {K : Env → Hp → Prop} : octroiref09_Rib_at_r0 env h K = octroiref09_Rib_at_r0 env h K := rfl

/-- ref.go:61 -/
def octroiref09_Rib_at_r1 (env : Env) (h : Hp) (K : Env → Hp → Prop) : Prop :=
  K (env.set 7 (Go.Value.int Go.IntKind.i64 0)) h
@[congr] theorem octroiref09_Rib_at_r1_congr {env : Env} {h : Hp} {K : Env → Hp → Prop} : octroiref09_Rib_at_r1 env h K = octroiref09_Rib_at_r1 env h K := rfl

/-- ref.go:61 -/
def octroiref09_Rib_at_r2 (env : Env) (h : Hp) (K : Env → Hp → Prop) : Prop :=
  nck (env 0) (
  rd Try.prog (Instr.fieldAt 54 (env 0) 1) noHp fun v11_3 =>
  rd Try.prog (Instr.loadAt 39 v11_3) h fun v12_4 =>
  rd Try.prog (Builtin.len_ #[39] 3 #[v12_4]) h fun v13_5 =>
  rd Try.prog (bop Go.BinOp.lss 3 (Go.Operand.tmp 8) (Go.Operand.tmp 13) (env 7) v13_5) noHp fun v14_6 =>
  K (((((((env.set 8 (env 7)).set 9 (env 0)).set 10 (env 0)).set 11 v11_3).set 12 v12_4).set 13 v13_5).set 14 v14_6) h)
@[congr] theorem octroiref09_Rib_at_r2_congr {env : Env} {h : Hp} {K : Env → Hp → Prop} : octroiref09_Rib_at_r2 env h K = octroiref09_Rib_at_r2 env h K := rfl

/-- ref.go:62 (in any order) -/
def octroiref09_Rib_at_r3 (env : Env) (h : Hp) (K : Env → Hp → Prop) : Prop :=
  nck (env 0) (
  rd Try.prog (Instr.fieldAt 54 (env 0) 1) noHp fun v19_2 =>
  rd Try.prog (Instr.loadAt 39 v19_2) h fun v20_3 =>
  rd Try.prog (Instr.indexAt 39 v20_3 (env 7)) noHp fun v22_5 =>
  rd Try.prog (Instr.fieldAt 27 v22_5 0) noHp fun v23_6 =>
  rd Try.prog (Instr.loadAt 24 v23_6) h fun v24_7 =>
  rd Try.prog (Instr.loadAt 24 (env 4)) h fun v25_8 =>
  rd Try.prog (bop Go.BinOp.eql 24 (Go.Operand.tmp 24) (Go.Operand.tmp 25) v24_7 v25_8) noHp fun v26_9 =>
  gd (yb v26_9 == some true) (fun h k => k (env 0) h) h fun v28_11 h1 =>
  gd (yb v26_9 == some true) (fun h k => nck v28_11 (k v28_11 h)) h1 fun v29_12 h2 =>
  gd (yb v26_9 == some true) (fun h k => rd Try.prog (Instr.fieldAt 54 v29_12 1) noHp fun v => k v h) h2 fun v30_13 h3 =>
  gd (yb v26_9 == some true) (fun h k => rd Try.prog (Instr.loadAt 39 v30_13) h fun v => k v h) h3 fun v31_14 h4 =>
  gd (yb v26_9 == some true) (fun h k => k (env 7) h) h4 fun v32_15 h5 =>
  gd (yb v26_9 == some true) (fun h k => rd Try.prog (Instr.indexAt 39 v31_14 v32_15) noHp fun v => k v h) h5 fun v33_16 h6 =>
  gd (yb v26_9 == some true) (fun h k => rd Try.prog (Instr.fieldAt 27 v33_16 1) noHp fun v => k v h) h6 fun v34_17 h7 =>
  gd (yb v26_9 == some true) (fun h k => rd Try.prog (Instr.loadAt 3 v34_17) h fun v => k v h) h7 fun v35_18 h8 =>
  gd (yb v26_9 == some true) (fun h k => k (env 2) h) h8 fun v36_19 h9 =>
  gd (yb v26_9 == some true) (fun h k => rd Try.prog (bop Go.BinOp.eql 3 (Go.Operand.tmp 35) (Go.Operand.tmp 36) v35_18 v36_19) noHp fun v => k v h) h9 fun v37_20 h10 =>
  rd Try.prog (pck v26_9 v37_20 (Go.Value.bool false)) noHp fun v38_21 =>
  K ((((((((((((((((((((((env.set 17 (env 0)).set 18 (env 0)).set 19 v19_2).set 20 v20_3).set 21 (env 7)).set 22 v22_5).set 23 v23_6).set 24 v24_7).set 25 v25_8).set 26 v26_9).set 27 v26_9).set 28 v28_11).set 29 v29_12).set 30 v30_13).set 31 v31_14).set 32 v32_15).set 33 v33_16).set 34 v34_17).set 35 v35_18).set 36 v36_19).set 37 v37_20).set 38 v38_21) h10)
@[congr] theorem octroiref09_Rib_at_r3_congr {env : Env} {h : Hp} {K : Env → Hp → Prop} : octroiref09_Rib_at_r3 env h K = octroiref09_Rib_at_r3 env h K := rfl

/-- ref.go:63 -/
def octroiref09_Rib_at_r4 (env : Env) (h : Hp) (K : Env → Hp → Prop) : Prop :=
  K ((env.set 39 (env 7)).set 6 (env 7)) h
@[congr] theorem octroiref09_Rib_at_r4_congr {env : Env} {h : Hp} {K : Env → Hp → Prop} : octroiref09_Rib_at_r4 env h K = octroiref09_Rib_at_r4 env h K := rfl

/-- ref.go:61 -/
def octroiref09_Rib_at_r5 (env : Env) (h : Hp) (K : Env → Hp → Prop) : Prop :=
  rd Try.prog (bop Go.BinOp.add 3 (Go.Operand.tmp 15) (Go.Operand.const (Go.Value.int Go.IntKind.i64 1)) (env 7) (Go.Value.int Go.IntKind.i64 1)) noHp fun v16_1 =>
  K (((env.set 15 (env 7)).set 16 v16_1).set 7 v16_1) h
@[congr] theorem octroiref09_Rib_at_r5_congr {env : Env} {h : Hp} {K : Env → Hp → Prop} : octroiref09_Rib_at_r5 env h K = octroiref09_Rib_at_r5 env h K := rfl

def octroiref09_Rib_at_L0 : Den := (sq (sq (rg octroiref09_Rib_at_r2) (cnd (Go.Operand.tmp 14) (ex .normal) (ex (.exit 0)))) (sq (blk 1 (sq (rg octroiref09_Rib_at_r3) (cnd (Go.Operand.tmp 38) (sq (rg octroiref09_Rib_at_r4) (ex .ret)) (ex .normal)))) (rg octroiref09_Rib_at_r5)))

/-- ref.go:66 -/
def octroiref09_Rib_at_r6 (env : Env) (h : Hp) (K : Env → Hp → Prop) : Prop :=
  K (env.set 6 (Go.Value.int Go.IntKind.i64 (-1))) h
@[congr] theorem octroiref09_Rib_at_r6_congr {env : Env} {h : Hp} {K : Env → Hp → Prop} : octroiref09_Rib_at_r6 env h K = octroiref09_Rib_at_r6 env h K := rfl

def octroiref09_Rib_at_D : Den := (sq (rg octroiref09_Rib_at_r0) (sq (sq (rg octroiref09_Rib_at_r1) (blk 0 (lp octroiref09_Rib_at_L0))) (sq (rg octroiref09_Rib_at_r6) (ex .ret))))

theorem octroiref09_Rib_at_eq : (den Try.prog 40 octroiref09_Rib_at_code).1 = octroiref09_Rib_at_D := by kernel_rfl

theorem octroiref09_Rib_at_ok {args : Array Value} {h : Hp} {Q : Value → Hp → Prop} (hn : args.size ≤ 40) (D : octroiref09_Rib_at_D (fin Try.prog [(Go.ResultVar.tmp 6)] Q) (env0 args) h) : Ok Try.prog 42 args h Q :=
  ok_of_den progIsOk Try.func42 (c := octroiref09_Rib_at_code) (by kernel_rfl) hn (by show (den Try.prog 40 octroiref09_Rib_at_code).1 _ _ _; rw [octroiref09_Rib_at_eq]; exact D)

/-! ### octroi/octroiref09.ahead: function 43 -/
noncomputable def octroiref09_ahead_code : Code := match Try.f43.body with | some c => c | none => .skip

/-- ref.go:54 -/
def octroiref09_ahead_r0 (env : Env) (h : Hp) (K : Env → Hp → Prop) : Prop :=
  arun Try.prog (Instr.box 27 (env 0)) h fun v2_0 h1 =>
  arun Try.prog (Instr.box 27 (env 1)) h1 fun v3_1 h2 =>
  K (((env.set 2 v2_0).set 3 v3_1).set 4 (Go.Value.bool false)) h2
@[congr] theorem octroiref09_ahead_r0_congr {env : Env} {h : Hp} {K : Env → Hp → Prop} : octroiref09_ahead_r0 env h K = octroiref09_ahead_r0 env h K := rfl

/-- ref.go:55 -/
def octroiref09_ahead_r1 (env : Env) (h : Hp) (K : Env → Hp → Prop) : Prop :=
  rd Try.prog (Instr.fieldAt 27 (env 2) 0) noHp fun v6_0 =>
  rd Try.prog (Instr.loadAt 24 v6_0) h fun v7_1 =>
  rd Try.prog (Instr.fieldAt 27 (env 3) 0) noHp fun v8_2 =>
  rd Try.prog (Instr.loadAt 24 v8_2) h fun v9_3 =>
  Ok Try.prog 55 #[v7_1, v9_3] h fun v10_4 h1 =>
  K ((((((env.set 6 v6_0).set 7 v7_1).set 8 v8_2).set 9 v9_3).set 10 v10_4).set 5 v10_4) h1
@[congr] theorem octroiref09_ahead_r1_congr {env : Env} {h : Hp} {K : Env → Hp → Prop} : octroiref09_ahead_r1 env h K = octroiref09_ahead_r1 env h K := rfl

/-- ref.go:56 -/
def octroiref09_ahead_r2 (env : Env) (h : Hp) (K : Env → Hp → Prop) : Prop :=
  gd (yb (env 5) == some false) (fun h k => rd Try.prog (Instr.fieldAt 27 (env 2) 0) noHp fun v => k v h) h fun v13_2 h1 =>
  gd (yb (env 5) == some false) (fun h k => rd Try.prog (Instr.loadAt 24 v13_2) h fun v => k v h) h1 fun v14_3 h2 =>
  gd (yb (env 5) == some false) (fun h k => rd Try.prog (Instr.fieldAt 27 (env 3) 0) noHp fun v => k v h) h2 fun v15_4 h3 =>
  gd (yb (env 5) == some false) (fun h k => rd Try.prog (Instr.loadAt 24 v15_4) h fun v => k v h) h3 fun v16_5 h4 =>
  gd (yb (env 5) == some false) (fun h k => rd Try.prog (bop Go.BinOp.eql 24 (Go.Operand.tmp 14) (Go.Operand.tmp 16) v14_3 v16_5) noHp fun v => k v h) h4 fun v17_6 h5 =>
  gd (yb (env 5) == some false) (fun h k => k v17_6 h) h5 fun v18_7 h6 =>
  gd (yb v18_7 == some true) (fun h k => rd Try.prog (Instr.fieldAt 27 (env 2) 1) noHp fun v => k v h) h6 fun v19_8 h7 =>
  gd (yb v18_7 == some true) (fun h k => rd Try.prog (Instr.loadAt 3 v19_8) h fun v => k v h) h7 fun v20_9 h8 =>
  gd (yb v18_7 == some true) (fun h k => rd Try.prog (Instr.fieldAt 27 (env 3) 1) noHp fun v => k v h) h8 fun v21_10 h9 =>
  gd (yb v18_7 == some true) (fun h k => rd Try.prog (Instr.loadAt 3 v21_10) h fun v => k v h) h9 fun v22_11 h10 =>
  gd (yb v18_7 == some true) (fun h k => rd Try.prog (bop Go.BinOp.lss 3 (Go.Operand.tmp 20) (Go.Operand.tmp 22) v20_9 v22_11) noHp fun v => k v h) h10 fun v23_12 h11 =>
  gd (yb (env 5) == some false) (fun h k => rd Try.prog (pck v18_7 v23_12 (Go.Value.bool false)) noHp fun v => k v h) h11 fun v24_13 h12 =>
  rd Try.prog (pck (env 5) (Go.Value.bool true) v24_13) noHp fun v25_14 =>
  K ((((((((((((((((env.set 11 (env 5)).set 12 (env 5)).set 13 v13_2).set 14 v14_3).set 15 v15_4).set 16 v16_5).set 17 v17_6).set 18 v18_7).set 19 v19_8).set 20 v20_9).set 21 v21_10).set 22 v22_11).set 23 v23_12).set 24 v24_13).set 25 v25_14).set 4 v25_14) h12
@[congr] theorem octroiref09_ahead_r2_congr {env : Env} {h : Hp} {K : Env → Hp → Prop} : octroiref09_ahead_r2 env h K = octroiref09_ahead_r2 env h K := rfl

def octroiref09_ahead_D : Den := (sq (rg octroiref09_ahead_r0) (sq (rg octroiref09_ahead_r1) (sq (rg octroiref09_ahead_r2) (ex .ret))))

theorem octroiref09_ahead_eq : (den Try.prog 26 octroiref09_ahead_code).1 = octroiref09_ahead_D := by kernel_rfl

theorem octroiref09_ahead_ok {args : Array Value} {h : Hp} {Q : Value → Hp → Prop} (hn : args.size ≤ 26) (D : octroiref09_ahead_D (fin Try.prog [(Go.ResultVar.tmp 4)] Q) (env0 args) h) : Ok Try.prog 43 args h Q :=
  ok_of_den progIsOk Try.func43 (c := octroiref09_ahead_code) (by kernel_rfl) hn (by show (den Try.prog 26 octroiref09_ahead_code).1 _ _ _; rw [octroiref09_ahead_eq]; exact D)

/-! ### octroi/octroiref02.Has: function 44 -/
noncomputable def octroiref02_Has_code : Code := match Try.f44.body with | some c => c | none => .skip

/-- ref.go:41 -/
def octroiref02_Has_r0 (env : Env) (h : Hp) (K : Env → Hp → Prop) : Prop :=
  arun Try.prog (Instr.box 24 (env 0)) h fun v2_0 h1 =>
  K ((env.set 2 v2_0).set 4 (Go.Value.bool false)) h1
@[congr] theorem octroiref02_Has_r0_congr {env : Env} {h : Hp} {K : Env → Hp → Prop} : octroiref02_Has_r0 env h K = octroiref02_Has_r0 env h K := rfl

/-- ref.go:42 -/
def octroiref02_Has_r1 (env : Env) (h : Hp) (K : Env → Hp → Prop) : Prop :=
  rd Try.prog (Instr.loadAt 24 (env 2)) h fun v6_0 =>
  Ok Try.prog 30 #[v6_0] h fun v7_1 h1 =>
  K (((env.set 6 v6_0).set 7 v7_1).set 5 v7_1) h1
@[congr] theorem octroiref02_Has_r1_congr {env : Env} {h : Hp} {K : Env → Hp → Prop} : octroiref02_Has_r1 env h K = octroiref02_Has_r1 env h K := rfl

/-- ref.go:43 (in any order) -/
def octroiref02_Has_r2 (env : Env) (h : Hp) (K : Env → Hp → Prop) : Prop :=
  gd (yb (env 5) == some true) (fun h k => k (env 1) h) h fun v10_2 h1 =>
  gd (yb (env 5) == some true) (fun h k => rd Try.prog (Instr.fieldAt 24 (env 2) 1) noHp fun v => k v h) h1 fun v11_3 h2 =>
  gd (yb (env 5) == some true) (fun h k => rd Try.prog (Instr.loadAt 3 v11_3) h fun v => k v h) h2 fun v12_4 h3 =>
  gd (yb (env 5) == some true) (fun h k => rd Try.prog (Instr.fieldAt 24 (env 2) 0) noHp fun v => k v h) h3 fun v15_5 h4 =>
  gd (yb (env 5) == some true) (fun h k => rd Try.prog (Instr.loadAt 22 v15_5) h fun v => k v h) h4 fun v16_6 h5 =>
  gd (yb (env 5) == some true) (fun h k => Ok Try.prog 47 #[v12_4] h k) h5 fun v13_7 h6 =>
  (((yb (env 5) == some true) = true → rrun Try.prog (Instr.loadAt 22 v15_5) h6 = some v16_6) ∧ True) ∧
  gd (yb (env 5) == some true) (fun h k => rd Try.prog (bop Go.BinOp.and 22 (Go.Operand.tmp 10) (Go.Operand.tmp 13) v10_2 v13_7) noHp fun v => k v h) h6 fun v14_8 h7 =>
  gd (yb (env 5) == some true) (fun h k => rd Try.prog (bop Go.BinOp.eql 22 (Go.Operand.tmp 14) (Go.Operand.tmp 16) v14_8 v16_6) noHp fun v => k v h) h7 fun v17_9 h8 =>
  rd Try.prog (pck (env 5) v17_9 (Go.Value.bool false)) noHp fun v18_10 =>
  K ((((((((((((env.set 8 (env 5)).set 9 (env 5)).set 10 v10_2).set 11 v11_3).set 12 v12_4).set 15 v15_5).set 16 v16_6).set 13 v13_7).set 14 v14_8).set 17 v17_9).set 18 v18_10).set 4 v18_10) h8
@[congr] theorem octroiref02_Has_r2_congr {env : Env} {h : Hp} {K : Env → Hp → Prop} : octroiref02_Has_r2 env h K = octroiref02_Has_r2 env h K := rfl

def octroiref02_Has_D : Den := (sq (rg octroiref02_Has_r0) (sq (rg octroiref02_Has_r1) (sq (rg octroiref02_Has_r2) (ex .ret))))

theorem octroiref02_Has_eq : (den Try.prog 19 octroiref02_Has_code).1 = octroiref02_Has_D := by kernel_rfl

theorem octroiref02_Has_ok {args : Array Value} {h : Hp} {Q : Value → Hp → Prop} (hn : args.size ≤ 19) (D : octroiref02_Has_D (fin Try.prog [(Go.ResultVar.tmp 4)] Q) (env0 args) h) : Ok Try.prog 44 args h Q :=
  ok_of_den progIsOk Try.func44 (c := octroiref02_Has_code) (by kernel_rfl) hn (by show (den Try.prog 19 octroiref02_Has_code).1 _ _ _; rw [octroiref02_Has_eq]; exact D)

/-! ### octroi/prefix.May: function 45 -/
noncomputable def prefix_May_code : Code := match Try.f45.body with | some c => c | none => .skip

/-- prefix.go:39 -/
def prefix_May_r0 (env : Env) (h : Hp) (K : Env → Hp → Prop) : Prop :=
  arun Try.prog (Instr.box 24 (env 0)) h fun v1_0 h1 =>
  K ((env.set 1 v1_0).set 2 (Go.Value.bool false)) h1
@[congr] theorem prefix_May_r0_congr {env : Env} {h : Hp} {K : Env → Hp → Prop} : prefix_May_r0 env h K = prefix_May_r0 env h K := rfl

/-- prefix.go:39 (in any order) -/
def prefix_May_r1 (env : Env) (h : Hp) (K : Env → Hp → Prop) : Prop :=
  rd Try.prog (Instr.fieldAt 24 (env 1) 1) noHp fun v3_0 =>
  rd Try.prog (Instr.loadAt 3 v3_0) h fun v4_1 =>
  rd Try.prog (bop Go.BinOp.geq 3 (Go.Operand.tmp 4) (Go.Operand.const (Go.Value.int Go.IntKind.i64 0)) v4_1 (Go.Value.int Go.IntKind.i64 0)) noHp fun v5_2 =>
  gd (yb v5_2 == some true) (fun h k => rd Try.prog (Instr.fieldAt 24 (env 1) 1) noHp fun v => k v h) h fun v7_4 h1 =>
  gd (yb v5_2 == some true) (fun h k => rd Try.prog (Instr.loadAt 3 v7_4) h fun v => k v h) h1 fun v8_5 h2 =>
  gd (yb v5_2 == some true) (fun h k => rd Try.prog (bop Go.BinOp.leq 3 (Go.Operand.tmp 8) (Go.Operand.const (Go.Value.int Go.IntKind.i64 32)) v8_5 (Go.Value.int Go.IntKind.i64 32)) noHp fun v => k v h) h2 fun v9_6 h3 =>
  rd Try.prog (pck v5_2 v9_6 (Go.Value.bool false)) noHp fun v10_7 =>
  gd (yb v10_7 == some true) (fun h k => rd Try.prog (Instr.fieldAt 24 (env 1) 0) noHp fun v => k v h) h3 fun v12_9 h4 =>
  gd (yb v10_7 == some true) (fun h k => rd Try.prog (Instr.loadAt 22 v12_9) h fun v => k v h) h4 fun v13_10 h5 =>
  gd (yb v10_7 == some true) (fun h k => rd Try.prog (Instr.fieldAt 24 (env 1) 1) noHp fun v => k v h) h5 fun v14_11 h6 =>
  gd (yb v10_7 == some true) (fun h k => rd Try.prog (Instr.loadAt 3 v14_11) h fun v => k v h) h6 fun v15_12 h7 =>
  gd (yb v10_7 == some true) (fun h k => Ok Try.prog 46 #[v15_12] h k) h7 fun v16_13 h8 =>
  (((yb v10_7 == some true) = true → rrun Try.prog (Instr.loadAt 22 v12_9) h8 = some v13_10) ∧ True) ∧
  gd (yb v10_7 == some true) (fun h k => rd Try.prog (bop Go.BinOp.andNot 22 (Go.Operand.tmp 13) (Go.Operand.tmp 16) v13_10 v16_13) noHp fun v => k v h) h8 fun v17_14 h9 =>
  gd (yb v10_7 == some true) (fun h k => rd Try.prog (bop Go.BinOp.eql 22 (Go.Operand.tmp 17) (Go.Operand.const (Go.Value.int Go.IntKind.u32 0)) v17_14 (Go.Value.int Go.IntKind.u32 0)) noHp fun v => k v h) h9 fun v18_15 h10 =>
  rd Try.prog (pck v10_7 v18_15 (Go.Value.bool false)) noHp fun v19_16 =>
  K ((((((((((((((((((env.set 3 v3_0).set 4 v4_1).set 5 v5_2).set 6 v5_2).set 7 v7_4).set 8 v8_5).set 9 v9_6).set 10 v10_7).set 11 v10_7).set 12 v12_9).set 13 v13_10).set 14 v14_11).set 15 v15_12).set 16 v16_13).set 17 v17_14).set 18 v18_15).set 19 v19_16).set 2 v19_16) h10
@[congr] theorem prefix_May_r1_congr {env : Env} {h : Hp} {K : Env → Hp → Prop} : prefix_May_r1 env h K = prefix_May_r1 env h K := rfl

def prefix_May_D : Den := (sq (rg prefix_May_r0) (sq (rg prefix_May_r1) (ex .ret)))

theorem prefix_May_eq : (den Try.prog 20 prefix_May_code).1 = prefix_May_D := by kernel_rfl

theorem prefix_May_ok {args : Array Value} {h : Hp} {Q : Value → Hp → Prop} (hn : args.size ≤ 20) (D : prefix_May_D (fin Try.prog [(Go.ResultVar.tmp 2)] Q) (env0 args) h) : Ok Try.prog 45 args h Q :=
  ok_of_den progIsOk Try.func45 (c := prefix_May_code) (by kernel_rfl) hn (by show (den Try.prog 20 prefix_May_code).1 _ _ _; rw [prefix_May_eq]; exact D)

/-! ### octroi/prefix.Mask: function 46 -/
noncomputable def prefix_Mask_code : Code := match Try.f46.body with | some c => c | none => .skip

/-- prefix.go:19 -/
def prefix_Mask_r0 (env : Env) (h : Hp) (K : Env → Hp → Prop) : Prop :=
  K (env.set 2 (Go.Value.int Go.IntKind.u32 0)) h
@[congr] theorem prefix_Mask_r0_congr {env : Env} {h : Hp} {K : Env → Hp → Prop} : prefix_Mask_r0 env h K = prefix_Mask_r0 env h K := rfl

/-- prefix.go:19 -/
def prefix_Mask_r1 (env : Env) (h : Hp) (K : Env → Hp → Prop) : Prop :=
  rd Try.prog (Builtin.min_ #[3, 3] 3 #[(env 0), (Go.Value.int Go.IntKind.i64 32)]) h fun v4_1 =>
  rd Try.prog (Builtin.max_ #[3, 3] 3 #[(Go.Value.int Go.IntKind.i64 0), v4_1]) h fun v5_2 =>
  rd Try.prog (bop Go.BinOp.sub 3 (Go.Operand.const (Go.Value.int Go.IntKind.i64 32)) (Go.Operand.tmp 5) (Go.Value.int Go.IntKind.i64 32) v5_2) noHp fun v6_3 =>
  rd Try.prog (bop Go.BinOp.shl 22 (Go.Operand.const (Go.Value.int Go.IntKind.u32 4294967295)) (Go.Operand.tmp 6) (Go.Value.int Go.IntKind.u32 4294967295) v6_3) noHp fun v7_4 =>
  K ((((((env.set 3 (env 0)).set 4 v4_1).set 5 v5_2).set 6 v6_3).set 7 v7_4).set 2 v7_4) h
@[congr] theorem prefix_Mask_r1_congr {env : Env} {h : Hp} {K : Env → Hp → Prop} : prefix_Mask_r1 env h K = prefix_Mask_r1 env h K := rfl

def prefix_Mask_D : Den := (sq (rg prefix_Mask_r0) (sq (rg prefix_Mask_r1) (ex .ret)))

theorem prefix_Mask_eq : (den Try.prog 8 prefix_Mask_code).1 = prefix_Mask_D := by kernel_rfl

theorem prefix_Mask_ok {args : Array Value} {h : Hp} {Q : Value → Hp → Prop} (hn : args.size ≤ 8) (D : prefix_Mask_D (fin Try.prog [(Go.ResultVar.tmp 2)] Q) (env0 args) h) : Ok Try.prog 46 args h Q :=
  ok_of_den progIsOk Try.func46 (c := prefix_Mask_code) (by kernel_rfl) hn (by show (den Try.prog 8 prefix_Mask_code).1 _ _ _; rw [prefix_Mask_eq]; exact D)

/-! ### octroi/octroiref02.Mask: function 47 -/
noncomputable def octroiref02_Mask_code : Code := match Try.f47.body with | some c => c | none => .skip

/-- ref.go:7 -/
def octroiref02_Mask_r0 (env : Env) (h : Hp) (K : Env → Hp → Prop) : Prop :=
  K (env.set 2 (Go.Value.int Go.IntKind.u32 0)) h
@[congr] theorem octroiref02_Mask_r0_congr {env : Env} {h : Hp} {K : Env → Hp → Prop} : octroiref02_Mask_r0 env h K = octroiref02_Mask_r0 env h K := rfl

/-- ref.go:8 -/
def octroiref02_Mask_r1 (env : Env) (h : Hp) (K : Env → Hp → Prop) : Prop :=
  K (env.set 3 (Go.Value.int Go.IntKind.u32 0)) h
@[congr] theorem octroiref02_Mask_r1_congr {env : Env} {h : Hp} {K : Env → Hp → Prop} : octroiref02_Mask_r1 env h K = octroiref02_Mask_r1 env h K := rfl

/-- ref.go:9 -/
def octroiref02_Mask_r2 (env : Env) (h : Hp) (K : Env → Hp → Prop) : Prop :=
  K (env.set 4 (Go.Value.int Go.IntKind.u32 2147483648)) h
@[congr] theorem octroiref02_Mask_r2_congr {env : Env} {h : Hp} {K : Env → Hp → Prop} : octroiref02_Mask_r2 env h K = octroiref02_Mask_r2 env h K := rfl

/-- ref.go:10 -/
def octroiref02_Mask_r3 (env : Env) (h : Hp) (K : Env → Hp → Prop) : Prop :=
  K (env.set 5 (Go.Value.int Go.IntKind.i64 0)) h
@[congr] theorem octroiref02_Mask_r3_congr {env : Env} {h : Hp} {K : Env → Hp → Prop} : octroiref02_Mask_r3 env h K = octroiref02_Mask_r3 env h K := rfl

/-- ref.go:10 -/
def octroiref02_Mask_r4 (env : Env) (h : Hp) (K : Env → Hp → Prop) : Prop :=
  rd Try.prog (bop Go.BinOp.lss 3 (Go.Operand.tmp 6) (Go.Operand.tmp 7) (env 5) (env 0)) noHp fun v8_2 =>
  gd (yb v8_2 == some true) (fun h k => k (env 5) h) h fun v10_4 h1 =>
  gd (yb v8_2 == some true) (fun h k => rd Try.prog (bop Go.BinOp.lss 3 (Go.Operand.tmp 10) (Go.Operand.const (Go.Value.int Go.IntKind.i64 32)) v10_4 (Go.Value.int Go.IntKind.i64 32)) noHp fun v => k v h) h1 fun v11_5 h2 =>
  rd Try.prog (pck v8_2 v11_5 (Go.Value.bool false)) noHp fun v12_6 =>
  K (((((((env.set 6 (env 5)).set 7 (env 0)).set 8 v8_2).set 9 v8_2).set 10 v10_4).set 11 v11_5).set 12 v12_6) h2
@[congr] theorem octroiref02_Mask_r4_congr {env : Env} {h : Hp} {K : Env → Hp → Prop} : octroiref02_Mask_r4 env h K = octroiref02_Mask_r4 env h K := rfl

/-- ref.go:11 -/
def octroiref02_Mask_r5 (env : Env) (h : Hp) (K : Env → Hp → Prop) : Prop :=
  rd Try.prog (bop Go.BinOp.add 22 (Go.Operand.tmp 15) (Go.Operand.tmp 16) (env 3) (env 4)) noHp fun v17_2 =>
  K ((((env.set 15 (env 3)).set 16 (env 4)).set 17 v17_2).set 3 v17_2) h
@[congr] theorem octroiref02_Mask_r5_congr {env : Env} {h : Hp} {K : Env → Hp → Prop} : octroiref02_Mask_r5 env h K = octroiref02_Mask_r5 env h K := rfl

/-- ref.go:12 -/
def octroiref02_Mask_r6 (env : Env) (h : Hp) (K : Env → Hp → Prop) : Prop :=
  rd Try.prog (bop Go.BinOp.quo 22 (Go.Operand.tmp 18) (Go.Operand.const (Go.Value.int Go.IntKind.u32 2)) (env 4) (Go.Value.int Go.IntKind.u32 2)) noHp fun v19_1 =>
  K (((env.set 18 (env 4)).set 19 v19_1).set 4 v19_1) h
@[congr] theorem octroiref02_Mask_r6_congr {env : Env} {h : Hp} {K : Env → Hp → Prop} : octroiref02_Mask_r6 env h K = octroiref02_Mask_r6 env h K := rfl

/-- ref.go:10 -/
def octroiref02_Mask_r7 (env : Env) (h : Hp) (K : Env → Hp → Prop) : Prop :=
  rd Try.prog (bop Go.BinOp.add 3 (Go.Operand.tmp 13) (Go.Operand.const (Go.Value.int Go.IntKind.i64 1)) (env 5) (Go.Value.int Go.IntKind.i64 1)) noHp fun v14_1 =>
  K (((env.set 13 (env 5)).set 14 v14_1).set 5 v14_1) h
@[congr] theorem octroiref02_Mask_r7_congr {env : Env} {h : Hp} {K : Env → Hp → Prop} : octroiref02_Mask_r7 env h K = octroiref02_Mask_r7 env h K := rfl

def octroiref02_Mask_L0 : Den := (sq (sq (rg octroiref02_Mask_r4) (cnd (Go.Operand.tmp 12) (ex .normal) (ex (.exit 0)))) (sq (blk 1 (sq (rg octroiref02_Mask_r5) (rg octroiref02_Mask_r6))) (rg octroiref02_Mask_r7)))

/-- ref.go:14 -/
def octroiref02_Mask_r8 (env : Env) (h : Hp) (K : Env → Hp → Prop) : Prop :=
  K ((env.set 20 (env 3)).set 2 (env 3)) h
@[congr] theorem octroiref02_Mask_r8_congr {env : Env} {h : Hp} {K : Env → Hp → Prop} : octroiref02_Mask_r8 env h K = octroiref02_Mask_r8 env h K := rfl

def octroiref02_Mask_D : Den := (sq (rg octroiref02_Mask_r0) (sq (rg octroiref02_Mask_r1) (sq (rg octroiref02_Mask_r2) (sq (sq (rg octroiref02_Mask_r3) (blk 0 (lp octroiref02_Mask_L0))) (sq (rg octroiref02_Mask_r8) (ex .ret))))))

theorem octroiref02_Mask_eq : (den Try.prog 21 octroiref02_Mask_code).1 = octroiref02_Mask_D := by kernel_rfl

theorem octroiref02_Mask_ok {args : Array Value} {h : Hp} {Q : Value → Hp → Prop} (hn : args.size ≤ 21) (D : octroiref02_Mask_D (fin Try.prog [(Go.ResultVar.tmp 2)] Q) (env0 args) h) : Ok Try.prog 47 args h Q :=
  ok_of_den progIsOk Try.func47 (c := octroiref02_Mask_code) (by kernel_rfl) hn (by show (den Try.prog 21 octroiref02_Mask_code).1 _ _ _; rw [octroiref02_Mask_eq]; exact D)

/-! ### octroi/rib.first: function 48 -/
noncomputable def rib_first_code : Code := match Try.f48.body with | some c => c | none => .skip

/-- rib.go:17 -/
def rib_first_r0 (env : Env) (h : Hp) (K : Env → Hp → Prop) : Prop :=
  K (env.set 2 (Go.Value.int Go.IntKind.i64 0)) h
@[congr] theorem rib_first_r0_congr {env : Env} {h : Hp} {K : Env → Hp → Prop} : rib_first_r0 env h K = rib_first_r0 env h K := rfl

/-- rib.go:17 -/
def rib_first_r1 (env : Env) (h : Hp) (K : Env → Hp → Prop) : Prop :=
  Ok Try.prog 56 #[(env 0)] h fun v4_1 h1 =>
  K (((env.set 3 (env 0)).set 4 v4_1).set 2 v4_1) h1
@[congr] theorem rib_first_r1_congr {env : Env} {h : Hp} {K : Env → Hp → Prop} : rib_first_r1 env h K = rib_first_r1 env h K := rfl

def rib_first_D : Den := (sq (rg rib_first_r0) (sq (rg rib_first_r1) (ex .ret)))

theorem rib_first_eq : (den Try.prog 5 rib_first_code).1 = rib_first_D := by kernel_rfl

theorem rib_first_ok {args : Array Value} {h : Hp} {Q : Value → Hp → Prop} (hn : args.size ≤ 5) (D : rib_first_D (fin Try.prog [(Go.ResultVar.tmp 2)] Q) (env0 args) h) : Ok Try.prog 48 args h Q :=
  ok_of_den progIsOk Try.func48 (c := rib_first_code) (by kernel_rfl) hn (by show (den Try.prog 5 rib_first_code).1 _ _ _; rw [rib_first_eq]; exact D)

/-! ### cmp.Compare[int]: function 49 -/
noncomputable def cmp_Compare_int_code : Code := match Try.f49.body with | some c => c | none => .skip

/-- cmp.go:40 -/
def cmp_Compare_int_r0 (env : Env) (h : Hp) (K : Env → Hp → Prop) : Prop :=
  K (env.set 4 (Go.Value.int Go.IntKind.i64 0)) h
@[congr] theorem cmp_Compare_int_r0_congr {env : Env} {h : Hp} {K : Env → Hp → Prop} : cmp_Compare_int_r0 env h K = cmp_Compare_int_r0 env h K := rfl

/-- cmp.go:41 -/
def cmp_Compare_int_r1 (env : Env) (h : Hp) (K : Env → Hp → Prop) : Prop :=
  Ok Try.prog 57 #[(env 0)] h fun v8_1 h1 =>
  K (((env.set 7 (env 0)).set 8 v8_1).set 5 v8_1) h1
@[congr] theorem cmp_Compare_int_r1_congr {env : Env} {h : Hp} {K : Env → Hp → Prop} : cmp_Compare_int_r1 env h K = cmp_Compare_int_r1 env h K := rfl

/-- cmp.go:42 -/
def cmp_Compare_int_r2 (env : Env) (h : Hp) (K : Env → Hp → Prop) : Prop :=
  Ok Try.prog 57 #[(env 1)] h fun v10_1 h1 =>
  K (((env.set 9 (env 1)).set 10 v10_1).set 6 v10_1) h1
@[congr] theorem cmp_Compare_int_r2_congr {env : Env} {h : Hp} {K : Env → Hp → Prop} : cmp_Compare_int_r2 env h K = cmp_Compare_int_r2 env h K := rfl

/-- cmp.go:43 -/
def cmp_Compare_int_r3 (env : Env) (h : Hp) (K : Env → Hp → Prop) : Prop :=
  K (env.set 11 (env 5)) h
@[congr] theorem cmp_Compare_int_r3_congr {env : Env} {h : Hp} {K : Env → Hp → Prop} : cmp_Compare_int_r3 env h K = cmp_Compare_int_r3 env h K := rfl

/-- cmp.go:44 -/
def cmp_Compare_int_r4 (env : Env) (h : Hp) (K : Env → Hp → Prop) : Prop :=
  K (env.set 12 (env 6)) h
@[congr] theorem cmp_Compare_int_r4_congr {env : Env} {h : Hp} {K : Env → Hp → Prop} : cmp_Compare_int_r4 env h K = cmp_Compare_int_r4 env h K := rfl

/-- cmp.go:45 -/
def cmp_Compare_int_r5 (env : Env) (h : Hp) (K : Env → Hp → Prop) : Prop :=
  K (env.set 4 (Go.Value.int Go.IntKind.i64 0)) h
@[congr] theorem cmp_Compare_int_r5_congr {env : Env} {h : Hp} {K : Env → Hp → Prop} : cmp_Compare_int_r5 env h K = cmp_Compare_int_r5 env h K := rfl

/-- cmp.go:47 -/
def cmp_Compare_int_r6 (env : Env) (h : Hp) (K : Env → Hp → Prop) : Prop :=
  K (env.set 4 (Go.Value.int Go.IntKind.i64 (-1))) h
@[congr] theorem cmp_Compare_int_r6_congr {env : Env} {h : Hp} {K : Env → Hp → Prop} : cmp_Compare_int_r6 env h K = cmp_Compare_int_r6 env h K := rfl

/-- cmp.go:49 -/
def cmp_Compare_int_r7 (env : Env) (h : Hp) (K : Env → Hp → Prop) : Prop :=
  K (env.set 13 (env 6)) h
@[congr] theorem cmp_Compare_int_r7_congr {env : Env} {h : Hp} {K : Env → Hp → Prop} : cmp_Compare_int_r7 env h K = cmp_Compare_int_r7 env h K := rfl

/-- cmp.go:50 -/
def cmp_Compare_int_r8 (env : Env) (h : Hp) (K : Env → Hp → Prop) : Prop :=
  K (env.set 4 (Go.Value.int Go.IntKind.i64 1)) h
@[congr] theorem cmp_Compare_int_r8_congr {env : Env} {h : Hp} {K : Env → Hp → Prop} : cmp_Compare_int_r8 env h K = cmp_Compare_int_r8 env h K := rfl

/-- cmp.go:52 -/
def cmp_Compare_int_r9 (env : Env) (h : Hp) (K : Env → Hp → Prop) : Prop :=
  rd Try.prog (bop Go.BinOp.lss 3 (Go.Operand.tmp 14) (Go.Operand.tmp 15) (env 0) (env 1)) noHp fun v16_2 =>
  K (((env.set 14 (env 0)).set 15 (env 1)).set 16 v16_2) h
@[congr] theorem cmp_Compare_int_r9_congr {env : Env} {h : Hp} {K : Env → Hp → Prop} : cmp_Compare_int_r9 env h K = cmp_Compare_int_r9 env h K := rfl

/-- cmp.go:53 -/
def cmp_Compare_int_r10 (env : Env) (h : Hp) (K : Env → Hp → Prop) : Prop :=
  K (env.set 4 (Go.Value.int Go.IntKind.i64 (-1))) h
@[congr] theorem cmp_Compare_int_r10_congr {env : Env} {h : Hp} {K : Env → Hp → Prop} : cmp_Compare_int_r10 env h K = cmp_Compare_int_r10 env h K := rfl

/-- cmp.go:55 -/
def cmp_Compare_int_r11 (env : Env) (h : Hp) (K : Env → Hp → Prop) : Prop :=
  rd Try.prog (bop Go.BinOp.gtr 3 (Go.Operand.tmp 17) (Go.Operand.tmp 18) (env 0) (env 1)) noHp fun v19_2 =>
  K (((env.set 17 (env 0)).set 18 (env 1)).set 19 v19_2) h
@[congr] theorem cmp_Compare_int_r11_congr {env : Env} {h : Hp} {K : Env → Hp → Prop} : cmp_Compare_int_r11 env h K = cmp_Compare_int_r11 env h K := rfl

/-- cmp.go:56 -/
def cmp_Compare_int_r12 (env : Env) (h : Hp) (K : Env → Hp → Prop) : Prop :=
  K (env.set 4 (Go.Value.int Go.IntKind.i64 1)) h
@[congr] theorem cmp_Compare_int_r12_congr {env : Env} {h : Hp} {K : Env → Hp → Prop} : cmp_Compare_int_r12 env h K = cmp_Compare_int_r12 env h K := rfl

/-- cmp.go:58 -/
def cmp_Compare_int_r13 (env : Env) (h : Hp) (K : Env → Hp → Prop) : Prop :=
  K (env.set 4 (Go.Value.int Go.IntKind.i64 0)) h
@[congr] theorem cmp_Compare_int_r13_congr {env : Env} {h : Hp} {K : Env → Hp → Prop} : cmp_Compare_int_r13 env h K = cmp_Compare_int_r13 env h K := rfl

def cmp_Compare_int_D : Den := (sq (rg cmp_Compare_int_r0) (sq (rg cmp_Compare_int_r1) (sq (rg cmp_Compare_int_r2) (sq (sq (rg cmp_Compare_int_r3) (cnd (Go.Operand.tmp 11) (sq (sq (rg cmp_Compare_int_r4) (cnd (Go.Operand.tmp 12) (sq (rg cmp_Compare_int_r5) (ex .ret)) (ex .normal))) (sq (rg cmp_Compare_int_r6) (ex .ret))) (ex .normal))) (sq (sq (rg cmp_Compare_int_r7) (cnd (Go.Operand.tmp 13) (sq (rg cmp_Compare_int_r8) (ex .ret)) (ex .normal))) (sq (sq (rg cmp_Compare_int_r9) (cnd (Go.Operand.tmp 16) (sq (rg cmp_Compare_int_r10) (ex .ret)) (ex .normal))) (sq (sq (rg cmp_Compare_int_r11) (cnd (Go.Operand.tmp 19) (sq (rg cmp_Compare_int_r12) (ex .ret)) (ex .normal))) (sq (rg cmp_Compare_int_r13) (ex .ret)))))))))

theorem cmp_Compare_int_eq : (den Try.prog 20 cmp_Compare_int_code).1 = cmp_Compare_int_D := by kernel_rfl

theorem cmp_Compare_int_ok {args : Array Value} {h : Hp} {Q : Value → Hp → Prop} (hn : args.size ≤ 20) (D : cmp_Compare_int_D (fin Try.prog [(Go.ResultVar.tmp 4)] Q) (env0 args) h) : Ok Try.prog 49 args h Q :=
  ok_of_den progIsOk Try.func49 (c := cmp_Compare_int_code) (by kernel_rfl) hn (by show (den Try.prog 20 cmp_Compare_int_code).1 _ _ _; rw [cmp_Compare_int_eq]; exact D)

/-! ### cmp.Compare[uint16]: function 50 -/
noncomputable def cmp_Compare_uint16_code : Code := match Try.f50.body with | some c => c | none => .skip

/-- cmp.go:40 -/
def cmp_Compare_uint16_r0 (env : Env) (h : Hp) (K : Env → Hp → Prop) : Prop :=
  K (env.set 4 (Go.Value.int Go.IntKind.i64 0)) h
@[congr] theorem cmp_Compare_uint16_r0_congr {env : Env} {h : Hp} {K : Env → Hp → Prop} : cmp_Compare_uint16_r0 env h K = cmp_Compare_uint16_r0 env h K := rfl

/-- cmp.go:41 -/
def cmp_Compare_uint16_r1 (env : Env) (h : Hp) (K : Env → Hp → Prop) : Prop :=
  Ok Try.prog 58 #[(env 0)] h fun v8_1 h1 =>
  K (((env.set 7 (env 0)).set 8 v8_1).set 5 v8_1) h1
@[congr] theorem cmp_Compare_uint16_r1_congr {env : Env} {h : Hp} {K : Env → Hp → Prop} : cmp_Compare_uint16_r1 env h K = cmp_Compare_uint16_r1 env h K := rfl

/-- cmp.go:42 -/
def cmp_Compare_uint16_r2 (env : Env) (h : Hp) (K : Env → Hp → Prop) : Prop :=
  Ok Try.prog 58 #[(env 1)] h fun v10_1 h1 =>
  K (((env.set 9 (env 1)).set 10 v10_1).set 6 v10_1) h1
@[congr] theorem cmp_Compare_uint16_r2_congr {env : Env} {h : Hp} {K : Env → Hp → Prop} : cmp_Compare_uint16_r2 env h K = cmp_Compare_uint16_r2 env h K := rfl

/-- cmp.go:43 -/
def cmp_Compare_uint16_r3 (env : Env) (h : Hp) (K : Env → Hp → Prop) : Prop :=
  K (env.set 11 (env 5)) h
@[congr] theorem cmp_Compare_uint16_r3_congr {env : Env} {h : Hp} {K : Env → Hp → Prop} : cmp_Compare_uint16_r3 env h K = cmp_Compare_uint16_r3 env h K := rfl

/-- cmp.go:44 -/
def cmp_Compare_uint16_r4 (env : Env) (h : Hp) (K : Env → Hp → Prop) : Prop :=
  K (env.set 12 (env 6)) h
@[congr] theorem cmp_Compare_uint16_r4_congr {env : Env} {h : Hp} {K : Env → Hp → Prop} : cmp_Compare_uint16_r4 env h K = cmp_Compare_uint16_r4 env h K := rfl

/-- cmp.go:45 -/
def cmp_Compare_uint16_r5 (env : Env) (h : Hp) (K : Env → Hp → Prop) : Prop :=
  K (env.set 4 (Go.Value.int Go.IntKind.i64 0)) h
@[congr] theorem cmp_Compare_uint16_r5_congr {env : Env} {h : Hp} {K : Env → Hp → Prop} : cmp_Compare_uint16_r5 env h K = cmp_Compare_uint16_r5 env h K := rfl

/-- cmp.go:47 -/
def cmp_Compare_uint16_r6 (env : Env) (h : Hp) (K : Env → Hp → Prop) : Prop :=
  K (env.set 4 (Go.Value.int Go.IntKind.i64 (-1))) h
@[congr] theorem cmp_Compare_uint16_r6_congr {env : Env} {h : Hp} {K : Env → Hp → Prop} : cmp_Compare_uint16_r6 env h K = cmp_Compare_uint16_r6 env h K := rfl

/-- cmp.go:49 -/
def cmp_Compare_uint16_r7 (env : Env) (h : Hp) (K : Env → Hp → Prop) : Prop :=
  K (env.set 13 (env 6)) h
@[congr] theorem cmp_Compare_uint16_r7_congr {env : Env} {h : Hp} {K : Env → Hp → Prop} : cmp_Compare_uint16_r7 env h K = cmp_Compare_uint16_r7 env h K := rfl

/-- cmp.go:50 -/
def cmp_Compare_uint16_r8 (env : Env) (h : Hp) (K : Env → Hp → Prop) : Prop :=
  K (env.set 4 (Go.Value.int Go.IntKind.i64 1)) h
@[congr] theorem cmp_Compare_uint16_r8_congr {env : Env} {h : Hp} {K : Env → Hp → Prop} : cmp_Compare_uint16_r8 env h K = cmp_Compare_uint16_r8 env h K := rfl

/-- cmp.go:52 -/
def cmp_Compare_uint16_r9 (env : Env) (h : Hp) (K : Env → Hp → Prop) : Prop :=
  rd Try.prog (bop Go.BinOp.lss 25 (Go.Operand.tmp 14) (Go.Operand.tmp 15) (env 0) (env 1)) noHp fun v16_2 =>
  K (((env.set 14 (env 0)).set 15 (env 1)).set 16 v16_2) h
@[congr] theorem cmp_Compare_uint16_r9_congr {env : Env} {h : Hp} {K : Env → Hp → Prop} : cmp_Compare_uint16_r9 env h K = cmp_Compare_uint16_r9 env h K := rfl

/-- cmp.go:53 -/
def cmp_Compare_uint16_r10 (env : Env) (h : Hp) (K : Env → Hp → Prop) : Prop :=
  K (env.set 4 (Go.Value.int Go.IntKind.i64 (-1))) h
@[congr] theorem cmp_Compare_uint16_r10_congr {env : Env} {h : Hp} {K : Env → Hp → Prop} : cmp_Compare_uint16_r10 env h K = cmp_Compare_uint16_r10 env h K := rfl

/-- cmp.go:55 -/
def cmp_Compare_uint16_r11 (env : Env) (h : Hp) (K : Env → Hp → Prop) : Prop :=
  rd Try.prog (bop Go.BinOp.gtr 25 (Go.Operand.tmp 17) (Go.Operand.tmp 18) (env 0) (env 1)) noHp fun v19_2 =>
  K (((env.set 17 (env 0)).set 18 (env 1)).set 19 v19_2) h
@[congr] theorem cmp_Compare_uint16_r11_congr {env : Env} {h : Hp} {K : Env → Hp → Prop} : cmp_Compare_uint16_r11 env h K = cmp_Compare_uint16_r11 env h K := rfl

/-- cmp.go:56 -/
def cmp_Compare_uint16_r12 (env : Env) (h : Hp) (K : Env → Hp → Prop) : Prop :=
  K (env.set 4 (Go.Value.int Go.IntKind.i64 1)) h
@[congr] theorem cmp_Compare_uint16_r12_congr {env : Env} {h : Hp} {K : Env → Hp → Prop} : cmp_Compare_uint16_r12 env h K = cmp_Compare_uint16_r12 env h K := rfl

/-- cmp.go:58 -/
def cmp_Compare_uint16_r13 (env : Env) (h : Hp) (K : Env → Hp → Prop) : Prop :=
  K (env.set 4 (Go.Value.int Go.IntKind.i64 0)) h
@[congr] theorem cmp_Compare_uint16_r13_congr {env : Env} {h : Hp} {K : Env → Hp → Prop} : cmp_Compare_uint16_r13 env h K = cmp_Compare_uint16_r13 env h K := rfl

def cmp_Compare_uint16_D : Den := (sq (rg cmp_Compare_uint16_r0) (sq (rg cmp_Compare_uint16_r1) (sq (rg cmp_Compare_uint16_r2) (sq (sq (rg cmp_Compare_uint16_r3) (cnd (Go.Operand.tmp 11) (sq (sq (rg cmp_Compare_uint16_r4) (cnd (Go.Operand.tmp 12) (sq (rg cmp_Compare_uint16_r5) (ex .ret)) (ex .normal))) (sq (rg cmp_Compare_uint16_r6) (ex .ret))) (ex .normal))) (sq (sq (rg cmp_Compare_uint16_r7) (cnd (Go.Operand.tmp 13) (sq (rg cmp_Compare_uint16_r8) (ex .ret)) (ex .normal))) (sq (sq (rg cmp_Compare_uint16_r9) (cnd (Go.Operand.tmp 16) (sq (rg cmp_Compare_uint16_r10) (ex .ret)) (ex .normal))) (sq (sq (rg cmp_Compare_uint16_r11) (cnd (Go.Operand.tmp 19) (sq (rg cmp_Compare_uint16_r12) (ex .ret)) (ex .normal))) (sq (rg cmp_Compare_uint16_r13) (ex .ret)))))))))

theorem cmp_Compare_uint16_eq : (den Try.prog 20 cmp_Compare_uint16_code).1 = cmp_Compare_uint16_D := by kernel_rfl

theorem cmp_Compare_uint16_ok {args : Array Value} {h : Hp} {Q : Value → Hp → Prop} (hn : args.size ≤ 20) (D : cmp_Compare_uint16_D (fin Try.prog [(Go.ResultVar.tmp 4)] Q) (env0 args) h) : Ok Try.prog 50 args h Q :=
  ok_of_den progIsOk Try.func50 (c := cmp_Compare_uint16_code) (by kernel_rfl) hn (by show (den Try.prog 20 cmp_Compare_uint16_code).1 _ _ _; rw [cmp_Compare_uint16_eq]; exact D)

/-! ### (*octroi/trie.Trie).find: function 51 -/
noncomputable def trie_Trie_find_code : Code := match Try.f51.body with | some c => c | none => .skip

/-- trie.go:54 -/
def trie_Trie_find_r0 (env : Env) (h : Hp) (K : Env → Hp → Prop) : Prop :=
  arun Try.prog (Instr.box 24 (env 1)) h fun v3_0 h1 =>
  K ((env.set 3 v3_0).set 4 (Go.Value.pointer none)) h1
@[congr] theorem trie_Trie_find_r0_congr {env : Env} {h : Hp} {K : Env → Hp → Prop} : trie_Trie_find_r0 env h K = trie_Trie_find_r0 env h K := rfl

/-- trie.go:55 -/
def trie_Trie_find_r1 (env : Env) (h : Hp) (K : Env → Hp → Prop) : Prop :=
  rd Try.prog (Instr.loadAt 24 (env 3)) h fun v7_0 =>
  Ok Try.prog 45 #[v7_0] h fun v8_1 h1 =>
  rd Try.prog (Op.unary Go.UnOp.not v8_1) noHp fun v9_2 =>
  K (((env.set 7 v7_0).set 8 v8_1).set 9 v9_2) h1
@[congr] theorem trie_Trie_find_r1_congr {env : Env} {h : Hp} {K : Env → Hp → Prop} : trie_Trie_find_r1 env h K = trie_Trie_find_r1 env h K := rfl

/-- trie.go:56 -/
def trie_Trie_find_r2 (env : Env) (h : Hp) (K : Env → Hp → Prop) : Prop :=
  K (env.set 4 (Go.Value.pointer none)) h
@[congr] theorem trie_Trie_find_r2_congr {env : Env} {h : Hp} {K : Env → Hp → Prop} : trie_Trie_find_r2 env h K = trie_Trie_find_r2 env h K := rfl

/-- trie.go:58 -/
def trie_Trie_find_r3 (env : Env) (h : Hp) (K : Env → Hp → Prop) : Prop :=
  rd Try.prog (Instr.loadAt 24 (env 3)) h fun v12_1 =>
  Ok Try.prog 52 #[(env 0), v12_1, (Go.Value.bool false)] h fun v13_2 h1 =>
  rd Try.prog (Instr.extract v13_2 0) noHp fun v14_4 =>
  rd Try.prog (Instr.extract v13_2 1) noHp fun v15_5 =>
  K ((((((((env.set 11 (env 0)).set 12 v12_1).set 13 v13_2).set 10 v13_2).set 14 v14_4).set 15 v15_5).set 5 v14_4).set 6 v15_5) h1
@[congr] theorem trie_Trie_find_r3_congr {env : Env} {h : Hp} {K : Env → Hp → Prop} : trie_Trie_find_r3 env h K = trie_Trie_find_r3 env h K := rfl

/-- trie.go:59 -/
def trie_Trie_find_r4 (env : Env) (h : Hp) (K : Env → Hp → Prop) : Prop :=
  rd Try.prog (Op.unary Go.UnOp.not (env 6)) noHp fun v17_1 =>
  gd (yb v17_1 == some false) (fun h k => k (env 0) h) h fun v19_3 h1 =>
  gd (yb v17_1 == some false) (fun h k => nck v19_3 (k v19_3 h)) h1 fun v20_4 h2 =>
  gd (yb v17_1 == some false) (fun h k => rd Try.prog (Instr.fieldAt 82 v20_4 2) noHp fun v => k v h) h2 fun v21_5 h3 =>
  gd (yb v17_1 == some false) (fun h k => rd Try.prog (Instr.loadAt 80 v21_5) h fun v => k v h) h3 fun v22_6 h4 =>
  gd (yb v17_1 == some false) (fun h k => k (env 5) h) h4 fun v23_7 h5 =>
  gd (yb v17_1 == some false) (fun h k => rd Try.prog (Instr.indexAt 80 v22_6 v23_7) noHp fun v => k v h) h5 fun v24_8 h6 =>
  gd (yb v17_1 == some false) (fun h k => rd Try.prog (Instr.fieldAt 87 v24_8 2) noHp fun v => k v h) h6 fun v25_9 h7 =>
  gd (yb v17_1 == some false) (fun h k => rd Try.prog (Instr.loadAt 4 v25_9) h fun v => k v h) h7 fun v26_10 h8 =>
  gd (yb v17_1 == some false) (fun h k => rd Try.prog (Op.unary Go.UnOp.not v26_10) noHp fun v => k v h) h8 fun v27_11 h9 =>
  rd Try.prog (pck v17_1 (Go.Value.bool true) v27_11) noHp fun v28_12 =>
  K (((((((((((((env.set 16 (env 6)).set 17 v17_1).set 18 v17_1).set 19 v19_3).set 20 v20_4).set 21 v21_5).set 22 v22_6).set 23 v23_7).set 24 v24_8).set 25 v25_9).set 26 v26_10).set 27 v27_11).set 28 v28_12) h9
@[congr] theorem trie_Trie_find_r4_congr {env : Env} {h : Hp} {K : Env → Hp → Prop} : trie_Trie_find_r4 env h K = trie_Trie_find_r4 env h K := rfl

/-- trie.go:60 -/
def trie_Trie_find_r5 (env : Env) (h : Hp) (K : Env → Hp → Prop) : Prop :=
  K (env.set 4 (Go.Value.pointer none)) h
@[congr] theorem trie_Trie_find_r5_congr {env : Env} {h : Hp} {K : Env → Hp → Prop} : trie_Trie_find_r5 env h K = trie_Trie_find_r5 env h K := rfl

/-- trie.go:62 -/
def trie_Trie_find_r6 (env : Env) (h : Hp) (K : Env → Hp → Prop) : Prop :=
  nck (env 0) (
  rd Try.prog (Instr.fieldAt 82 (env 0) 2) noHp fun v31_2 =>
  rd Try.prog (Instr.loadAt 80 v31_2) h fun v32_3 =>
  rd Try.prog (Instr.indexAt 80 v32_3 (env 5)) noHp fun v34_5 =>
  K (((((((env.set 29 (env 0)).set 30 (env 0)).set 31 v31_2).set 32 v32_3).set 33 (env 5)).set 34 v34_5).set 4 v34_5) h)
@[congr] theorem trie_Trie_find_r6_congr {env : Env} {h : Hp} {K : Env → Hp → Prop} : trie_Trie_find_r6 env h K = trie_Trie_find_r6 env h K := rfl

def trie_Trie_find_D : Den := (sq (rg trie_Trie_find_r0) (sq (sq (rg trie_Trie_find_r1) (cnd (Go.Operand.tmp 9) (sq (rg trie_Trie_find_r2) (ex .ret)) (ex .normal))) (sq (rg trie_Trie_find_r3) (sq (sq (rg trie_Trie_find_r4) (cnd (Go.Operand.tmp 28) (sq (rg trie_Trie_find_r5) (ex .ret)) (ex .normal))) (sq (rg trie_Trie_find_r6) (ex .ret))))))

theorem trie_Trie_find_eq : (den Try.prog 35 trie_Trie_find_code).1 = trie_Trie_find_D := by kernel_rfl

theorem trie_Trie_find_ok {args : Array Value} {h : Hp} {Q : Value → Hp → Prop} (hn : args.size ≤ 35) (D : trie_Trie_find_D (fin Try.prog [(Go.ResultVar.tmp 4)] Q) (env0 args) h) : Ok Try.prog 51 args h Q :=
  ok_of_den progIsOk Try.func51 (c := trie_Trie_find_code) (by kernel_rfl) hn (by show (den Try.prog 35 trie_Trie_find_code).1 _ _ _; rw [trie_Trie_find_eq]; exact D)

/-! ### (*octroi/trie.Trie).walk: function 52 -/
noncomputable def trie_Trie_walk_code : Code := match Try.f52.body with | some c => c | none => .skip

/-- trie.go:34 -/
def trie_Trie_walk_r0 (env : Env) (h : Hp) (K : Env → Hp → Prop) : Prop :=
  arun Try.prog (Instr.box 24 (env 1)) h fun v4_0 h1 =>
  K (((env.set 4 v4_0).set 6 (Go.Value.int Go.IntKind.i64 0)).set 7 (Go.Value.bool false)) h1
@[congr] theorem trie_Trie_walk_r0_congr {env : Env} {h : Hp} {K : Env → Hp → Prop} : trie_Trie_walk_r0 env h K = trie_Trie_walk_r0 env h K := rfl

/-- trie.go:35 -/
def trie_Trie_walk_r1 (env : Env) (h : Hp) (K : Env → Hp → Prop) : Prop :=
  K ((env.set 8 (Go.Value.int Go.IntKind.i64 0)).set 9 (Go.Value.int Go.IntKind.i64 0)) h
@[congr] theorem trie_Trie_walk_r1_congr {env : Env} {h : Hp} {K : Env → Hp → Prop} : trie_Trie_walk_r1 env h K = trie_Trie_walk_r1 env h K := rfl

/-- trie.go:37 -/
def trie_Trie_walk_r2 (env : Env) (h : Hp) (K : Env → Hp → Prop) : Prop :=
  rd Try.prog (Instr.fieldAt 24 (env 4) 1) noHp fun v12_1 =>
  rd Try.prog (Instr.loadAt 3 v12_1) h fun v13_2 =>
  rd Try.prog (bop Go.BinOp.eql 3 (Go.Operand.tmp 11) (Go.Operand.tmp 13) (env 9) v13_2) noHp fun v14_3 =>
  K ((((env.set 11 (env 9)).set 12 v12_1).set 13 v13_2).set 14 v14_3) h
@[congr] theorem trie_Trie_walk_r2_congr {env : Env} {h : Hp} {K : Env → Hp → Prop} : trie_Trie_walk_r2 env h K = trie_Trie_walk_r2 env h K := rfl

/-- trie.go:38 -/
def trie_Trie_walk_r3 (env : Env) (h : Hp) (K : Env → Hp → Prop) : Prop :=
  K (((env.set 15 (env 8)).set 6 (env 8)).set 7 (Go.Value.bool true)) h
@[congr] theorem trie_Trie_walk_r3_congr {env : Env} {h : Hp} {K : Env → Hp → Prop} : trie_Trie_walk_r3 env h K = trie_Trie_walk_r3 env h K := rfl

/-- trie.go:40 -/
def trie_Trie_walk_r4 (env : Env) (h : Hp) (K : Env → Hp → Prop) : Prop :=
  rd Try.prog (Instr.fieldAt 24 (env 4) 0) noHp fun v16_0 =>
  rd Try.prog (Instr.loadAt 22 v16_0) h fun v17_1 =>
  Ok Try.prog 54 #[v17_1, (env 9)] h fun v19_3 h1 =>
  K (((((env.set 16 v16_0).set 17 v17_1).set 18 (env 9)).set 19 v19_3).set 10 v19_3) h1
@[congr] theorem trie_Trie_walk_r4_congr {env : Env} {h : Hp} {K : Env → Hp → Prop} : trie_Trie_walk_r4 env h K = trie_Trie_walk_r4 env h K := rfl

/-- trie.go:41 -/
def trie_Trie_walk_r5 (env : Env) (h : Hp) (K : Env → Hp → Prop) : Prop :=
  nck (env 0) (
  rd Try.prog (Instr.fieldAt 82 (env 0) 2) noHp fun v22_2 =>
  rd Try.prog (Instr.loadAt 80 v22_2) h fun v23_3 =>
  rd Try.prog (Instr.indexAt 80 v23_3 (env 8)) noHp fun v26_6 =>
  rd Try.prog (Instr.fieldAt 87 v26_6 0) noHp fun v27_7 =>
  rd Try.prog (Instr.indexAt 85 v27_7 (env 10)) noHp fun v28_8 =>
  rd Try.prog (Instr.loadAt 3 v28_8) h fun v29_9 =>
  rd Try.prog (bop Go.BinOp.eql 3 (Go.Operand.tmp 29) (Go.Operand.const (Go.Value.int Go.IntKind.i64 0)) v29_9 (Go.Value.int Go.IntKind.i64 0)) noHp fun v30_10 =>
  K (((((((((((env.set 20 (env 0)).set 21 (env 0)).set 22 v22_2).set 23 v23_3).set 24 (env 8)).set 25 (env 10)).set 26 v26_6).set 27 v27_7).set 28 v28_8).set 29 v29_9).set 30 v30_10) h)
@[congr] theorem trie_Trie_walk_r5_congr {env : Env} {h : Hp} {K : Env → Hp → Prop} : trie_Trie_walk_r5 env h K = trie_Trie_walk_r5 env h K := rfl

/-- trie.go:42 -/
def trie_Trie_walk_r6 (env : Env) (h : Hp) (K : Env → Hp → Prop) : Prop :=
  rd Try.prog (Op.unary Go.UnOp.not (env 2)) noHp fun v32_1 =>
  K ((env.set 31 (env 2)).set 32 v32_1) h
@[congr] theorem trie_Trie_walk_r6_congr {env : Env} {h : Hp} {K : Env → Hp → Prop} : trie_Trie_walk_r6 env h K = trie_Trie_walk_r6 env h K := rfl

/-- trie.go:43 -/
def trie_Trie_walk_r7 (env : Env) (h : Hp) (K : Env → Hp → Prop) : Prop :=
  K ((env.set 6 (Go.Value.int Go.IntKind.i64 0)).set 7 (Go.Value.bool false)) h
@[congr] theorem trie_Trie_walk_r7_congr {env : Env} {h : Hp} {K : Env → Hp → Prop} : trie_Trie_walk_r7 env h K = trie_Trie_walk_r7 env h K := rfl

/-- trie.go:45 -/
def trie_Trie_walk_r8 (env : Env) (h : Hp) (K : Env → Hp → Prop) : Prop :=
  nck (env 0) (
  rd Try.prog (Instr.fieldAt 82 (env 0) 2) noHp fun v36_3 =>
  rd Try.prog (Instr.loadAt 80 v36_3) h fun v37_4 =>
  rd Try.prog (Instr.build 87 #[]) noHp fun v38_5 =>
  arun Try.prog (Instr.buildSlice 80 1 #[(0, v38_5)]) h fun v39_6 h1 =>
  arun Try.prog (Builtin.append_ #[80, 80] 80 #[v37_4, v39_6]) h1 fun v40_7 h2 =>
  nck (env 0) (
  rd Try.prog (Instr.fieldAt 82 (env 0) 2) noHp fun v42_9 =>
  arun Try.prog (Instr.storeAt 80 v42_9 v40_7) h2 fun _ h3 =>
  K ((((((((((env.set 33 (env 0)).set 34 (env 0)).set 35 (env 0)).set 36 v36_3).set 37 v37_4).set 38 v38_5).set 39 v39_6).set 40 v40_7).set 41 (env 0)).set 42 v42_9) h3))
@[congr] theorem trie_Trie_walk_r8_congr {env : Env} {h : Hp} {K : Env → Hp → Prop} : trie_Trie_walk_r8 env h K = trie_Trie_walk_r8 env h K := rfl

/-- trie.go:46 (in any order) -/
def trie_Trie_walk_r9 (env : Env) (h : Hp) (K : Env → Hp → Prop) : Prop :=
  nck (env 0) (
  rd Try.prog (Instr.fieldAt 82 (env 0) 2) noHp fun v45_2 =>
  rd Try.prog (Instr.loadAt 80 v45_2) h fun v46_3 =>
  nck (env 0) (
  rd Try.prog (Instr.fieldAt 82 (env 0) 2) noHp fun v51_8 =>
  rd Try.prog (Instr.loadAt 80 v51_8) h fun v52_9 =>
  rd Try.prog (Builtin.len_ #[80] 3 #[v52_9]) h fun v53_10 =>
  rd Try.prog (bop Go.BinOp.sub 3 (Go.Operand.tmp 53) (Go.Operand.const (Go.Value.int Go.IntKind.i64 1)) v53_10 (Go.Value.int Go.IntKind.i64 1)) noHp fun v54_11 =>
  rd Try.prog (Instr.indexAt 80 v46_3 (env 8)) noHp fun v55_12 =>
  rd Try.prog (Instr.fieldAt 87 v55_12 0) noHp fun v56_13 =>
  rd Try.prog (Instr.indexAt 85 v56_13 (env 10)) noHp fun v57_14 =>
  arun Try.prog (Instr.storeAt 3 v57_14 v54_11) h fun _ h1 =>
  (True) ∧
  K (((((((((((((((env.set 43 (env 0)).set 44 (env 0)).set 45 v45_2).set 46 v46_3).set 47 (env 8)).set 48 (env 10)).set 49 (env 0)).set 50 (env 0)).set 51 v51_8).set 52 v52_9).set 53 v53_10).set 54 v54_11).set 55 v55_12).set 56 v56_13).set 57 v57_14) h1))
@[congr] theorem trie_Trie_walk_r9_congr {env : Env} {h : Hp} {K : Env → Hp → Prop} : trie_Trie_walk_r9 env h K = trie_Trie_walk_r9 env h K := rfl

/-- trie.go:48 -/
def trie_Trie_walk_r10 (env : Env) (h : Hp) (K : Env → Hp → Prop) : Prop :=
  nck (env 0) (
  rd Try.prog (Instr.fieldAt 82 (env 0) 2) noHp fun v60_2 =>
  rd Try.prog (Instr.loadAt 80 v60_2) h fun v61_3 =>
  rd Try.prog (Instr.indexAt 80 v61_3 (env 8)) noHp fun v64_6 =>
  rd Try.prog (Instr.fieldAt 87 v64_6 0) noHp fun v65_7 =>
  rd Try.prog (Instr.indexAt 85 v65_7 (env 10)) noHp fun v66_8 =>
  rd Try.prog (Instr.loadAt 3 v66_8) h fun v67_9 =>
  K (((((((((((env.set 58 (env 0)).set 59 (env 0)).set 60 v60_2).set 61 v61_3).set 62 (env 8)).set 63 (env 10)).set 64 v64_6).set 65 v65_7).set 66 v66_8).set 67 v67_9).set 8 v67_9) h)
@[congr] theorem trie_Trie_walk_r10_congr {env : Env} {h : Hp} {K : Env → Hp → Prop} : trie_Trie_walk_r10 env h K = trie_Trie_walk_r10 env h K := rfl

/-- trie.go:49 -/
def trie_Trie_walk_r11 (env : Env) (h : Hp) (K : Env → Hp → Prop) : Prop :=
  rd Try.prog (bop Go.BinOp.add 3 (Go.Operand.tmp 68) (Go.Operand.const (Go.Value.int Go.IntKind.i64 1)) (env 9) (Go.Value.int Go.IntKind.i64 1)) noHp fun v69_1 =>
  K (((env.set 68 (env 9)).set 69 v69_1).set 9 v69_1) h
@[congr] theorem trie_Trie_walk_r11_congr {env : Env} {h : Hp} {K : Env → Hp → Prop} : trie_Trie_walk_r11 env h K = trie_Trie_walk_r11 env h K := rfl

def trie_Trie_walk_S0 : Den := (sq (rg trie_Trie_walk_r1) (sq (ex .normal) (sq (sq (rg trie_Trie_walk_r2) (cnd (Go.Operand.tmp 14) (sq (rg trie_Trie_walk_r3) (ex .ret)) (ex .normal))) (sq (rg trie_Trie_walk_r4) (sq (sq (rg trie_Trie_walk_r5) (cnd (Go.Operand.tmp 30) (sq (sq (rg trie_Trie_walk_r6) (cnd (Go.Operand.tmp 32) (sq (rg trie_Trie_walk_r7) (ex .ret)) (ex .normal))) (sq (rg trie_Trie_walk_r8) (rg trie_Trie_walk_r9))) (ex .normal))) (sq (rg trie_Trie_walk_r10) (sq (rg trie_Trie_walk_r11) (ex (.goto 0)))))))))

noncomputable def trie_Trie_walk_S0_code : Code := subCode [1, 0] trie_Trie_walk_code

def trie_Trie_walk_S0_at0 : Den := (sq (ex .normal) (sq (sq (rg trie_Trie_walk_r2) (cnd (Go.Operand.tmp 14) (sq (rg trie_Trie_walk_r3) (ex .ret)) (ex .normal))) (sq (rg trie_Trie_walk_r4) (sq (sq (rg trie_Trie_walk_r5) (cnd (Go.Operand.tmp 30) (sq (sq (rg trie_Trie_walk_r6) (cnd (Go.Operand.tmp 32) (sq (rg trie_Trie_walk_r7) (ex .ret)) (ex .normal))) (sq (rg trie_Trie_walk_r8) (rg trie_Trie_walk_r9))) (ex .normal))) (sq (rg trie_Trie_walk_r10) (sq (rg trie_Trie_walk_r11) (ex (.goto 0))))))))

theorem trie_Trie_walk_S0_lab0 : (den Try.prog 70 trie_Trie_walk_S0_code).2 0 = some trie_Trie_walk_S0_at0 := by kernel_rfl

def trie_Trie_walk_D : Den := (sq (rg trie_Trie_walk_r0) (scp trie_Trie_walk_S0 (den Try.prog 70 trie_Trie_walk_S0_code).2))

theorem trie_Trie_walk_eq : (den Try.prog 70 trie_Trie_walk_code).1 = trie_Trie_walk_D := by kernel_rfl

theorem trie_Trie_walk_ok {args : Array Value} {h : Hp} {Q : Value → Hp → Prop} (hn : args.size ≤ 70) (D : trie_Trie_walk_D (fin Try.prog [(Go.ResultVar.tmp 6), (Go.ResultVar.tmp 7)] Q) (env0 args) h) : Ok Try.prog 52 args h Q :=
  ok_of_den progIsOk Try.func52 (c := trie_Trie_walk_code) (by kernel_rfl) hn (by show (den Try.prog 70 trie_Trie_walk_code).1 _ _ _; rw [trie_Trie_walk_eq]; exact D)

/-! ### (*octroi/trie.Trie).gather: function 53 -/
noncomputable def trie_Trie_gather_code : Code := match Try.f53.body with | some c => c | none => .skip

/-- trie.go:120 -/
def trie_Trie_gather_r0 (env : Env) (h : Hp) (K : Env → Hp → Prop) : Prop :=
  arun Try.prog (Instr.box 24 (env 3)) h fun v7_0 h1 =>
  K ((env.set 7 v7_0).set 8 (Go.Value.slice none 0 0)) h1
@[congr] theorem trie_Trie_gather_r0_congr {env : Env} {h : Hp} {K : Env → Hp → Prop} : trie_Trie_gather_r0 env h K = trie_Trie_gather_r0 env h K := rfl

/-- trie.go:121 -/
def trie_Trie_gather_r1 (env : Env) (h : Hp) (K : Env → Hp → Prop) : Prop :=
  nck (env 0) (
  rd Try.prog (Instr.fieldAt 82 (env 0) 2) noHp fun v14_2 =>
  rd Try.prog (Instr.loadAt 80 v14_2) h fun v15_3 =>
  rd Try.prog (Instr.indexAt 80 v15_3 (env 2)) noHp fun v17_5 =>
  rd Try.prog (Instr.loadAt 87 v17_5) h fun v18_6 =>
  arun Try.prog (Instr.alloc 87 true (Go.Value.tuple #[])) h fun v9_7 h1 =>
  arun Try.prog (Instr.storeAt 87 v9_7 v18_6) h1 fun _ h2 =>
  K ((((((((env.set 12 (env 0)).set 13 (env 0)).set 14 v14_2).set 15 v15_3).set 16 (env 2)).set 17 v17_5).set 18 v18_6).set 9 v9_7) h2)
@[congr] theorem trie_Trie_gather_r1_congr {env : Env} {h : Hp} {K : Env → Hp → Prop} : trie_Trie_gather_r1 env h K = trie_Trie_gather_r1 env h K := rfl

/-- trie.go:122 -/
def trie_Trie_gather_r2 (env : Env) (h : Hp) (K : Env → Hp → Prop) : Prop :=
  rd Try.prog (Instr.fieldAt 87 (env 9) 2) noHp fun v19_0 =>
  rd Try.prog (Instr.loadAt 4 v19_0) h fun v20_1 =>
  K ((env.set 19 v19_0).set 20 v20_1) h
@[congr] theorem trie_Trie_gather_r2_congr {env : Env} {h : Hp} {K : Env → Hp → Prop} : trie_Trie_gather_r2 env h K = trie_Trie_gather_r2 env h K := rfl

/-- trie.go:123 -/
def trie_Trie_gather_r3 (env : Env) (h : Hp) (K : Env → Hp → Prop) : Prop :=
  rd Try.prog (Instr.loadAt 24 (env 7)) h fun v22_1 =>
  arun Try.prog (Instr.buildSlice 68 1 #[(0, v22_1)]) h fun v23_2 h1 =>
  arun Try.prog (Builtin.append_ #[68, 68] 68 #[(env 1), v23_2]) h1 fun v24_3 h2 =>
  K (((((env.set 21 (env 1)).set 22 v22_1).set 23 v23_2).set 24 v24_3).set 1 v24_3) h2
@[congr] theorem trie_Trie_gather_r3_congr {env : Env} {h : Hp} {K : Env → Hp → Prop} : trie_Trie_gather_r3 env h K = trie_Trie_gather_r3 env h K := rfl

/-- trie.go:125 -/
def trie_Trie_gather_r4 (env : Env) (h : Hp) (K : Env → Hp → Prop) : Prop :=
  rd Try.prog (Instr.fieldAt 87 (env 9) 0) noHp fun v25_0 =>
  rd Try.prog (Instr.loadAt 85 v25_0) h fun v26_1 =>
  K (((env.set 25 v25_0).set 26 v26_1).set 27 (Go.Value.int Go.IntKind.i64 0)) h
@[congr] theorem trie_Trie_gather_r4_congr {env : Env} {h : Hp} {K : Env → Hp → Prop} : trie_Trie_gather_r4 env h K = trie_Trie_gather_r4 env h K := rfl

/-- trie.go:125 -/
def trie_Trie_gather_r5 (env : Env) (h : Hp) (K : Env → Hp → Prop) : Prop :=
  rd Try.prog (bop Go.BinOp.lss 3 (Go.Operand.tmp 27) (Go.Operand.const (Go.Value.int Go.IntKind.i64 2)) (env 27) (Go.Value.int Go.IntKind.i64 2)) noHp fun v28_0 =>
  K (env.set 28 v28_0) h
@[congr] theorem trie_Trie_gather_r5_congr {env : Env} {h : Hp} {K : Env → Hp → Prop} : trie_Trie_gather_r5 env h K = trie_Trie_gather_r5 env h K := rfl

/-- trie.go:125 -/
def trie_Trie_gather_r6 (env : Env) (h : Hp) (K : Env → Hp → Prop) : Prop :=
  rd Try.prog (Instr.index 85 (env 26) (env 27)) noHp fun v30_1 =>
  K ((((env.set 29 (env 27)).set 30 v30_1).set 10 (env 27)).set 11 v30_1) h
@[congr] theorem trie_Trie_gather_r6_congr {env : Env} {h : Hp} {K : Env → Hp → Prop} : trie_Trie_gather_r6 env h K = trie_Trie_gather_r6 env h K := rfl

/-- trie.go:126 -/
def trie_Trie_gather_r7 (env : Env) (h : Hp) (K : Env → Hp → Prop) : Prop :=
  rd Try.prog (bop Go.BinOp.neq 3 (Go.Operand.tmp 31) (Go.Operand.const (Go.Value.int Go.IntKind.i64 0)) (env 11) (Go.Value.int Go.IntKind.i64 0)) noHp fun v32_1 =>
  K ((env.set 31 (env 11)).set 32 v32_1) h
@[congr] theorem trie_Trie_gather_r7_congr {env : Env} {h : Hp} {K : Env → Hp → Prop} : trie_Trie_gather_r7 env h K = trie_Trie_gather_r7 env h K := rfl

/-- trie.go:127 (in any order) -/
def trie_Trie_gather_r8 (env : Env) (h : Hp) (K : Env → Hp → Prop) : Prop :=
  rd Try.prog (Instr.fieldAt 24 (env 7) 0) noHp fun v36_3 =>
  rd Try.prog (Instr.loadAt 22 v36_3) h fun v37_4 =>
  rd Try.prog (convert 3 22 (env 10)) noHp fun v39_6 =>
  rd Try.prog (Instr.fieldAt 24 (env 7) 1) noHp fun v40_7 =>
  rd Try.prog (Instr.loadAt 3 v40_7) h fun v41_8 =>
  rd Try.prog (bop Go.BinOp.sub 3 (Go.Operand.const (Go.Value.int Go.IntKind.i64 31)) (Go.Operand.tmp 41) (Go.Value.int Go.IntKind.i64 31) v41_8) noHp fun v42_9 =>
  rd Try.prog (bop Go.BinOp.shl 22 (Go.Operand.tmp 39) (Go.Operand.tmp 42) v39_6 v42_9) noHp fun v43_10 =>
  rd Try.prog (bop Go.BinOp.or 22 (Go.Operand.tmp 37) (Go.Operand.tmp 43) v37_4 v43_10) noHp fun v44_11 =>
  rd Try.prog (Instr.fieldAt 24 (env 7) 1) noHp fun v45_12 =>
  rd Try.prog (Instr.loadAt 3 v45_12) h fun v46_13 =>
  rd Try.prog (bop Go.BinOp.add 3 (Go.Operand.tmp 46) (Go.Operand.const (Go.Value.int Go.IntKind.i64 1)) v46_13 (Go.Value.int Go.IntKind.i64 1)) noHp fun v47_14 =>
  rd Try.prog (Instr.build 24 #[(0, v44_11), (1, v47_14)]) noHp fun v48_15 =>
  Ok Try.prog 53 #[(env 0), (env 1), (env 11), v48_15] h fun v49_16 h1 =>
  (True) ∧
  K ((((((((((((((((((env.set 33 (env 0)).set 34 (env 1)).set 35 (env 11)).set 36 v36_3).set 37 v37_4).set 38 (env 10)).set 39 v39_6).set 40 v40_7).set 41 v41_8).set 42 v42_9).set 43 v43_10).set 44 v44_11).set 45 v45_12).set 46 v46_13).set 47 v47_14).set 48 v48_15).set 49 v49_16).set 1 v49_16) h1
@[congr] theorem trie_Trie_gather_r8_congr {env : Env} {h : Hp} {K : Env → Hp → Prop} : trie_Trie_gather_r8 env h K = trie_Trie_gather_r8 env h K := rfl

/-- trie.go:125 -/
def trie_Trie_gather_r9 (env : Env) (h : Hp) (K : Env → Hp → Prop) : Prop :=
  rd Try.prog (bop Go.BinOp.add 3 (Go.Operand.tmp 27) (Go.Operand.const (Go.Value.int Go.IntKind.i64 1)) (env 27) (Go.Value.int Go.IntKind.i64 1)) noHp fun v50_0 =>
  K ((env.set 50 v50_0).set 27 v50_0) h
@[congr] theorem trie_Trie_gather_r9_congr {env : Env} {h : Hp} {K : Env → Hp → Prop} : trie_Trie_gather_r9 env h K = trie_Trie_gather_r9 env h K := rfl

def trie_Trie_gather_L0 : Den := (sq (rg trie_Trie_gather_r5) (sq (cnd (Go.Operand.tmp 28) (ex .normal) (ex (.exit 0))) (sq (blk 1 (sq (rg trie_Trie_gather_r6) (sq (rg trie_Trie_gather_r7) (cnd (Go.Operand.tmp 32) (rg trie_Trie_gather_r8) (ex .normal))))) (rg trie_Trie_gather_r9))))

/-- trie.go:130 -/
def trie_Trie_gather_r10 (env : Env) (h : Hp) (K : Env → Hp → Prop) : Prop :=
  K ((env.set 51 (env 1)).set 8 (env 1)) h
@[congr] theorem trie_Trie_gather_r10_congr {env : Env} {h : Hp} {K : Env → Hp → Prop} : trie_Trie_gather_r10 env h K = trie_Trie_gather_r10 env h K := rfl

def trie_Trie_gather_D : Den := (sq (rg trie_Trie_gather_r0) (sq (rg trie_Trie_gather_r1) (sq (sq (rg trie_Trie_gather_r2) (cnd (Go.Operand.tmp 20) (rg trie_Trie_gather_r3) (ex .normal))) (sq (sq (rg trie_Trie_gather_r4) (blk 0 (lp trie_Trie_gather_L0))) (sq (rg trie_Trie_gather_r10) (ex .ret))))))

theorem trie_Trie_gather_eq : (den Try.prog 52 trie_Trie_gather_code).1 = trie_Trie_gather_D := by kernel_rfl

theorem trie_Trie_gather_ok {args : Array Value} {h : Hp} {Q : Value → Hp → Prop} (hn : args.size ≤ 52) (D : trie_Trie_gather_D (fin Try.prog [(Go.ResultVar.tmp 8)] Q) (env0 args) h) : Ok Try.prog 53 args h Q :=
  ok_of_den progIsOk Try.func53 (c := trie_Trie_gather_code) (by kernel_rfl) hn (by show (den Try.prog 52 trie_Trie_gather_code).1 _ _ _; rw [trie_Trie_gather_eq]; exact D)

/-! ### octroi/trie.bit: function 54 -/
noncomputable def trie_bit_code : Code := match Try.f54.body with | some c => c | none => .skip

/-- trie.go:31 -/
def trie_bit_r0 (env : Env) (h : Hp) (K : Env → Hp → Prop) : Prop :=
  K (env.set 4 (Go.Value.int Go.IntKind.i64 0)) h
@[congr] theorem trie_bit_r0_congr {env : Env} {h : Hp} {K : Env → Hp → Prop} : trie_bit_r0 env h K = trie_bit_r0 env h K := rfl

/-- trie.go:31 -/
def trie_bit_r1 (env : Env) (h : Hp) (K : Env → Hp → Prop) : Prop :=
  rd Try.prog (bop Go.BinOp.sub 3 (Go.Operand.const (Go.Value.int Go.IntKind.i64 31)) (Go.Operand.tmp 6) (Go.Value.int Go.IntKind.i64 31) (env 1)) noHp fun v7_2 =>
  rd Try.prog (bop Go.BinOp.shr 22 (Go.Operand.tmp 5) (Go.Operand.tmp 7) (env 0) v7_2) noHp fun v8_3 =>
  rd Try.prog (bop Go.BinOp.and 22 (Go.Operand.tmp 8) (Go.Operand.const (Go.Value.int Go.IntKind.u32 1)) v8_3 (Go.Value.int Go.IntKind.u32 1)) noHp fun v9_4 =>
  rd Try.prog (convert 22 3 v9_4) noHp fun v10_5 =>
  K (((((((env.set 5 (env 0)).set 6 (env 1)).set 7 v7_2).set 8 v8_3).set 9 v9_4).set 10 v10_5).set 4 v10_5) h
@[congr] theorem trie_bit_r1_congr {env : Env} {h : Hp} {K : Env → Hp → Prop} : trie_bit_r1 env h K = trie_bit_r1 env h K := rfl

def trie_bit_D : Den := (sq (rg trie_bit_r0) (sq (rg trie_bit_r1) (ex .ret)))

theorem trie_bit_eq : (den Try.prog 11 trie_bit_code).1 = trie_bit_D := by kernel_rfl

theorem trie_bit_ok {args : Array Value} {h : Hp} {Q : Value → Hp → Prop} (hn : args.size ≤ 11) (D : trie_bit_D (fin Try.prog [(Go.ResultVar.tmp 4)] Q) (env0 args) h) : Ok Try.prog 54 args h Q :=
  ok_of_den progIsOk Try.func54 (c := trie_bit_code) (by kernel_rfl) hn (by show (den Try.prog 11 trie_bit_code).1 _ _ _; rw [trie_bit_eq]; exact D)

/-! ### octroi/octroiref02.Less: function 55 -/
noncomputable def octroiref02_Less_code : Code := match Try.f55.body with | some c => c | none => .skip

/-- ref.go:54 -/
def octroiref02_Less_r0 (env : Env) (h : Hp) (K : Env → Hp → Prop) : Prop :=
  arun Try.prog (Instr.box 24 (env 0)) h fun v2_0 h1 =>
  arun Try.prog (Instr.box 24 (env 1)) h1 fun v3_1 h2 =>
  K (((env.set 2 v2_0).set 3 v3_1).set 4 (Go.Value.bool false)) h2
@[congr] theorem octroiref02_Less_r0_congr {env : Env} {h : Hp} {K : Env → Hp → Prop} : octroiref02_Less_r0 env h K = octroiref02_Less_r0 env h K := rfl

/-- ref.go:55 -/
def octroiref02_Less_r1 (env : Env) (h : Hp) (K : Env → Hp → Prop) : Prop :=
  rd Try.prog (Instr.fieldAt 24 (env 2) 0) noHp fun v5_0 =>
  rd Try.prog (Instr.loadAt 22 v5_0) h fun v6_1 =>
  rd Try.prog (Instr.fieldAt 24 (env 3) 0) noHp fun v7_2 =>
  rd Try.prog (Instr.loadAt 22 v7_2) h fun v8_3 =>
  rd Try.prog (bop Go.BinOp.lss 22 (Go.Operand.tmp 6) (Go.Operand.tmp 8) v6_1 v8_3) noHp fun v9_4 =>
  gd (yb v9_4 == some false) (fun h k => rd Try.prog (Instr.fieldAt 24 (env 2) 0) noHp fun v => k v h) h fun v11_6 h1 =>
  gd (yb v9_4 == some false) (fun h k => rd Try.prog (Instr.loadAt 22 v11_6) h fun v => k v h) h1 fun v12_7 h2 =>
  gd (yb v9_4 == some false) (fun h k => rd Try.prog (Instr.fieldAt 24 (env 3) 0) noHp fun v => k v h) h2 fun v13_8 h3 =>
  gd (yb v9_4 == some false) (fun h k => rd Try.prog (Instr.loadAt 22 v13_8) h fun v => k v h) h3 fun v14_9 h4 =>
  gd (yb v9_4 == some false) (fun h k => rd Try.prog (bop Go.BinOp.eql 22 (Go.Operand.tmp 12) (Go.Operand.tmp 14) v12_7 v14_9) noHp fun v => k v h) h4 fun v15_10 h5 =>
  gd (yb v9_4 == some false) (fun h k => k v15_10 h) h5 fun v16_11 h6 =>
  gd (yb v16_11 == some true) (fun h k => rd Try.prog (Instr.fieldAt 24 (env 2) 1) noHp fun v => k v h) h6 fun v17_12 h7 =>
  gd (yb v16_11 == some true) (fun h k => rd Try.prog (Instr.loadAt 3 v17_12) h fun v => k v h) h7 fun v18_13 h8 =>
  gd (yb v16_11 == some true) (fun h k => rd Try.prog (Instr.fieldAt 24 (env 3) 1) noHp fun v => k v h) h8 fun v19_14 h9 =>
  gd (yb v16_11 == some true) (fun h k => rd Try.prog (Instr.loadAt 3 v19_14) h fun v => k v h) h9 fun v20_15 h10 =>
  gd (yb v16_11 == some true) (fun h k => rd Try.prog (bop Go.BinOp.lss 3 (Go.Operand.tmp 18) (Go.Operand.tmp 20) v18_13 v20_15) noHp fun v => k v h) h10 fun v21_16 h11 =>
  gd (yb v9_4 == some false) (fun h k => rd Try.prog (pck v16_11 v21_16 (Go.Value.bool false)) noHp fun v => k v h) h11 fun v22_17 h12 =>
  rd Try.prog (pck v9_4 (Go.Value.bool true) v22_17) noHp fun v23_18 =>
  K ((((((((((((((((((((env.set 5 v5_0).set 6 v6_1).set 7 v7_2).set 8 v8_3).set 9 v9_4).set 10 v9_4).set 11 v11_6).set 12 v12_7).set 13 v13_8).set 14 v14_9).set 15 v15_10).set 16 v16_11).set 17 v17_12).set 18 v18_13).set 19 v19_14).set 20 v20_15).set 21 v21_16).set 22 v22_17).set 23 v23_18).set 4 v23_18) h12
@[congr] theorem octroiref02_Less_r1_congr {env : Env} {h : Hp} {K : Env → Hp → Prop} : octroiref02_Less_r1 env h K = octroiref02_Less_r1 env h K := rfl

def octroiref02_Less_D : Den := (sq (rg octroiref02_Less_r0) (sq (rg octroiref02_Less_r1) (ex .ret)))

theorem octroiref02_Less_eq : (den Try.prog 24 octroiref02_Less_code).1 = octroiref02_Less_D := by kernel_rfl

theorem octroiref02_Less_ok {args : Array Value} {h : Hp} {Q : Value → Hp → Prop} (hn : args.size ≤ 24) (D : octroiref02_Less_D (fin Try.prog [(Go.ResultVar.tmp 4)] Q) (env0 args) h) : Ok Try.prog 55 args h Q :=
  ok_of_den progIsOk Try.func55 (c := octroiref02_Less_code) (by kernel_rfl) hn (by show (den Try.prog 24 octroiref02_Less_code).1 _ _ _; rw [octroiref02_Less_eq]; exact D)

/-! ### cmp.Or[int]: function 56 -/
noncomputable def cmp_Or_int_code : Code := match Try.f56.body with | some c => c | none => .skip

/-- cmp.go:69 -/
def cmp_Or_int_r0 (env : Env) (h : Hp) (K : Env → Hp → Prop) : Prop :=
  K (env.set 2 (Go.Value.int Go.IntKind.i64 0)) h
@[congr] theorem cmp_Or_int_r0_congr {env : Env} {h : Hp} {K : Env → Hp → Prop} : cmp_Or_int_r0 env h K = cmp_Or_int_r0 env h K := rfl

/-- cmp.go:70 -/
def cmp_Or_int_r1 (env : Env) (h : Hp) (K : Env → Hp → Prop) : Prop :=
  K (env.set 3 (Go.Value.int Go.IntKind.i64 0)) h
@[congr] theorem cmp_Or_int_r1_congr {env : Env} {h : Hp} {K : Env → Hp → Prop} : cmp_Or_int_r1 env h K = cmp_Or_int_r1 env h K := rfl

/-- cmp.go:71 -/
def cmp_Or_int_r2 (env : Env) (h : Hp) (K : Env → Hp → Prop) : Prop :=
  rd Try.prog (Builtin.len_ #[92] 3 #[(env 0)]) h fun v7_1 =>
  K (((env.set 6 (env 0)).set 7 v7_1).set 8 (Go.Value.int Go.IntKind.i64 0)) h
@[congr] theorem cmp_Or_int_r2_congr {env : Env} {h : Hp} {K : Env → Hp → Prop} : cmp_Or_int_r2 env h K = cmp_Or_int_r2 env h K := rfl

/-- cmp.go:71 -/
def cmp_Or_int_r3 (env : Env) (h : Hp) (K : Env → Hp → Prop) : Prop :=
  rd Try.prog (bop Go.BinOp.lss 3 (Go.Operand.tmp 8) (Go.Operand.tmp 7) (env 8) (env 7)) noHp fun v9_0 =>
  K (env.set 9 v9_0) h
@[congr] theorem cmp_Or_int_r3_congr {env : Env} {h : Hp} {K : Env → Hp → Prop} : cmp_Or_int_r3 env h K = cmp_Or_int_r3 env h K := rfl

/-- cmp.go:71 -/
def cmp_Or_int_r4 (env : Env) (h : Hp) (K : Env → Hp → Prop) : Prop :=
  rd Try.prog (Instr.indexAt 92 (env 6) (env 8)) noHp fun v10_0 =>
  rd Try.prog (Instr.loadAt 3 v10_0) h fun v11_1 =>
  K (((env.set 10 v10_0).set 11 v11_1).set 5 v11_1) h
@[congr] theorem cmp_Or_int_r4_congr {env : Env} {h : Hp} {K : Env → Hp → Prop} : cmp_Or_int_r4 env h K = cmp_Or_int_r4 env h K := rfl

/-- cmp.go:72 -/
def cmp_Or_int_r5 (env : Env) (h : Hp) (K : Env → Hp → Prop) : Prop :=
  rd Try.prog (bop Go.BinOp.neq 3 (Go.Operand.tmp 12) (Go.Operand.tmp 13) (env 5) (env 3)) noHp fun v14_2 =>
  K (((env.set 12 (env 5)).set 13 (env 3)).set 14 v14_2) h
@[congr] theorem cmp_Or_int_r5_congr {env : Env} {h : Hp} {K : Env → Hp → Prop} : cmp_Or_int_r5 env h K = cmp_Or_int_r5 env h K := rfl

/-- cmp.go:73 -/
def cmp_Or_int_r6 (env : Env) (h : Hp) (K : Env → Hp → Prop) : Prop :=
  K ((env.set 15 (env 5)).set 2 (env 5)) h
@[congr] theorem cmp_Or_int_r6_congr {env : Env} {h : Hp} {K : Env → Hp → Prop} : cmp_Or_int_r6 env h K = cmp_Or_int_r6 env h K := rfl

/-- cmp.go:71 -/
def cmp_Or_int_r7 (env : Env) (h : Hp) (K : Env → Hp → Prop) : Prop :=
  rd Try.prog (bop Go.BinOp.add 3 (Go.Operand.tmp 8) (Go.Operand.const (Go.Value.int Go.IntKind.i64 1)) (env 8) (Go.Value.int Go.IntKind.i64 1)) noHp fun v16_0 =>
  K ((env.set 16 v16_0).set 8 v16_0) h
@[congr] theorem cmp_Or_int_r7_congr {env : Env} {h : Hp} {K : Env → Hp → Prop} : cmp_Or_int_r7 env h K = cmp_Or_int_r7 env h K := rfl

def cmp_Or_int_L0 : Den := (sq (rg cmp_Or_int_r3) (sq (cnd (Go.Operand.tmp 9) (ex .normal) (ex (.exit 0))) (sq (blk 1 (sq (rg cmp_Or_int_r4) (sq (rg cmp_Or_int_r5) (cnd (Go.Operand.tmp 14) (sq (rg cmp_Or_int_r6) (ex .ret)) (ex .normal))))) (rg cmp_Or_int_r7))))

/-- cmp.go:76 -/
def cmp_Or_int_r8 (env : Env) (h : Hp) (K : Env → Hp → Prop) : Prop :=
  K ((env.set 17 (env 3)).set 2 (env 3)) h
@[congr] theorem cmp_Or_int_r8_congr {env : Env} {h : Hp} {K : Env → Hp → Prop} : cmp_Or_int_r8 env h K = cmp_Or_int_r8 env h K := rfl

def cmp_Or_int_D : Den := (sq (rg cmp_Or_int_r0) (sq (rg cmp_Or_int_r1) (sq (sq (rg cmp_Or_int_r2) (blk 0 (lp cmp_Or_int_L0))) (sq (rg cmp_Or_int_r8) (ex .ret)))))

theorem cmp_Or_int_eq : (den Try.prog 18 cmp_Or_int_code).1 = cmp_Or_int_D := by kernel_rfl

theorem cmp_Or_int_ok {args : Array Value} {h : Hp} {Q : Value → Hp → Prop} (hn : args.size ≤ 18) (D : cmp_Or_int_D (fin Try.prog [(Go.ResultVar.tmp 2)] Q) (env0 args) h) : Ok Try.prog 56 args h Q :=
  ok_of_den progIsOk Try.func56 (c := cmp_Or_int_code) (by kernel_rfl) hn (by show (den Try.prog 18 cmp_Or_int_code).1 _ _ _; rw [cmp_Or_int_eq]; exact D)

/-! ### cmp.isNaN[int]: function 57 -/
noncomputable def cmp_isNaN_int_code : Code := match Try.f57.body with | some c => c | none => .skip

/-- cmp.go:63 -/
def cmp_isNaN_int_r0 (env : Env) (h : Hp) (K : Env → Hp → Prop) : Prop :=
  K (env.set 2 (Go.Value.bool false)) h
@[congr] theorem cmp_isNaN_int_r0_congr {env : Env} {h : Hp} {K : Env → Hp → Prop} : cmp_isNaN_int_r0 env h K = cmp_isNaN_int_r0 env h K := rfl

/-- cmp.go:64 -/
def cmp_isNaN_int_r1 (env : Env) (h : Hp) (K : Env → Hp → Prop) : Prop :=
  rd Try.prog (bop Go.BinOp.neq 3 (Go.Operand.tmp 3) (Go.Operand.tmp 4) (env 0) (env 0)) noHp fun v5_2 =>
  K ((((env.set 3 (env 0)).set 4 (env 0)).set 5 v5_2).set 2 v5_2) h
@[congr] theorem cmp_isNaN_int_r1_congr {env : Env} {h : Hp} {K : Env → Hp → Prop} : cmp_isNaN_int_r1 env h K = cmp_isNaN_int_r1 env h K := rfl

def cmp_isNaN_int_D : Den := (sq (rg cmp_isNaN_int_r0) (sq (rg cmp_isNaN_int_r1) (ex .ret)))

theorem cmp_isNaN_int_eq : (den Try.prog 6 cmp_isNaN_int_code).1 = cmp_isNaN_int_D := by kernel_rfl

theorem cmp_isNaN_int_ok {args : Array Value} {h : Hp} {Q : Value → Hp → Prop} (hn : args.size ≤ 6) (D : cmp_isNaN_int_D (fin Try.prog [(Go.ResultVar.tmp 2)] Q) (env0 args) h) : Ok Try.prog 57 args h Q :=
  ok_of_den progIsOk Try.func57 (c := cmp_isNaN_int_code) (by kernel_rfl) hn (by show (den Try.prog 6 cmp_isNaN_int_code).1 _ _ _; rw [cmp_isNaN_int_eq]; exact D)

/-! ### cmp.isNaN[uint16]: function 58 -/
noncomputable def cmp_isNaN_uint16_code : Code := match Try.f58.body with | some c => c | none => .skip

/-- cmp.go:63 -/
def cmp_isNaN_uint16_r0 (env : Env) (h : Hp) (K : Env → Hp → Prop) : Prop :=
  K (env.set 2 (Go.Value.bool false)) h
@[congr] theorem cmp_isNaN_uint16_r0_congr {env : Env} {h : Hp} {K : Env → Hp → Prop} : cmp_isNaN_uint16_r0 env h K = cmp_isNaN_uint16_r0 env h K := rfl

/-- cmp.go:64 -/
def cmp_isNaN_uint16_r1 (env : Env) (h : Hp) (K : Env → Hp → Prop) : Prop :=
  rd Try.prog (bop Go.BinOp.neq 25 (Go.Operand.tmp 3) (Go.Operand.tmp 4) (env 0) (env 0)) noHp fun v5_2 =>
  K ((((env.set 3 (env 0)).set 4 (env 0)).set 5 v5_2).set 2 v5_2) h
@[congr] theorem cmp_isNaN_uint16_r1_congr {env : Env} {h : Hp} {K : Env → Hp → Prop} : cmp_isNaN_uint16_r1 env h K = cmp_isNaN_uint16_r1 env h K := rfl

def cmp_isNaN_uint16_D : Den := (sq (rg cmp_isNaN_uint16_r0) (sq (rg cmp_isNaN_uint16_r1) (ex .ret)))

theorem cmp_isNaN_uint16_eq : (den Try.prog 6 cmp_isNaN_uint16_code).1 = cmp_isNaN_uint16_D := by kernel_rfl

theorem cmp_isNaN_uint16_ok {args : Array Value} {h : Hp} {Q : Value → Hp → Prop} (hn : args.size ≤ 6) (D : cmp_isNaN_uint16_D (fin Try.prog [(Go.ResultVar.tmp 2)] Q) (env0 args) h) : Ok Try.prog 58 args h Q :=
  ok_of_den progIsOk Try.func58 (c := cmp_isNaN_uint16_code) (by kernel_rfl) hn (by show (den Try.prog 6 cmp_isNaN_uint16_code).1 _ _ _; rw [cmp_isNaN_uint16_eq]; exact D)

end Go.Proofs.Ytmbhlbohbpepaaa
