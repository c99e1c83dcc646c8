/- Printed by wip/kit/gen.py out of the translation: formulas of Go functions, and that they are these functions'. -/
import Derived.Test.YtpeoholnlokdcaaZ3

set_option linter.unusedSimpArgs false
set_option linter.unusedVariables false

namespace Go.Proofs.Ytpeoholnlokdcaa
open Go

set_option maxRecDepth 100000
set_option linter.unusedVariables false

/-! ### (*octroi/dual.Dual).Own: function 35 -/
noncomputable def dual_Dual_Own_code : Code := match Try.f35.body with | some c => c | none => .skip

/-- dual.go:201 -/
def dual_Dual_Own_r0 (env : Env) (h : Hp) (K : Env → Hp → Prop) : Prop :=
  arun Try.prog (Instr.box 35 (env 1)) h fun v5_0 h1 =>
  arun Try.prog (Instr.box 23 (env 2)) h1 fun v6_1 h2 =>
  K ((((env.set 5 v5_0).set 6 v6_1).set 8 (Go.Value.slice none 0 0)).set 9 (Go.Value.int Go.IntKind.i64 0)) h2
@[congr] theorem dual_Dual_Own_r0_congr {env : Env} {h : Hp} {K : Env → Hp → Prop} : dual_Dual_Own_r0 env h K = dual_Dual_Own_r0 env h K := rfl

/-- dual.go:203 -/
def dual_Dual_Own_r1 (env : Env) (h : Hp) (K : Env → Hp → Prop) : Prop :=
  rd Try.prog (Instr.loadAt 35 (env 5)) h fun v12_0 =>
  Ok Try.prog 27 #[v12_0] h fun v13_1 h1 =>
  rd Try.prog (Op.unary Go.UnOp.not v13_1) noHp fun v14_2 =>
  gd (yb v14_2 == some false) (fun h k => rd Try.prog (Instr.loadAt 23 (env 6)) h fun v => k v h) h1 fun v16_4 h2 =>
  gd (yb v14_2 == some false) (fun h k => Ok Try.prog 17 #[v16_4] h k) h2 fun v17_5 h3 =>
  gd (yb v14_2 == some false) (fun h k => rd Try.prog (Op.unary Go.UnOp.not v17_5) noHp fun v => k v h) h3 fun v18_6 h4 =>
  rd Try.prog (pck v14_2 (Go.Value.bool true) v18_6) noHp fun v19_7 =>
  K (((((((((env.set 12 v12_0).set 13 v13_1).set 14 v14_2).set 15 v14_2).set 16 v16_4).set 17 v17_5).set 18 v18_6).set 19 v19_7).set 11 v19_7) h4
@[congr] theorem dual_Dual_Own_r1_congr {env : Env} {h : Hp} {K : Env → Hp → Prop} : dual_Dual_Own_r1 env h K = dual_Dual_Own_r1 env h K := rfl

/-- dual.go:204 -/
def dual_Dual_Own_r2 (env : Env) (h : Hp) (K : Env → Hp → Prop) : Prop :=
  K ((env.set 8 (Go.Value.slice none 0 0)).set 9 (Go.Value.int Go.IntKind.i64 1)) h
@[congr] theorem dual_Dual_Own_r2_congr {env : Env} {h : Hp} {K : Env → Hp → Prop} : dual_Dual_Own_r2 env h K = dual_Dual_Own_r2 env h K := rfl

/-- dual.go:205 -/
def dual_Dual_Own_r3 (env : Env) (h : Hp) (K : Env → Hp → Prop) : Prop :=
  nck (env 0) (
  rd Try.prog (Instr.fieldAt 65 (env 0) 0) noHp fun v24_3 =>
  rd Try.prog (Instr.loadAt 3 v24_3) h fun v25_4 =>
  Ok Try.prog 22 #[(env 3), v25_4] h fun v26_5 h1 =>
  K (((((((env.set 21 (env 3)).set 22 (env 0)).set 23 (env 0)).set 24 v24_3).set 25 v25_4).set 26 v26_5).set 20 v26_5) h1)
@[congr] theorem dual_Dual_Own_r3_congr {env : Env} {h : Hp} {K : Env → Hp → Prop} : dual_Dual_Own_r3 env h K = dual_Dual_Own_r3 env h K := rfl

/-- dual.go:206 -/
def dual_Dual_Own_r4 (env : Env) (h : Hp) (K : Env → Hp → Prop) : Prop :=
  K ((env.set 8 (Go.Value.slice none 0 0)).set 9 (Go.Value.int Go.IntKind.i64 6)) h
@[congr] theorem dual_Dual_Own_r4_congr {env : Env} {h : Hp} {K : Env → Hp → Prop} : dual_Dual_Own_r4 env h K = dual_Dual_Own_r4 env h K := rfl

/-- dual.go:208 -/
def dual_Dual_Own_r5 (env : Env) (h : Hp) (K : Env → Hp → Prop) : Prop :=
  rd Try.prog (Instr.loadAt 35 (env 5)) h fun v28_1 =>
  Ok Try.prog 45 #[(env 0), v28_1] h fun v29_2 h1 =>
  K ((((env.set 27 (env 0)).set 28 v28_1).set 29 v29_2).set 10 v29_2) h1
@[congr] theorem dual_Dual_Own_r5_congr {env : Env} {h : Hp} {K : Env → Hp → Prop} : dual_Dual_Own_r5 env h K = dual_Dual_Own_r5 env h K := rfl

/-- dual.go:209 -/
def dual_Dual_Own_r6 (env : Env) (h : Hp) (K : Env → Hp → Prop) : Prop :=
  rd Try.prog (bop Go.BinOp.eql 72 (Go.Operand.tmp 30) (Go.Operand.const (Go.Value.pointer none)) (env 10) (Go.Value.pointer none)) noHp fun v31_1 =>
  K ((env.set 30 (env 10)).set 31 v31_1) h
@[congr] theorem dual_Dual_Own_r6_congr {env : Env} {h : Hp} {K : Env → Hp → Prop} : dual_Dual_Own_r6 env h K = dual_Dual_Own_r6 env h K := rfl

/-- dual.go:210 -/
def dual_Dual_Own_r7 (env : Env) (h : Hp) (K : Env → Hp → Prop) : Prop :=
  K ((env.set 8 (Go.Value.slice none 0 0)).set 9 (Go.Value.int Go.IntKind.i64 4)) h
@[congr] theorem dual_Dual_Own_r7_congr {env : Env} {h : Hp} {K : Env → Hp → Prop} : dual_Dual_Own_r7 env h K = dual_Dual_Own_r7 env h K := rfl

/-- dual.go:212 -/
def dual_Dual_Own_r8 (env : Env) (h : Hp) (K : Env → Hp → Prop) : Prop :=
  rd Try.prog (Instr.loadAt 23 (env 6)) h fun v33_1 =>
  rd Try.prog (Instr.build 74 #[(0, v33_1), (1, (env 3))]) noHp fun v35_3 =>
  arun Try.prog (Instr.box 74 v35_3) h fun v36_4 h1 =>
  nck (env 10) (
  rd Try.prog (Instr.fieldAt 79 (env 10) 1) noHp fun v38_6 =>
  arun Try.prog (Instr.storeAt 75 v38_6 v36_4) h1 fun _ h2 =>
  K (((((((env.set 32 (env 10)).set 33 v33_1).set 34 (env 3)).set 35 v35_3).set 36 v36_4).set 37 (env 10)).set 38 v38_6) h2)
@[congr] theorem dual_Dual_Own_r8_congr {env : Env} {h : Hp} {K : Env → Hp → Prop} : dual_Dual_Own_r8 env h K = dual_Dual_Own_r8 env h K := rfl

/-- dual.go:213 -/
def dual_Dual_Own_r9 (env : Env) (h : Hp) (K : Env → Hp → Prop) : Prop :=
  Ok Try.prog 30 #[(env 0), (env 10)] h fun v41_2 h1 =>
  K (((env.set 39 (env 0)).set 40 (env 10)).set 41 v41_2) h1
@[congr] theorem dual_Dual_Own_r9_congr {env : Env} {h : Hp} {K : Env → Hp → Prop} : dual_Dual_Own_r9 env h K = dual_Dual_Own_r9 env h K := rfl

/-- dual.go:214 -/
def dual_Dual_Own_r10 (env : Env) (h : Hp) (K : Env → Hp → Prop) : Prop :=
  Ok Try.prog 26 #[(env 0)] h fun v43_1 h1 =>
  K ((((env.set 42 (env 0)).set 43 v43_1).set 8 v43_1).set 9 (Go.Value.int Go.IntKind.i64 0)) h1
@[congr] theorem dual_Dual_Own_r10_congr {env : Env} {h : Hp} {K : Env → Hp → Prop} : dual_Dual_Own_r10 env h K = dual_Dual_Own_r10 env h K := rfl

def dual_Dual_Own_D : Den := (sq (rg dual_Dual_Own_r0) (sq (blk 0 (sq (rg dual_Dual_Own_r1) (cnd (Go.Operand.tmp 11) (sq (rg dual_Dual_Own_r2) (ex .ret)) (sq (rg dual_Dual_Own_r3) (cnd (Go.Operand.tmp 20) (sq (rg dual_Dual_Own_r4) (ex .ret)) (ex .normal)))))) (sq (rg dual_Dual_Own_r5) (sq (sq (rg dual_Dual_Own_r6) (cnd (Go.Operand.tmp 31) (sq (rg dual_Dual_Own_r7) (ex .ret)) (ex .normal))) (sq (rg dual_Dual_Own_r8) (sq (rg dual_Dual_Own_r9) (sq (rg dual_Dual_Own_r10) (ex .ret))))))))

theorem dual_Dual_Own_eq : (den Try.prog 44 dual_Dual_Own_code).1 = dual_Dual_Own_D := by kernel_rfl

theorem dual_Dual_Own_ok {args : Array Value} {h : Hp} {Q : Value → Hp → Prop} (hn : args.size ≤ 44) (D : dual_Dual_Own_D (fin Try.prog [(Go.ResultVar.tmp 8), (Go.ResultVar.tmp 9)] Q) (env0 args) h) : Ok Try.prog 35 args h Q :=
  ok_of_den progIsOk Try.func35 (c := dual_Dual_Own_code) (by kernel_rfl) hn (by show (den Try.prog 44 dual_Dual_Own_code).1 _ _ _; rw [dual_Dual_Own_eq]; exact D)

/-! ### (*octroi/dual.Dual).Drop: function 36 -/
noncomputable def dual_Dual_Drop_code : Code := match Try.f36.body with | some c => c | none => .skip

/-- dual.go:218 -/
def dual_Dual_Drop_r0 (env : Env) (h : Hp) (K : Env → Hp → Prop) : Prop :=
  arun Try.prog (Instr.box 35 (env 1)) h fun v3_0 h1 =>
  K (((env.set 3 v3_0).set 4 (Go.Value.slice none 0 0)).set 5 (Go.Value.int Go.IntKind.i64 0)) h1
@[congr] theorem dual_Dual_Drop_r0_congr {env : Env} {h : Hp} {K : Env → Hp → Prop} : dual_Dual_Drop_r0 env h K = dual_Dual_Drop_r0 env h K := rfl

/-- dual.go:219 (in any order) -/
def dual_Dual_Drop_r1 (env : Env) (h : Hp) (K : Env → Hp → Prop) : Prop :=
  nck (env 0) (
  rd Try.prog (Instr.fieldAt 65 (env 0) 3) noHp fun v9_2 =>
  rd Try.prog (Instr.loadAt 63 v9_2) h fun v10_3 =>
  rd Try.prog (Instr.loadAt 35 (env 3)) h fun v11_4 =>
  rd Try.prog (Instr.lookup 63 v10_3 v11_4 false) h fun v12_5 =>
  K (((((((env.set 7 (env 0)).set 8 (env 0)).set 9 v9_2).set 10 v10_3).set 11 v11_4).set 12 v12_5).set 6 v12_5) h)
@[congr] theorem dual_Dual_Drop_r1_congr {env : Env} {h : Hp} {K : Env → Hp → Prop} : dual_Dual_Drop_r1 env h K = dual_Dual_Drop_r1 env h K := rfl

/-- dual.go:220 -/
def dual_Dual_Drop_r2 (env : Env) (h : Hp) (K : Env → Hp → Prop) : Prop :=
  rd Try.prog (bop Go.BinOp.eql 72 (Go.Operand.tmp 13) (Go.Operand.const (Go.Value.pointer none)) (env 6) (Go.Value.pointer none)) noHp fun v14_1 =>
  gd (yb v14_1 == some false) (fun h k => k (env 6) h) h fun v16_3 h1 =>
  gd (yb v14_1 == some false) (fun h k => nck v16_3 (k v16_3 h)) h1 fun v17_4 h2 =>
  gd (yb v14_1 == some false) (fun h k => rd Try.prog (Instr.fieldAt 79 v17_4 1) noHp fun v => k v h) h2 fun v18_5 h3 =>
  gd (yb v14_1 == some false) (fun h k => rd Try.prog (Instr.loadAt 75 v18_5) h fun v => k v h) h3 fun v19_6 h4 =>
  gd (yb v14_1 == some false) (fun h k => rd Try.prog (bop Go.BinOp.eql 75 (Go.Operand.tmp 19) (Go.Operand.const (Go.Value.pointer none)) v19_6 (Go.Value.pointer none)) noHp fun v => k v h) h4 fun v20_7 h5 =>
  rd Try.prog (pck v14_1 (Go.Value.bool true) v20_7) noHp fun v21_8 =>
  K (((((((((env.set 13 (env 6)).set 14 v14_1).set 15 v14_1).set 16 v16_3).set 17 v17_4).set 18 v18_5).set 19 v19_6).set 20 v20_7).set 21 v21_8) h5
@[congr] theorem dual_Dual_Drop_r2_congr {env : Env} {h : Hp} {K : Env → Hp → Prop} : dual_Dual_Drop_r2 env h K = dual_Dual_Drop_r2 env h K := rfl

/-- dual.go:221 -/
def dual_Dual_Drop_r3 (env : Env) (h : Hp) (K : Env → Hp → Prop) : Prop :=
  K ((env.set 4 (Go.Value.slice none 0 0)).set 5 (Go.Value.int Go.IntKind.i64 5)) h
@[congr] theorem dual_Dual_Drop_r3_congr {env : Env} {h : Hp} {K : Env → Hp → Prop} : dual_Dual_Drop_r3 env h K = dual_Dual_Drop_r3 env h K := rfl

/-- dual.go:223 -/
def dual_Dual_Drop_r4 (env : Env) (h : Hp) (K : Env → Hp → Prop) : Prop :=
  nck (env 6) (
  rd Try.prog (Instr.fieldAt 79 (env 6) 1) noHp fun v24_2 =>
  arun Try.prog (Instr.storeAt 75 v24_2 (Go.Value.pointer none)) h fun _ h1 =>
  K (((env.set 22 (env 6)).set 23 (env 6)).set 24 v24_2) h1)
@[congr] theorem dual_Dual_Drop_r4_congr {env : Env} {h : Hp} {K : Env → Hp → Prop} : dual_Dual_Drop_r4 env h K = dual_Dual_Drop_r4 env h K := rfl

/-- dual.go:224 -/
def dual_Dual_Drop_r5 (env : Env) (h : Hp) (K : Env → Hp → Prop) : Prop :=
  Ok Try.prog 30 #[(env 0), (env 6)] h fun v27_2 h1 =>
  K (((env.set 25 (env 0)).set 26 (env 6)).set 27 v27_2) h1
@[congr] theorem dual_Dual_Drop_r5_congr {env : Env} {h : Hp} {K : Env → Hp → Prop} : dual_Dual_Drop_r5 env h K = dual_Dual_Drop_r5 env h K := rfl

/-- dual.go:225 -/
def dual_Dual_Drop_r6 (env : Env) (h : Hp) (K : Env → Hp → Prop) : Prop :=
  Ok Try.prog 26 #[(env 0)] h fun v29_1 h1 =>
  K ((((env.set 28 (env 0)).set 29 v29_1).set 4 v29_1).set 5 (Go.Value.int Go.IntKind.i64 0)) h1
@[congr] theorem dual_Dual_Drop_r6_congr {env : Env} {h : Hp} {K : Env → Hp → Prop} : dual_Dual_Drop_r6 env h K = dual_Dual_Drop_r6 env h K := rfl

def dual_Dual_Drop_D : Den := (sq (rg dual_Dual_Drop_r0) (sq (rg dual_Dual_Drop_r1) (sq (sq (rg dual_Dual_Drop_r2) (cnd (Go.Operand.tmp 21) (sq (rg dual_Dual_Drop_r3) (ex .ret)) (ex .normal))) (sq (rg dual_Dual_Drop_r4) (sq (rg dual_Dual_Drop_r5) (sq (rg dual_Dual_Drop_r6) (ex .ret)))))))

theorem dual_Dual_Drop_eq : (den Try.prog 30 dual_Dual_Drop_code).1 = dual_Dual_Drop_D := by kernel_rfl

theorem dual_Dual_Drop_ok {args : Array Value} {h : Hp} {Q : Value → Hp → Prop} (hn : args.size ≤ 30) (D : dual_Dual_Drop_D (fin Try.prog [(Go.ResultVar.tmp 4), (Go.ResultVar.tmp 5)] Q) (env0 args) h) : Ok Try.prog 36 args h Q :=
  ok_of_den progIsOk Try.func36 (c := dual_Dual_Drop_code) (by kernel_rfl) hn (by show (den Try.prog 30 dual_Dual_Drop_code).1 _ _ _; rw [dual_Dual_Drop_eq]; exact D)

/-! ### (*octroi/dual.Dual).Again: function 37 -/
noncomputable def dual_Dual_Again_code : Code := match Try.f37.body with | some c => c | none => .skip

/-- dual.go:277 -/
def dual_Dual_Again_r0 (env : Env) (h : Hp) (K : Env → Hp → Prop) : Prop :=
  arun Try.prog (Instr.box 25 (env 0)) h fun v1_0 h1 =>
  K ((env.set 1 v1_0).set 2 (Go.Value.slice none 0 0)) h1
@[congr] theorem dual_Dual_Again_r0_congr {env : Env} {h : Hp} {K : Env → Hp → Prop} : dual_Dual_Again_r0 env h K = dual_Dual_Again_r0 env h K := rfl

/-- dual.go:278 -/
def dual_Dual_Again_r1 (env : Env) (h : Hp) (K : Env → Hp → Prop) : Prop :=
  rd Try.prog (Instr.loadAt 25 (env 1)) h fun v6_0 =>
  Ok Try.prog 24 #[v6_0] h fun v7_1 h1 =>
  K ((env.set 6 v6_0).set 7 v7_1) h1
@[congr] theorem dual_Dual_Again_r1_congr {env : Env} {h : Hp} {K : Env → Hp → Prop} : dual_Dual_Again_r1 env h K = dual_Dual_Again_r1 env h K := rfl

/-- dual.go:278 -/
def dual_Dual_Again_r2 (env : Env) (h : Hp) (K : Env → Hp → Prop) : Prop :=
  K (env.set 3 (env 8)) h
@[congr] theorem dual_Dual_Again_r2_congr {env : Env} {h : Hp} {K : Env → Hp → Prop} : dual_Dual_Again_r2 env h K = dual_Dual_Again_r2 env h K := rfl

/-- dual.go:279 -/
def dual_Dual_Again_r3 (env : Env) (h : Hp) (K : Env → Hp → Prop) : Prop :=
  nck (env 3) (
  rd Try.prog (Instr.fieldAt 79 (env 3) 5) noHp fun v11_2 =>
  rd Try.prog (Instr.loadAt 77 v11_2) h fun v12_3 =>
  Ok Try.prog 49 #[v12_3] h fun v13_4 h1 =>
  Ok Try.prog 48 #[v13_4] h1 fun v14_5 h2 =>
  rd Try.prog (Builtin.len_ #[112] 3 #[v14_5]) h2 fun v15_6 =>
  K ((((((((env.set 9 (env 3)).set 10 (env 3)).set 11 v11_2).set 12 v12_3).set 13 v13_4).set 14 v14_5).set 15 v15_6).set 16 (Go.Value.int Go.IntKind.i64 0)) h2)
@[congr] theorem dual_Dual_Again_r3_congr {env : Env} {h : Hp} {K : Env → Hp → Prop} : dual_Dual_Again_r3 env h K = dual_Dual_Again_r3 env h K := rfl

/-- dual.go:279 -/
def dual_Dual_Again_r4 (env : Env) (h : Hp) (K : Env → Hp → Prop) : Prop :=
  rd Try.prog (bop Go.BinOp.lss 3 (Go.Operand.tmp 16) (Go.Operand.tmp 15) (env 16) (env 15)) noHp fun v17_0 =>
  K (env.set 17 v17_0) h
@[congr] theorem dual_Dual_Again_r4_congr {env : Env} {h : Hp} {K : Env → Hp → Prop} : dual_Dual_Again_r4 env h K = dual_Dual_Again_r4 env h K := rfl

/-- dual.go:279 -/
def dual_Dual_Again_r5 (env : Env) (h : Hp) (K : Env → Hp → Prop) : Prop :=
  rd Try.prog (Instr.indexAt 112 (env 14) (env 16)) noHp fun v18_0 =>
  rd Try.prog (Instr.loadAt 3 v18_0) h fun v19_1 =>
  K (((env.set 18 v18_0).set 19 v19_1).set 5 v19_1) h
@[congr] theorem dual_Dual_Again_r5_congr {env : Env} {h : Hp} {K : Env → Hp → Prop} : dual_Dual_Again_r5 env h K = dual_Dual_Again_r5 env h K := rfl

/-- dual.go:280 (in any order) -/
def dual_Dual_Again_r6 (env : Env) (h : Hp) (K : Env → Hp → Prop) : Prop :=
  nck (env 3) (
  rd Try.prog (Instr.fieldAt 79 (env 3) 5) noHp fun v22_2 =>
  rd Try.prog (Instr.loadAt 77 v22_2) h fun v23_3 =>
  rd Try.prog (Instr.loadAt 25 (env 1)) h fun v25_5 =>
  nck (env 3) (
  rd Try.prog (Instr.fieldAt 79 (env 3) 0) noHp fun v29_9 =>
  rd Try.prog (Instr.loadAt 35 v29_9) h fun v30_10 =>
  nck (env 3) (
  rd Try.prog (Instr.fieldAt 79 (env 3) 3) noHp fun v33_13 =>
  rd Try.prog (Instr.loadAt 74 v33_13) h fun v34_14 =>
  Ok Try.prog 25 #[v25_5, (env 5), (Go.Value.int Go.IntKind.i64 2), (Go.Value.int Go.IntKind.u32 0), v30_10, v34_14] h fun v35_15 h1 =>
  (rrun Try.prog (Instr.loadAt 77 v22_2) h1 = some v23_3 ∧ True) ∧
  arun Try.prog (Instr.mapUpdate 77 v23_3 (env 5) v35_15) h1 fun _ h2 =>
  (True) ∧
  K ((((((((((((((((env.set 20 (env 3)).set 21 (env 3)).set 22 v22_2).set 23 v23_3).set 24 (env 5)).set 25 v25_5).set 26 (env 5)).set 27 (env 3)).set 28 (env 3)).set 29 v29_9).set 30 v30_10).set 31 (env 3)).set 32 (env 3)).set 33 v33_13).set 34 v34_14).set 35 v35_15) h2)))
@[congr] theorem dual_Dual_Again_r6_congr {env : Env} {h : Hp} {K : Env → Hp → Prop} : dual_Dual_Again_r6 env h K = dual_Dual_Again_r6 env h K := rfl

/-- dual.go:279 -/
def dual_Dual_Again_r7 (env : Env) (h : Hp) (K : Env → Hp → Prop) : Prop :=
  rd Try.prog (bop Go.BinOp.add 3 (Go.Operand.tmp 16) (Go.Operand.const (Go.Value.int Go.IntKind.i64 1)) (env 16) (Go.Value.int Go.IntKind.i64 1)) noHp fun v36_0 =>
  K ((env.set 36 v36_0).set 16 v36_0) h
@[congr] theorem dual_Dual_Again_r7_congr {env : Env} {h : Hp} {K : Env → Hp → Prop} : dual_Dual_Again_r7 env h K = dual_Dual_Again_r7 env h K := rfl

def dual_Dual_Again_L0 : Den := (sq (rg dual_Dual_Again_r4) (sq (cnd (Go.Operand.tmp 17) (ex .normal) (ex (.exit 2))) (sq (blk 3 (sq (rg dual_Dual_Again_r5) (rg dual_Dual_Again_r6))) (rg dual_Dual_Again_r7))))

def dual_Dual_Again_F0_A : Den := (rg dual_Dual_Again_r2)
def dual_Dual_Again_F0_B : Den := (blk 1 (sq (rg dual_Dual_Again_r3) (blk 2 (lp dual_Dual_Again_L0))))

noncomputable def dual_Dual_Again_F0_a : Code := subCode [1, 0, 1, 0, 0] dual_Dual_Again_code
noncomputable def dual_Dual_Again_F0_b : Code := subCode [1, 0, 1, 0, 1] dual_Dual_Again_code

theorem dual_Dual_Again_F0_Aeq : (den Try.prog 39 dual_Dual_Again_F0_a).1 = dual_Dual_Again_F0_A := by kernel_rfl
theorem dual_Dual_Again_F0_Beq : (den Try.prog 39 dual_Dual_Again_F0_b).1 = dual_Dual_Again_F0_B := by kernel_rfl

theorem dual_Dual_Again_F0_yok {env : Env} {fn D l : Nat} {g : Hp} {x0 : Value} {k : Value → Hp → Prop} (hl : g l = some (recOf 39 env #[8] dual_Dual_Again_F0_a dual_Dual_Again_F0_b .ready none fn D)) (hu : ∀ t, 39 ≤ t → env t = undef)
    (H : rnd l (recOf 39 env #[8] dual_Dual_Again_F0_a dual_Dual_Again_F0_b .ready none fn D) (recOf 39 env #[8] dual_Dual_Again_F0_a dual_Dual_Again_F0_b .busy none fn D) dual_Dual_Again_F0_A dual_Dual_Again_F0_B (rndK l 39 env #[8] dual_Dual_Again_F0_a dual_Dual_Again_F0_b fn D k) (envPs 39 env [(8, x0)]) g) : YOk Try.prog l #[x0] g k := yok_rnd (args := #[x0]) progIsOk (by kernel_rfl) (by kernel_rfl) dual_Dual_Again_F0_Aeq dual_Dual_Again_F0_Beq hl hu rfl (by rw [show (Array.zip (#[8] : Array Tmp) #[x0]).toList = [(8, x0)] by simp]; exact H)

/-- dual.go:283 -/
def dual_Dual_Again_r8 (env : Env) (h : Hp) (K : Env → Hp → Prop) : Prop :=
  rd Try.prog (Instr.loadAt 25 (env 1)) h fun v37_0 =>
  Ok Try.prog 26 #[v37_0] h fun v38_1 h1 =>
  K (((env.set 37 v37_0).set 38 v38_1).set 2 v38_1) h1
@[congr] theorem dual_Dual_Again_r8_congr {env : Env} {h : Hp} {K : Env → Hp → Prop} : dual_Dual_Again_r8 env h K = dual_Dual_Again_r8 env h K := rfl

def dual_Dual_Again_D : Den := (sq (rg dual_Dual_Again_r0) (sq (sq (rg dual_Dual_Again_r1) (blk 0 (rfn Try.prog 39 (Go.Operand.tmp 7) #[8] dual_Dual_Again_F0_a dual_Dual_Again_F0_b))) (sq (rg dual_Dual_Again_r8) (ex .ret))))

theorem dual_Dual_Again_eq : (den Try.prog 39 dual_Dual_Again_code).1 = dual_Dual_Again_D := by kernel_rfl

theorem dual_Dual_Again_ok {args : Array Value} {h : Hp} {Q : Value → Hp → Prop} (hn : args.size ≤ 39) (D : dual_Dual_Again_D (fin Try.prog [(Go.ResultVar.tmp 2)] Q) (env0 args) h) : Ok Try.prog 37 args h Q :=
  ok_of_den progIsOk Try.func37 (c := dual_Dual_Again_code) (by kernel_rfl) hn (by show (den Try.prog 39 dual_Dual_Again_code).1 _ _ _; rw [dual_Dual_Again_eq]; exact D)

/-! ### octroi/tags.may: function 38 -/
noncomputable def tags_may_code : Code := match Try.f38.body with | some c => c | none => .skip

/-- tags.go:7 -/
def tags_may_r0 (env : Env) (h : Hp) (K : Env → Hp → Prop) : Prop :=
  K (env.set 2 (Go.Value.bool false)) h
@[congr] theorem tags_may_r0_congr {env : Env} {h : Hp} {K : Env → Hp → Prop} : tags_may_r0 env h K = tags_may_r0 env h K := rfl

/-- tags.go:7 -/
def tags_may_r1 (env : Env) (h : Hp) (K : Env → Hp → Prop) : Prop :=
  rd Try.prog (bop Go.BinOp.geq 3 (Go.Operand.tmp 3) (Go.Operand.const (Go.Value.int Go.IntKind.i64 0)) (env 0) (Go.Value.int Go.IntKind.i64 0)) noHp fun v4_1 =>
  gd (yb v4_1 == some true) (fun h k => k (env 0) h) h fun v6_3 h1 =>
  gd (yb v4_1 == some true) (fun h k => rd Try.prog (bop Go.BinOp.lss 3 (Go.Operand.tmp 6) (Go.Operand.const (Go.Value.int Go.IntKind.i64 16)) v6_3 (Go.Value.int Go.IntKind.i64 16)) noHp fun v => k v h) h1 fun v7_4 h2 =>
  rd Try.prog (pck v4_1 v7_4 (Go.Value.bool false)) noHp fun v8_5 =>
  K (((((((env.set 3 (env 0)).set 4 v4_1).set 5 v4_1).set 6 v6_3).set 7 v7_4).set 8 v8_5).set 2 v8_5) h2
@[congr] theorem tags_may_r1_congr {env : Env} {h : Hp} {K : Env → Hp → Prop} : tags_may_r1 env h K = tags_may_r1 env h K := rfl

def tags_may_D : Den := (sq (rg tags_may_r0) (sq (rg tags_may_r1) (ex .ret)))

theorem tags_may_eq : (den Try.prog 9 tags_may_code).1 = tags_may_D := by kernel_rfl

theorem tags_may_ok {args : Array Value} {h : Hp} {Q : Value → Hp → Prop} (hn : args.size ≤ 9) (D : tags_may_D (fin Try.prog [(Go.ResultVar.tmp 2)] Q) (env0 args) h) : Ok Try.prog 38 args h Q :=
  ok_of_den progIsOk Try.func38 (c := tags_may_code) (by kernel_rfl) hn (by show (den Try.prog 9 tags_may_code).1 _ _ _; rw [tags_may_eq]; exact D)

/-! ### (*octroi/dual.Dual).all$1: function 39 -/
noncomputable def dual_Dual_all_1_code : Code := match Try.f39.body with | some c => c | none => .skip

/-- dual.go:75 -/
def dual_Dual_all_1_r0 (env : Env) (h : Hp) (K : Env → Hp → Prop) : Prop :=
  rd Try.prog (Instr.loadAt 25 (env 1)) h fun v6_0 =>
  nck v6_0 (
  rd Try.prog (Instr.fieldAt 65 v6_0 3) noHp fun v8_2 =>
  rd Try.prog (Instr.loadAt 63 v8_2) h fun v9_3 =>
  Ok Try.prog 41 #[v9_3] h fun v10_4 h1 =>
  Ok Try.prog 40 #[v10_4, (Go.Value.func (Go.Fn.func 42) #[] #[])] h1 fun v11_5 h2 =>
  K (((((((env.set 6 v6_0).set 7 v6_0).set 8 v8_2).set 9 v9_3).set 10 v10_4).set 11 v11_5).set 3 v11_5) h2)
@[congr] theorem dual_Dual_all_1_r0_congr {env : Env} {h : Hp} {K : Env → Hp → Prop} : dual_Dual_all_1_r0 env h K = dual_Dual_all_1_r0 env h K := rfl

/-- dual.go:84 -/
def dual_Dual_all_1_r1 (env : Env) (h : Hp) (K : Env → Hp → Prop) : Prop :=
  rd Try.prog (Builtin.len_ #[99] 3 #[(env 3)]) h fun v13_1 =>
  K (((env.set 12 (env 3)).set 13 v13_1).set 14 (Go.Value.int Go.IntKind.i64 0)) h
@[congr] theorem dual_Dual_all_1_r1_congr {env : Env} {h : Hp} {K : Env → Hp → Prop} : dual_Dual_all_1_r1 env h K = dual_Dual_all_1_r1 env h K := rfl

/-- dual.go:84 -/
def dual_Dual_all_1_r2 (env : Env) (h : Hp) (K : Env → Hp → Prop) : Prop :=
  rd Try.prog (bop Go.BinOp.lss 3 (Go.Operand.tmp 14) (Go.Operand.tmp 13) (env 14) (env 13)) noHp fun v15_0 =>
  K (env.set 15 v15_0) h
@[congr] theorem dual_Dual_all_1_r2_congr {env : Env} {h : Hp} {K : Env → Hp → Prop} : dual_Dual_all_1_r2 env h K = dual_Dual_all_1_r2 env h K := rfl

/-- dual.go:84 -/
def dual_Dual_all_1_r3 (env : Env) (h : Hp) (K : Env → Hp → Prop) : Prop :=
  rd Try.prog (Instr.indexAt 99 (env 12) (env 14)) noHp fun v16_0 =>
  rd Try.prog (Instr.loadAt 35 v16_0) h fun v17_1 =>
  arun Try.prog (Instr.alloc 35 true (Go.Value.tuple #[])) h fun v5_2 h1 =>
  arun Try.prog (Instr.storeAt 35 v5_2 v17_1) h1 fun _ h2 =>
  K (((env.set 16 v16_0).set 17 v17_1).set 5 v5_2) h2
@[congr] theorem dual_Dual_all_1_r3_congr {env : Env} {h : Hp} {K : Env → Hp → Prop} : dual_Dual_all_1_r3 env h K = dual_Dual_all_1_r3 env h K := rfl

/-- dual.go:85 (in any order) -/
def dual_Dual_all_1_r4 (env : Env) (h : Hp) (K : Env → Hp → Prop) : Prop :=
  rd Try.prog (Instr.loadAt 25 (env 1)) h fun v19_1 =>
  nck v19_1 (
  rd Try.prog (Instr.fieldAt 65 v19_1 3) noHp fun v21_3 =>
  rd Try.prog (Instr.loadAt 63 v21_3) h fun v22_4 =>
  rd Try.prog (Instr.loadAt 35 (env 5)) h fun v23_5 =>
  rd Try.prog (Instr.lookup 63 v22_4 v23_5 false) h fun v24_6 =>
  callV Try.prog (env 0) #[v24_6] h fun v25_7 h1 =>
  (True) ∧
  rd Try.prog (Op.unary Go.UnOp.not v25_7) noHp fun v26_8 =>
  K (((((((((env.set 18 (env 0)).set 19 v19_1).set 20 v19_1).set 21 v21_3).set 22 v22_4).set 23 v23_5).set 24 v24_6).set 25 v25_7).set 26 v26_8) h1)
@[congr] theorem dual_Dual_all_1_r4_congr {env : Env} {h : Hp} {K : Env → Hp → Prop} : dual_Dual_all_1_r4 env h K = dual_Dual_all_1_r4 env h K := rfl

/-- dual.go:84 -/
def dual_Dual_all_1_r5 (env : Env) (h : Hp) (K : Env → Hp → Prop) : Prop :=
  rd Try.prog (bop Go.BinOp.add 3 (Go.Operand.tmp 14) (Go.Operand.const (Go.Value.int Go.IntKind.i64 1)) (env 14) (Go.Value.int Go.IntKind.i64 1)) noHp fun v27_0 =>
  K ((env.set 27 v27_0).set 14 v27_0) h
@[congr] theorem dual_Dual_all_1_r5_congr {env : Env} {h : Hp} {K : Env → Hp → Prop} : dual_Dual_all_1_r5 env h K = dual_Dual_all_1_r5 env h K := rfl

def dual_Dual_all_1_L0 : Den := (sq (rg dual_Dual_all_1_r2) (sq (cnd (Go.Operand.tmp 15) (ex .normal) (ex (.exit 0))) (sq (blk 1 (sq (rg dual_Dual_all_1_r3) (sq (rg dual_Dual_all_1_r4) (cnd (Go.Operand.tmp 26) (ex .ret) (ex .normal))))) (rg dual_Dual_all_1_r5))))

def dual_Dual_all_1_D : Den := (sq (rg dual_Dual_all_1_r0) (sq (rg dual_Dual_all_1_r1) (blk 0 (lp dual_Dual_all_1_L0))))

theorem dual_Dual_all_1_eq : (den Try.prog 28 dual_Dual_all_1_code).1 = dual_Dual_all_1_D := by kernel_rfl

theorem dual_Dual_all_1_ok {args : Array Value} {h : Hp} {Q : Value → Hp → Prop} (hn : args.size ≤ 28) (D : dual_Dual_all_1_D (fin Try.prog [] Q) (env0 args) h) : Ok Try.prog 39 args h Q :=
  ok_of_den progIsOk Try.func39 (c := dual_Dual_all_1_code) (by kernel_rfl) hn (by show (den Try.prog 28 dual_Dual_all_1_code).1 _ _ _; rw [dual_Dual_all_1_eq]; exact D)

/-! ### slices.SortedFunc[octroi/api.Prefix]: function 40 -/
noncomputable def slices_SortedFunc_api_Prefix_code : Code := match Try.f40.body with | some c => c | none => .skip

/-- iter.go:75 -/
def slices_SortedFunc_api_Prefix_r0 (env : Env) (h : Hp) (K : Env → Hp → Prop) : Prop :=
  K (env.set 4 (Go.Value.slice none 0 0)) h
@[congr] theorem slices_SortedFunc_api_Prefix_r0_congr {env : Env} {h : Hp} {K : Env → Hp → Prop} : slices_SortedFunc_api_Prefix_r0 env h K = slices_SortedFunc_api_Prefix_r0 env h K := rfl

/-- iter.go:76 -/
def slices_SortedFunc_api_Prefix_r1 (env : Env) (h : Hp) (K : Env → Hp → Prop) : Prop :=
  Ok Try.prog 50 #[(env 0)] h fun v7_1 h1 =>
  K (((env.set 6 (env 0)).set 7 v7_1).set 5 v7_1) h1
@[congr] theorem slices_SortedFunc_api_Prefix_r1_congr {env : Env} {h : Hp} {K : Env → Hp → Prop} : slices_SortedFunc_api_Prefix_r1 env h K = slices_SortedFunc_api_Prefix_r1 env h K := rfl

/-- iter.go:77 -/
def slices_SortedFunc_api_Prefix_r2 (env : Env) (h : Hp) (K : Env → Hp → Prop) : Prop :=
  Ok Try.prog 51 #[(env 5), (env 1)] h fun v10_2 h1 =>
  K (((env.set 8 (env 5)).set 9 (env 1)).set 10 v10_2) h1
@[congr] theorem slices_SortedFunc_api_Prefix_r2_congr {env : Env} {h : Hp} {K : Env → Hp → Prop} : slices_SortedFunc_api_Prefix_r2 env h K = slices_SortedFunc_api_Prefix_r2 env h K := rfl

/-- iter.go:78 -/
def slices_SortedFunc_api_Prefix_r3 (env : Env) (h : Hp) (K : Env → Hp → Prop) : Prop :=
  K ((env.set 11 (env 5)).set 4 (env 5)) h
@[congr] theorem slices_SortedFunc_api_Prefix_r3_congr {env : Env} {h : Hp} {K : Env → Hp → Prop} : slices_SortedFunc_api_Prefix_r3 env h K = slices_SortedFunc_api_Prefix_r3 env h K := rfl

def slices_SortedFunc_api_Prefix_D : Den := (sq (rg slices_SortedFunc_api_Prefix_r0) (sq (rg slices_SortedFunc_api_Prefix_r1) (sq (rg slices_SortedFunc_api_Prefix_r2) (sq (rg slices_SortedFunc_api_Prefix_r3) (ex .ret)))))

theorem slices_SortedFunc_api_Prefix_eq : (den Try.prog 12 slices_SortedFunc_api_Prefix_code).1 = slices_SortedFunc_api_Prefix_D := by kernel_rfl

theorem slices_SortedFunc_api_Prefix_ok {args : Array Value} {h : Hp} {Q : Value → Hp → Prop} (hn : args.size ≤ 12) (D : slices_SortedFunc_api_Prefix_D (fin Try.prog [(Go.ResultVar.tmp 4)] Q) (env0 args) h) : Ok Try.prog 40 args h Q :=
  ok_of_den progIsOk Try.func40 (c := slices_SortedFunc_api_Prefix_code) (by kernel_rfl) hn (by show (den Try.prog 12 slices_SortedFunc_api_Prefix_code).1 _ _ _; rw [slices_SortedFunc_api_Prefix_eq]; exact D)

/-! ### maps.Keys[map[octroi/api.Prefix]*octroi/dual.known,octroi/api.Prefix,*octroi/dual.known]: function 41 -/
noncomputable def maps_Keys_map_api_Prefix_dual_known_api_Prefix_dual_known_code : Code := match Try.f41.body with | some c => c | none => .skip

/-- iter.go:25 -/
def maps_Keys_map_api_Prefix_dual_known_api_Prefix_dual_known_r0 (env : Env) (h : Hp) (K : Env → Hp → Prop) : Prop :=
  arun Try.prog (Instr.box 63 (env 0)) h fun v1_0 h1 =>
  K ((env.set 1 v1_0).set 2 Go.Value.nilFunc) h1
@[congr] theorem maps_Keys_map_api_Prefix_dual_known_api_Prefix_dual_known_r0_congr {env : Env} {h : Hp} {K : Env → Hp → Prop} : maps_Keys_map_api_Prefix_dual_known_api_Prefix_dual_known_r0 env h K = maps_Keys_map_api_Prefix_dual_known_api_Prefix_dual_known_r0 env h K := rfl

/-- iter.go:26 -/
def maps_Keys_map_api_Prefix_dual_known_api_Prefix_dual_known_r1 (env : Env) (h : Hp) (K : Env → Hp → Prop) : Prop :=
  rd Try.prog (Instr.makeFunc (Go.Fn.func 52) #[] #[(env 1)]) noHp fun v3_0 =>
  K ((env.set 3 v3_0).set 2 v3_0) h
@[congr] theorem maps_Keys_map_api_Prefix_dual_known_api_Prefix_dual_known_r1_congr {env : Env} {h : Hp} {K : Env → Hp → Prop} : maps_Keys_map_api_Prefix_dual_known_api_Prefix_dual_known_r1 env h K = maps_Keys_map_api_Prefix_dual_known_api_Prefix_dual_known_r1 env h K := rfl

def maps_Keys_map_api_Prefix_dual_known_api_Prefix_dual_known_D : Den := (sq (rg maps_Keys_map_api_Prefix_dual_known_api_Prefix_dual_known_r0) (sq (rg maps_Keys_map_api_Prefix_dual_known_api_Prefix_dual_known_r1) (ex .ret)))

theorem maps_Keys_map_api_Prefix_dual_known_api_Prefix_dual_known_eq : (den Try.prog 4 maps_Keys_map_api_Prefix_dual_known_api_Prefix_dual_known_code).1 = maps_Keys_map_api_Prefix_dual_known_api_Prefix_dual_known_D := by kernel_rfl

theorem maps_Keys_map_api_Prefix_dual_known_api_Prefix_dual_known_ok {args : Array Value} {h : Hp} {Q : Value → Hp → Prop} (hn : args.size ≤ 4) (D : maps_Keys_map_api_Prefix_dual_known_api_Prefix_dual_known_D (fin Try.prog [(Go.ResultVar.tmp 2)] Q) (env0 args) h) : Ok Try.prog 41 args h Q :=
  ok_of_den progIsOk Try.func41 (c := maps_Keys_map_api_Prefix_dual_known_api_Prefix_dual_known_code) (by kernel_rfl) hn (by show (den Try.prog 4 maps_Keys_map_api_Prefix_dual_known_api_Prefix_dual_known_code).1 _ _ _; rw [maps_Keys_map_api_Prefix_dual_known_api_Prefix_dual_known_eq]; exact D)

/-! ### (*octroi/dual.Dual).all$1$1: function 42 -/
noncomputable def dual_Dual_all_1_1_code : Code := match Try.f42.body with | some c => c | none => .skip

/-- dual.go:75 -/
def dual_Dual_all_1_1_r0 (env : Env) (h : Hp) (K : Env → Hp → Prop) : Prop :=
  arun Try.prog (Instr.box 35 (env 0)) h fun v2_0 h1 =>
  arun Try.prog (Instr.box 35 (env 1)) h1 fun v3_1 h2 =>
  K (((env.set 2 v2_0).set 3 v3_1).set 4 (Go.Value.int Go.IntKind.i64 0)) h2
@[congr] theorem dual_Dual_all_1_1_r0_congr {env : Env} {h : Hp} {K : Env → Hp → Prop} : dual_Dual_all_1_1_r0 env h K = dual_Dual_all_1_1_r0 env h K := rfl

/-- dual.go:77 -/
def dual_Dual_all_1_1_r1 (env : Env) (h : Hp) (K : Env → Hp → Prop) : Prop :=
  rd Try.prog (Instr.loadAt 35 (env 2)) h fun v6_0 =>
  rd Try.prog (Instr.loadAt 35 (env 3)) h fun v7_1 =>
  Ok Try.prog 43 #[v6_0, v7_1] h fun v8_2 h1 =>
  K ((((env.set 6 v6_0).set 7 v7_1).set 8 v8_2).set 5 v8_2) h1
@[congr] theorem dual_Dual_all_1_1_r1_congr {env : Env} {h : Hp} {K : Env → Hp → Prop} : dual_Dual_all_1_1_r1 env h K = dual_Dual_all_1_1_r1 env h K := rfl

/-- dual.go:78 -/
def dual_Dual_all_1_1_r2 (env : Env) (h : Hp) (K : Env → Hp → Prop) : Prop :=
  K (env.set 4 (Go.Value.int Go.IntKind.i64 (-1))) h
@[congr] theorem dual_Dual_all_1_1_r2_congr {env : Env} {h : Hp} {K : Env → Hp → Prop} : dual_Dual_all_1_1_r2 env h K = dual_Dual_all_1_1_r2 env h K := rfl

/-- dual.go:79 -/
def dual_Dual_all_1_1_r3 (env : Env) (h : Hp) (K : Env → Hp → Prop) : Prop :=
  rd Try.prog (Instr.loadAt 35 (env 2)) h fun v10_0 =>
  rd Try.prog (Instr.loadAt 35 (env 3)) h fun v11_1 =>
  rd Try.prog (bop Go.BinOp.eql 35 (Go.Operand.tmp 10) (Go.Operand.tmp 11) v10_0 v11_1) noHp fun v12_2 =>
  K ((((env.set 10 v10_0).set 11 v11_1).set 12 v12_2).set 9 v12_2) h
@[congr] theorem dual_Dual_all_1_1_r3_congr {env : Env} {h : Hp} {K : Env → Hp → Prop} : dual_Dual_all_1_1_r3 env h K = dual_Dual_all_1_1_r3 env h K := rfl

/-- dual.go:80 -/
def dual_Dual_all_1_1_r4 (env : Env) (h : Hp) (K : Env → Hp → Prop) : Prop :=
  K (env.set 4 (Go.Value.int Go.IntKind.i64 0)) h
@[congr] theorem dual_Dual_all_1_1_r4_congr {env : Env} {h : Hp} {K : Env → Hp → Prop} : dual_Dual_all_1_1_r4 env h K = dual_Dual_all_1_1_r4 env h K := rfl

/-- dual.go:82 -/
def dual_Dual_all_1_1_r5 (env : Env) (h : Hp) (K : Env → Hp → Prop) : Prop :=
  K (env.set 4 (Go.Value.int Go.IntKind.i64 1)) h
@[congr] theorem dual_Dual_all_1_1_r5_congr {env : Env} {h : Hp} {K : Env → Hp → Prop} : dual_Dual_all_1_1_r5 env h K = dual_Dual_all_1_1_r5 env h K := rfl

def dual_Dual_all_1_1_D : Den := (sq (rg dual_Dual_all_1_1_r0) (sq (blk 0 (sq (rg dual_Dual_all_1_1_r1) (cnd (Go.Operand.tmp 5) (sq (rg dual_Dual_all_1_1_r2) (ex .ret)) (sq (rg dual_Dual_all_1_1_r3) (cnd (Go.Operand.tmp 9) (sq (rg dual_Dual_all_1_1_r4) (ex .ret)) (ex .normal)))))) (sq (rg dual_Dual_all_1_1_r5) (ex .ret))))

theorem dual_Dual_all_1_1_eq : (den Try.prog 13 dual_Dual_all_1_1_code).1 = dual_Dual_all_1_1_D := by kernel_rfl

theorem dual_Dual_all_1_1_ok {args : Array Value} {h : Hp} {Q : Value → Hp → Prop} (hn : args.size ≤ 13) (D : dual_Dual_all_1_1_D (fin Try.prog [(Go.ResultVar.tmp 4)] Q) (env0 args) h) : Ok Try.prog 42 args h Q :=
  ok_of_den progIsOk Try.func42 (c := dual_Dual_all_1_1_code) (by kernel_rfl) hn (by show (den Try.prog 13 dual_Dual_all_1_1_code).1 _ _ _; rw [dual_Dual_all_1_1_eq]; exact D)

/-! ### octroi/prefix.Less: function 43 -/
noncomputable def prefix_Less_code : Code := match Try.f43.body with | some c => c | none => .skip

/-- prefix.go:48 -/
def prefix_Less_r0 (env : Env) (h : Hp) (K : Env → Hp → Prop) : Prop :=
  arun Try.prog (Instr.box 35 (env 0)) h fun v2_0 h1 =>
  arun Try.prog (Instr.box 35 (env 1)) h1 fun v3_1 h2 =>
  K (((env.set 2 v2_0).set 3 v3_1).set 4 (Go.Value.bool false)) h2
@[congr] theorem prefix_Less_r0_congr {env : Env} {h : Hp} {K : Env → Hp → Prop} : prefix_Less_r0 env h K = prefix_Less_r0 env h K := rfl

/-- prefix.go:49 -/
def prefix_Less_r1 (env : Env) (h : Hp) (K : Env → Hp → Prop) : Prop :=
  rd Try.prog (Instr.fieldAt 35 (env 2) 0) noHp fun v5_0 =>
  rd Try.prog (Instr.loadAt 33 v5_0) h fun v6_1 =>
  rd Try.prog (Instr.fieldAt 35 (env 3) 0) noHp fun v7_2 =>
  rd Try.prog (Instr.loadAt 33 v7_2) h fun v8_3 =>
  rd Try.prog (bop Go.BinOp.neq 33 (Go.Operand.tmp 6) (Go.Operand.tmp 8) v6_1 v8_3) noHp fun v9_4 =>
  K (((((env.set 5 v5_0).set 6 v6_1).set 7 v7_2).set 8 v8_3).set 9 v9_4) h
@[congr] theorem prefix_Less_r1_congr {env : Env} {h : Hp} {K : Env → Hp → Prop} : prefix_Less_r1 env h K = prefix_Less_r1 env h K := rfl

/-- prefix.go:50 -/
def prefix_Less_r2 (env : Env) (h : Hp) (K : Env → Hp → Prop) : Prop :=
  rd Try.prog (Instr.fieldAt 35 (env 2) 0) noHp fun v10_0 =>
  rd Try.prog (Instr.loadAt 33 v10_0) h fun v11_1 =>
  rd Try.prog (Instr.fieldAt 35 (env 3) 0) noHp fun v12_2 =>
  rd Try.prog (Instr.loadAt 33 v12_2) h fun v13_3 =>
  rd Try.prog (bop Go.BinOp.lss 33 (Go.Operand.tmp 11) (Go.Operand.tmp 13) v11_1 v13_3) noHp fun v14_4 =>
  K ((((((env.set 10 v10_0).set 11 v11_1).set 12 v12_2).set 13 v13_3).set 14 v14_4).set 4 v14_4) h
@[congr] theorem prefix_Less_r2_congr {env : Env} {h : Hp} {K : Env → Hp → Prop} : prefix_Less_r2 env h K = prefix_Less_r2 env h K := rfl

/-- prefix.go:52 -/
def prefix_Less_r3 (env : Env) (h : Hp) (K : Env → Hp → Prop) : Prop :=
  rd Try.prog (Instr.fieldAt 35 (env 2) 1) noHp fun v15_0 =>
  rd Try.prog (Instr.loadAt 3 v15_0) h fun v16_1 =>
  rd Try.prog (Instr.fieldAt 35 (env 3) 1) noHp fun v17_2 =>
  rd Try.prog (Instr.loadAt 3 v17_2) h fun v18_3 =>
  rd Try.prog (bop Go.BinOp.lss 3 (Go.Operand.tmp 16) (Go.Operand.tmp 18) v16_1 v18_3) noHp fun v19_4 =>
  K ((((((env.set 15 v15_0).set 16 v16_1).set 17 v17_2).set 18 v18_3).set 19 v19_4).set 4 v19_4) h
@[congr] theorem prefix_Less_r3_congr {env : Env} {h : Hp} {K : Env → Hp → Prop} : prefix_Less_r3 env h K = prefix_Less_r3 env h K := rfl

def prefix_Less_D : Den := (sq (rg prefix_Less_r0) (sq (sq (rg prefix_Less_r1) (cnd (Go.Operand.tmp 9) (sq (rg prefix_Less_r2) (ex .ret)) (ex .normal))) (sq (rg prefix_Less_r3) (ex .ret))))

theorem prefix_Less_eq : (den Try.prog 20 prefix_Less_code).1 = prefix_Less_D := by kernel_rfl

theorem prefix_Less_ok {args : Array Value} {h : Hp} {Q : Value → Hp → Prop} (hn : args.size ≤ 20) (D : prefix_Less_D (fin Try.prog [(Go.ResultVar.tmp 4)] Q) (env0 args) h) : Ok Try.prog 43 args h Q :=
  ok_of_den progIsOk Try.func43 (c := prefix_Less_code) (by kernel_rfl) hn (by show (den Try.prog 20 prefix_Less_code).1 _ _ _; rw [prefix_Less_eq]; exact D)

/-! ### octroi/prefix.Mask: function 44 -/
noncomputable def prefix_Mask_code : Code := match Try.f44.body with | some c => c | none => .skip

/-- prefix.go:19 -/
def prefix_Mask_r0 (env : Env) (h : Hp) (K : Env → Hp → Prop) : Prop :=
  K (env.set 2 (Go.Value.int Go.IntKind.u32 0)) h
@[congr] theorem prefix_Mask_r0_congr {env : Env} {h : Hp} {K : Env → Hp → Prop} : prefix_Mask_r0 env h K = prefix_Mask_r0 env h K := rfl

/-- prefix.go:19 -/
def prefix_Mask_r1 (env : Env) (h : Hp) (K : Env → Hp → Prop) : Prop :=
  rd Try.prog (Builtin.min_ #[3, 3] 3 #[(env 0), (Go.Value.int Go.IntKind.i64 32)]) h fun v4_1 =>
  rd Try.prog (Builtin.max_ #[3, 3] 3 #[(Go.Value.int Go.IntKind.i64 0), v4_1]) h fun v5_2 =>
  rd Try.prog (bop Go.BinOp.sub 3 (Go.Operand.const (Go.Value.int Go.IntKind.i64 32)) (Go.Operand.tmp 5) (Go.Value.int Go.IntKind.i64 32) v5_2) noHp fun v6_3 =>
  rd Try.prog (bop Go.BinOp.shl 33 (Go.Operand.const (Go.Value.int Go.IntKind.u32 4294967295)) (Go.Operand.tmp 6) (Go.Value.int Go.IntKind.u32 4294967295) v6_3) noHp fun v7_4 =>
  K ((((((env.set 3 (env 0)).set 4 v4_1).set 5 v5_2).set 6 v6_3).set 7 v7_4).set 2 v7_4) h
@[congr] theorem prefix_Mask_r1_congr {env : Env} {h : Hp} {K : Env → Hp → Prop} : prefix_Mask_r1 env h K = prefix_Mask_r1 env h K := rfl

def prefix_Mask_D : Den := (sq (rg prefix_Mask_r0) (sq (rg prefix_Mask_r1) (ex .ret)))

theorem prefix_Mask_eq : (den Try.prog 8 prefix_Mask_code).1 = prefix_Mask_D := by kernel_rfl

theorem prefix_Mask_ok {args : Array Value} {h : Hp} {Q : Value → Hp → Prop} (hn : args.size ≤ 8) (D : prefix_Mask_D (fin Try.prog [(Go.ResultVar.tmp 2)] Q) (env0 args) h) : Ok Try.prog 44 args h Q :=
  ok_of_den progIsOk Try.func44 (c := prefix_Mask_code) (by kernel_rfl) hn (by show (den Try.prog 8 prefix_Mask_code).1 _ _ _; rw [prefix_Mask_eq]; exact D)

/-! ### (*octroi/dual.Dual).add: function 45 -/
noncomputable def dual_Dual_add_code : Code := match Try.f45.body with | some c => c | none => .skip

/-- dual.go:93 -/
def dual_Dual_add_r0 (env : Env) (h : Hp) (K : Env → Hp → Prop) : Prop :=
  arun Try.prog (Instr.box 35 (env 1)) h fun v3_0 h1 =>
  K ((env.set 3 v3_0).set 4 (Go.Value.pointer none)) h1
@[congr] theorem dual_Dual_add_r0_congr {env : Env} {h : Hp} {K : Env → Hp → Prop} : dual_Dual_add_r0 env h K = dual_Dual_add_r0 env h K := rfl

/-- dual.go:94 (in any order) -/
def dual_Dual_add_r1 (env : Env) (h : Hp) (K : Env → Hp → Prop) : Prop :=
  nck (env 0) (
  rd Try.prog (Instr.fieldAt 65 (env 0) 3) noHp fun v8_2 =>
  rd Try.prog (Instr.loadAt 63 v8_2) h fun v9_3 =>
  rd Try.prog (Instr.loadAt 35 (env 3)) h fun v10_4 =>
  rd Try.prog (Instr.lookup 63 v9_3 v10_4 false) h fun v11_5 =>
  K (((((((env.set 6 (env 0)).set 7 (env 0)).set 8 v8_2).set 9 v9_3).set 10 v10_4).set 11 v11_5).set 5 v11_5) h)
@[congr] theorem dual_Dual_add_r1_congr {env : Env} {h : Hp} {K : Env → Hp → Prop} : dual_Dual_add_r1 env h K = dual_Dual_add_r1 env h K := rfl

/-- dual.go:95 (in any order) -/
def dual_Dual_add_r2 (env : Env) (h : Hp) (K : Env → Hp → Prop) : Prop :=
  rd Try.prog (bop Go.BinOp.eql 72 (Go.Operand.tmp 12) (Go.Operand.const (Go.Value.pointer none)) (env 5) (Go.Value.pointer none)) noHp fun v13_1 =>
  gd (yb v13_1 == some true) (fun h k => k (env 0) h) h fun v15_3 h1 =>
  gd (yb v13_1 == some true) (fun h k => nck v15_3 (k v15_3 h)) h1 fun v16_4 h2 =>
  gd (yb v13_1 == some true) (fun h k => rd Try.prog (Instr.fieldAt 65 v16_4 3) noHp fun v => k v h) h2 fun v17_5 h3 =>
  gd (yb v13_1 == some true) (fun h k => rd Try.prog (Instr.loadAt 63 v17_5) h fun v => k v h) h3 fun v18_6 h4 =>
  gd (yb v13_1 == some true) (fun h k => rd Try.prog (Builtin.len_ #[63] 3 #[v18_6]) h fun v => k v h) h4 fun v19_7 h5 =>
  gd (yb v13_1 == some true) (fun h k => k (env 0) h) h5 fun v20_8 h6 =>
  gd (yb v13_1 == some true) (fun h k => nck v20_8 (k v20_8 h)) h6 fun v21_9 h7 =>
  gd (yb v13_1 == some true) (fun h k => rd Try.prog (Instr.fieldAt 65 v21_9 1) noHp fun v => k v h) h7 fun v22_10 h8 =>
  gd (yb v13_1 == some true) (fun h k => rd Try.prog (Instr.loadAt 3 v22_10) h fun v => k v h) h8 fun v23_11 h9 =>
  gd (yb v13_1 == some true) (fun h k => rd Try.prog (bop Go.BinOp.lss 3 (Go.Operand.tmp 19) (Go.Operand.tmp 23) v19_7 v23_11) noHp fun v => k v h) h9 fun v24_12 h10 =>
  rd Try.prog (pck v13_1 v24_12 (Go.Value.bool false)) noHp fun v25_13 =>
  K ((((((((((((((env.set 12 (env 5)).set 13 v13_1).set 14 v13_1).set 15 v15_3).set 16 v16_4).set 17 v17_5).set 18 v18_6).set 19 v19_7).set 20 v20_8).set 21 v21_9).set 22 v22_10).set 23 v23_11).set 24 v24_12).set 25 v25_13) h10
@[congr] theorem dual_Dual_add_r2_congr {env : Env} {h : Hp} {K : Env → Hp → Prop} : dual_Dual_add_r2 env h K = dual_Dual_add_r2 env h K := rfl

/-- dual.go:96 -/
def dual_Dual_add_r3 (env : Env) (h : Hp) (K : Env → Hp → Prop) : Prop :=
  rd Try.prog (Instr.loadAt 35 (env 3)) h fun v26_0 =>
  arun Try.prog (Instr.makeMap 76 none) h fun v27_1 h1 =>
  arun Try.prog (Instr.makeMap 77 none) h1 fun v28_2 h2 =>
  rd Try.prog (Instr.build 79 #[(0, v26_0), (2, v27_1), (4, (Go.Value.int Go.IntKind.i64 4294967295)), (5, v28_2)]) noHp fun v29_3 =>
  arun Try.prog (Instr.box 79 v29_3) h2 fun v30_4 h3 =>
  K ((((((env.set 26 v26_0).set 27 v27_1).set 28 v28_2).set 29 v29_3).set 30 v30_4).set 5 v30_4) h3
@[congr] theorem dual_Dual_add_r3_congr {env : Env} {h : Hp} {K : Env → Hp → Prop} : dual_Dual_add_r3 env h K = dual_Dual_add_r3 env h K := rfl

/-- dual.go:97 (in any order) -/
def dual_Dual_add_r4 (env : Env) (h : Hp) (K : Env → Hp → Prop) : Prop :=
  nck (env 0) (
  rd Try.prog (Instr.fieldAt 65 (env 0) 3) noHp fun v33_2 =>
  rd Try.prog (Instr.loadAt 63 v33_2) h fun v34_3 =>
  rd Try.prog (Instr.loadAt 35 (env 3)) h fun v35_4 =>
  arun Try.prog (Instr.mapUpdate 63 v34_3 v35_4 (env 5)) h fun _ h1 =>
  (True) ∧
  K ((((((env.set 31 (env 0)).set 32 (env 0)).set 33 v33_2).set 34 v34_3).set 35 v35_4).set 36 (env 5)) h1)
@[congr] theorem dual_Dual_add_r4_congr {env : Env} {h : Hp} {K : Env → Hp → Prop} : dual_Dual_add_r4 env h K = dual_Dual_add_r4 env h K := rfl

/-- dual.go:99 -/
def dual_Dual_add_r5 (env : Env) (h : Hp) (K : Env → Hp → Prop) : Prop :=
  K ((env.set 37 (env 5)).set 4 (env 5)) h
@[congr] theorem dual_Dual_add_r5_congr {env : Env} {h : Hp} {K : Env → Hp → Prop} : dual_Dual_add_r5 env h K = dual_Dual_add_r5 env h K := rfl

def dual_Dual_add_D : Den := (sq (rg dual_Dual_add_r0) (sq (rg dual_Dual_add_r1) (sq (sq (rg dual_Dual_add_r2) (cnd (Go.Operand.tmp 25) (sq (rg dual_Dual_add_r3) (rg dual_Dual_add_r4)) (ex .normal))) (sq (rg dual_Dual_add_r5) (ex .ret)))))

theorem dual_Dual_add_eq : (den Try.prog 38 dual_Dual_add_code).1 = dual_Dual_add_D := by kernel_rfl

theorem dual_Dual_add_ok {args : Array Value} {h : Hp} {Q : Value → Hp → Prop} (hn : args.size ≤ 38) (D : dual_Dual_add_D (fin Try.prog [(Go.ResultVar.tmp 4)] Q) (env0 args) h) : Ok Try.prog 45 args h Q :=
  ok_of_den progIsOk Try.func45 (c := dual_Dual_add_code) (by kernel_rfl) hn (by show (den Try.prog 38 dual_Dual_add_code).1 _ _ _; rw [dual_Dual_add_eq]; exact D)

/-! ### (*octroi/dual.Dual).neighbours: function 46 -/
noncomputable def dual_Dual_neighbours_code : Code := match Try.f46.body with | some c => c | none => .skip

/-- dual.go:62 -/
def dual_Dual_neighbours_r0 (env : Env) (h : Hp) (K : Env → Hp → Prop) : Prop :=
  arun Try.prog (Instr.box 25 (env 0)) h fun v1_0 h1 =>
  K ((env.set 1 v1_0).set 2 Go.Value.nilFunc) h1
@[congr] theorem dual_Dual_neighbours_r0_congr {env : Env} {h : Hp} {K : Env → Hp → Prop} : dual_Dual_neighbours_r0 env h K = dual_Dual_neighbours_r0 env h K := rfl

/-- dual.go:63 -/
def dual_Dual_neighbours_r1 (env : Env) (h : Hp) (K : Env → Hp → Prop) : Prop :=
  rd Try.prog (Instr.makeFunc (Go.Fn.func 53) #[] #[(env 1)]) noHp fun v3_0 =>
  K ((env.set 3 v3_0).set 2 v3_0) h
@[congr] theorem dual_Dual_neighbours_r1_congr {env : Env} {h : Hp} {K : Env → Hp → Prop} : dual_Dual_neighbours_r1 env h K = dual_Dual_neighbours_r1 env h K := rfl

def dual_Dual_neighbours_D : Den := (sq (rg dual_Dual_neighbours_r0) (sq (rg dual_Dual_neighbours_r1) (ex .ret)))

theorem dual_Dual_neighbours_eq : (den Try.prog 4 dual_Dual_neighbours_code).1 = dual_Dual_neighbours_D := by kernel_rfl

theorem dual_Dual_neighbours_ok {args : Array Value} {h : Hp} {Q : Value → Hp → Prop} (hn : args.size ≤ 4) (D : dual_Dual_neighbours_D (fin Try.prog [(Go.ResultVar.tmp 2)] Q) (env0 args) h) : Ok Try.prog 46 args h Q :=
  ok_of_den progIsOk Try.func46 (c := dual_Dual_neighbours_code) (by kernel_rfl) hn (by show (den Try.prog 4 dual_Dual_neighbours_code).1 _ _ _; rw [dual_Dual_neighbours_eq]; exact D)

/-! ### (octroi/dual.way).ahead: function 47 -/
noncomputable def dual_way_ahead_code : Code := match Try.f47.body with | some c => c | none => .skip

/-- dual.go:28 -/
def dual_way_ahead_r0 (env : Env) (h : Hp) (K : Env → Hp → Prop) : Prop :=
  arun Try.prog (Instr.box 74 (env 0)) h fun v2_0 h1 =>
  arun Try.prog (Instr.box 74 (env 1)) h1 fun v3_1 h2 =>
  K (((env.set 2 v2_0).set 3 v3_1).set 4 (Go.Value.bool false)) h2
@[congr] theorem dual_way_ahead_r0_congr {env : Env} {h : Hp} {K : Env → Hp → Prop} : dual_way_ahead_r0 env h K = dual_way_ahead_r0 env h K := rfl

/-- dual.go:29 -/
def dual_way_ahead_r1 (env : Env) (h : Hp) (K : Env → Hp → Prop) : Prop :=
  rd Try.prog (Instr.fieldAt 74 (env 2) 0) noHp fun v5_0 =>
  rd Try.prog (Instr.loadAt 23 v5_0) h fun v6_1 =>
  rd Try.prog (Instr.fieldAt 74 (env 3) 0) noHp fun v7_2 =>
  rd Try.prog (Instr.loadAt 23 v7_2) h fun v8_3 =>
  Ok Try.prog 20 #[v6_1, v8_3] h fun v9_4 h1 =>
  gd (yb v9_4 == some false) (fun h k => rd Try.prog (Instr.fieldAt 74 (env 3) 0) noHp fun v => k v h) h1 fun v11_6 h2 =>
  gd (yb v9_4 == some false) (fun h k => rd Try.prog (Instr.loadAt 23 v11_6) h fun v => k v h) h2 fun v12_7 h3 =>
  gd (yb v9_4 == some false) (fun h k => rd Try.prog (Instr.fieldAt 74 (env 2) 0) noHp fun v => k v h) h3 fun v13_8 h4 =>
  gd (yb v9_4 == some false) (fun h k => rd Try.prog (Instr.loadAt 23 v13_8) h fun v => k v h) h4 fun v14_9 h5 =>
  gd (yb v9_4 == some false) (fun h k => Ok Try.prog 20 #[v12_7, v14_9] h k) h5 fun v15_10 h6 =>
  gd (yb v9_4 == some false) (fun h k => rd Try.prog (Op.unary Go.UnOp.not v15_10) noHp fun v => k v h) h6 fun v16_11 h7 =>
  gd (yb v9_4 == some false) (fun h k => k v16_11 h) h7 fun v17_12 h8 =>
  gd (yb v17_12 == some true) (fun h k => rd Try.prog (Instr.fieldAt 74 (env 2) 2) noHp fun v => k v h) h8 fun v18_13 h9 =>
  gd (yb v17_12 == some true) (fun h k => rd Try.prog (Instr.loadAt 3 v18_13) h fun v => k v h) h9 fun v19_14 h10 =>
  gd (yb v17_12 == some true) (fun h k => rd Try.prog (Instr.fieldAt 74 (env 3) 2) noHp fun v => k v h) h10 fun v20_15 h11 =>
  gd (yb v17_12 == some true) (fun h k => rd Try.prog (Instr.loadAt 3 v20_15) h fun v => k v h) h11 fun v21_16 h12 =>
  gd (yb v17_12 == some true) (fun h k => rd Try.prog (bop Go.BinOp.lss 3 (Go.Operand.tmp 19) (Go.Operand.tmp 21) v19_14 v21_16) noHp fun v => k v h) h12 fun v22_17 h13 =>
  gd (yb v9_4 == some false) (fun h k => rd Try.prog (pck v17_12 v22_17 (Go.Value.bool false)) noHp fun v => k v h) h13 fun v23_18 h14 =>
  rd Try.prog (pck v9_4 (Go.Value.bool true) v23_18) noHp fun v24_19 =>
  K (((((((((((((((((((((env.set 5 v5_0).set 6 v6_1).set 7 v7_2).set 8 v8_3).set 9 v9_4).set 10 v9_4).set 11 v11_6).set 12 v12_7).set 13 v13_8).set 14 v14_9).set 15 v15_10).set 16 v16_11).set 17 v17_12).set 18 v18_13).set 19 v19_14).set 20 v20_15).set 21 v21_16).set 22 v22_17).set 23 v23_18).set 24 v24_19).set 4 v24_19) h14
@[congr] theorem dual_way_ahead_r1_congr {env : Env} {h : Hp} {K : Env → Hp → Prop} : dual_way_ahead_r1 env h K = dual_way_ahead_r1 env h K := rfl

def dual_way_ahead_D : Den := (sq (rg dual_way_ahead_r0) (sq (rg dual_way_ahead_r1) (ex .ret)))

theorem dual_way_ahead_eq : (den Try.prog 25 dual_way_ahead_code).1 = dual_way_ahead_D := by kernel_rfl

theorem dual_way_ahead_ok {args : Array Value} {h : Hp} {Q : Value → Hp → Prop} (hn : args.size ≤ 25) (D : dual_way_ahead_D (fin Try.prog [(Go.ResultVar.tmp 4)] Q) (env0 args) h) : Ok Try.prog 47 args h Q :=
  ok_of_den progIsOk Try.func47 (c := dual_way_ahead_code) (by kernel_rfl) hn (by show (den Try.prog 25 dual_way_ahead_code).1 _ _ _; rw [dual_way_ahead_eq]; exact D)

/-! ### slices.Sorted[int]: function 48 -/
noncomputable def slices_Sorted_int_code : Code := match Try.f48.body with | some c => c | none => .skip

/-- iter.go:66 -/
def slices_Sorted_int_r0 (env : Env) (h : Hp) (K : Env → Hp → Prop) : Prop :=
  K (env.set 2 (Go.Value.slice none 0 0)) h
@[congr] theorem slices_Sorted_int_r0_congr {env : Env} {h : Hp} {K : Env → Hp → Prop} : slices_Sorted_int_r0 env h K = slices_Sorted_int_r0 env h K := rfl

/-- iter.go:67 -/
def slices_Sorted_int_r1 (env : Env) (h : Hp) (K : Env → Hp → Prop) : Prop :=
  Ok Try.prog 55 #[(env 0)] h fun v5_1 h1 =>
  K (((env.set 4 (env 0)).set 5 v5_1).set 3 v5_1) h1
@[congr] theorem slices_Sorted_int_r1_congr {env : Env} {h : Hp} {K : Env → Hp → Prop} : slices_Sorted_int_r1 env h K = slices_Sorted_int_r1 env h K := rfl

/-- iter.go:68 -/
def slices_Sorted_int_r2 (env : Env) (h : Hp) (K : Env → Hp → Prop) : Prop :=
  Ok Try.prog 56 #[(env 3)] h fun v7_1 h1 =>
  K ((env.set 6 (env 3)).set 7 v7_1) h1
@[congr] theorem slices_Sorted_int_r2_congr {env : Env} {h : Hp} {K : Env → Hp → Prop} : slices_Sorted_int_r2 env h K = slices_Sorted_int_r2 env h K := rfl

/-- iter.go:69 -/
def slices_Sorted_int_r3 (env : Env) (h : Hp) (K : Env → Hp → Prop) : Prop :=
  K ((env.set 8 (env 3)).set 2 (env 3)) h
@[congr] theorem slices_Sorted_int_r3_congr {env : Env} {h : Hp} {K : Env → Hp → Prop} : slices_Sorted_int_r3 env h K = slices_Sorted_int_r3 env h K := rfl

def slices_Sorted_int_D : Den := (sq (rg slices_Sorted_int_r0) (sq (rg slices_Sorted_int_r1) (sq (rg slices_Sorted_int_r2) (sq (rg slices_Sorted_int_r3) (ex .ret)))))

theorem slices_Sorted_int_eq : (den Try.prog 9 slices_Sorted_int_code).1 = slices_Sorted_int_D := by kernel_rfl

theorem slices_Sorted_int_ok {args : Array Value} {h : Hp} {Q : Value → Hp → Prop} (hn : args.size ≤ 9) (D : slices_Sorted_int_D (fin Try.prog [(Go.ResultVar.tmp 2)] Q) (env0 args) h) : Ok Try.prog 48 args h Q :=
  ok_of_den progIsOk Try.func48 (c := slices_Sorted_int_code) (by kernel_rfl) hn (by show (den Try.prog 9 slices_Sorted_int_code).1 _ _ _; rw [slices_Sorted_int_eq]; exact D)

/-! ### maps.Keys[map[int]uint32,int,uint32]: function 49 -/
noncomputable def maps_Keys_map_int_uint32_int_uint32_code : Code := match Try.f49.body with | some c => c | none => .skip

/-- iter.go:25 -/
def maps_Keys_map_int_uint32_int_uint32_r0 (env : Env) (h : Hp) (K : Env → Hp → Prop) : Prop :=
  arun Try.prog (Instr.box 77 (env 0)) h fun v1_0 h1 =>
  K ((env.set 1 v1_0).set 2 Go.Value.nilFunc) h1
@[congr] theorem maps_Keys_map_int_uint32_int_uint32_r0_congr {env : Env} {h : Hp} {K : Env → Hp → Prop} : maps_Keys_map_int_uint32_int_uint32_r0 env h K = maps_Keys_map_int_uint32_int_uint32_r0 env h K := rfl

/-- iter.go:26 -/
def maps_Keys_map_int_uint32_int_uint32_r1 (env : Env) (h : Hp) (K : Env → Hp → Prop) : Prop :=
  rd Try.prog (Instr.makeFunc (Go.Fn.func 57) #[] #[(env 1)]) noHp fun v3_0 =>
  K ((env.set 3 v3_0).set 2 v3_0) h
@[congr] theorem maps_Keys_map_int_uint32_int_uint32_r1_congr {env : Env} {h : Hp} {K : Env → Hp → Prop} : maps_Keys_map_int_uint32_int_uint32_r1 env h K = maps_Keys_map_int_uint32_int_uint32_r1 env h K := rfl

def maps_Keys_map_int_uint32_int_uint32_D : Den := (sq (rg maps_Keys_map_int_uint32_int_uint32_r0) (sq (rg maps_Keys_map_int_uint32_int_uint32_r1) (ex .ret)))

theorem maps_Keys_map_int_uint32_int_uint32_eq : (den Try.prog 4 maps_Keys_map_int_uint32_int_uint32_code).1 = maps_Keys_map_int_uint32_int_uint32_D := by kernel_rfl

theorem maps_Keys_map_int_uint32_int_uint32_ok {args : Array Value} {h : Hp} {Q : Value → Hp → Prop} (hn : args.size ≤ 4) (D : maps_Keys_map_int_uint32_int_uint32_D (fin Try.prog [(Go.ResultVar.tmp 2)] Q) (env0 args) h) : Ok Try.prog 49 args h Q :=
  ok_of_den progIsOk Try.func49 (c := maps_Keys_map_int_uint32_int_uint32_code) (by kernel_rfl) hn (by show (den Try.prog 4 maps_Keys_map_int_uint32_int_uint32_code).1 _ _ _; rw [maps_Keys_map_int_uint32_int_uint32_eq]; exact D)

/-! ### slices.Collect[octroi/api.Prefix]: function 50 -/
noncomputable def slices_Collect_api_Prefix_code : Code := match Try.f50.body with | some c => c | none => .skip

/-- iter.go:59 -/
def slices_Collect_api_Prefix_r0 (env : Env) (h : Hp) (K : Env → Hp → Prop) : Prop :=
  K (env.set 2 (Go.Value.slice none 0 0)) h
@[congr] theorem slices_Collect_api_Prefix_r0_congr {env : Env} {h : Hp} {K : Env → Hp → Prop} : slices_Collect_api_Prefix_r0 env h K = slices_Collect_api_Prefix_r0 env h K := rfl

/-- iter.go:60 -/
def slices_Collect_api_Prefix_r1 (env : Env) (h : Hp) (K : Env → Hp → Prop) : Prop :=
  Ok Try.prog 58 #[(Go.Value.slice none 0 0), (env 0)] h fun v4_1 h1 =>
  K (((env.set 3 (env 0)).set 4 v4_1).set 2 v4_1) h1
@[congr] theorem slices_Collect_api_Prefix_r1_congr {env : Env} {h : Hp} {K : Env → Hp → Prop} : slices_Collect_api_Prefix_r1 env h K = slices_Collect_api_Prefix_r1 env h K := rfl

def slices_Collect_api_Prefix_D : Den := (sq (rg slices_Collect_api_Prefix_r0) (sq (rg slices_Collect_api_Prefix_r1) (ex .ret)))

theorem slices_Collect_api_Prefix_eq : (den Try.prog 5 slices_Collect_api_Prefix_code).1 = slices_Collect_api_Prefix_D := by kernel_rfl

theorem slices_Collect_api_Prefix_ok {args : Array Value} {h : Hp} {Q : Value → Hp → Prop} (hn : args.size ≤ 5) (D : slices_Collect_api_Prefix_D (fin Try.prog [(Go.ResultVar.tmp 2)] Q) (env0 args) h) : Ok Try.prog 50 args h Q :=
  ok_of_den progIsOk Try.func50 (c := slices_Collect_api_Prefix_code) (by kernel_rfl) hn (by show (den Try.prog 5 slices_Collect_api_Prefix_code).1 _ _ _; rw [slices_Collect_api_Prefix_eq]; exact D)

/-! ### slices.SortFunc[[]octroi/api.Prefix,octroi/api.Prefix]: function 51 -/
noncomputable def slices_SortFunc_api_Prefix_api_Prefix_code : Code := match Try.f51.body with | some c => c | none => .skip

/-- sort.go:31 -/
def slices_SortFunc_api_Prefix_api_Prefix_r0 (env : Env) (h : Hp) (K : Env → Hp → Prop) : Prop :=
  rd Try.prog (Builtin.len_ #[99] 3 #[(env 0)]) h fun v6_1 =>
  K (((env.set 5 (env 0)).set 6 v6_1).set 4 v6_1) h
@[congr] theorem slices_SortFunc_api_Prefix_api_Prefix_r0_congr {env : Env} {h : Hp} {K : Env → Hp → Prop} : slices_SortFunc_api_Prefix_api_Prefix_r0 env h K = slices_SortFunc_api_Prefix_api_Prefix_r0 env h K := rfl

/-- sort.go:32 -/
def slices_SortFunc_api_Prefix_api_Prefix_r1 (env : Env) (h : Hp) (K : Env → Hp → Prop) : Prop :=
  rd Try.prog (convert 3 125 (env 4)) noHp fun v10_3 =>
  Ok Try.prog 60 #[v10_3] h fun v11_4 h1 =>
  Ok Try.prog 59 #[(env 0), (Go.Value.int Go.IntKind.i64 0), (env 4), v11_4, (env 1)] h1 fun v13_6 h2 =>
  K (((((((env.set 7 (env 0)).set 8 (env 4)).set 9 (env 4)).set 10 v10_3).set 11 v11_4).set 12 (env 1)).set 13 v13_6) h2
@[congr] theorem slices_SortFunc_api_Prefix_api_Prefix_r1_congr {env : Env} {h : Hp} {K : Env → Hp → Prop} : slices_SortFunc_api_Prefix_api_Prefix_r1 env h K = slices_SortFunc_api_Prefix_api_Prefix_r1 env h K := rfl

def slices_SortFunc_api_Prefix_api_Prefix_D : Den := (sq (rg slices_SortFunc_api_Prefix_api_Prefix_r0) (rg slices_SortFunc_api_Prefix_api_Prefix_r1))

theorem slices_SortFunc_api_Prefix_api_Prefix_eq : (den Try.prog 14 slices_SortFunc_api_Prefix_api_Prefix_code).1 = slices_SortFunc_api_Prefix_api_Prefix_D := by kernel_rfl

theorem slices_SortFunc_api_Prefix_api_Prefix_ok {args : Array Value} {h : Hp} {Q : Value → Hp → Prop} (hn : args.size ≤ 14) (D : slices_SortFunc_api_Prefix_api_Prefix_D (fin Try.prog [] Q) (env0 args) h) : Ok Try.prog 51 args h Q :=
  ok_of_den progIsOk Try.func51 (c := slices_SortFunc_api_Prefix_api_Prefix_code) (by kernel_rfl) hn (by show (den Try.prog 14 slices_SortFunc_api_Prefix_api_Prefix_code).1 _ _ _; rw [slices_SortFunc_api_Prefix_api_Prefix_eq]; exact D)

/-! ### maps.Keys[map[octroi/api.Prefix]*octroi/dual.known,octroi/api.Prefix,*octroi/dual.known]$1: function 52 -/
noncomputable def maps_Keys_map_api_Prefix_dual_known_api_Prefix_dual_known_1_code : Code := match Try.f52.body with | some c => c | none => .skip

/-- iter.go:27 -/
def maps_Keys_map_api_Prefix_dual_known_api_Prefix_dual_known_1_r0 (env : Env) (h : Hp) (K : Env → Hp → Prop) : Prop :=
  rd Try.prog (Instr.loadAt 63 (env 1)) h fun v4_0 =>
  arun Try.prog (Instr.range 63 v4_0) h fun v5_1 h1 =>
  K ((env.set 4 v4_0).set 5 v5_1) h1
@[congr] theorem maps_Keys_map_api_Prefix_dual_known_api_Prefix_dual_known_1_r0_congr {env : Env} {h : Hp} {K : Env → Hp → Prop} : maps_Keys_map_api_Prefix_dual_known_api_Prefix_dual_known_1_r0 env h K = maps_Keys_map_api_Prefix_dual_known_api_Prefix_dual_known_1_r0 env h K := rfl

/-- iter.go:27 -/
def maps_Keys_map_api_Prefix_dual_known_api_Prefix_dual_known_1_r1 (env : Env) (h : Hp) (K : Env → Hp → Prop) : Prop :=
  arun Try.prog (Instr.next (env 5) false 0) h fun v6_0 h1 =>
  rd Try.prog (Instr.extract v6_0 0) noHp fun v7_1 =>
  K ((env.set 6 v6_0).set 7 v7_1) h1
@[congr] theorem maps_Keys_map_api_Prefix_dual_known_api_Prefix_dual_known_1_r1_congr {env : Env} {h : Hp} {K : Env → Hp → Prop} : maps_Keys_map_api_Prefix_dual_known_api_Prefix_dual_known_1_r1 env h K = maps_Keys_map_api_Prefix_dual_known_api_Prefix_dual_known_1_r1 env h K := rfl

/-- iter.go:27 -/
def maps_Keys_map_api_Prefix_dual_known_api_Prefix_dual_known_1_r2 (env : Env) (h : Hp) (K : Env → Hp → Prop) : Prop :=
  arun Try.prog (Instr.entry (env 5)) h fun v8_0 h1 =>
  rd Try.prog (Instr.extract v8_0 0) noHp fun v9_1 =>
  arun Try.prog (Instr.alloc 35 true (Go.Value.tuple #[])) h1 fun v3_2 h2 =>
  arun Try.prog (Instr.storeAt 35 v3_2 v9_1) h2 fun _ h3 =>
  K (((env.set 8 v8_0).set 9 v9_1).set 3 v3_2) h3
@[congr] theorem maps_Keys_map_api_Prefix_dual_known_api_Prefix_dual_known_1_r2_congr {env : Env} {h : Hp} {K : Env → Hp → Prop} : maps_Keys_map_api_Prefix_dual_known_api_Prefix_dual_known_1_r2 env h K = maps_Keys_map_api_Prefix_dual_known_api_Prefix_dual_known_1_r2 env h K := rfl

/-- iter.go:28 -/
def maps_Keys_map_api_Prefix_dual_known_api_Prefix_dual_known_1_r3 (env : Env) (h : Hp) (K : Env → Hp → Prop) : Prop :=
  rd Try.prog (Instr.loadAt 35 (env 3)) h fun v11_1 =>
  callV Try.prog (env 0) #[v11_1] h fun v12_2 h1 =>
  rd Try.prog (Op.unary Go.UnOp.not v12_2) noHp fun v13_3 =>
  K ((((env.set 10 (env 0)).set 11 v11_1).set 12 v12_2).set 13 v13_3) h1
@[congr] theorem maps_Keys_map_api_Prefix_dual_known_api_Prefix_dual_known_1_r3_congr {env : Env} {h : Hp} {K : Env → Hp → Prop} : maps_Keys_map_api_Prefix_dual_known_api_Prefix_dual_known_1_r3 env h K = maps_Keys_map_api_Prefix_dual_known_api_Prefix_dual_known_1_r3 env h K := rfl

def maps_Keys_map_api_Prefix_dual_known_api_Prefix_dual_known_1_L0 : Den := (sq (rg maps_Keys_map_api_Prefix_dual_known_api_Prefix_dual_known_1_r1) (sq (cnd (Go.Operand.tmp 7) (ex .normal) (ex (.exit 0))) (blk 1 (sq (rg maps_Keys_map_api_Prefix_dual_known_api_Prefix_dual_known_1_r2) (sq (rg maps_Keys_map_api_Prefix_dual_known_api_Prefix_dual_known_1_r3) (cnd (Go.Operand.tmp 13) (ex .ret) (ex .normal)))))))

def maps_Keys_map_api_Prefix_dual_known_api_Prefix_dual_known_1_D : Den := (sq (rg maps_Keys_map_api_Prefix_dual_known_api_Prefix_dual_known_1_r0) (blk 0 (lp maps_Keys_map_api_Prefix_dual_known_api_Prefix_dual_known_1_L0)))

theorem maps_Keys_map_api_Prefix_dual_known_api_Prefix_dual_known_1_eq : (den Try.prog 14 maps_Keys_map_api_Prefix_dual_known_api_Prefix_dual_known_1_code).1 = maps_Keys_map_api_Prefix_dual_known_api_Prefix_dual_known_1_D := by kernel_rfl

theorem maps_Keys_map_api_Prefix_dual_known_api_Prefix_dual_known_1_ok {args : Array Value} {h : Hp} {Q : Value → Hp → Prop} (hn : args.size ≤ 14) (D : maps_Keys_map_api_Prefix_dual_known_api_Prefix_dual_known_1_D (fin Try.prog [] Q) (env0 args) h) : Ok Try.prog 52 args h Q :=
  ok_of_den progIsOk Try.func52 (c := maps_Keys_map_api_Prefix_dual_known_api_Prefix_dual_known_1_code) (by kernel_rfl) hn (by show (den Try.prog 14 maps_Keys_map_api_Prefix_dual_known_api_Prefix_dual_known_1_code).1 _ _ _; rw [maps_Keys_map_api_Prefix_dual_known_api_Prefix_dual_known_1_eq]; exact D)

/-! ### (*octroi/dual.Dual).neighbours$1: function 53 -/
noncomputable def dual_Dual_neighbours_1_code : Code := match Try.f53.body with | some c => c | none => .skip

/-- dual.go:64 -/
def dual_Dual_neighbours_1_r0 (env : Env) (h : Hp) (K : Env → Hp → Prop) : Prop :=
  rd Try.prog (Instr.loadAt 25 (env 1)) h fun v5_0 =>
  nck v5_0 (
  rd Try.prog (Instr.fieldAt 65 v5_0 2) noHp fun v7_2 =>
  rd Try.prog (Instr.loadAt 62 v7_2) h fun v8_3 =>
  Ok Try.prog 54 #[v8_3] h fun v9_4 h1 =>
  Ok Try.prog 48 #[v9_4] h1 fun v10_5 h2 =>
  rd Try.prog (Builtin.len_ #[112] 3 #[v10_5]) h2 fun v11_6 =>
  K ((((((((env.set 5 v5_0).set 6 v5_0).set 7 v7_2).set 8 v8_3).set 9 v9_4).set 10 v10_5).set 11 v11_6).set 12 (Go.Value.int Go.IntKind.i64 0)) h2)
@[congr] theorem dual_Dual_neighbours_1_r0_congr {env : Env} {h : Hp} {K : Env → Hp → Prop} : dual_Dual_neighbours_1_r0 env h K = dual_Dual_neighbours_1_r0 env h K := rfl

/-- dual.go:64 -/
def dual_Dual_neighbours_1_r1 (env : Env) (h : Hp) (K : Env → Hp → Prop) : Prop :=
  rd Try.prog (bop Go.BinOp.lss 3 (Go.Operand.tmp 12) (Go.Operand.tmp 11) (env 12) (env 11)) noHp fun v13_0 =>
  K (env.set 13 v13_0) h
@[congr] theorem dual_Dual_neighbours_1_r1_congr {env : Env} {h : Hp} {K : Env → Hp → Prop} : dual_Dual_neighbours_1_r1 env h K = dual_Dual_neighbours_1_r1 env h K := rfl

/-- dual.go:64 -/
def dual_Dual_neighbours_1_r2 (env : Env) (h : Hp) (K : Env → Hp → Prop) : Prop :=
  rd Try.prog (Instr.indexAt 112 (env 10) (env 12)) noHp fun v14_0 =>
  rd Try.prog (Instr.loadAt 3 v14_0) h fun v15_1 =>
  K (((env.set 14 v14_0).set 15 v15_1).set 4 v15_1) h
@[congr] theorem dual_Dual_neighbours_1_r2_congr {env : Env} {h : Hp} {K : Env → Hp → Prop} : dual_Dual_neighbours_1_r2 env h K = dual_Dual_neighbours_1_r2 env h K := rfl

/-- dual.go:65 -/
def dual_Dual_neighbours_1_r3 (env : Env) (h : Hp) (K : Env → Hp → Prop) : Prop :=
  rd Try.prog (Instr.loadAt 25 (env 1)) h fun v18_2 =>
  nck v18_2 (
  rd Try.prog (Instr.fieldAt 65 v18_2 2) noHp fun v20_4 =>
  rd Try.prog (Instr.loadAt 62 v20_4) h fun v21_5 =>
  rd Try.prog (Instr.lookup 62 v21_5 (env 4) false) h fun v23_7 =>
  callV Try.prog (env 0) #[(env 4), v23_7] h fun v24_8 h1 =>
  rd Try.prog (Op.unary Go.UnOp.not v24_8) noHp fun v25_9 =>
  K ((((((((((env.set 16 (env 0)).set 17 (env 4)).set 18 v18_2).set 19 v18_2).set 20 v20_4).set 21 v21_5).set 22 (env 4)).set 23 v23_7).set 24 v24_8).set 25 v25_9) h1)
@[congr] theorem dual_Dual_neighbours_1_r3_congr {env : Env} {h : Hp} {K : Env → Hp → Prop} : dual_Dual_neighbours_1_r3 env h K = dual_Dual_neighbours_1_r3 env h K := rfl

/-- dual.go:64 -/
def dual_Dual_neighbours_1_r4 (env : Env) (h : Hp) (K : Env → Hp → Prop) : Prop :=
  rd Try.prog (bop Go.BinOp.add 3 (Go.Operand.tmp 12) (Go.Operand.const (Go.Value.int Go.IntKind.i64 1)) (env 12) (Go.Value.int Go.IntKind.i64 1)) noHp fun v26_0 =>
  K ((env.set 26 v26_0).set 12 v26_0) h
@[congr] theorem dual_Dual_neighbours_1_r4_congr {env : Env} {h : Hp} {K : Env → Hp → Prop} : dual_Dual_neighbours_1_r4 env h K = dual_Dual_neighbours_1_r4 env h K := rfl

def dual_Dual_neighbours_1_L0 : Den := (sq (rg dual_Dual_neighbours_1_r1) (sq (cnd (Go.Operand.tmp 13) (ex .normal) (ex (.exit 0))) (sq (blk 1 (sq (rg dual_Dual_neighbours_1_r2) (sq (rg dual_Dual_neighbours_1_r3) (cnd (Go.Operand.tmp 25) (ex .ret) (ex .normal))))) (rg dual_Dual_neighbours_1_r4))))

def dual_Dual_neighbours_1_D : Den := (sq (rg dual_Dual_neighbours_1_r0) (blk 0 (lp dual_Dual_neighbours_1_L0)))

theorem dual_Dual_neighbours_1_eq : (den Try.prog 27 dual_Dual_neighbours_1_code).1 = dual_Dual_neighbours_1_D := by kernel_rfl

theorem dual_Dual_neighbours_1_ok {args : Array Value} {h : Hp} {Q : Value → Hp → Prop} (hn : args.size ≤ 27) (D : dual_Dual_neighbours_1_D (fin Try.prog [] Q) (env0 args) h) : Ok Try.prog 53 args h Q :=
  ok_of_den progIsOk Try.func53 (c := dual_Dual_neighbours_1_code) (by kernel_rfl) hn (by show (den Try.prog 27 dual_Dual_neighbours_1_code).1 _ _ _; rw [dual_Dual_neighbours_1_eq]; exact D)

/-! ### maps.Keys[map[int]*octroi/dual.link,int,*octroi/dual.link]: function 54 -/
noncomputable def maps_Keys_map_int_dual_link_int_dual_link_code : Code := match Try.f54.body with | some c => c | none => .skip

/-- iter.go:25 -/
def maps_Keys_map_int_dual_link_int_dual_link_r0 (env : Env) (h : Hp) (K : Env → Hp → Prop) : Prop :=
  arun Try.prog (Instr.box 62 (env 0)) h fun v1_0 h1 =>
  K ((env.set 1 v1_0).set 2 Go.Value.nilFunc) h1
@[congr] theorem maps_Keys_map_int_dual_link_int_dual_link_r0_congr {env : Env} {h : Hp} {K : Env → Hp → Prop} : maps_Keys_map_int_dual_link_int_dual_link_r0 env h K = maps_Keys_map_int_dual_link_int_dual_link_r0 env h K := rfl

/-- iter.go:26 -/
def maps_Keys_map_int_dual_link_int_dual_link_r1 (env : Env) (h : Hp) (K : Env → Hp → Prop) : Prop :=
  rd Try.prog (Instr.makeFunc (Go.Fn.func 61) #[] #[(env 1)]) noHp fun v3_0 =>
  K ((env.set 3 v3_0).set 2 v3_0) h
@[congr] theorem maps_Keys_map_int_dual_link_int_dual_link_r1_congr {env : Env} {h : Hp} {K : Env → Hp → Prop} : maps_Keys_map_int_dual_link_int_dual_link_r1 env h K = maps_Keys_map_int_dual_link_int_dual_link_r1 env h K := rfl

def maps_Keys_map_int_dual_link_int_dual_link_D : Den := (sq (rg maps_Keys_map_int_dual_link_int_dual_link_r0) (sq (rg maps_Keys_map_int_dual_link_int_dual_link_r1) (ex .ret)))

theorem maps_Keys_map_int_dual_link_int_dual_link_eq : (den Try.prog 4 maps_Keys_map_int_dual_link_int_dual_link_code).1 = maps_Keys_map_int_dual_link_int_dual_link_D := by kernel_rfl

theorem maps_Keys_map_int_dual_link_int_dual_link_ok {args : Array Value} {h : Hp} {Q : Value → Hp → Prop} (hn : args.size ≤ 4) (D : maps_Keys_map_int_dual_link_int_dual_link_D (fin Try.prog [(Go.ResultVar.tmp 2)] Q) (env0 args) h) : Ok Try.prog 54 args h Q :=
  ok_of_den progIsOk Try.func54 (c := maps_Keys_map_int_dual_link_int_dual_link_code) (by kernel_rfl) hn (by show (den Try.prog 4 maps_Keys_map_int_dual_link_int_dual_link_code).1 _ _ _; rw [maps_Keys_map_int_dual_link_int_dual_link_eq]; exact D)

/-! ### slices.Collect[int]: function 55 -/
noncomputable def slices_Collect_int_code : Code := match Try.f55.body with | some c => c | none => .skip

/-- iter.go:59 -/
def slices_Collect_int_r0 (env : Env) (h : Hp) (K : Env → Hp → Prop) : Prop :=
  K (env.set 2 (Go.Value.slice none 0 0)) h
@[congr] theorem slices_Collect_int_r0_congr {env : Env} {h : Hp} {K : Env → Hp → Prop} : slices_Collect_int_r0 env h K = slices_Collect_int_r0 env h K := rfl

/-- iter.go:60 -/
def slices_Collect_int_r1 (env : Env) (h : Hp) (K : Env → Hp → Prop) : Prop :=
  Ok Try.prog 62 #[(Go.Value.slice none 0 0), (env 0)] h fun v4_1 h1 =>
  K (((env.set 3 (env 0)).set 4 v4_1).set 2 v4_1) h1
@[congr] theorem slices_Collect_int_r1_congr {env : Env} {h : Hp} {K : Env → Hp → Prop} : slices_Collect_int_r1 env h K = slices_Collect_int_r1 env h K := rfl

def slices_Collect_int_D : Den := (sq (rg slices_Collect_int_r0) (sq (rg slices_Collect_int_r1) (ex .ret)))

theorem slices_Collect_int_eq : (den Try.prog 5 slices_Collect_int_code).1 = slices_Collect_int_D := by kernel_rfl

theorem slices_Collect_int_ok {args : Array Value} {h : Hp} {Q : Value → Hp → Prop} (hn : args.size ≤ 5) (D : slices_Collect_int_D (fin Try.prog [(Go.ResultVar.tmp 2)] Q) (env0 args) h) : Ok Try.prog 55 args h Q :=
  ok_of_den progIsOk Try.func55 (c := slices_Collect_int_code) (by kernel_rfl) hn (by show (den Try.prog 5 slices_Collect_int_code).1 _ _ _; rw [slices_Collect_int_eq]; exact D)

/-! ### slices.Sort[[]int,int]: function 56 -/
noncomputable def slices_Sort_int_int_code : Code := match Try.f56.body with | some c => c | none => .skip

/-- sort.go:17 -/
def slices_Sort_int_int_r0 (env : Env) (h : Hp) (K : Env → Hp → Prop) : Prop :=
  rd Try.prog (Builtin.len_ #[112] 3 #[(env 0)]) h fun v4_1 =>
  K (((env.set 3 (env 0)).set 4 v4_1).set 2 v4_1) h
@[congr] theorem slices_Sort_int_int_r0_congr {env : Env} {h : Hp} {K : Env → Hp → Prop} : slices_Sort_int_int_r0 env h K = slices_Sort_int_int_r0 env h K := rfl

/-- sort.go:18 -/
def slices_Sort_int_int_r1 (env : Env) (h : Hp) (K : Env → Hp → Prop) : Prop :=
  rd Try.prog (convert 3 125 (env 2)) noHp fun v8_3 =>
  Ok Try.prog 60 #[v8_3] h fun v9_4 h1 =>
  Ok Try.prog 63 #[(env 0), (Go.Value.int Go.IntKind.i64 0), (env 2), v9_4] h1 fun v10_5 h2 =>
  K ((((((env.set 5 (env 0)).set 6 (env 2)).set 7 (env 2)).set 8 v8_3).set 9 v9_4).set 10 v10_5) h2
@[congr] theorem slices_Sort_int_int_r1_congr {env : Env} {h : Hp} {K : Env → Hp → Prop} : slices_Sort_int_int_r1 env h K = slices_Sort_int_int_r1 env h K := rfl

def slices_Sort_int_int_D : Den := (sq (rg slices_Sort_int_int_r0) (rg slices_Sort_int_int_r1))

theorem slices_Sort_int_int_eq : (den Try.prog 11 slices_Sort_int_int_code).1 = slices_Sort_int_int_D := by kernel_rfl

theorem slices_Sort_int_int_ok {args : Array Value} {h : Hp} {Q : Value → Hp → Prop} (hn : args.size ≤ 11) (D : slices_Sort_int_int_D (fin Try.prog [] Q) (env0 args) h) : Ok Try.prog 56 args h Q :=
  ok_of_den progIsOk Try.func56 (c := slices_Sort_int_int_code) (by kernel_rfl) hn (by show (den Try.prog 11 slices_Sort_int_int_code).1 _ _ _; rw [slices_Sort_int_int_eq]; exact D)

/-! ### maps.Keys[map[int]uint32,int,uint32]$1: function 57 -/
noncomputable def maps_Keys_map_int_uint32_int_uint32_1_code : Code := match Try.f57.body with | some c => c | none => .skip

/-- iter.go:27 -/
def maps_Keys_map_int_uint32_int_uint32_1_r0 (env : Env) (h : Hp) (K : Env → Hp → Prop) : Prop :=
  rd Try.prog (Instr.loadAt 77 (env 1)) h fun v4_0 =>
  arun Try.prog (Instr.range 77 v4_0) h fun v5_1 h1 =>
  K ((env.set 4 v4_0).set 5 v5_1) h1
@[congr] theorem maps_Keys_map_int_uint32_int_uint32_1_r0_congr {env : Env} {h : Hp} {K : Env → Hp → Prop} : maps_Keys_map_int_uint32_int_uint32_1_r0 env h K = maps_Keys_map_int_uint32_int_uint32_1_r0 env h K := rfl

/-- iter.go:27 -/
def maps_Keys_map_int_uint32_int_uint32_1_r1 (env : Env) (h : Hp) (K : Env → Hp → Prop) : Prop :=
  arun Try.prog (Instr.next (env 5) false 0) h fun v6_0 h1 =>
  rd Try.prog (Instr.extract v6_0 0) noHp fun v7_1 =>
  K ((env.set 6 v6_0).set 7 v7_1) h1
@[congr] theorem maps_Keys_map_int_uint32_int_uint32_1_r1_congr {env : Env} {h : Hp} {K : Env → Hp → Prop} : maps_Keys_map_int_uint32_int_uint32_1_r1 env h K = maps_Keys_map_int_uint32_int_uint32_1_r1 env h K := rfl

/-- iter.go:27 -/
def maps_Keys_map_int_uint32_int_uint32_1_r2 (env : Env) (h : Hp) (K : Env → Hp → Prop) : Prop :=
  arun Try.prog (Instr.entry (env 5)) h fun v8_0 h1 =>
  rd Try.prog (Instr.extract v8_0 0) noHp fun v9_1 =>
  K (((env.set 8 v8_0).set 9 v9_1).set 3 v9_1) h1
@[congr] theorem maps_Keys_map_int_uint32_int_uint32_1_r2_congr {env : Env} {h : Hp} {K : Env → Hp → Prop} : maps_Keys_map_int_uint32_int_uint32_1_r2 env h K = maps_Keys_map_int_uint32_int_uint32_1_r2 env h K := rfl

/-- iter.go:28 -/
def maps_Keys_map_int_uint32_int_uint32_1_r3 (env : Env) (h : Hp) (K : Env → Hp → Prop) : Prop :=
  callV Try.prog (env 0) #[(env 3)] h fun v12_2 h1 =>
  rd Try.prog (Op.unary Go.UnOp.not v12_2) noHp fun v13_3 =>
  K ((((env.set 10 (env 0)).set 11 (env 3)).set 12 v12_2).set 13 v13_3) h1
@[congr] theorem maps_Keys_map_int_uint32_int_uint32_1_r3_congr {env : Env} {h : Hp} {K : Env → Hp → Prop} : maps_Keys_map_int_uint32_int_uint32_1_r3 env h K = maps_Keys_map_int_uint32_int_uint32_1_r3 env h K := rfl

def maps_Keys_map_int_uint32_int_uint32_1_L0 : Den := (sq (rg maps_Keys_map_int_uint32_int_uint32_1_r1) (sq (cnd (Go.Operand.tmp 7) (ex .normal) (ex (.exit 0))) (blk 1 (sq (rg maps_Keys_map_int_uint32_int_uint32_1_r2) (sq (rg maps_Keys_map_int_uint32_int_uint32_1_r3) (cnd (Go.Operand.tmp 13) (ex .ret) (ex .normal)))))))

def maps_Keys_map_int_uint32_int_uint32_1_D : Den := (sq (rg maps_Keys_map_int_uint32_int_uint32_1_r0) (blk 0 (lp maps_Keys_map_int_uint32_int_uint32_1_L0)))

theorem maps_Keys_map_int_uint32_int_uint32_1_eq : (den Try.prog 14 maps_Keys_map_int_uint32_int_uint32_1_code).1 = maps_Keys_map_int_uint32_int_uint32_1_D := by kernel_rfl

theorem maps_Keys_map_int_uint32_int_uint32_1_ok {args : Array Value} {h : Hp} {Q : Value → Hp → Prop} (hn : args.size ≤ 14) (D : maps_Keys_map_int_uint32_int_uint32_1_D (fin Try.prog [] Q) (env0 args) h) : Ok Try.prog 57 args h Q :=
  ok_of_den progIsOk Try.func57 (c := maps_Keys_map_int_uint32_int_uint32_1_code) (by kernel_rfl) hn (by show (den Try.prog 14 maps_Keys_map_int_uint32_int_uint32_1_code).1 _ _ _; rw [maps_Keys_map_int_uint32_int_uint32_1_eq]; exact D)

/-! ### slices.AppendSeq[[]octroi/api.Prefix,octroi/api.Prefix]: function 58 -/
noncomputable def slices_AppendSeq_api_Prefix_api_Prefix_code : Code := match Try.f58.body with | some c => c | none => .skip

/-- iter.go:50 -/
def slices_AppendSeq_api_Prefix_api_Prefix_r0 (env : Env) (h : Hp) (K : Env → Hp → Prop) : Prop :=
  arun Try.prog (Instr.box 99 (env 0)) h fun v2_0 h1 =>
  K ((env.set 2 v2_0).set 4 (Go.Value.slice none 0 0)) h1
@[congr] theorem slices_AppendSeq_api_Prefix_api_Prefix_r0_congr {env : Env} {h : Hp} {K : Env → Hp → Prop} : slices_AppendSeq_api_Prefix_api_Prefix_r0 env h K = slices_AppendSeq_api_Prefix_api_Prefix_r0 env h K := rfl

/-- iter.go:51 -/
def slices_AppendSeq_api_Prefix_api_Prefix_r1 (env : Env) (h : Hp) (K : Env → Hp → Prop) : Prop :=
  K (env.set 6 (env 1)) h
@[congr] theorem slices_AppendSeq_api_Prefix_api_Prefix_r1_congr {env : Env} {h : Hp} {K : Env → Hp → Prop} : slices_AppendSeq_api_Prefix_api_Prefix_r1 env h K = slices_AppendSeq_api_Prefix_api_Prefix_r1 env h K := rfl

/-- iter.go:51 -/
def slices_AppendSeq_api_Prefix_api_Prefix_r2 (env : Env) (h : Hp) (K : Env → Hp → Prop) : Prop :=
  arun Try.prog (Instr.alloc 35 true (Go.Value.tuple #[])) h fun v5_0 h1 =>
  arun Try.prog (Instr.storeAt 35 v5_0 (env 7)) h1 fun _ h2 =>
  K (env.set 5 v5_0) h2
@[congr] theorem slices_AppendSeq_api_Prefix_api_Prefix_r2_congr {env : Env} {h : Hp} {K : Env → Hp → Prop} : slices_AppendSeq_api_Prefix_api_Prefix_r2 env h K = slices_AppendSeq_api_Prefix_api_Prefix_r2 env h K := rfl

/-- iter.go:52 -/
def slices_AppendSeq_api_Prefix_api_Prefix_r3 (env : Env) (h : Hp) (K : Env → Hp → Prop) : Prop :=
  rd Try.prog (Instr.loadAt 99 (env 2)) h fun v8_0 =>
  rd Try.prog (Instr.loadAt 35 (env 5)) h fun v9_1 =>
  arun Try.prog (Instr.buildSlice 99 1 #[(0, v9_1)]) h fun v10_2 h1 =>
  arun Try.prog (Builtin.append_ #[99, 99] 99 #[v8_0, v10_2]) h1 fun v11_3 h2 =>
  arun Try.prog (Instr.storeAt 99 (env 2) v11_3) h2 fun _ h3 =>
  K ((((env.set 8 v8_0).set 9 v9_1).set 10 v10_2).set 11 v11_3) h3
@[congr] theorem slices_AppendSeq_api_Prefix_api_Prefix_r3_congr {env : Env} {h : Hp} {K : Env → Hp → Prop} : slices_AppendSeq_api_Prefix_api_Prefix_r3 env h K = slices_AppendSeq_api_Prefix_api_Prefix_r3 env h K := rfl

def slices_AppendSeq_api_Prefix_api_Prefix_F0_A : Den := (rg slices_AppendSeq_api_Prefix_api_Prefix_r2)
def slices_AppendSeq_api_Prefix_api_Prefix_F0_B : Den := (blk 1 (rg slices_AppendSeq_api_Prefix_api_Prefix_r3))

noncomputable def slices_AppendSeq_api_Prefix_api_Prefix_F0_a : Code := subCode [1, 0, 1, 0, 0] slices_AppendSeq_api_Prefix_api_Prefix_code
noncomputable def slices_AppendSeq_api_Prefix_api_Prefix_F0_b : Code := subCode [1, 0, 1, 0, 1] slices_AppendSeq_api_Prefix_api_Prefix_code

theorem slices_AppendSeq_api_Prefix_api_Prefix_F0_Aeq : (den Try.prog 13 slices_AppendSeq_api_Prefix_api_Prefix_F0_a).1 = slices_AppendSeq_api_Prefix_api_Prefix_F0_A := by kernel_rfl
theorem slices_AppendSeq_api_Prefix_api_Prefix_F0_Beq : (den Try.prog 13 slices_AppendSeq_api_Prefix_api_Prefix_F0_b).1 = slices_AppendSeq_api_Prefix_api_Prefix_F0_B := by kernel_rfl

theorem slices_AppendSeq_api_Prefix_api_Prefix_F0_yok {env : Env} {fn D l : Nat} {g : Hp} {x0 : Value} {k : Value → Hp → Prop} (hl : g l = some (recOf 13 env #[7] slices_AppendSeq_api_Prefix_api_Prefix_F0_a slices_AppendSeq_api_Prefix_api_Prefix_F0_b .ready none fn D)) (hu : ∀ t, 13 ≤ t → env t = undef)
    (H : rnd l (recOf 13 env #[7] slices_AppendSeq_api_Prefix_api_Prefix_F0_a slices_AppendSeq_api_Prefix_api_Prefix_F0_b .ready none fn D) (recOf 13 env #[7] slices_AppendSeq_api_Prefix_api_Prefix_F0_a slices_AppendSeq_api_Prefix_api_Prefix_F0_b .busy none fn D) slices_AppendSeq_api_Prefix_api_Prefix_F0_A slices_AppendSeq_api_Prefix_api_Prefix_F0_B (rndK l 13 env #[7] slices_AppendSeq_api_Prefix_api_Prefix_F0_a slices_AppendSeq_api_Prefix_api_Prefix_F0_b fn D k) (envPs 13 env [(7, x0)]) g) : YOk Try.prog l #[x0] g k := yok_rnd (args := #[x0]) progIsOk (by kernel_rfl) (by kernel_rfl) slices_AppendSeq_api_Prefix_api_Prefix_F0_Aeq slices_AppendSeq_api_Prefix_api_Prefix_F0_Beq hl hu rfl (by rw [show (Array.zip (#[7] : Array Tmp) #[x0]).toList = [(7, x0)] by simp]; exact H)

/-- iter.go:54 -/
def slices_AppendSeq_api_Prefix_api_Prefix_r4 (env : Env) (h : Hp) (K : Env → Hp → Prop) : Prop :=
  rd Try.prog (Instr.loadAt 99 (env 2)) h fun v12_0 =>
  K ((env.set 12 v12_0).set 4 v12_0) h
@[congr] theorem slices_AppendSeq_api_Prefix_api_Prefix_r4_congr {env : Env} {h : Hp} {K : Env → Hp → Prop} : slices_AppendSeq_api_Prefix_api_Prefix_r4 env h K = slices_AppendSeq_api_Prefix_api_Prefix_r4 env h K := rfl

def slices_AppendSeq_api_Prefix_api_Prefix_D : Den := (sq (rg slices_AppendSeq_api_Prefix_api_Prefix_r0) (sq (sq (rg slices_AppendSeq_api_Prefix_api_Prefix_r1) (blk 0 (rfn Try.prog 13 (Go.Operand.tmp 6) #[7] slices_AppendSeq_api_Prefix_api_Prefix_F0_a slices_AppendSeq_api_Prefix_api_Prefix_F0_b))) (sq (rg slices_AppendSeq_api_Prefix_api_Prefix_r4) (ex .ret))))

theorem slices_AppendSeq_api_Prefix_api_Prefix_eq : (den Try.prog 13 slices_AppendSeq_api_Prefix_api_Prefix_code).1 = slices_AppendSeq_api_Prefix_api_Prefix_D := by kernel_rfl

theorem slices_AppendSeq_api_Prefix_api_Prefix_ok {args : Array Value} {h : Hp} {Q : Value → Hp → Prop} (hn : args.size ≤ 13) (D : slices_AppendSeq_api_Prefix_api_Prefix_D (fin Try.prog [(Go.ResultVar.tmp 4)] Q) (env0 args) h) : Ok Try.prog 58 args h Q :=
  ok_of_den progIsOk Try.func58 (c := slices_AppendSeq_api_Prefix_api_Prefix_code) (by kernel_rfl) hn (by show (den Try.prog 13 slices_AppendSeq_api_Prefix_api_Prefix_code).1 _ _ _; rw [slices_AppendSeq_api_Prefix_api_Prefix_eq]; exact D)

/-! ### slices.pdqsortCmpFunc[octroi/api.Prefix]: function 59 -/
noncomputable def slices_pdqsortCmpFunc_api_Prefix_code : Code := match Try.f59.body with | some c => c | none => .skip

/-- zsortanyfunc.go:65 -/
def slices_pdqsortCmpFunc_api_Prefix_r0 (env : Env) (h : Hp) (K : Env → Hp → Prop) : Prop :=
  K (env.set 10 (Go.Value.bool true)) h
@[congr] theorem slices_pdqsortCmpFunc_api_Prefix_r0_congr {env : Env} {h : Hp} {K : Env → Hp → Prop} : slices_pdqsortCmpFunc_api_Prefix_r0 env h K = slices_pdqsortCmpFunc_api_Prefix_r0 env h K := rfl

/-- zsortanyfunc.go:66 -/
def slices_pdqsortCmpFunc_api_Prefix_r1 (env : Env) (h : Hp) (K : Env → Hp → Prop) : Prop :=
  K (env.set 11 (Go.Value.bool true)) h
@[congr] theorem slices_pdqsortCmpFunc_api_Prefix_r1_congr {env : Env} {h : Hp} {K : Env → Hp → Prop} : slices_pdqsortCmpFunc_api_Prefix_r1 env h K = slices_pdqsortCmpFunc_api_Prefix_r1 env h K := rfl

/-- zsortanyfunc.go:70 -/
def slices_pdqsortCmpFunc_api_Prefix_r2 (env : Env) (h : Hp) (K : Env → Hp → Prop) : Prop :=
  rd Try.prog (bop Go.BinOp.sub 3 (Go.Operand.tmp 21) (Go.Operand.tmp 22) (env 2) (env 1)) noHp fun v23_2 =>
  K ((((env.set 21 (env 2)).set 22 (env 1)).set 23 v23_2).set 12 v23_2) h
@[congr] theorem slices_pdqsortCmpFunc_api_Prefix_r2_congr {env : Env} {h : Hp} {K : Env → Hp → Prop} : slices_pdqsortCmpFunc_api_Prefix_r2 env h K = slices_pdqsortCmpFunc_api_Prefix_r2 env h K := rfl

/-- zsortanyfunc.go:72 -/
def slices_pdqsortCmpFunc_api_Prefix_r3 (env : Env) (h : Hp) (K : Env → Hp → Prop) : Prop :=
  rd Try.prog (bop Go.BinOp.leq 3 (Go.Operand.tmp 24) (Go.Operand.const (Go.Value.int Go.IntKind.i64 12)) (env 12) (Go.Value.int Go.IntKind.i64 12)) noHp fun v25_1 =>
  K ((env.set 24 (env 12)).set 25 v25_1) h
@[congr] theorem slices_pdqsortCmpFunc_api_Prefix_r3_congr {env : Env} {h : Hp} {K : Env → Hp → Prop} : slices_pdqsortCmpFunc_api_Prefix_r3 env h K = slices_pdqsortCmpFunc_api_Prefix_r3 env h K := rfl

/-- zsortanyfunc.go:73 -/
def slices_pdqsortCmpFunc_api_Prefix_r4 (env : Env) (h : Hp) (K : Env → Hp → Prop) : Prop :=
  Ok Try.prog 64 #[(env 0), (env 1), (env 2), (env 4)] h fun v30_4 h1 =>
  K (((((env.set 26 (env 0)).set 27 (env 1)).set 28 (env 2)).set 29 (env 4)).set 30 v30_4) h1
@[congr] theorem slices_pdqsortCmpFunc_api_Prefix_r4_congr {env : Env} {h : Hp} {K : Env → Hp → Prop} : slices_pdqsortCmpFunc_api_Prefix_r4 env h K = slices_pdqsortCmpFunc_api_Prefix_r4 env h K := rfl

/-- zsortanyfunc.go:78 -/
def slices_pdqsortCmpFunc_api_Prefix_r5 (env : Env) (h : Hp) (K : Env → Hp → Prop) : Prop :=
  rd Try.prog (bop Go.BinOp.eql 3 (Go.Operand.tmp 31) (Go.Operand.const (Go.Value.int Go.IntKind.i64 0)) (env 3) (Go.Value.int Go.IntKind.i64 0)) noHp fun v32_1 =>
  K ((env.set 31 (env 3)).set 32 v32_1) h
@[congr] theorem slices_pdqsortCmpFunc_api_Prefix_r5_congr {env : Env} {h : Hp} {K : Env → Hp → Prop} : slices_pdqsortCmpFunc_api_Prefix_r5 env h K = slices_pdqsortCmpFunc_api_Prefix_r5 env h K := rfl

/-- zsortanyfunc.go:79 -/
def slices_pdqsortCmpFunc_api_Prefix_r6 (env : Env) (h : Hp) (K : Env → Hp → Prop) : Prop :=
  Ok Try.prog 65 #[(env 0), (env 1), (env 2), (env 4)] h fun v37_4 h1 =>
  K (((((env.set 33 (env 0)).set 34 (env 1)).set 35 (env 2)).set 36 (env 4)).set 37 v37_4) h1
@[congr] theorem slices_pdqsortCmpFunc_api_Prefix_r6_congr {env : Env} {h : Hp} {K : Env → Hp → Prop} : slices_pdqsortCmpFunc_api_Prefix_r6 env h K = slices_pdqsortCmpFunc_api_Prefix_r6 env h K := rfl

/-- zsortanyfunc.go:84 -/
def slices_pdqsortCmpFunc_api_Prefix_r7 (env : Env) (h : Hp) (K : Env → Hp → Prop) : Prop :=
  rd Try.prog (Op.unary Go.UnOp.not (env 10)) noHp fun v39_1 =>
  K ((env.set 38 (env 10)).set 39 v39_1) h
@[congr] theorem slices_pdqsortCmpFunc_api_Prefix_r7_congr {env : Env} {h : Hp} {K : Env → Hp → Prop} : slices_pdqsortCmpFunc_api_Prefix_r7 env h K = slices_pdqsortCmpFunc_api_Prefix_r7 env h K := rfl

/-- zsortanyfunc.go:85 -/
def slices_pdqsortCmpFunc_api_Prefix_r8 (env : Env) (h : Hp) (K : Env → Hp → Prop) : Prop :=
  Ok Try.prog 66 #[(env 0), (env 1), (env 2), (env 4)] h fun v44_4 h1 =>
  K (((((env.set 40 (env 0)).set 41 (env 1)).set 42 (env 2)).set 43 (env 4)).set 44 v44_4) h1
@[congr] theorem slices_pdqsortCmpFunc_api_Prefix_r8_congr {env : Env} {h : Hp} {K : Env → Hp → Prop} : slices_pdqsortCmpFunc_api_Prefix_r8 env h K = slices_pdqsortCmpFunc_api_Prefix_r8 env h K := rfl

/-- zsortanyfunc.go:86 -/
def slices_pdqsortCmpFunc_api_Prefix_r9 (env : Env) (h : Hp) (K : Env → Hp → Prop) : Prop :=
  rd Try.prog (bop Go.BinOp.sub 3 (Go.Operand.tmp 45) (Go.Operand.const (Go.Value.int Go.IntKind.i64 1)) (env 3) (Go.Value.int Go.IntKind.i64 1)) noHp fun v46_1 =>
  K (((env.set 45 (env 3)).set 46 v46_1).set 3 v46_1) h
@[congr] theorem slices_pdqsortCmpFunc_api_Prefix_r9_congr {env : Env} {h : Hp} {K : Env → Hp → Prop} : slices_pdqsortCmpFunc_api_Prefix_r9 env h K = slices_pdqsortCmpFunc_api_Prefix_r9 env h K := rfl

/-- zsortanyfunc.go:89 -/
def slices_pdqsortCmpFunc_api_Prefix_r10 (env : Env) (h : Hp) (K : Env → Hp → Prop) : Prop :=
  Ok Try.prog 67 #[(env 0), (env 1), (env 2), (env 4)] h fun v52_4 h1 =>
  rd Try.prog (Instr.extract v52_4 0) noHp fun v53_6 =>
  rd Try.prog (Instr.extract v52_4 1) noHp fun v54_7 =>
  K ((((((((((env.set 48 (env 0)).set 49 (env 1)).set 50 (env 2)).set 51 (env 4)).set 52 v52_4).set 47 v52_4).set 53 v53_6).set 54 v54_7).set 13 v53_6).set 14 v54_7) h1
@[congr] theorem slices_pdqsortCmpFunc_api_Prefix_r10_congr {env : Env} {h : Hp} {K : Env → Hp → Prop} : slices_pdqsortCmpFunc_api_Prefix_r10 env h K = slices_pdqsortCmpFunc_api_Prefix_r10 env h K := rfl

/-- zsortanyfunc.go:90 -/
def slices_pdqsortCmpFunc_api_Prefix_r11 (env : Env) (h : Hp) (K : Env → Hp → Prop) : Prop :=
  rd Try.prog (bop Go.BinOp.eql 129 (Go.Operand.tmp 55) (Go.Operand.const (Go.Value.int Go.IntKind.i64 2)) (env 14) (Go.Value.int Go.IntKind.i64 2)) noHp fun v56_1 =>
  K ((env.set 55 (env 14)).set 56 v56_1) h
@[congr] theorem slices_pdqsortCmpFunc_api_Prefix_r11_congr {env : Env} {h : Hp} {K : Env → Hp → Prop} : slices_pdqsortCmpFunc_api_Prefix_r11 env h K = slices_pdqsortCmpFunc_api_Prefix_r11 env h K := rfl

/-- zsortanyfunc.go:91 -/
def slices_pdqsortCmpFunc_api_Prefix_r12 (env : Env) (h : Hp) (K : Env → Hp → Prop) : Prop :=
  Ok Try.prog 68 #[(env 0), (env 1), (env 2), (env 4)] h fun v61_4 h1 =>
  K (((((env.set 57 (env 0)).set 58 (env 1)).set 59 (env 2)).set 60 (env 4)).set 61 v61_4) h1
@[congr] theorem slices_pdqsortCmpFunc_api_Prefix_r12_congr {env : Env} {h : Hp} {K : Env → Hp → Prop} : slices_pdqsortCmpFunc_api_Prefix_r12 env h K = slices_pdqsortCmpFunc_api_Prefix_r12 env h K := rfl

/-- zsortanyfunc.go:95 -/
def slices_pdqsortCmpFunc_api_Prefix_r13 (env : Env) (h : Hp) (K : Env → Hp → Prop) : Prop :=
  rd Try.prog (bop Go.BinOp.sub 3 (Go.Operand.tmp 62) (Go.Operand.const (Go.Value.int Go.IntKind.i64 1)) (env 2) (Go.Value.int Go.IntKind.i64 1)) noHp fun v63_1 =>
  rd Try.prog (bop Go.BinOp.sub 3 (Go.Operand.tmp 64) (Go.Operand.tmp 65) (env 13) (env 1)) noHp fun v66_4 =>
  rd Try.prog (bop Go.BinOp.sub 3 (Go.Operand.tmp 63) (Go.Operand.tmp 66) v63_1 v66_4) noHp fun v67_5 =>
  K (((((((env.set 62 (env 2)).set 63 v63_1).set 64 (env 13)).set 65 (env 1)).set 66 v66_4).set 67 v67_5).set 13 v67_5) h
@[congr] theorem slices_pdqsortCmpFunc_api_Prefix_r13_congr {env : Env} {h : Hp} {K : Env → Hp → Prop} : slices_pdqsortCmpFunc_api_Prefix_r13 env h K = slices_pdqsortCmpFunc_api_Prefix_r13 env h K := rfl

/-- zsortanyfunc.go:96 -/
def slices_pdqsortCmpFunc_api_Prefix_r14 (env : Env) (h : Hp) (K : Env → Hp → Prop) : Prop :=
  K (env.set 14 (Go.Value.int Go.IntKind.i64 1)) h
@[congr] theorem slices_pdqsortCmpFunc_api_Prefix_r14_congr {env : Env} {h : Hp} {K : Env → Hp → Prop} : slices_pdqsortCmpFunc_api_Prefix_r14 env h K = slices_pdqsortCmpFunc_api_Prefix_r14 env h K := rfl

/-- zsortanyfunc.go:100 -/
def slices_pdqsortCmpFunc_api_Prefix_r15 (env : Env) (h : Hp) (K : Env → Hp → Prop) : Prop :=
  gd (yb (env 10) == some true) (fun h k => k (env 11) h) h fun v70_2 h1 =>
  rd Try.prog (pck (env 10) v70_2 (Go.Value.bool false)) noHp fun v71_3 =>
  gd (yb v71_3 == some true) (fun h k => k (env 14) h) h1 fun v73_5 h2 =>
  gd (yb v71_3 == some true) (fun h k => rd Try.prog (bop Go.BinOp.eql 129 (Go.Operand.tmp 73) (Go.Operand.const (Go.Value.int Go.IntKind.i64 1)) v73_5 (Go.Value.int Go.IntKind.i64 1)) noHp fun v => k v h) h2 fun v74_6 h3 =>
  rd Try.prog (pck v71_3 v74_6 (Go.Value.bool false)) noHp fun v75_7 =>
  K ((((((((env.set 68 (env 10)).set 69 (env 10)).set 70 v70_2).set 71 v71_3).set 72 v71_3).set 73 v73_5).set 74 v74_6).set 75 v75_7) h3
@[congr] theorem slices_pdqsortCmpFunc_api_Prefix_r15_congr {env : Env} {h : Hp} {K : Env → Hp → Prop} : slices_pdqsortCmpFunc_api_Prefix_r15 env h K = slices_pdqsortCmpFunc_api_Prefix_r15 env h K := rfl

/-- zsortanyfunc.go:101 -/
def slices_pdqsortCmpFunc_api_Prefix_r16 (env : Env) (h : Hp) (K : Env → Hp → Prop) : Prop :=
  Ok Try.prog 69 #[(env 0), (env 1), (env 2), (env 4)] h fun v80_4 h1 =>
  K (((((env.set 76 (env 0)).set 77 (env 1)).set 78 (env 2)).set 79 (env 4)).set 80 v80_4) h1
@[congr] theorem slices_pdqsortCmpFunc_api_Prefix_r16_congr {env : Env} {h : Hp} {K : Env → Hp → Prop} : slices_pdqsortCmpFunc_api_Prefix_r16 env h K = slices_pdqsortCmpFunc_api_Prefix_r16 env h K := rfl

/-- zsortanyfunc.go:108 (in any order) -/
def slices_pdqsortCmpFunc_api_Prefix_r17 (env : Env) (h : Hp) (K : Env → Hp → Prop) : Prop :=
  rd Try.prog (bop Go.BinOp.gtr 3 (Go.Operand.tmp 81) (Go.Operand.const (Go.Value.int Go.IntKind.i64 0)) (env 1) (Go.Value.int Go.IntKind.i64 0)) noHp fun v82_1 =>
  gd (yb v82_1 == some true) (fun h k => k (env 4) h) h fun v84_3 h1 =>
  gd (yb v82_1 == some true) (fun h k => k (env 0) h) h1 fun v85_4 h2 =>
  gd (yb v82_1 == some true) (fun h k => k (env 1) h) h2 fun v86_5 h3 =>
  gd (yb v82_1 == some true) (fun h k => rd Try.prog (bop Go.BinOp.sub 3 (Go.Operand.tmp 86) (Go.Operand.const (Go.Value.int Go.IntKind.i64 1)) v86_5 (Go.Value.int Go.IntKind.i64 1)) noHp fun v => k v h) h3 fun v87_6 h4 =>
  gd (yb v82_1 == some true) (fun h k => rd Try.prog (Instr.indexAt 99 v85_4 v87_6) noHp fun v => k v h) h4 fun v88_7 h5 =>
  gd (yb v82_1 == some true) (fun h k => rd Try.prog (Instr.loadAt 35 v88_7) h fun v => k v h) h5 fun v89_8 h6 =>
  gd (yb v82_1 == some true) (fun h k => k (env 0) h) h6 fun v90_9 h7 =>
  gd (yb v82_1 == some true) (fun h k => k (env 13) h) h7 fun v91_10 h8 =>
  gd (yb v82_1 == some true) (fun h k => rd Try.prog (Instr.indexAt 99 v90_9 v91_10) noHp fun v => k v h) h8 fun v92_11 h9 =>
  gd (yb v82_1 == some true) (fun h k => rd Try.prog (Instr.loadAt 35 v92_11) h fun v => k v h) h9 fun v93_12 h10 =>
  gd (yb v82_1 == some true) (fun h k => callV Try.prog v84_3 #[v89_8, v93_12] h k) h10 fun v94_13 h11 =>
  (True) ∧
  gd (yb v82_1 == some true) (fun h k => rd Try.prog (bop Go.BinOp.lss 3 (Go.Operand.tmp 94) (Go.Operand.const (Go.Value.int Go.IntKind.i64 0)) v94_13 (Go.Value.int Go.IntKind.i64 0)) noHp fun v => k v h) h11 fun v95_14 h12 =>
  gd (yb v82_1 == some true) (fun h k => rd Try.prog (Op.unary Go.UnOp.not v95_14) noHp fun v => k v h) h12 fun v96_15 h13 =>
  rd Try.prog (pck v82_1 v96_15 (Go.Value.bool false)) noHp fun v97_16 =>
  K (((((((((((((((((env.set 81 (env 1)).set 82 v82_1).set 83 v82_1).set 84 v84_3).set 85 v85_4).set 86 v86_5).set 87 v87_6).set 88 v88_7).set 89 v89_8).set 90 v90_9).set 91 v91_10).set 92 v92_11).set 93 v93_12).set 94 v94_13).set 95 v95_14).set 96 v96_15).set 97 v97_16) h13
@[congr] theorem slices_pdqsortCmpFunc_api_Prefix_r17_congr {env : Env} {h : Hp} {K : Env → Hp → Prop} : slices_pdqsortCmpFunc_api_Prefix_r17 env h K = slices_pdqsortCmpFunc_api_Prefix_r17 env h K := rfl

/-- zsortanyfunc.go:109 -/
def slices_pdqsortCmpFunc_api_Prefix_r18 (env : Env) (h : Hp) (K : Env → Hp → Prop) : Prop :=
  Ok Try.prog 70 #[(env 0), (env 1), (env 2), (env 13), (env 4)] h fun v103_5 h1 =>
  K (((((((env.set 98 (env 0)).set 99 (env 1)).set 100 (env 2)).set 101 (env 13)).set 102 (env 4)).set 103 v103_5).set 15 v103_5) h1
@[congr] theorem slices_pdqsortCmpFunc_api_Prefix_r18_congr {env : Env} {h : Hp} {K : Env → Hp → Prop} : slices_pdqsortCmpFunc_api_Prefix_r18 env h K = slices_pdqsortCmpFunc_api_Prefix_r18 env h K := rfl

/-- zsortanyfunc.go:110 -/
def slices_pdqsortCmpFunc_api_Prefix_r19 (env : Env) (h : Hp) (K : Env → Hp → Prop) : Prop :=
  K ((env.set 104 (env 15)).set 1 (env 15)) h
@[congr] theorem slices_pdqsortCmpFunc_api_Prefix_r19_congr {env : Env} {h : Hp} {K : Env → Hp → Prop} : slices_pdqsortCmpFunc_api_Prefix_r19 env h K = slices_pdqsortCmpFunc_api_Prefix_r19 env h K := rfl

/-- zsortanyfunc.go:114 -/
def slices_pdqsortCmpFunc_api_Prefix_r20 (env : Env) (h : Hp) (K : Env → Hp → Prop) : Prop :=
  Ok Try.prog 71 #[(env 0), (env 1), (env 2), (env 13), (env 4)] h fun v111_5 h1 =>
  rd Try.prog (Instr.extract v111_5 0) noHp fun v112_7 =>
  rd Try.prog (Instr.extract v111_5 1) noHp fun v113_8 =>
  K (((((((((((env.set 106 (env 0)).set 107 (env 1)).set 108 (env 2)).set 109 (env 13)).set 110 (env 4)).set 111 v111_5).set 105 v111_5).set 112 v112_7).set 113 v113_8).set 16 v112_7).set 17 v113_8) h1
@[congr] theorem slices_pdqsortCmpFunc_api_Prefix_r20_congr {env : Env} {h : Hp} {K : Env → Hp → Prop} : slices_pdqsortCmpFunc_api_Prefix_r20 env h K = slices_pdqsortCmpFunc_api_Prefix_r20 env h K := rfl

/-- zsortanyfunc.go:115 -/
def slices_pdqsortCmpFunc_api_Prefix_r21 (env : Env) (h : Hp) (K : Env → Hp → Prop) : Prop :=
  K ((env.set 114 (env 17)).set 11 (env 17)) h
@[congr] theorem slices_pdqsortCmpFunc_api_Prefix_r21_congr {env : Env} {h : Hp} {K : Env → Hp → Prop} : slices_pdqsortCmpFunc_api_Prefix_r21 env h K = slices_pdqsortCmpFunc_api_Prefix_r21 env h K := rfl

/-- zsortanyfunc.go:117 -/
def slices_pdqsortCmpFunc_api_Prefix_r22 (env : Env) (h : Hp) (K : Env → Hp → Prop) : Prop :=
  rd Try.prog (bop Go.BinOp.sub 3 (Go.Operand.tmp 115) (Go.Operand.tmp 116) (env 16) (env 1)) noHp fun v117_2 =>
  rd Try.prog (bop Go.BinOp.sub 3 (Go.Operand.tmp 118) (Go.Operand.tmp 119) (env 2) (env 16)) noHp fun v120_5 =>
  K ((((((((env.set 115 (env 16)).set 116 (env 1)).set 117 v117_2).set 118 (env 2)).set 119 (env 16)).set 120 v120_5).set 18 v117_2).set 19 v120_5) h
@[congr] theorem slices_pdqsortCmpFunc_api_Prefix_r22_congr {env : Env} {h : Hp} {K : Env → Hp → Prop} : slices_pdqsortCmpFunc_api_Prefix_r22 env h K = slices_pdqsortCmpFunc_api_Prefix_r22 env h K := rfl

/-- zsortanyfunc.go:118 -/
def slices_pdqsortCmpFunc_api_Prefix_r23 (env : Env) (h : Hp) (K : Env → Hp → Prop) : Prop :=
  rd Try.prog (bop Go.BinOp.quo 3 (Go.Operand.tmp 121) (Go.Operand.const (Go.Value.int Go.IntKind.i64 8)) (env 12) (Go.Value.int Go.IntKind.i64 8)) noHp fun v122_1 =>
  K (((env.set 121 (env 12)).set 122 v122_1).set 20 v122_1) h
@[congr] theorem slices_pdqsortCmpFunc_api_Prefix_r23_congr {env : Env} {h : Hp} {K : Env → Hp → Prop} : slices_pdqsortCmpFunc_api_Prefix_r23 env h K = slices_pdqsortCmpFunc_api_Prefix_r23 env h K := rfl

/-- zsortanyfunc.go:119 -/
def slices_pdqsortCmpFunc_api_Prefix_r24 (env : Env) (h : Hp) (K : Env → Hp → Prop) : Prop :=
  rd Try.prog (bop Go.BinOp.lss 3 (Go.Operand.tmp 123) (Go.Operand.tmp 124) (env 18) (env 19)) noHp fun v125_2 =>
  K (((env.set 123 (env 18)).set 124 (env 19)).set 125 v125_2) h
@[congr] theorem slices_pdqsortCmpFunc_api_Prefix_r24_congr {env : Env} {h : Hp} {K : Env → Hp → Prop} : slices_pdqsortCmpFunc_api_Prefix_r24 env h K = slices_pdqsortCmpFunc_api_Prefix_r24 env h K := rfl

/-- zsortanyfunc.go:120 -/
def slices_pdqsortCmpFunc_api_Prefix_r25 (env : Env) (h : Hp) (K : Env → Hp → Prop) : Prop :=
  rd Try.prog (bop Go.BinOp.geq 3 (Go.Operand.tmp 126) (Go.Operand.tmp 127) (env 18) (env 20)) noHp fun v128_2 =>
  K ((((env.set 126 (env 18)).set 127 (env 20)).set 128 v128_2).set 10 v128_2) h
@[congr] theorem slices_pdqsortCmpFunc_api_Prefix_r25_congr {env : Env} {h : Hp} {K : Env → Hp → Prop} : slices_pdqsortCmpFunc_api_Prefix_r25 env h K = slices_pdqsortCmpFunc_api_Prefix_r25 env h K := rfl

/-- zsortanyfunc.go:121 -/
def slices_pdqsortCmpFunc_api_Prefix_r26 (env : Env) (h : Hp) (K : Env → Hp → Prop) : Prop :=
  Ok Try.prog 59 #[(env 0), (env 1), (env 16), (env 3), (env 4)] h fun v134_5 h1 =>
  K ((((((env.set 129 (env 0)).set 130 (env 1)).set 131 (env 16)).set 132 (env 3)).set 133 (env 4)).set 134 v134_5) h1
@[congr] theorem slices_pdqsortCmpFunc_api_Prefix_r26_congr {env : Env} {h : Hp} {K : Env → Hp → Prop} : slices_pdqsortCmpFunc_api_Prefix_r26 env h K = slices_pdqsortCmpFunc_api_Prefix_r26 env h K := rfl

/-- zsortanyfunc.go:122 -/
def slices_pdqsortCmpFunc_api_Prefix_r27 (env : Env) (h : Hp) (K : Env → Hp → Prop) : Prop :=
  rd Try.prog (bop Go.BinOp.add 3 (Go.Operand.tmp 135) (Go.Operand.const (Go.Value.int Go.IntKind.i64 1)) (env 16) (Go.Value.int Go.IntKind.i64 1)) noHp fun v136_1 =>
  K (((env.set 135 (env 16)).set 136 v136_1).set 1 v136_1) h
@[congr] theorem slices_pdqsortCmpFunc_api_Prefix_r27_congr {env : Env} {h : Hp} {K : Env → Hp → Prop} : slices_pdqsortCmpFunc_api_Prefix_r27 env h K = slices_pdqsortCmpFunc_api_Prefix_r27 env h K := rfl

/-- zsortanyfunc.go:124 -/
def slices_pdqsortCmpFunc_api_Prefix_r28 (env : Env) (h : Hp) (K : Env → Hp → Prop) : Prop :=
  rd Try.prog (bop Go.BinOp.geq 3 (Go.Operand.tmp 137) (Go.Operand.tmp 138) (env 19) (env 20)) noHp fun v139_2 =>
  K ((((env.set 137 (env 19)).set 138 (env 20)).set 139 v139_2).set 10 v139_2) h
@[congr] theorem slices_pdqsortCmpFunc_api_Prefix_r28_congr {env : Env} {h : Hp} {K : Env → Hp → Prop} : slices_pdqsortCmpFunc_api_Prefix_r28 env h K = slices_pdqsortCmpFunc_api_Prefix_r28 env h K := rfl

/-- zsortanyfunc.go:125 -/
def slices_pdqsortCmpFunc_api_Prefix_r29 (env : Env) (h : Hp) (K : Env → Hp → Prop) : Prop :=
  rd Try.prog (bop Go.BinOp.add 3 (Go.Operand.tmp 141) (Go.Operand.const (Go.Value.int Go.IntKind.i64 1)) (env 16) (Go.Value.int Go.IntKind.i64 1)) noHp fun v142_2 =>
  Ok Try.prog 59 #[(env 0), v142_2, (env 2), (env 3), (env 4)] h fun v146_6 h1 =>
  K (((((((env.set 140 (env 0)).set 141 (env 16)).set 142 v142_2).set 143 (env 2)).set 144 (env 3)).set 145 (env 4)).set 146 v146_6) h1
@[congr] theorem slices_pdqsortCmpFunc_api_Prefix_r29_congr {env : Env} {h : Hp} {K : Env → Hp → Prop} : slices_pdqsortCmpFunc_api_Prefix_r29 env h K = slices_pdqsortCmpFunc_api_Prefix_r29 env h K := rfl

/-- zsortanyfunc.go:126 -/
def slices_pdqsortCmpFunc_api_Prefix_r30 (env : Env) (h : Hp) (K : Env → Hp → Prop) : Prop :=
  K ((env.set 147 (env 16)).set 2 (env 16)) h
@[congr] theorem slices_pdqsortCmpFunc_api_Prefix_r30_congr {env : Env} {h : Hp} {K : Env → Hp → Prop} : slices_pdqsortCmpFunc_api_Prefix_r30 env h K = slices_pdqsortCmpFunc_api_Prefix_r30 env h K := rfl

def slices_pdqsortCmpFunc_api_Prefix_L0 : Den := (blk 1 (sq (rg slices_pdqsortCmpFunc_api_Prefix_r2) (sq (sq (rg slices_pdqsortCmpFunc_api_Prefix_r3) (cnd (Go.Operand.tmp 25) (sq (rg slices_pdqsortCmpFunc_api_Prefix_r4) (ex .ret)) (ex .normal))) (sq (sq (rg slices_pdqsortCmpFunc_api_Prefix_r5) (cnd (Go.Operand.tmp 32) (sq (rg slices_pdqsortCmpFunc_api_Prefix_r6) (ex .ret)) (ex .normal))) (sq (sq (rg slices_pdqsortCmpFunc_api_Prefix_r7) (cnd (Go.Operand.tmp 39) (sq (rg slices_pdqsortCmpFunc_api_Prefix_r8) (rg slices_pdqsortCmpFunc_api_Prefix_r9)) (ex .normal))) (sq (rg slices_pdqsortCmpFunc_api_Prefix_r10) (sq (sq (rg slices_pdqsortCmpFunc_api_Prefix_r11) (cnd (Go.Operand.tmp 56) (sq (rg slices_pdqsortCmpFunc_api_Prefix_r12) (sq (rg slices_pdqsortCmpFunc_api_Prefix_r13) (rg slices_pdqsortCmpFunc_api_Prefix_r14))) (ex .normal))) (sq (sq (rg slices_pdqsortCmpFunc_api_Prefix_r15) (cnd (Go.Operand.tmp 75) (sq (rg slices_pdqsortCmpFunc_api_Prefix_r16) (cnd (Go.Operand.tmp 80) (ex .ret) (ex .normal))) (ex .normal))) (sq (sq (rg slices_pdqsortCmpFunc_api_Prefix_r17) (cnd (Go.Operand.tmp 97) (sq (rg slices_pdqsortCmpFunc_api_Prefix_r18) (sq (rg slices_pdqsortCmpFunc_api_Prefix_r19) (ex (.exit 1)))) (ex .normal))) (sq (rg slices_pdqsortCmpFunc_api_Prefix_r20) (sq (rg slices_pdqsortCmpFunc_api_Prefix_r21) (sq (rg slices_pdqsortCmpFunc_api_Prefix_r22) (sq (rg slices_pdqsortCmpFunc_api_Prefix_r23) (sq (rg slices_pdqsortCmpFunc_api_Prefix_r24) (cnd (Go.Operand.tmp 125) (sq (rg slices_pdqsortCmpFunc_api_Prefix_r25) (sq (rg slices_pdqsortCmpFunc_api_Prefix_r26) (rg slices_pdqsortCmpFunc_api_Prefix_r27))) (sq (rg slices_pdqsortCmpFunc_api_Prefix_r28) (sq (rg slices_pdqsortCmpFunc_api_Prefix_r29) (rg slices_pdqsortCmpFunc_api_Prefix_r30))))))))))))))))))

def slices_pdqsortCmpFunc_api_Prefix_D : Den := (sq (rg slices_pdqsortCmpFunc_api_Prefix_r0) (sq (rg slices_pdqsortCmpFunc_api_Prefix_r1) (blk 0 (lp slices_pdqsortCmpFunc_api_Prefix_L0))))

theorem slices_pdqsortCmpFunc_api_Prefix_eq : (den Try.prog 148 slices_pdqsortCmpFunc_api_Prefix_code).1 = slices_pdqsortCmpFunc_api_Prefix_D := by kernel_rfl

theorem slices_pdqsortCmpFunc_api_Prefix_ok {args : Array Value} {h : Hp} {Q : Value → Hp → Prop} (hn : args.size ≤ 148) (D : slices_pdqsortCmpFunc_api_Prefix_D (fin Try.prog [] Q) (env0 args) h) : Ok Try.prog 59 args h Q :=
  ok_of_den progIsOk Try.func59 (c := slices_pdqsortCmpFunc_api_Prefix_code) (by kernel_rfl) hn (by show (den Try.prog 148 slices_pdqsortCmpFunc_api_Prefix_code).1 _ _ _; rw [slices_pdqsortCmpFunc_api_Prefix_eq]; exact D)

/-! ### math/bits.Len: function 60 -/
noncomputable def math_bits_Len_code : Code := match Try.f60.body with | some c => c | none => .skip

/-- bits.go:302 -/
def math_bits_Len_r0 (env : Env) (h : Hp) (K : Env → Hp → Prop) : Prop :=
  K (env.set 2 (Go.Value.int Go.IntKind.i64 0)) h
@[congr] theorem math_bits_Len_r0_congr {env : Env} {h : Hp} {K : Env → Hp → Prop} : math_bits_Len_r0 env h K = math_bits_Len_r0 env h K := rfl

/-- bits.go:304 -/
def math_bits_Len_r1 (env : Env) (h : Hp) (K : Env → Hp → Prop) : Prop :=
  rd Try.prog (convert 125 33 (env 0)) noHp fun v4_1 =>
  Ok Try.prog 72 #[v4_1] h fun v5_2 h1 =>
  K ((((env.set 3 (env 0)).set 4 v4_1).set 5 v5_2).set 2 v5_2) h1
@[congr] theorem math_bits_Len_r1_congr {env : Env} {h : Hp} {K : Env → Hp → Prop} : math_bits_Len_r1 env h K = math_bits_Len_r1 env h K := rfl

/-- bits.go:306 -/
def math_bits_Len_r2 (env : Env) (h : Hp) (K : Env → Hp → Prop) : Prop :=
  Ok Try.prog 73 #[(env 0)] h fun v7_1 h1 =>
  K (((env.set 6 (env 0)).set 7 v7_1).set 2 v7_1) h1
@[congr] theorem math_bits_Len_r2_congr {env : Env} {h : Hp} {K : Env → Hp → Prop} : math_bits_Len_r2 env h K = math_bits_Len_r2 env h K := rfl

def math_bits_Len_D : Den := (sq (rg math_bits_Len_r0) (sq (cnd (Go.Operand.const (Go.Value.bool false)) (sq (rg math_bits_Len_r1) (ex .ret)) (ex .normal)) (sq (rg math_bits_Len_r2) (ex .ret))))

theorem math_bits_Len_eq : (den Try.prog 8 math_bits_Len_code).1 = math_bits_Len_D := by kernel_rfl

theorem math_bits_Len_ok {args : Array Value} {h : Hp} {Q : Value → Hp → Prop} (hn : args.size ≤ 8) (D : math_bits_Len_D (fin Try.prog [(Go.ResultVar.tmp 2)] Q) (env0 args) h) : Ok Try.prog 60 args h Q :=
  ok_of_den progIsOk Try.func60 (c := math_bits_Len_code) (by kernel_rfl) hn (by show (den Try.prog 8 math_bits_Len_code).1 _ _ _; rw [math_bits_Len_eq]; exact D)

/-! ### maps.Keys[map[int]*octroi/dual.link,int,*octroi/dual.link]$1: function 61 -/
noncomputable def maps_Keys_map_int_dual_link_int_dual_link_1_code : Code := match Try.f61.body with | some c => c | none => .skip

/-- iter.go:27 -/
def maps_Keys_map_int_dual_link_int_dual_link_1_r0 (env : Env) (h : Hp) (K : Env → Hp → Prop) : Prop :=
  rd Try.prog (Instr.loadAt 62 (env 1)) h fun v4_0 =>
  arun Try.prog (Instr.range 62 v4_0) h fun v5_1 h1 =>
  K ((env.set 4 v4_0).set 5 v5_1) h1
@[congr] theorem maps_Keys_map_int_dual_link_int_dual_link_1_r0_congr {env : Env} {h : Hp} {K : Env → Hp → Prop} : maps_Keys_map_int_dual_link_int_dual_link_1_r0 env h K = maps_Keys_map_int_dual_link_int_dual_link_1_r0 env h K := rfl

/-- iter.go:27 -/
def maps_Keys_map_int_dual_link_int_dual_link_1_r1 (env : Env) (h : Hp) (K : Env → Hp → Prop) : Prop :=
  arun Try.prog (Instr.next (env 5) false 0) h fun v6_0 h1 =>
  rd Try.prog (Instr.extract v6_0 0) noHp fun v7_1 =>
  K ((env.set 6 v6_0).set 7 v7_1) h1
@[congr] theorem maps_Keys_map_int_dual_link_int_dual_link_1_r1_congr {env : Env} {h : Hp} {K : Env → Hp → Prop} : maps_Keys_map_int_dual_link_int_dual_link_1_r1 env h K = maps_Keys_map_int_dual_link_int_dual_link_1_r1 env h K := rfl

/-- iter.go:27 -/
def maps_Keys_map_int_dual_link_int_dual_link_1_r2 (env : Env) (h : Hp) (K : Env → Hp → Prop) : Prop :=
  arun Try.prog (Instr.entry (env 5)) h fun v8_0 h1 =>
  rd Try.prog (Instr.extract v8_0 0) noHp fun v9_1 =>
  K (((env.set 8 v8_0).set 9 v9_1).set 3 v9_1) h1
@[congr] theorem maps_Keys_map_int_dual_link_int_dual_link_1_r2_congr {env : Env} {h : Hp} {K : Env → Hp → Prop} : maps_Keys_map_int_dual_link_int_dual_link_1_r2 env h K = maps_Keys_map_int_dual_link_int_dual_link_1_r2 env h K := rfl

/-- iter.go:28 -/
def maps_Keys_map_int_dual_link_int_dual_link_1_r3 (env : Env) (h : Hp) (K : Env → Hp → Prop) : Prop :=
  callV Try.prog (env 0) #[(env 3)] h fun v12_2 h1 =>
  rd Try.prog (Op.unary Go.UnOp.not v12_2) noHp fun v13_3 =>
  K ((((env.set 10 (env 0)).set 11 (env 3)).set 12 v12_2).set 13 v13_3) h1
@[congr] theorem maps_Keys_map_int_dual_link_int_dual_link_1_r3_congr {env : Env} {h : Hp} {K : Env → Hp → Prop} : maps_Keys_map_int_dual_link_int_dual_link_1_r3 env h K = maps_Keys_map_int_dual_link_int_dual_link_1_r3 env h K := rfl

def maps_Keys_map_int_dual_link_int_dual_link_1_L0 : Den := (sq (rg maps_Keys_map_int_dual_link_int_dual_link_1_r1) (sq (cnd (Go.Operand.tmp 7) (ex .normal) (ex (.exit 0))) (blk 1 (sq (rg maps_Keys_map_int_dual_link_int_dual_link_1_r2) (sq (rg maps_Keys_map_int_dual_link_int_dual_link_1_r3) (cnd (Go.Operand.tmp 13) (ex .ret) (ex .normal)))))))

def maps_Keys_map_int_dual_link_int_dual_link_1_D : Den := (sq (rg maps_Keys_map_int_dual_link_int_dual_link_1_r0) (blk 0 (lp maps_Keys_map_int_dual_link_int_dual_link_1_L0)))

theorem maps_Keys_map_int_dual_link_int_dual_link_1_eq : (den Try.prog 14 maps_Keys_map_int_dual_link_int_dual_link_1_code).1 = maps_Keys_map_int_dual_link_int_dual_link_1_D := by kernel_rfl

theorem maps_Keys_map_int_dual_link_int_dual_link_1_ok {args : Array Value} {h : Hp} {Q : Value → Hp → Prop} (hn : args.size ≤ 14) (D : maps_Keys_map_int_dual_link_int_dual_link_1_D (fin Try.prog [] Q) (env0 args) h) : Ok Try.prog 61 args h Q :=
  ok_of_den progIsOk Try.func61 (c := maps_Keys_map_int_dual_link_int_dual_link_1_code) (by kernel_rfl) hn (by show (den Try.prog 14 maps_Keys_map_int_dual_link_int_dual_link_1_code).1 _ _ _; rw [maps_Keys_map_int_dual_link_int_dual_link_1_eq]; exact D)

/-! ### slices.AppendSeq[[]int,int]: function 62 -/
noncomputable def slices_AppendSeq_int_int_code : Code := match Try.f62.body with | some c => c | none => .skip

/-- iter.go:50 -/
def slices_AppendSeq_int_int_r0 (env : Env) (h : Hp) (K : Env → Hp → Prop) : Prop :=
  arun Try.prog (Instr.box 112 (env 0)) h fun v2_0 h1 =>
  K ((env.set 2 v2_0).set 4 (Go.Value.slice none 0 0)) h1
@[congr] theorem slices_AppendSeq_int_int_r0_congr {env : Env} {h : Hp} {K : Env → Hp → Prop} : slices_AppendSeq_int_int_r0 env h K = slices_AppendSeq_int_int_r0 env h K := rfl

/-- iter.go:51 -/
def slices_AppendSeq_int_int_r1 (env : Env) (h : Hp) (K : Env → Hp → Prop) : Prop :=
  K (env.set 6 (env 1)) h
@[congr] theorem slices_AppendSeq_int_int_r1_congr {env : Env} {h : Hp} {K : Env → Hp → Prop} : slices_AppendSeq_int_int_r1 env h K = slices_AppendSeq_int_int_r1 env h K := rfl

/-- iter.go:51 -/
def slices_AppendSeq_int_int_r2 (env : Env) (h : Hp) (K : Env → Hp → Prop) : Prop :=
  K (env.set 5 (env 7)) h
@[congr] theorem slices_AppendSeq_int_int_r2_congr {env : Env} {h : Hp} {K : Env → Hp → Prop} : slices_AppendSeq_int_int_r2 env h K = slices_AppendSeq_int_int_r2 env h K := rfl

/-- iter.go:52 -/
def slices_AppendSeq_int_int_r3 (env : Env) (h : Hp) (K : Env → Hp → Prop) : Prop :=
  rd Try.prog (Instr.loadAt 112 (env 2)) h fun v8_0 =>
  arun Try.prog (Instr.buildSlice 112 1 #[(0, (env 5))]) h fun v10_2 h1 =>
  arun Try.prog (Builtin.append_ #[112, 112] 112 #[v8_0, v10_2]) h1 fun v11_3 h2 =>
  arun Try.prog (Instr.storeAt 112 (env 2) v11_3) h2 fun _ h3 =>
  K ((((env.set 8 v8_0).set 9 (env 5)).set 10 v10_2).set 11 v11_3) h3
@[congr] theorem slices_AppendSeq_int_int_r3_congr {env : Env} {h : Hp} {K : Env → Hp → Prop} : slices_AppendSeq_int_int_r3 env h K = slices_AppendSeq_int_int_r3 env h K := rfl

def slices_AppendSeq_int_int_F0_A : Den := (rg slices_AppendSeq_int_int_r2)
def slices_AppendSeq_int_int_F0_B : Den := (blk 1 (rg slices_AppendSeq_int_int_r3))

noncomputable def slices_AppendSeq_int_int_F0_a : Code := subCode [1, 0, 1, 0, 0] slices_AppendSeq_int_int_code
noncomputable def slices_AppendSeq_int_int_F0_b : Code := subCode [1, 0, 1, 0, 1] slices_AppendSeq_int_int_code

theorem slices_AppendSeq_int_int_F0_Aeq : (den Try.prog 13 slices_AppendSeq_int_int_F0_a).1 = slices_AppendSeq_int_int_F0_A := by kernel_rfl
theorem slices_AppendSeq_int_int_F0_Beq : (den Try.prog 13 slices_AppendSeq_int_int_F0_b).1 = slices_AppendSeq_int_int_F0_B := by kernel_rfl

theorem slices_AppendSeq_int_int_F0_yok {env : Env} {fn D l : Nat} {g : Hp} {x0 : Value} {k : Value → Hp → Prop} (hl : g l = some (recOf 13 env #[7] slices_AppendSeq_int_int_F0_a slices_AppendSeq_int_int_F0_b .ready none fn D)) (hu : ∀ t, 13 ≤ t → env t = undef)
    (H : rnd l (recOf 13 env #[7] slices_AppendSeq_int_int_F0_a slices_AppendSeq_int_int_F0_b .ready none fn D) (recOf 13 env #[7] slices_AppendSeq_int_int_F0_a slices_AppendSeq_int_int_F0_b .busy none fn D) slices_AppendSeq_int_int_F0_A slices_AppendSeq_int_int_F0_B (rndK l 13 env #[7] slices_AppendSeq_int_int_F0_a slices_AppendSeq_int_int_F0_b fn D k) (envPs 13 env [(7, x0)]) g) : YOk Try.prog l #[x0] g k := yok_rnd (args := #[x0]) progIsOk (by kernel_rfl) (by kernel_rfl) slices_AppendSeq_int_int_F0_Aeq slices_AppendSeq_int_int_F0_Beq hl hu rfl (by rw [show (Array.zip (#[7] : Array Tmp) #[x0]).toList = [(7, x0)] by simp]; exact H)

/-- iter.go:54 -/
def slices_AppendSeq_int_int_r4 (env : Env) (h : Hp) (K : Env → Hp → Prop) : Prop :=
  rd Try.prog (Instr.loadAt 112 (env 2)) h fun v12_0 =>
  K ((env.set 12 v12_0).set 4 v12_0) h
@[congr] theorem slices_AppendSeq_int_int_r4_congr {env : Env} {h : Hp} {K : Env → Hp → Prop} : slices_AppendSeq_int_int_r4 env h K = slices_AppendSeq_int_int_r4 env h K := rfl

def slices_AppendSeq_int_int_D : Den := (sq (rg slices_AppendSeq_int_int_r0) (sq (sq (rg slices_AppendSeq_int_int_r1) (blk 0 (rfn Try.prog 13 (Go.Operand.tmp 6) #[7] slices_AppendSeq_int_int_F0_a slices_AppendSeq_int_int_F0_b))) (sq (rg slices_AppendSeq_int_int_r4) (ex .ret))))

theorem slices_AppendSeq_int_int_eq : (den Try.prog 13 slices_AppendSeq_int_int_code).1 = slices_AppendSeq_int_int_D := by kernel_rfl

theorem slices_AppendSeq_int_int_ok {args : Array Value} {h : Hp} {Q : Value → Hp → Prop} (hn : args.size ≤ 13) (D : slices_AppendSeq_int_int_D (fin Try.prog [(Go.ResultVar.tmp 4)] Q) (env0 args) h) : Ok Try.prog 62 args h Q :=
  ok_of_den progIsOk Try.func62 (c := slices_AppendSeq_int_int_code) (by kernel_rfl) hn (by show (den Try.prog 13 slices_AppendSeq_int_int_code).1 _ _ _; rw [slices_AppendSeq_int_int_eq]; exact D)

/-! ### slices.pdqsortOrdered[int]: function 63 -/
noncomputable def slices_pdqsortOrdered_int_code : Code := match Try.f63.body with | some c => c | none => .skip

/-- zsortordered.go:67 -/
def slices_pdqsortOrdered_int_r0 (env : Env) (h : Hp) (K : Env → Hp → Prop) : Prop :=
  K (env.set 8 (Go.Value.bool true)) h
@[congr] theorem slices_pdqsortOrdered_int_r0_congr {env : Env} {h : Hp} {K : Env → Hp → Prop} : slices_pdqsortOrdered_int_r0 env h K = slices_pdqsortOrdered_int_r0 env h K := rfl

/-- zsortordered.go:68 -/
def slices_pdqsortOrdered_int_r1 (env : Env) (h : Hp) (K : Env → Hp → Prop) : Prop :=
  K (env.set 9 (Go.Value.bool true)) h
@[congr] theorem slices_pdqsortOrdered_int_r1_congr {env : Env} {h : Hp} {K : Env → Hp → Prop} : slices_pdqsortOrdered_int_r1 env h K = slices_pdqsortOrdered_int_r1 env h K := rfl

/-- zsortordered.go:72 -/
def slices_pdqsortOrdered_int_r2 (env : Env) (h : Hp) (K : Env → Hp → Prop) : Prop :=
  rd Try.prog (bop Go.BinOp.sub 3 (Go.Operand.tmp 19) (Go.Operand.tmp 20) (env 2) (env 1)) noHp fun v21_2 =>
  K ((((env.set 19 (env 2)).set 20 (env 1)).set 21 v21_2).set 10 v21_2) h
@[congr] theorem slices_pdqsortOrdered_int_r2_congr {env : Env} {h : Hp} {K : Env → Hp → Prop} : slices_pdqsortOrdered_int_r2 env h K = slices_pdqsortOrdered_int_r2 env h K := rfl

/-- zsortordered.go:74 -/
def slices_pdqsortOrdered_int_r3 (env : Env) (h : Hp) (K : Env → Hp → Prop) : Prop :=
  rd Try.prog (bop Go.BinOp.leq 3 (Go.Operand.tmp 22) (Go.Operand.const (Go.Value.int Go.IntKind.i64 12)) (env 10) (Go.Value.int Go.IntKind.i64 12)) noHp fun v23_1 =>
  K ((env.set 22 (env 10)).set 23 v23_1) h
@[congr] theorem slices_pdqsortOrdered_int_r3_congr {env : Env} {h : Hp} {K : Env → Hp → Prop} : slices_pdqsortOrdered_int_r3 env h K = slices_pdqsortOrdered_int_r3 env h K := rfl

/-- zsortordered.go:75 -/
def slices_pdqsortOrdered_int_r4 (env : Env) (h : Hp) (K : Env → Hp → Prop) : Prop :=
  Ok Try.prog 74 #[(env 0), (env 1), (env 2)] h fun v27_3 h1 =>
  K ((((env.set 24 (env 0)).set 25 (env 1)).set 26 (env 2)).set 27 v27_3) h1
@[congr] theorem slices_pdqsortOrdered_int_r4_congr {env : Env} {h : Hp} {K : Env → Hp → Prop} : slices_pdqsortOrdered_int_r4 env h K = slices_pdqsortOrdered_int_r4 env h K := rfl

/-- zsortordered.go:80 -/
def slices_pdqsortOrdered_int_r5 (env : Env) (h : Hp) (K : Env → Hp → Prop) : Prop :=
  rd Try.prog (bop Go.BinOp.eql 3 (Go.Operand.tmp 28) (Go.Operand.const (Go.Value.int Go.IntKind.i64 0)) (env 3) (Go.Value.int Go.IntKind.i64 0)) noHp fun v29_1 =>
  K ((env.set 28 (env 3)).set 29 v29_1) h
@[congr] theorem slices_pdqsortOrdered_int_r5_congr {env : Env} {h : Hp} {K : Env → Hp → Prop} : slices_pdqsortOrdered_int_r5 env h K = slices_pdqsortOrdered_int_r5 env h K := rfl

/-- zsortordered.go:81 -/
def slices_pdqsortOrdered_int_r6 (env : Env) (h : Hp) (K : Env → Hp → Prop) : Prop :=
  Ok Try.prog 75 #[(env 0), (env 1), (env 2)] h fun v33_3 h1 =>
  K ((((env.set 30 (env 0)).set 31 (env 1)).set 32 (env 2)).set 33 v33_3) h1
@[congr] theorem slices_pdqsortOrdered_int_r6_congr {env : Env} {h : Hp} {K : Env → Hp → Prop} : slices_pdqsortOrdered_int_r6 env h K = slices_pdqsortOrdered_int_r6 env h K := rfl

/-- zsortordered.go:86 -/
def slices_pdqsortOrdered_int_r7 (env : Env) (h : Hp) (K : Env → Hp → Prop) : Prop :=
  rd Try.prog (Op.unary Go.UnOp.not (env 8)) noHp fun v35_1 =>
  K ((env.set 34 (env 8)).set 35 v35_1) h
@[congr] theorem slices_pdqsortOrdered_int_r7_congr {env : Env} {h : Hp} {K : Env → Hp → Prop} : slices_pdqsortOrdered_int_r7 env h K = slices_pdqsortOrdered_int_r7 env h K := rfl

/-- zsortordered.go:87 -/
def slices_pdqsortOrdered_int_r8 (env : Env) (h : Hp) (K : Env → Hp → Prop) : Prop :=
  Ok Try.prog 76 #[(env 0), (env 1), (env 2)] h fun v39_3 h1 =>
  K ((((env.set 36 (env 0)).set 37 (env 1)).set 38 (env 2)).set 39 v39_3) h1
@[congr] theorem slices_pdqsortOrdered_int_r8_congr {env : Env} {h : Hp} {K : Env → Hp → Prop} : slices_pdqsortOrdered_int_r8 env h K = slices_pdqsortOrdered_int_r8 env h K := rfl

/-- zsortordered.go:88 -/
def slices_pdqsortOrdered_int_r9 (env : Env) (h : Hp) (K : Env → Hp → Prop) : Prop :=
  rd Try.prog (bop Go.BinOp.sub 3 (Go.Operand.tmp 40) (Go.Operand.const (Go.Value.int Go.IntKind.i64 1)) (env 3) (Go.Value.int Go.IntKind.i64 1)) noHp fun v41_1 =>
  K (((env.set 40 (env 3)).set 41 v41_1).set 3 v41_1) h
@[congr] theorem slices_pdqsortOrdered_int_r9_congr {env : Env} {h : Hp} {K : Env → Hp → Prop} : slices_pdqsortOrdered_int_r9 env h K = slices_pdqsortOrdered_int_r9 env h K := rfl

/-- zsortordered.go:91 -/
def slices_pdqsortOrdered_int_r10 (env : Env) (h : Hp) (K : Env → Hp → Prop) : Prop :=
  Ok Try.prog 77 #[(env 0), (env 1), (env 2)] h fun v46_3 h1 =>
  rd Try.prog (Instr.extract v46_3 0) noHp fun v47_5 =>
  rd Try.prog (Instr.extract v46_3 1) noHp fun v48_6 =>
  K (((((((((env.set 43 (env 0)).set 44 (env 1)).set 45 (env 2)).set 46 v46_3).set 42 v46_3).set 47 v47_5).set 48 v48_6).set 11 v47_5).set 12 v48_6) h1
@[congr] theorem slices_pdqsortOrdered_int_r10_congr {env : Env} {h : Hp} {K : Env → Hp → Prop} : slices_pdqsortOrdered_int_r10 env h K = slices_pdqsortOrdered_int_r10 env h K := rfl

/-- zsortordered.go:92 -/
def slices_pdqsortOrdered_int_r11 (env : Env) (h : Hp) (K : Env → Hp → Prop) : Prop :=
  rd Try.prog (bop Go.BinOp.eql 129 (Go.Operand.tmp 49) (Go.Operand.const (Go.Value.int Go.IntKind.i64 2)) (env 12) (Go.Value.int Go.IntKind.i64 2)) noHp fun v50_1 =>
  K ((env.set 49 (env 12)).set 50 v50_1) h
@[congr] theorem slices_pdqsortOrdered_int_r11_congr {env : Env} {h : Hp} {K : Env → Hp → Prop} : slices_pdqsortOrdered_int_r11 env h K = slices_pdqsortOrdered_int_r11 env h K := rfl

/-- zsortordered.go:93 -/
def slices_pdqsortOrdered_int_r12 (env : Env) (h : Hp) (K : Env → Hp → Prop) : Prop :=
  Ok Try.prog 78 #[(env 0), (env 1), (env 2)] h fun v54_3 h1 =>
  K ((((env.set 51 (env 0)).set 52 (env 1)).set 53 (env 2)).set 54 v54_3) h1
@[congr] theorem slices_pdqsortOrdered_int_r12_congr {env : Env} {h : Hp} {K : Env → Hp → Prop} : slices_pdqsortOrdered_int_r12 env h K = slices_pdqsortOrdered_int_r12 env h K := rfl

/-- zsortordered.go:97 -/
def slices_pdqsortOrdered_int_r13 (env : Env) (h : Hp) (K : Env → Hp → Prop) : Prop :=
  rd Try.prog (bop Go.BinOp.sub 3 (Go.Operand.tmp 55) (Go.Operand.const (Go.Value.int Go.IntKind.i64 1)) (env 2) (Go.Value.int Go.IntKind.i64 1)) noHp fun v56_1 =>
  rd Try.prog (bop Go.BinOp.sub 3 (Go.Operand.tmp 57) (Go.Operand.tmp 58) (env 11) (env 1)) noHp fun v59_4 =>
  rd Try.prog (bop Go.BinOp.sub 3 (Go.Operand.tmp 56) (Go.Operand.tmp 59) v56_1 v59_4) noHp fun v60_5 =>
  K (((((((env.set 55 (env 2)).set 56 v56_1).set 57 (env 11)).set 58 (env 1)).set 59 v59_4).set 60 v60_5).set 11 v60_5) h
@[congr] theorem slices_pdqsortOrdered_int_r13_congr {env : Env} {h : Hp} {K : Env → Hp → Prop} : slices_pdqsortOrdered_int_r13 env h K = slices_pdqsortOrdered_int_r13 env h K := rfl

/-- zsortordered.go:98 -/
def slices_pdqsortOrdered_int_r14 (env : Env) (h : Hp) (K : Env → Hp → Prop) : Prop :=
  K (env.set 12 (Go.Value.int Go.IntKind.i64 1)) h
@[congr] theorem slices_pdqsortOrdered_int_r14_congr {env : Env} {h : Hp} {K : Env → Hp → Prop} : slices_pdqsortOrdered_int_r14 env h K = slices_pdqsortOrdered_int_r14 env h K := rfl

/-- zsortordered.go:102 -/
def slices_pdqsortOrdered_int_r15 (env : Env) (h : Hp) (K : Env → Hp → Prop) : Prop :=
  gd (yb (env 8) == some true) (fun h k => k (env 9) h) h fun v63_2 h1 =>
  rd Try.prog (pck (env 8) v63_2 (Go.Value.bool false)) noHp fun v64_3 =>
  gd (yb v64_3 == some true) (fun h k => k (env 12) h) h1 fun v66_5 h2 =>
  gd (yb v64_3 == some true) (fun h k => rd Try.prog (bop Go.BinOp.eql 129 (Go.Operand.tmp 66) (Go.Operand.const (Go.Value.int Go.IntKind.i64 1)) v66_5 (Go.Value.int Go.IntKind.i64 1)) noHp fun v => k v h) h2 fun v67_6 h3 =>
  rd Try.prog (pck v64_3 v67_6 (Go.Value.bool false)) noHp fun v68_7 =>
  K ((((((((env.set 61 (env 8)).set 62 (env 8)).set 63 v63_2).set 64 v64_3).set 65 v64_3).set 66 v66_5).set 67 v67_6).set 68 v68_7) h3
@[congr] theorem slices_pdqsortOrdered_int_r15_congr {env : Env} {h : Hp} {K : Env → Hp → Prop} : slices_pdqsortOrdered_int_r15 env h K = slices_pdqsortOrdered_int_r15 env h K := rfl

/-- zsortordered.go:103 -/
def slices_pdqsortOrdered_int_r16 (env : Env) (h : Hp) (K : Env → Hp → Prop) : Prop :=
  Ok Try.prog 79 #[(env 0), (env 1), (env 2)] h fun v72_3 h1 =>
  K ((((env.set 69 (env 0)).set 70 (env 1)).set 71 (env 2)).set 72 v72_3) h1
@[congr] theorem slices_pdqsortOrdered_int_r16_congr {env : Env} {h : Hp} {K : Env → Hp → Prop} : slices_pdqsortOrdered_int_r16 env h K = slices_pdqsortOrdered_int_r16 env h K := rfl

/-- zsortordered.go:110 (in any order) -/
def slices_pdqsortOrdered_int_r17 (env : Env) (h : Hp) (K : Env → Hp → Prop) : Prop :=
  rd Try.prog (bop Go.BinOp.gtr 3 (Go.Operand.tmp 73) (Go.Operand.const (Go.Value.int Go.IntKind.i64 0)) (env 1) (Go.Value.int Go.IntKind.i64 0)) noHp fun v74_1 =>
  gd (yb v74_1 == some true) (fun h k => k (env 0) h) h fun v76_3 h1 =>
  gd (yb v74_1 == some true) (fun h k => k (env 1) h) h1 fun v77_4 h2 =>
  gd (yb v74_1 == some true) (fun h k => rd Try.prog (bop Go.BinOp.sub 3 (Go.Operand.tmp 77) (Go.Operand.const (Go.Value.int Go.IntKind.i64 1)) v77_4 (Go.Value.int Go.IntKind.i64 1)) noHp fun v => k v h) h2 fun v78_5 h3 =>
  gd (yb v74_1 == some true) (fun h k => rd Try.prog (Instr.indexAt 112 v76_3 v78_5) noHp fun v => k v h) h3 fun v79_6 h4 =>
  gd (yb v74_1 == some true) (fun h k => rd Try.prog (Instr.loadAt 3 v79_6) h fun v => k v h) h4 fun v80_7 h5 =>
  gd (yb v74_1 == some true) (fun h k => k (env 0) h) h5 fun v81_8 h6 =>
  gd (yb v74_1 == some true) (fun h k => k (env 11) h) h6 fun v82_9 h7 =>
  gd (yb v74_1 == some true) (fun h k => rd Try.prog (Instr.indexAt 112 v81_8 v82_9) noHp fun v => k v h) h7 fun v83_10 h8 =>
  gd (yb v74_1 == some true) (fun h k => rd Try.prog (Instr.loadAt 3 v83_10) h fun v => k v h) h8 fun v84_11 h9 =>
  gd (yb v74_1 == some true) (fun h k => Ok Try.prog 80 #[v80_7, v84_11] h k) h9 fun v85_12 h10 =>
  (True) ∧
  gd (yb v74_1 == some true) (fun h k => rd Try.prog (Op.unary Go.UnOp.not v85_12) noHp fun v => k v h) h10 fun v86_13 h11 =>
  rd Try.prog (pck v74_1 v86_13 (Go.Value.bool false)) noHp fun v87_14 =>
  K (((((((((((((((env.set 73 (env 1)).set 74 v74_1).set 75 v74_1).set 76 v76_3).set 77 v77_4).set 78 v78_5).set 79 v79_6).set 80 v80_7).set 81 v81_8).set 82 v82_9).set 83 v83_10).set 84 v84_11).set 85 v85_12).set 86 v86_13).set 87 v87_14) h11
@[congr] theorem slices_pdqsortOrdered_int_r17_congr {env : Env} {h : Hp} {K : Env → Hp → Prop} : slices_pdqsortOrdered_int_r17 env h K = slices_pdqsortOrdered_int_r17 env h K := rfl

/-- zsortordered.go:111 -/
def slices_pdqsortOrdered_int_r18 (env : Env) (h : Hp) (K : Env → Hp → Prop) : Prop :=
  Ok Try.prog 81 #[(env 0), (env 1), (env 2), (env 11)] h fun v92_4 h1 =>
  K ((((((env.set 88 (env 0)).set 89 (env 1)).set 90 (env 2)).set 91 (env 11)).set 92 v92_4).set 13 v92_4) h1
@[congr] theorem slices_pdqsortOrdered_int_r18_congr {env : Env} {h : Hp} {K : Env → Hp → Prop} : slices_pdqsortOrdered_int_r18 env h K = slices_pdqsortOrdered_int_r18 env h K := rfl

/-- zsortordered.go:112 -/
def slices_pdqsortOrdered_int_r19 (env : Env) (h : Hp) (K : Env → Hp → Prop) : Prop :=
  K ((env.set 93 (env 13)).set 1 (env 13)) h
@[congr] theorem slices_pdqsortOrdered_int_r19_congr {env : Env} {h : Hp} {K : Env → Hp → Prop} : slices_pdqsortOrdered_int_r19 env h K = slices_pdqsortOrdered_int_r19 env h K := rfl

/-- zsortordered.go:116 -/
def slices_pdqsortOrdered_int_r20 (env : Env) (h : Hp) (K : Env → Hp → Prop) : Prop :=
  Ok Try.prog 82 #[(env 0), (env 1), (env 2), (env 11)] h fun v99_4 h1 =>
  rd Try.prog (Instr.extract v99_4 0) noHp fun v100_6 =>
  rd Try.prog (Instr.extract v99_4 1) noHp fun v101_7 =>
  K ((((((((((env.set 95 (env 0)).set 96 (env 1)).set 97 (env 2)).set 98 (env 11)).set 99 v99_4).set 94 v99_4).set 100 v100_6).set 101 v101_7).set 14 v100_6).set 15 v101_7) h1
@[congr] theorem slices_pdqsortOrdered_int_r20_congr {env : Env} {h : Hp} {K : Env → Hp → Prop} : slices_pdqsortOrdered_int_r20 env h K = slices_pdqsortOrdered_int_r20 env h K := rfl

/-- zsortordered.go:117 -/
def slices_pdqsortOrdered_int_r21 (env : Env) (h : Hp) (K : Env → Hp → Prop) : Prop :=
  K ((env.set 102 (env 15)).set 9 (env 15)) h
@[congr] theorem slices_pdqsortOrdered_int_r21_congr {env : Env} {h : Hp} {K : Env → Hp → Prop} : slices_pdqsortOrdered_int_r21 env h K = slices_pdqsortOrdered_int_r21 env h K := rfl

/-- zsortordered.go:119 -/
def slices_pdqsortOrdered_int_r22 (env : Env) (h : Hp) (K : Env → Hp → Prop) : Prop :=
  rd Try.prog (bop Go.BinOp.sub 3 (Go.Operand.tmp 103) (Go.Operand.tmp 104) (env 14) (env 1)) noHp fun v105_2 =>
  rd Try.prog (bop Go.BinOp.sub 3 (Go.Operand.tmp 106) (Go.Operand.tmp 107) (env 2) (env 14)) noHp fun v108_5 =>
  K ((((((((env.set 103 (env 14)).set 104 (env 1)).set 105 v105_2).set 106 (env 2)).set 107 (env 14)).set 108 v108_5).set 16 v105_2).set 17 v108_5) h
@[congr] theorem slices_pdqsortOrdered_int_r22_congr {env : Env} {h : Hp} {K : Env → Hp → Prop} : slices_pdqsortOrdered_int_r22 env h K = slices_pdqsortOrdered_int_r22 env h K := rfl

/-- zsortordered.go:120 -/
def slices_pdqsortOrdered_int_r23 (env : Env) (h : Hp) (K : Env → Hp → Prop) : Prop :=
  rd Try.prog (bop Go.BinOp.quo 3 (Go.Operand.tmp 109) (Go.Operand.const (Go.Value.int Go.IntKind.i64 8)) (env 10) (Go.Value.int Go.IntKind.i64 8)) noHp fun v110_1 =>
  K (((env.set 109 (env 10)).set 110 v110_1).set 18 v110_1) h
@[congr] theorem slices_pdqsortOrdered_int_r23_congr {env : Env} {h : Hp} {K : Env → Hp → Prop} : slices_pdqsortOrdered_int_r23 env h K = slices_pdqsortOrdered_int_r23 env h K := rfl

/-- zsortordered.go:121 -/
def slices_pdqsortOrdered_int_r24 (env : Env) (h : Hp) (K : Env → Hp → Prop) : Prop :=
  rd Try.prog (bop Go.BinOp.lss 3 (Go.Operand.tmp 111) (Go.Operand.tmp 112) (env 16) (env 17)) noHp fun v113_2 =>
  K (((env.set 111 (env 16)).set 112 (env 17)).set 113 v113_2) h
@[congr] theorem slices_pdqsortOrdered_int_r24_congr {env : Env} {h : Hp} {K : Env → Hp → Prop} : slices_pdqsortOrdered_int_r24 env h K = slices_pdqsortOrdered_int_r24 env h K := rfl

/-- zsortordered.go:122 -/
def slices_pdqsortOrdered_int_r25 (env : Env) (h : Hp) (K : Env → Hp → Prop) : Prop :=
  rd Try.prog (bop Go.BinOp.geq 3 (Go.Operand.tmp 114) (Go.Operand.tmp 115) (env 16) (env 18)) noHp fun v116_2 =>
  K ((((env.set 114 (env 16)).set 115 (env 18)).set 116 v116_2).set 8 v116_2) h
@[congr] theorem slices_pdqsortOrdered_int_r25_congr {env : Env} {h : Hp} {K : Env → Hp → Prop} : slices_pdqsortOrdered_int_r25 env h K = slices_pdqsortOrdered_int_r25 env h K := rfl

/-- zsortordered.go:123 -/
def slices_pdqsortOrdered_int_r26 (env : Env) (h : Hp) (K : Env → Hp → Prop) : Prop :=
  Ok Try.prog 63 #[(env 0), (env 1), (env 14), (env 3)] h fun v121_4 h1 =>
  K (((((env.set 117 (env 0)).set 118 (env 1)).set 119 (env 14)).set 120 (env 3)).set 121 v121_4) h1
@[congr] theorem slices_pdqsortOrdered_int_r26_congr {env : Env} {h : Hp} {K : Env → Hp → Prop} : slices_pdqsortOrdered_int_r26 env h K = slices_pdqsortOrdered_int_r26 env h K := rfl

/-- zsortordered.go:124 -/
def slices_pdqsortOrdered_int_r27 (env : Env) (h : Hp) (K : Env → Hp → Prop) : Prop :=
  rd Try.prog (bop Go.BinOp.add 3 (Go.Operand.tmp 122) (Go.Operand.const (Go.Value.int Go.IntKind.i64 1)) (env 14) (Go.Value.int Go.IntKind.i64 1)) noHp fun v123_1 =>
  K (((env.set 122 (env 14)).set 123 v123_1).set 1 v123_1) h
@[congr] theorem slices_pdqsortOrdered_int_r27_congr {env : Env} {h : Hp} {K : Env → Hp → Prop} : slices_pdqsortOrdered_int_r27 env h K = slices_pdqsortOrdered_int_r27 env h K := rfl

/-- zsortordered.go:126 -/
def slices_pdqsortOrdered_int_r28 (env : Env) (h : Hp) (K : Env → Hp → Prop) : Prop :=
  rd Try.prog (bop Go.BinOp.geq 3 (Go.Operand.tmp 124) (Go.Operand.tmp 125) (env 17) (env 18)) noHp fun v126_2 =>
  K ((((env.set 124 (env 17)).set 125 (env 18)).set 126 v126_2).set 8 v126_2) h
@[congr] theorem slices_pdqsortOrdered_int_r28_congr {env : Env} {h : Hp} {K : Env → Hp → Prop} : slices_pdqsortOrdered_int_r28 env h K = slices_pdqsortOrdered_int_r28 env h K := rfl

/-- zsortordered.go:127 -/
def slices_pdqsortOrdered_int_r29 (env : Env) (h : Hp) (K : Env → Hp → Prop) : Prop :=
  rd Try.prog (bop Go.BinOp.add 3 (Go.Operand.tmp 128) (Go.Operand.const (Go.Value.int Go.IntKind.i64 1)) (env 14) (Go.Value.int Go.IntKind.i64 1)) noHp fun v129_2 =>
  Ok Try.prog 63 #[(env 0), v129_2, (env 2), (env 3)] h fun v132_5 h1 =>
  K ((((((env.set 127 (env 0)).set 128 (env 14)).set 129 v129_2).set 130 (env 2)).set 131 (env 3)).set 132 v132_5) h1
@[congr] theorem slices_pdqsortOrdered_int_r29_congr {env : Env} {h : Hp} {K : Env → Hp → Prop} : slices_pdqsortOrdered_int_r29 env h K = slices_pdqsortOrdered_int_r29 env h K := rfl

/-- zsortordered.go:128 -/
def slices_pdqsortOrdered_int_r30 (env : Env) (h : Hp) (K : Env → Hp → Prop) : Prop :=
  K ((env.set 133 (env 14)).set 2 (env 14)) h
@[congr] theorem slices_pdqsortOrdered_int_r30_congr {env : Env} {h : Hp} {K : Env → Hp → Prop} : slices_pdqsortOrdered_int_r30 env h K = slices_pdqsortOrdered_int_r30 env h K := rfl

def slices_pdqsortOrdered_int_L0 : Den := (blk 1 (sq (rg slices_pdqsortOrdered_int_r2) (sq (sq (rg slices_pdqsortOrdered_int_r3) (cnd (Go.Operand.tmp 23) (sq (rg slices_pdqsortOrdered_int_r4) (ex .ret)) (ex .normal))) (sq (sq (rg slices_pdqsortOrdered_int_r5) (cnd (Go.Operand.tmp 29) (sq (rg slices_pdqsortOrdered_int_r6) (ex .ret)) (ex .normal))) (sq (sq (rg slices_pdqsortOrdered_int_r7) (cnd (Go.Operand.tmp 35) (sq (rg slices_pdqsortOrdered_int_r8) (rg slices_pdqsortOrdered_int_r9)) (ex .normal))) (sq (rg slices_pdqsortOrdered_int_r10) (sq (sq (rg slices_pdqsortOrdered_int_r11) (cnd (Go.Operand.tmp 50) (sq (rg slices_pdqsortOrdered_int_r12) (sq (rg slices_pdqsortOrdered_int_r13) (rg slices_pdqsortOrdered_int_r14))) (ex .normal))) (sq (sq (rg slices_pdqsortOrdered_int_r15) (cnd (Go.Operand.tmp 68) (sq (rg slices_pdqsortOrdered_int_r16) (cnd (Go.Operand.tmp 72) (ex .ret) (ex .normal))) (ex .normal))) (sq (sq (rg slices_pdqsortOrdered_int_r17) (cnd (Go.Operand.tmp 87) (sq (rg slices_pdqsortOrdered_int_r18) (sq (rg slices_pdqsortOrdered_int_r19) (ex (.exit 1)))) (ex .normal))) (sq (rg slices_pdqsortOrdered_int_r20) (sq (rg slices_pdqsortOrdered_int_r21) (sq (rg slices_pdqsortOrdered_int_r22) (sq (rg slices_pdqsortOrdered_int_r23) (sq (rg slices_pdqsortOrdered_int_r24) (cnd (Go.Operand.tmp 113) (sq (rg slices_pdqsortOrdered_int_r25) (sq (rg slices_pdqsortOrdered_int_r26) (rg slices_pdqsortOrdered_int_r27))) (sq (rg slices_pdqsortOrdered_int_r28) (sq (rg slices_pdqsortOrdered_int_r29) (rg slices_pdqsortOrdered_int_r30))))))))))))))))))

def slices_pdqsortOrdered_int_D : Den := (sq (rg slices_pdqsortOrdered_int_r0) (sq (rg slices_pdqsortOrdered_int_r1) (blk 0 (lp slices_pdqsortOrdered_int_L0))))

theorem slices_pdqsortOrdered_int_eq : (den Try.prog 134 slices_pdqsortOrdered_int_code).1 = slices_pdqsortOrdered_int_D := by kernel_rfl

theorem slices_pdqsortOrdered_int_ok {args : Array Value} {h : Hp} {Q : Value → Hp → Prop} (hn : args.size ≤ 134) (D : slices_pdqsortOrdered_int_D (fin Try.prog [] Q) (env0 args) h) : Ok Try.prog 63 args h Q :=
  ok_of_den progIsOk Try.func63 (c := slices_pdqsortOrdered_int_code) (by kernel_rfl) hn (by show (den Try.prog 134 slices_pdqsortOrdered_int_code).1 _ _ _; rw [slices_pdqsortOrdered_int_eq]; exact D)

/-! ### slices.insertionSortCmpFunc[octroi/api.Prefix]: function 64 -/
noncomputable def slices_insertionSortCmpFunc_api_Prefix_code : Code := match Try.f64.body with | some c => c | none => .skip

/-- zsortanyfunc.go:11 -/
def slices_insertionSortCmpFunc_api_Prefix_r0 (env : Env) (h : Hp) (K : Env → Hp → Prop) : Prop :=
  rd Try.prog (bop Go.BinOp.add 3 (Go.Operand.tmp 10) (Go.Operand.const (Go.Value.int Go.IntKind.i64 1)) (env 1) (Go.Value.int Go.IntKind.i64 1)) noHp fun v11_1 =>
  K (((env.set 10 (env 1)).set 11 v11_1).set 8 v11_1) h
@[congr] theorem slices_insertionSortCmpFunc_api_Prefix_r0_congr {env : Env} {h : Hp} {K : Env → Hp → Prop} : slices_insertionSortCmpFunc_api_Prefix_r0 env h K = slices_insertionSortCmpFunc_api_Prefix_r0 env h K := rfl

/-- zsortanyfunc.go:11 -/
def slices_insertionSortCmpFunc_api_Prefix_r1 (env : Env) (h : Hp) (K : Env → Hp → Prop) : Prop :=
  rd Try.prog (bop Go.BinOp.lss 3 (Go.Operand.tmp 12) (Go.Operand.tmp 13) (env 8) (env 2)) noHp fun v14_2 =>
  K (((env.set 12 (env 8)).set 13 (env 2)).set 14 v14_2) h
@[congr] theorem slices_insertionSortCmpFunc_api_Prefix_r1_congr {env : Env} {h : Hp} {K : Env → Hp → Prop} : slices_insertionSortCmpFunc_api_Prefix_r1 env h K = slices_insertionSortCmpFunc_api_Prefix_r1 env h K := rfl

/-- zsortanyfunc.go:12 -/
def slices_insertionSortCmpFunc_api_Prefix_r2 (env : Env) (h : Hp) (K : Env → Hp → Prop) : Prop :=
  K ((env.set 17 (env 8)).set 9 (env 8)) h
@[congr] theorem slices_insertionSortCmpFunc_api_Prefix_r2_congr {env : Env} {h : Hp} {K : Env → Hp → Prop} : slices_insertionSortCmpFunc_api_Prefix_r2 env h K = slices_insertionSortCmpFunc_api_Prefix_r2 env h K := rfl

/-- zsortanyfunc.go:12 (in any order) -/
def slices_insertionSortCmpFunc_api_Prefix_r3 (env : Env) (h : Hp) (K : Env → Hp → Prop) : Prop :=
  rd Try.prog (bop Go.BinOp.gtr 3 (Go.Operand.tmp 18) (Go.Operand.tmp 19) (env 9) (env 1)) noHp fun v20_2 =>
  gd (yb v20_2 == some true) (fun h k => k (env 3) h) h fun v22_4 h1 =>
  gd (yb v20_2 == some true) (fun h k => k (env 0) h) h1 fun v23_5 h2 =>
  gd (yb v20_2 == some true) (fun h k => k (env 9) h) h2 fun v24_6 h3 =>
  gd (yb v20_2 == some true) (fun h k => rd Try.prog (Instr.indexAt 99 v23_5 v24_6) noHp fun v => k v h) h3 fun v25_7 h4 =>
  gd (yb v20_2 == some true) (fun h k => rd Try.prog (Instr.loadAt 35 v25_7) h fun v => k v h) h4 fun v26_8 h5 =>
  gd (yb v20_2 == some true) (fun h k => k (env 0) h) h5 fun v27_9 h6 =>
  gd (yb v20_2 == some true) (fun h k => k (env 9) h) h6 fun v28_10 h7 =>
  gd (yb v20_2 == some true) (fun h k => rd Try.prog (bop Go.BinOp.sub 3 (Go.Operand.tmp 28) (Go.Operand.const (Go.Value.int Go.IntKind.i64 1)) v28_10 (Go.Value.int Go.IntKind.i64 1)) noHp fun v => k v h) h7 fun v29_11 h8 =>
  gd (yb v20_2 == some true) (fun h k => rd Try.prog (Instr.indexAt 99 v27_9 v29_11) noHp fun v => k v h) h8 fun v30_12 h9 =>
  gd (yb v20_2 == some true) (fun h k => rd Try.prog (Instr.loadAt 35 v30_12) h fun v => k v h) h9 fun v31_13 h10 =>
  gd (yb v20_2 == some true) (fun h k => callV Try.prog v22_4 #[v26_8, v31_13] h k) h10 fun v32_14 h11 =>
  (True) ∧
  gd (yb v20_2 == some true) (fun h k => rd Try.prog (bop Go.BinOp.lss 3 (Go.Operand.tmp 32) (Go.Operand.const (Go.Value.int Go.IntKind.i64 0)) v32_14 (Go.Value.int Go.IntKind.i64 0)) noHp fun v => k v h) h11 fun v33_15 h12 =>
  rd Try.prog (pck v20_2 v33_15 (Go.Value.bool false)) noHp fun v34_16 =>
  K (((((((((((((((((env.set 18 (env 9)).set 19 (env 1)).set 20 v20_2).set 21 v20_2).set 22 v22_4).set 23 v23_5).set 24 v24_6).set 25 v25_7).set 26 v26_8).set 27 v27_9).set 28 v28_10).set 29 v29_11).set 30 v30_12).set 31 v31_13).set 32 v32_14).set 33 v33_15).set 34 v34_16) h12
@[congr] theorem slices_insertionSortCmpFunc_api_Prefix_r3_congr {env : Env} {h : Hp} {K : Env → Hp → Prop} : slices_insertionSortCmpFunc_api_Prefix_r3 env h K = slices_insertionSortCmpFunc_api_Prefix_r3 env h K := rfl

/-- zsortanyfunc.go:13 (in any order) -/
def slices_insertionSortCmpFunc_api_Prefix_r4 (env : Env) (h : Hp) (K : Env → Hp → Prop) : Prop :=
  rd Try.prog (bop Go.BinOp.sub 3 (Go.Operand.tmp 40) (Go.Operand.const (Go.Value.int Go.IntKind.i64 1)) (env 9) (Go.Value.int Go.IntKind.i64 1)) noHp fun v41_4 =>
  rd Try.prog (bop Go.BinOp.sub 3 (Go.Operand.tmp 43) (Go.Operand.const (Go.Value.int Go.IntKind.i64 1)) (env 9) (Go.Value.int Go.IntKind.i64 1)) noHp fun v44_7 =>
  rd Try.prog (Instr.indexAt 99 (env 0) v44_7) noHp fun v45_8 =>
  rd Try.prog (Instr.loadAt 35 v45_8) h fun v46_9 =>
  rd Try.prog (Instr.indexAt 99 (env 0) (env 9)) noHp fun v49_12 =>
  rd Try.prog (Instr.loadAt 35 v49_12) h fun v50_13 =>
  rd Try.prog (Instr.indexAt 99 (env 0) (env 9)) noHp fun v51_14 =>
  arun Try.prog (Instr.storeAt 35 v51_14 v46_9) h fun _ h1 =>
  (True) ∧
  rd Try.prog (Instr.indexAt 99 (env 0) v41_4) noHp fun v52_16 =>
  arun Try.prog (Instr.storeAt 35 v52_16 v50_13) h1 fun _ h2 =>
  (True) ∧
  K ((((((((((((((((env.set 37 (env 0)).set 38 (env 9)).set 39 (env 0)).set 40 (env 9)).set 41 v41_4).set 42 (env 0)).set 43 (env 9)).set 44 v44_7).set 45 v45_8).set 46 v46_9).set 47 (env 0)).set 48 (env 9)).set 49 v49_12).set 50 v50_13).set 51 v51_14).set 52 v52_16) h2
@[congr] theorem slices_insertionSortCmpFunc_api_Prefix_r4_congr {env : Env} {h : Hp} {K : Env → Hp → Prop} : slices_insertionSortCmpFunc_api_Prefix_r4 env h K = slices_insertionSortCmpFunc_api_Prefix_r4 env h K := rfl

/-- zsortanyfunc.go:12 -/
def slices_insertionSortCmpFunc_api_Prefix_r5 (env : Env) (h : Hp) (K : Env → Hp → Prop) : Prop :=
  rd Try.prog (bop Go.BinOp.sub 3 (Go.Operand.tmp 35) (Go.Operand.const (Go.Value.int Go.IntKind.i64 1)) (env 9) (Go.Value.int Go.IntKind.i64 1)) noHp fun v36_1 =>
  K (((env.set 35 (env 9)).set 36 v36_1).set 9 v36_1) h
@[congr] theorem slices_insertionSortCmpFunc_api_Prefix_r5_congr {env : Env} {h : Hp} {K : Env → Hp → Prop} : slices_insertionSortCmpFunc_api_Prefix_r5 env h K = slices_insertionSortCmpFunc_api_Prefix_r5 env h K := rfl

def slices_insertionSortCmpFunc_api_Prefix_L0 : Den := (sq (sq (rg slices_insertionSortCmpFunc_api_Prefix_r3) (cnd (Go.Operand.tmp 34) (ex .normal) (ex (.exit 2)))) (sq (blk 3 (rg slices_insertionSortCmpFunc_api_Prefix_r4)) (rg slices_insertionSortCmpFunc_api_Prefix_r5)))

/-- zsortanyfunc.go:11 -/
def slices_insertionSortCmpFunc_api_Prefix_r6 (env : Env) (h : Hp) (K : Env → Hp → Prop) : Prop :=
  rd Try.prog (bop Go.BinOp.add 3 (Go.Operand.tmp 15) (Go.Operand.const (Go.Value.int Go.IntKind.i64 1)) (env 8) (Go.Value.int Go.IntKind.i64 1)) noHp fun v16_1 =>
  K (((env.set 15 (env 8)).set 16 v16_1).set 8 v16_1) h
@[congr] theorem slices_insertionSortCmpFunc_api_Prefix_r6_congr {env : Env} {h : Hp} {K : Env → Hp → Prop} : slices_insertionSortCmpFunc_api_Prefix_r6 env h K = slices_insertionSortCmpFunc_api_Prefix_r6 env h K := rfl

def slices_insertionSortCmpFunc_api_Prefix_L1 : Den := (sq (sq (rg slices_insertionSortCmpFunc_api_Prefix_r1) (cnd (Go.Operand.tmp 14) (ex .normal) (ex (.exit 0)))) (sq (blk 1 (sq (rg slices_insertionSortCmpFunc_api_Prefix_r2) (blk 2 (lp slices_insertionSortCmpFunc_api_Prefix_L0)))) (rg slices_insertionSortCmpFunc_api_Prefix_r6)))

def slices_insertionSortCmpFunc_api_Prefix_D : Den := (sq (rg slices_insertionSortCmpFunc_api_Prefix_r0) (blk 0 (lp slices_insertionSortCmpFunc_api_Prefix_L1)))

theorem slices_insertionSortCmpFunc_api_Prefix_eq : (den Try.prog 53 slices_insertionSortCmpFunc_api_Prefix_code).1 = slices_insertionSortCmpFunc_api_Prefix_D := by kernel_rfl

theorem slices_insertionSortCmpFunc_api_Prefix_ok {args : Array Value} {h : Hp} {Q : Value → Hp → Prop} (hn : args.size ≤ 53) (D : slices_insertionSortCmpFunc_api_Prefix_D (fin Try.prog [] Q) (env0 args) h) : Ok Try.prog 64 args h Q :=
  ok_of_den progIsOk Try.func64 (c := slices_insertionSortCmpFunc_api_Prefix_code) (by kernel_rfl) hn (by show (den Try.prog 53 slices_insertionSortCmpFunc_api_Prefix_code).1 _ _ _; rw [slices_insertionSortCmpFunc_api_Prefix_eq]; exact D)

end Go.Proofs.Ytpeoholnlokdcaa

/- Printed by wip/kit/gen.py out of the translation: formulas of Go functions, and that they are these functions'. -/
namespace Go.Proofs.Ytpeoholnlokdcaa
open Go

set_option maxRecDepth 100000
set_option linter.unusedVariables false

/-! ### slices.insertionSortOrdered[int]: function 74 -/
noncomputable def slices_insertionSortOrdered_int_code : Code := match Try.f74.body with | some c => c | none => .skip

/-- zsortordered.go:13 -/
def slices_insertionSortOrdered_int_r0 (env : Env) (h : Hp) (K : Env → Hp → Prop) : Prop :=
  rd Try.prog (bop Go.BinOp.add 3 (Go.Operand.tmp 8) (Go.Operand.const (Go.Value.int Go.IntKind.i64 1)) (env 1) (Go.Value.int Go.IntKind.i64 1)) noHp fun v9_1 =>
  K (((env.set 8 (env 1)).set 9 v9_1).set 6 v9_1) h
@[congr] theorem slices_insertionSortOrdered_int_r0_congr {env : Env} {h : Hp} {K : Env → Hp → Prop} : slices_insertionSortOrdered_int_r0 env h K = slices_insertionSortOrdered_int_r0 env h K := rfl

/-- zsortordered.go:13 -/
def slices_insertionSortOrdered_int_r1 (env : Env) (h : Hp) (K : Env → Hp → Prop) : Prop :=
  rd Try.prog (bop Go.BinOp.lss 3 (Go.Operand.tmp 10) (Go.Operand.tmp 11) (env 6) (env 2)) noHp fun v12_2 =>
  K (((env.set 10 (env 6)).set 11 (env 2)).set 12 v12_2) h
@[congr] theorem slices_insertionSortOrdered_int_r1_congr {env : Env} {h : Hp} {K : Env → Hp → Prop} : slices_insertionSortOrdered_int_r1 env h K = slices_insertionSortOrdered_int_r1 env h K := rfl

/-- zsortordered.go:14 -/
def slices_insertionSortOrdered_int_r2 (env : Env) (h : Hp) (K : Env → Hp → Prop) : Prop :=
  K ((env.set 15 (env 6)).set 7 (env 6)) h
@[congr] theorem slices_insertionSortOrdered_int_r2_congr {env : Env} {h : Hp} {K : Env → Hp → Prop} : slices_insertionSortOrdered_int_r2 env h K = slices_insertionSortOrdered_int_r2 env h K := rfl

/-- zsortordered.go:14 (in any order) -/
def slices_insertionSortOrdered_int_r3 (env : Env) (h : Hp) (K : Env → Hp → Prop) : Prop :=
  rd Try.prog (bop Go.BinOp.gtr 3 (Go.Operand.tmp 16) (Go.Operand.tmp 17) (env 7) (env 1)) noHp fun v18_2 =>
  gd (yb v18_2 == some true) (fun h k => k (env 0) h) h fun v20_4 h1 =>
  gd (yb v18_2 == some true) (fun h k => k (env 7) h) h1 fun v21_5 h2 =>
  gd (yb v18_2 == some true) (fun h k => rd Try.prog (Instr.indexAt 112 v20_4 v21_5) noHp fun v => k v h) h2 fun v22_6 h3 =>
  gd (yb v18_2 == some true) (fun h k => rd Try.prog (Instr.loadAt 3 v22_6) h fun v => k v h) h3 fun v23_7 h4 =>
  gd (yb v18_2 == some true) (fun h k => k (env 0) h) h4 fun v24_8 h5 =>
  gd (yb v18_2 == some true) (fun h k => k (env 7) h) h5 fun v25_9 h6 =>
  gd (yb v18_2 == some true) (fun h k => rd Try.prog (bop Go.BinOp.sub 3 (Go.Operand.tmp 25) (Go.Operand.const (Go.Value.int Go.IntKind.i64 1)) v25_9 (Go.Value.int Go.IntKind.i64 1)) noHp fun v => k v h) h6 fun v26_10 h7 =>
  gd (yb v18_2 == some true) (fun h k => rd Try.prog (Instr.indexAt 112 v24_8 v26_10) noHp fun v => k v h) h7 fun v27_11 h8 =>
  gd (yb v18_2 == some true) (fun h k => rd Try.prog (Instr.loadAt 3 v27_11) h fun v => k v h) h8 fun v28_12 h9 =>
  gd (yb v18_2 == some true) (fun h k => Ok Try.prog 80 #[v23_7, v28_12] h k) h9 fun v29_13 h10 =>
  (True) ∧
  rd Try.prog (pck v18_2 v29_13 (Go.Value.bool false)) noHp fun v30_14 =>
  K (((((((((((((((env.set 16 (env 7)).set 17 (env 1)).set 18 v18_2).set 19 v18_2).set 20 v20_4).set 21 v21_5).set 22 v22_6).set 23 v23_7).set 24 v24_8).set 25 v25_9).set 26 v26_10).set 27 v27_11).set 28 v28_12).set 29 v29_13).set 30 v30_14) h10
@[congr] theorem slices_insertionSortOrdered_int_r3_congr {env : Env} {h : Hp} {K : Env → Hp → Prop} : slices_insertionSortOrdered_int_r3 env h K = slices_insertionSortOrdered_int_r3 env h K := rfl

/-- zsortordered.go:15 (in any order) -/
def slices_insertionSortOrdered_int_r4 (env : Env) (h : Hp) (K : Env → Hp → Prop) : Prop :=
  rd Try.prog (bop Go.BinOp.sub 3 (Go.Operand.tmp 36) (Go.Operand.const (Go.Value.int Go.IntKind.i64 1)) (env 7) (Go.Value.int Go.IntKind.i64 1)) noHp fun v37_4 =>
  rd Try.prog (bop Go.BinOp.sub 3 (Go.Operand.tmp 39) (Go.Operand.const (Go.Value.int Go.IntKind.i64 1)) (env 7) (Go.Value.int Go.IntKind.i64 1)) noHp fun v40_7 =>
  rd Try.prog (Instr.indexAt 112 (env 0) v40_7) noHp fun v41_8 =>
  rd Try.prog (Instr.loadAt 3 v41_8) h fun v42_9 =>
  rd Try.prog (Instr.indexAt 112 (env 0) (env 7)) noHp fun v45_12 =>
  rd Try.prog (Instr.loadAt 3 v45_12) h fun v46_13 =>
  rd Try.prog (Instr.indexAt 112 (env 0) (env 7)) noHp fun v47_14 =>
  arun Try.prog (Instr.storeAt 3 v47_14 v42_9) h fun _ h1 =>
  (True) ∧
  rd Try.prog (Instr.indexAt 112 (env 0) v37_4) noHp fun v48_16 =>
  arun Try.prog (Instr.storeAt 3 v48_16 v46_13) h1 fun _ h2 =>
  (True) ∧
  K ((((((((((((((((env.set 33 (env 0)).set 34 (env 7)).set 35 (env 0)).set 36 (env 7)).set 37 v37_4).set 38 (env 0)).set 39 (env 7)).set 40 v40_7).set 41 v41_8).set 42 v42_9).set 43 (env 0)).set 44 (env 7)).set 45 v45_12).set 46 v46_13).set 47 v47_14).set 48 v48_16) h2
@[congr] theorem slices_insertionSortOrdered_int_r4_congr {env : Env} {h : Hp} {K : Env → Hp → Prop} : slices_insertionSortOrdered_int_r4 env h K = slices_insertionSortOrdered_int_r4 env h K := rfl

/-- zsortordered.go:14 -/
def slices_insertionSortOrdered_int_r5 (env : Env) (h : Hp) (K : Env → Hp → Prop) : Prop :=
  rd Try.prog (bop Go.BinOp.sub 3 (Go.Operand.tmp 31) (Go.Operand.const (Go.Value.int Go.IntKind.i64 1)) (env 7) (Go.Value.int Go.IntKind.i64 1)) noHp fun v32_1 =>
  K (((env.set 31 (env 7)).set 32 v32_1).set 7 v32_1) h
@[congr] theorem slices_insertionSortOrdered_int_r5_congr {env : Env} {h : Hp} {K : Env → Hp → Prop} : slices_insertionSortOrdered_int_r5 env h K = slices_insertionSortOrdered_int_r5 env h K := rfl

def slices_insertionSortOrdered_int_L0 : Den := (sq (sq (rg slices_insertionSortOrdered_int_r3) (cnd (Go.Operand.tmp 30) (ex .normal) (ex (.exit 2)))) (sq (blk 3 (rg slices_insertionSortOrdered_int_r4)) (rg slices_insertionSortOrdered_int_r5)))

/-- zsortordered.go:13 -/
def slices_insertionSortOrdered_int_r6 (env : Env) (h : Hp) (K : Env → Hp → Prop) : Prop :=
  rd Try.prog (bop Go.BinOp.add 3 (Go.Operand.tmp 13) (Go.Operand.const (Go.Value.int Go.IntKind.i64 1)) (env 6) (Go.Value.int Go.IntKind.i64 1)) noHp fun v14_1 =>
  K (((env.set 13 (env 6)).set 14 v14_1).set 6 v14_1) h
@[congr] theorem slices_insertionSortOrdered_int_r6_congr {env : Env} {h : Hp} {K : Env → Hp → Prop} : slices_insertionSortOrdered_int_r6 env h K = slices_insertionSortOrdered_int_r6 env h K := rfl

def slices_insertionSortOrdered_int_L1 : Den := (sq (sq (rg slices_insertionSortOrdered_int_r1) (cnd (Go.Operand.tmp 12) (ex .normal) (ex (.exit 0)))) (sq (blk 1 (sq (rg slices_insertionSortOrdered_int_r2) (blk 2 (lp slices_insertionSortOrdered_int_L0)))) (rg slices_insertionSortOrdered_int_r6)))

def slices_insertionSortOrdered_int_D : Den := (sq (rg slices_insertionSortOrdered_int_r0) (blk 0 (lp slices_insertionSortOrdered_int_L1)))

theorem slices_insertionSortOrdered_int_eq : (den Try.prog 49 slices_insertionSortOrdered_int_code).1 = slices_insertionSortOrdered_int_D := by kernel_rfl

theorem slices_insertionSortOrdered_int_ok {args : Array Value} {h : Hp} {Q : Value → Hp → Prop} (hn : args.size ≤ 49) (D : slices_insertionSortOrdered_int_D (fin Try.prog [] Q) (env0 args) h) : Ok Try.prog 74 args h Q :=
  ok_of_den progIsOk Try.func74 (c := slices_insertionSortOrdered_int_code) (by kernel_rfl) hn (by show (den Try.prog 49 slices_insertionSortOrdered_int_code).1 _ _ _; rw [slices_insertionSortOrdered_int_eq]; exact D)

end Go.Proofs.Ytpeoholnlokdcaa

/- Printed by wip/kit/gen.py: all formulas. -/
