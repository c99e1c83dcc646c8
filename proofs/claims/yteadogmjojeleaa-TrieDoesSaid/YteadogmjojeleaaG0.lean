/- Printed by wip/kit/gen.py out of the translation: formulas of Go functions, and that they are these functions'. -/
import Derived.Test.YteadogmjojeleaaM6
import Derived.Test.YteadogmjojeleaaChecked
namespace Go.Proofs.Yteadogmjojeleaa
open Go

set_option maxRecDepth 100000

theorem progIsOk : progOk Try.prog = true := by kernel_rfl

/-! ### octroi/octroilaw08.TrieRoot: function 3 -/
noncomputable def octroilaw08_TrieRoot_code : Code := match Try.f3.body with | some c => c | none => .skip

/-- more.go:10 -/
def octroilaw08_TrieRoot_r0 (env : Env) (h : Hp) (K : Env → Hp → Prop) : Prop :=
  K (env.set 6 (Go.Value.bool false)) h
@[congr] theorem octroilaw08_TrieRoot_r0_congr {env : Env} {h : Hp} {K : Env → Hp → Prop} : octroilaw08_TrieRoot_r0 env h K = octroilaw08_TrieRoot_r0 env h K := rfl

/-- more.go:11 -/
def octroilaw08_TrieRoot_r1 (env : Env) (h : Hp) (K : Env → Hp → Prop) : Prop :=
  Ok Try.prog 9 #[] h fun v14_0 h1 =>
  K ((env.set 14 v14_0).set 7 v14_0) h1
@[congr] theorem octroilaw08_TrieRoot_r1_congr {env : Env} {h : Hp} {K : Env → Hp → Prop} : octroilaw08_TrieRoot_r1 env h K = octroilaw08_TrieRoot_r1 env h K := rfl

/-- more.go:12 -/
def octroilaw08_TrieRoot_r2 (env : Env) (h : Hp) (K : Env → Hp → Prop) : Prop :=
  Ok Try.prog 10 #[(Go.Value.int Go.IntKind.i64 1000)] h fun v15_0 h1 =>
  K ((env.set 15 v15_0).set 8 v15_0) h1
@[congr] theorem octroilaw08_TrieRoot_r2_congr {env : Env} {h : Hp} {K : Env → Hp → Prop} : octroilaw08_TrieRoot_r2 env h K = octroilaw08_TrieRoot_r2 env h K := rfl

/-- more.go:13 -/
def octroilaw08_TrieRoot_r3 (env : Env) (h : Hp) (K : Env → Hp → Prop) : Prop :=
  rd Try.prog (Op.unary Go.UnOp.not (env 7)) noHp fun v17_1 =>
  gd (yb v17_1 == some false) (fun h k => k (env 8) h) h fun v19_3 h1 =>
  gd (yb v17_1 == some false) (fun h k => rd Try.prog (bop Go.BinOp.eql 25 (Go.Operand.tmp 19) (Go.Operand.const (Go.Value.pointer none)) v19_3 (Go.Value.pointer none)) noHp fun v => k v h) h1 fun v20_4 h2 =>
  rd Try.prog (pck v17_1 (Go.Value.bool true) v20_4) noHp fun v21_5 =>
  gd (yb v21_5 == some false) (fun h k => k (env 0) h) h2 fun v23_7 h3 =>
  gd (yb v21_5 == some false) (fun h k => rd Try.prog (Builtin.len_ #[22] 3 #[v23_7]) h fun v => k v h) h3 fun v24_8 h4 =>
  gd (yb v21_5 == some false) (fun h k => rd Try.prog (bop Go.BinOp.gtr 3 (Go.Operand.tmp 24) (Go.Operand.const (Go.Value.int Go.IntKind.i64 200)) v24_8 (Go.Value.int Go.IntKind.i64 200)) noHp fun v => k v h) h4 fun v25_9 h5 =>
  rd Try.prog (pck v21_5 (Go.Value.bool true) v25_9) noHp fun v26_10 =>
  K (((((((((((env.set 16 (env 7)).set 17 v17_1).set 18 v17_1).set 19 v19_3).set 20 v20_4).set 21 v21_5).set 22 v21_5).set 23 v23_7).set 24 v24_8).set 25 v25_9).set 26 v26_10) h5
@[congr] theorem octroilaw08_TrieRoot_r3_congr {env : Env} {h : Hp} {K : Env → Hp → Prop} : octroilaw08_TrieRoot_r3 env h K = octroilaw08_TrieRoot_r3 env h K := rfl

/-- more.go:14 -/
def octroilaw08_TrieRoot_r4 (env : Env) (h : Hp) (K : Env → Hp → Prop) : Prop :=
  gd (yb (env 7) == some true) (fun h k => k (env 8) h) h fun v29_2 h1 =>
  gd (yb (env 7) == some true) (fun h k => rd Try.prog (bop Go.BinOp.neq 25 (Go.Operand.tmp 29) (Go.Operand.const (Go.Value.pointer none)) v29_2 (Go.Value.pointer none)) noHp fun v => k v h) h1 fun v30_3 h2 =>
  rd Try.prog (pck (env 7) v30_3 (Go.Value.bool false)) noHp fun v31_4 =>
  K ((((((env.set 27 (env 7)).set 28 (env 7)).set 29 v29_2).set 30 v30_3).set 31 v31_4).set 6 v31_4) h2
@[congr] theorem octroilaw08_TrieRoot_r4_congr {env : Env} {h : Hp} {K : Env → Hp → Prop} : octroilaw08_TrieRoot_r4 env h K = octroilaw08_TrieRoot_r4 env h K := rfl

/-- more.go:16 -/
def octroilaw08_TrieRoot_r5 (env : Env) (h : Hp) (K : Env → Hp → Prop) : Prop :=
  K (env.set 9 (Go.Value.int Go.IntKind.i64 0)) h
@[congr] theorem octroilaw08_TrieRoot_r5_congr {env : Env} {h : Hp} {K : Env → Hp → Prop} : octroilaw08_TrieRoot_r5 env h K = octroilaw08_TrieRoot_r5 env h K := rfl

/-- more.go:16 -/
def octroilaw08_TrieRoot_r6 (env : Env) (h : Hp) (K : Env → Hp → Prop) : Prop :=
  rd Try.prog (Builtin.len_ #[22] 3 #[(env 0)]) h fun v34_2 =>
  rd Try.prog (bop Go.BinOp.lss 3 (Go.Operand.tmp 32) (Go.Operand.tmp 34) (env 9) v34_2) noHp fun v35_3 =>
  K ((((env.set 32 (env 9)).set 33 (env 0)).set 34 v34_2).set 35 v35_3) h
@[congr] theorem octroilaw08_TrieRoot_r6_congr {env : Env} {h : Hp} {K : Env → Hp → Prop} : octroilaw08_TrieRoot_r6 env h K = octroilaw08_TrieRoot_r6 env h K := rfl

/-- more.go:17 (in any order) -/
def octroilaw08_TrieRoot_r7 (env : Env) (h : Hp) (K : Env → Hp → Prop) : Prop :=
  rd Try.prog (Instr.indexAt 22 (env 0) (env 9)) noHp fun v41_3 =>
  rd Try.prog (Instr.fieldAt 32 v41_3 1) noHp fun v42_4 =>
  rd Try.prog (Instr.loadAt 30 v42_4) h fun v43_5 =>
  rd Try.prog (Instr.indexAt 22 (env 0) (env 9)) noHp fun v46_8 =>
  rd Try.prog (Instr.fieldAt 32 v46_8 2) noHp fun v47_9 =>
  rd Try.prog (Instr.loadAt 3 v47_9) h fun v48_10 =>
  Ok Try.prog 11 #[(env 8), v43_5, v48_10] h fun v49_11 h1 =>
  (True) ∧
  K ((((((((((((env.set 38 (env 8)).set 39 (env 0)).set 40 (env 9)).set 41 v41_3).set 42 v42_4).set 43 v43_5).set 44 (env 0)).set 45 (env 9)).set 46 v46_8).set 47 v47_9).set 48 v48_10).set 49 v49_11) h1
@[congr] theorem octroilaw08_TrieRoot_r7_congr {env : Env} {h : Hp} {K : Env → Hp → Prop} : octroilaw08_TrieRoot_r7 env h K = octroilaw08_TrieRoot_r7 env h K := rfl

/-- more.go:16 -/
def octroilaw08_TrieRoot_r8 (env : Env) (h : Hp) (K : Env → Hp → Prop) : Prop :=
  rd Try.prog (bop Go.BinOp.add 3 (Go.Operand.tmp 36) (Go.Operand.const (Go.Value.int Go.IntKind.i64 1)) (env 9) (Go.Value.int Go.IntKind.i64 1)) noHp fun v37_1 =>
  K (((env.set 36 (env 9)).set 37 v37_1).set 9 v37_1) h
@[congr] theorem octroilaw08_TrieRoot_r8_congr {env : Env} {h : Hp} {K : Env → Hp → Prop} : octroilaw08_TrieRoot_r8 env h K = octroilaw08_TrieRoot_r8 env h K := rfl

def octroilaw08_TrieRoot_L0 : Den := (sq (sq (rg octroilaw08_TrieRoot_r6) (cnd (Go.Operand.tmp 35) (ex .normal) (ex (.exit 0)))) (sq (blk 1 (rg octroilaw08_TrieRoot_r7)) (rg octroilaw08_TrieRoot_r8)))

/-- more.go:19 -/
def octroilaw08_TrieRoot_r9 (env : Env) (h : Hp) (K : Env → Hp → Prop) : Prop :=
  rd Try.prog (Instr.build 30 #[]) noHp fun v51_1 =>
  Ok Try.prog 11 #[(env 8), v51_1, (env 1)] h fun v53_3 h1 =>
  K (((((env.set 50 (env 8)).set 51 v51_1).set 52 (env 1)).set 53 v53_3).set 10 v53_3) h1
@[congr] theorem octroilaw08_TrieRoot_r9_congr {env : Env} {h : Hp} {K : Env → Hp → Prop} : octroilaw08_TrieRoot_r9 env h K = octroilaw08_TrieRoot_r9 env h K := rfl

/-- more.go:20 -/
def octroilaw08_TrieRoot_r10 (env : Env) (h : Hp) (K : Env → Hp → Prop) : Prop :=
  Ok Try.prog 12 #[(env 8), (env 2)] h fun v57_2 h1 =>
  rd Try.prog (Instr.extract v57_2 0) noHp fun v58_4 =>
  rd Try.prog (Instr.extract v57_2 1) noHp fun v59_5 =>
  rd Try.prog (Instr.extract v57_2 2) noHp fun v60_6 =>
  arun Try.prog (Instr.alloc 30 true (Go.Value.tuple #[])) h1 fun v11_7 h2 =>
  arun Try.prog (Instr.storeAt 30 v11_7 v58_4) h2 fun _ h3 =>
  K ((((((((((env.set 55 (env 8)).set 56 (env 2)).set 57 v57_2).set 54 v57_2).set 58 v58_4).set 59 v59_5).set 60 v60_6).set 11 v11_7).set 12 v59_5).set 13 v60_6) h3
@[congr] theorem octroilaw08_TrieRoot_r10_congr {env : Env} {h : Hp} {K : Env → Hp → Prop} : octroilaw08_TrieRoot_r10 env h K = octroilaw08_TrieRoot_r10 env h K := rfl

/-- more.go:21 -/
def octroilaw08_TrieRoot_r11 (env : Env) (h : Hp) (K : Env → Hp → Prop) : Prop :=
  rd Try.prog (bop Go.BinOp.neq 27 (Go.Operand.tmp 61) (Go.Operand.const (Go.Value.int Go.IntKind.i64 0)) (env 10) (Go.Value.int Go.IntKind.i64 0)) noHp fun v62_1 =>
  gd (yb v62_1 == some false) (fun h k => k (env 13) h) h fun v64_3 h1 =>
  gd (yb v62_1 == some false) (fun h k => rd Try.prog (Op.unary Go.UnOp.not v64_3) noHp fun v => k v h) h1 fun v65_4 h2 =>
  rd Try.prog (pck v62_1 (Go.Value.bool true) v65_4) noHp fun v66_5 =>
  K ((((((env.set 61 (env 10)).set 62 v62_1).set 63 v62_1).set 64 v64_3).set 65 v65_4).set 66 v66_5) h2
@[congr] theorem octroilaw08_TrieRoot_r11_congr {env : Env} {h : Hp} {K : Env → Hp → Prop} : octroilaw08_TrieRoot_r11 env h K = octroilaw08_TrieRoot_r11 env h K := rfl

/-- more.go:22 -/
def octroilaw08_TrieRoot_r12 (env : Env) (h : Hp) (K : Env → Hp → Prop) : Prop :=
  K (env.set 6 (Go.Value.bool false)) h
@[congr] theorem octroilaw08_TrieRoot_r12_congr {env : Env} {h : Hp} {K : Env → Hp → Prop} : octroilaw08_TrieRoot_r12 env h K = octroilaw08_TrieRoot_r12 env h K := rfl

/-- more.go:24 -/
def octroilaw08_TrieRoot_r13 (env : Env) (h : Hp) (K : Env → Hp → Prop) : Prop :=
  rd Try.prog (Instr.fieldAt 30 (env 11) 1) noHp fun v67_0 =>
  rd Try.prog (Instr.loadAt 3 v67_0) h fun v68_1 =>
  rd Try.prog (bop Go.BinOp.gtr 3 (Go.Operand.tmp 68) (Go.Operand.const (Go.Value.int Go.IntKind.i64 0)) v68_1 (Go.Value.int Go.IntKind.i64 0)) noHp fun v69_2 =>
  gd (yb v69_2 == some true) (fun h k => rd Try.prog (Instr.loadAt 30 (env 11)) h fun v => k v h) h fun v71_4 h1 =>
  gd (yb v69_2 == some true) (fun h k => k (env 2) h) h1 fun v72_5 h2 =>
  gd (yb v69_2 == some true) (fun h k => Ok Try.prog 13 #[v71_4, v72_5] h k) h2 fun v73_6 h3 =>
  rd Try.prog (pck v69_2 v73_6 (Go.Value.bool false)) noHp fun v74_7 =>
  gd (yb v74_7 == some false) (fun h k => rd Try.prog (Instr.loadAt 30 (env 11)) h fun v => k v h) h3 fun v76_9 h4 =>
  gd (yb v74_7 == some false) (fun h k => rd Try.prog (Instr.build 30 #[]) noHp fun v => k v h) h4 fun v77_10 h5 =>
  gd (yb v74_7 == some false) (fun h k => rd Try.prog (bop Go.BinOp.eql 30 (Go.Operand.tmp 76) (Go.Operand.tmp 77) v76_9 v77_10) noHp fun v => k v h) h5 fun v78_11 h6 =>
  gd (yb v74_7 == some false) (fun h k => k v78_11 h) h6 fun v79_12 h7 =>
  gd (yb v79_12 == some true) (fun h k => k (env 12) h) h7 fun v80_13 h8 =>
  gd (yb v79_12 == some true) (fun h k => k (env 1) h) h8 fun v81_14 h9 =>
  gd (yb v79_12 == some true) (fun h k => rd Try.prog (bop Go.BinOp.eql 3 (Go.Operand.tmp 80) (Go.Operand.tmp 81) v80_13 v81_14) noHp fun v => k v h) h9 fun v82_15 h10 =>
  gd (yb v74_7 == some false) (fun h k => rd Try.prog (pck v79_12 v82_15 (Go.Value.bool false)) noHp fun v => k v h) h10 fun v83_16 h11 =>
  rd Try.prog (pck v74_7 (Go.Value.bool true) v83_16) noHp fun v84_17 =>
  K (((((((((((((((((((env.set 67 v67_0).set 68 v68_1).set 69 v69_2).set 70 v69_2).set 71 v71_4).set 72 v72_5).set 73 v73_6).set 74 v74_7).set 75 v74_7).set 76 v76_9).set 77 v77_10).set 78 v78_11).set 79 v79_12).set 80 v80_13).set 81 v81_14).set 82 v82_15).set 83 v83_16).set 84 v84_17).set 6 v84_17) h11
@[congr] theorem octroilaw08_TrieRoot_r13_congr {env : Env} {h : Hp} {K : Env → Hp → Prop} : octroilaw08_TrieRoot_r13 env h K = octroilaw08_TrieRoot_r13 env h K := rfl

def octroilaw08_TrieRoot_D : Den := (sq (rg octroilaw08_TrieRoot_r0) (sq (rg octroilaw08_TrieRoot_r1) (sq (rg octroilaw08_TrieRoot_r2) (sq (sq (rg octroilaw08_TrieRoot_r3) (cnd (Go.Operand.tmp 26) (sq (rg octroilaw08_TrieRoot_r4) (ex .ret)) (ex .normal))) (sq (sq (rg octroilaw08_TrieRoot_r5) (blk 0 (lp octroilaw08_TrieRoot_L0))) (sq (rg octroilaw08_TrieRoot_r9) (sq (rg octroilaw08_TrieRoot_r10) (sq (sq (rg octroilaw08_TrieRoot_r11) (cnd (Go.Operand.tmp 66) (sq (rg octroilaw08_TrieRoot_r12) (ex .ret)) (ex .normal))) (sq (rg octroilaw08_TrieRoot_r13) (ex .ret))))))))))

theorem octroilaw08_TrieRoot_eq : (den Try.prog 85 octroilaw08_TrieRoot_code).1 = octroilaw08_TrieRoot_D := by kernel_rfl

theorem octroilaw08_TrieRoot_ok {args : Array Value} {h : Hp} {Q : Value → Hp → Prop} (hn : args.size ≤ 85) (D : octroilaw08_TrieRoot_D (fin Try.prog [(Go.ResultVar.tmp 6)] Q) (env0 args) h) : Ok Try.prog 3 args h Q :=
  ok_of_den progIsOk Try.func3 (c := octroilaw08_TrieRoot_code) (by kernel_rfl) hn (by show (den Try.prog 85 octroilaw08_TrieRoot_code).1 _ _ _; rw [octroilaw08_TrieRoot_eq]; exact D)

/-! ### octroi/octroilaw08.TrieOrder: function 4 -/
noncomputable def octroilaw08_TrieOrder_code : Code := match Try.f4.body with | some c => c | none => .skip

/-- law.go:127 -/
def octroilaw08_TrieOrder_r0 (env : Env) (h : Hp) (K : Env → Hp → Prop) : Prop :=
  K (env.set 4 (Go.Value.bool false)) h
@[congr] theorem octroilaw08_TrieOrder_r0_congr {env : Env} {h : Hp} {K : Env → Hp → Prop} : octroilaw08_TrieOrder_r0 env h K = octroilaw08_TrieOrder_r0 env h K := rfl

/-- law.go:128 -/
def octroilaw08_TrieOrder_r1 (env : Env) (h : Hp) (K : Env → Hp → Prop) : Prop :=
  Ok Try.prog 9 #[] h fun v19_0 h1 =>
  K ((env.set 19 v19_0).set 5 v19_0) h1
@[congr] theorem octroilaw08_TrieOrder_r1_congr {env : Env} {h : Hp} {K : Env → Hp → Prop} : octroilaw08_TrieOrder_r1 env h K = octroilaw08_TrieOrder_r1 env h K := rfl

/-- law.go:129 -/
def octroilaw08_TrieOrder_r2 (env : Env) (h : Hp) (K : Env → Hp → Prop) : Prop :=
  Ok Try.prog 10 #[(Go.Value.int Go.IntKind.i64 1000)] h fun v20_0 h1 =>
  K ((env.set 20 v20_0).set 6 v20_0) h1
@[congr] theorem octroilaw08_TrieOrder_r2_congr {env : Env} {h : Hp} {K : Env → Hp → Prop} : octroilaw08_TrieOrder_r2 env h K = octroilaw08_TrieOrder_r2 env h K := rfl

/-- law.go:130 -/
def octroilaw08_TrieOrder_r3 (env : Env) (h : Hp) (K : Env → Hp → Prop) : Prop :=
  Ok Try.prog 10 #[(Go.Value.int Go.IntKind.i64 1000)] h fun v21_0 h1 =>
  K ((env.set 21 v21_0).set 7 v21_0) h1
@[congr] theorem octroilaw08_TrieOrder_r3_congr {env : Env} {h : Hp} {K : Env → Hp → Prop} : octroilaw08_TrieOrder_r3 env h K = octroilaw08_TrieOrder_r3 env h K := rfl

/-- law.go:131 -/
def octroilaw08_TrieOrder_r4 (env : Env) (h : Hp) (K : Env → Hp → Prop) : Prop :=
  rd Try.prog (Op.unary Go.UnOp.not (env 5)) noHp fun v23_1 =>
  gd (yb v23_1 == some false) (fun h k => k (env 6) h) h fun v25_3 h1 =>
  gd (yb v23_1 == some false) (fun h k => rd Try.prog (bop Go.BinOp.eql 25 (Go.Operand.tmp 25) (Go.Operand.const (Go.Value.pointer none)) v25_3 (Go.Value.pointer none)) noHp fun v => k v h) h1 fun v26_4 h2 =>
  rd Try.prog (pck v23_1 (Go.Value.bool true) v26_4) noHp fun v27_5 =>
  gd (yb v27_5 == some false) (fun h k => k (env 7) h) h2 fun v29_7 h3 =>
  gd (yb v27_5 == some false) (fun h k => rd Try.prog (bop Go.BinOp.eql 25 (Go.Operand.tmp 29) (Go.Operand.const (Go.Value.pointer none)) v29_7 (Go.Value.pointer none)) noHp fun v => k v h) h3 fun v30_8 h4 =>
  rd Try.prog (pck v27_5 (Go.Value.bool true) v30_8) noHp fun v31_9 =>
  gd (yb v31_9 == some false) (fun h k => k (env 0) h) h4 fun v33_11 h5 =>
  gd (yb v31_9 == some false) (fun h k => rd Try.prog (Builtin.len_ #[22] 3 #[v33_11]) h fun v => k v h) h5 fun v34_12 h6 =>
  gd (yb v31_9 == some false) (fun h k => rd Try.prog (bop Go.BinOp.gtr 3 (Go.Operand.tmp 34) (Go.Operand.const (Go.Value.int Go.IntKind.i64 200)) v34_12 (Go.Value.int Go.IntKind.i64 200)) noHp fun v => k v h) h6 fun v35_13 h7 =>
  rd Try.prog (pck v31_9 (Go.Value.bool true) v35_13) noHp fun v36_14 =>
  K (((((((((((((((env.set 22 (env 5)).set 23 v23_1).set 24 v23_1).set 25 v25_3).set 26 v26_4).set 27 v27_5).set 28 v27_5).set 29 v29_7).set 30 v30_8).set 31 v31_9).set 32 v31_9).set 33 v33_11).set 34 v34_12).set 35 v35_13).set 36 v36_14) h7
@[congr] theorem octroilaw08_TrieOrder_r4_congr {env : Env} {h : Hp} {K : Env → Hp → Prop} : octroilaw08_TrieOrder_r4 env h K = octroilaw08_TrieOrder_r4 env h K := rfl

/-- law.go:132 -/
def octroilaw08_TrieOrder_r5 (env : Env) (h : Hp) (K : Env → Hp → Prop) : Prop :=
  gd (yb (env 5) == some true) (fun h k => k (env 6) h) h fun v39_2 h1 =>
  gd (yb (env 5) == some true) (fun h k => rd Try.prog (bop Go.BinOp.neq 25 (Go.Operand.tmp 39) (Go.Operand.const (Go.Value.pointer none)) v39_2 (Go.Value.pointer none)) noHp fun v => k v h) h1 fun v40_3 h2 =>
  rd Try.prog (pck (env 5) v40_3 (Go.Value.bool false)) noHp fun v41_4 =>
  gd (yb v41_4 == some true) (fun h k => k (env 7) h) h2 fun v43_6 h3 =>
  gd (yb v41_4 == some true) (fun h k => rd Try.prog (bop Go.BinOp.neq 25 (Go.Operand.tmp 43) (Go.Operand.const (Go.Value.pointer none)) v43_6 (Go.Value.pointer none)) noHp fun v => k v h) h3 fun v44_7 h4 =>
  rd Try.prog (pck v41_4 v44_7 (Go.Value.bool false)) noHp fun v45_8 =>
  K ((((((((((env.set 37 (env 5)).set 38 (env 5)).set 39 v39_2).set 40 v40_3).set 41 v41_4).set 42 v41_4).set 43 v43_6).set 44 v44_7).set 45 v45_8).set 4 v45_8) h4
@[congr] theorem octroilaw08_TrieOrder_r5_congr {env : Env} {h : Hp} {K : Env → Hp → Prop} : octroilaw08_TrieOrder_r5 env h K = octroilaw08_TrieOrder_r5 env h K := rfl

/-- law.go:134 -/
def octroilaw08_TrieOrder_r6 (env : Env) (h : Hp) (K : Env → Hp → Prop) : Prop :=
  K (env.set 8 (Go.Value.int Go.IntKind.i64 0)) h
@[congr] theorem octroilaw08_TrieOrder_r6_congr {env : Env} {h : Hp} {K : Env → Hp → Prop} : octroilaw08_TrieOrder_r6 env h K = octroilaw08_TrieOrder_r6 env h K := rfl

/-- law.go:134 -/
def octroilaw08_TrieOrder_r7 (env : Env) (h : Hp) (K : Env → Hp → Prop) : Prop :=
  rd Try.prog (Builtin.len_ #[22] 3 #[(env 0)]) h fun v48_2 =>
  rd Try.prog (bop Go.BinOp.lss 3 (Go.Operand.tmp 46) (Go.Operand.tmp 48) (env 8) v48_2) noHp fun v49_3 =>
  K ((((env.set 46 (env 8)).set 47 (env 0)).set 48 v48_2).set 49 v49_3) h
@[congr] theorem octroilaw08_TrieOrder_r7_congr {env : Env} {h : Hp} {K : Env → Hp → Prop} : octroilaw08_TrieOrder_r7 env h K = octroilaw08_TrieOrder_r7 env h K := rfl

/-- law.go:135 (in any order) -/
def octroilaw08_TrieOrder_r8 (env : Env) (h : Hp) (K : Env → Hp → Prop) : Prop :=
  rd Try.prog (Instr.indexAt 22 (env 0) (env 8)) noHp fun v55_3 =>
  rd Try.prog (Instr.fieldAt 32 v55_3 1) noHp fun v56_4 =>
  rd Try.prog (Instr.loadAt 30 v56_4) h fun v57_5 =>
  rd Try.prog (Instr.indexAt 22 (env 0) (env 8)) noHp fun v60_8 =>
  rd Try.prog (Instr.fieldAt 32 v60_8 1) noHp fun v61_9 =>
  rd Try.prog (Instr.fieldAt 30 v61_9 1) noHp fun v62_10 =>
  rd Try.prog (Instr.loadAt 3 v62_10) h fun v63_11 =>
  Ok Try.prog 11 #[(env 6), v57_5, v63_11] h fun v64_12 h1 =>
  (True) ∧
  K (((((((((((((env.set 52 (env 6)).set 53 (env 0)).set 54 (env 8)).set 55 v55_3).set 56 v56_4).set 57 v57_5).set 58 (env 0)).set 59 (env 8)).set 60 v60_8).set 61 v61_9).set 62 v62_10).set 63 v63_11).set 64 v64_12) h1
@[congr] theorem octroilaw08_TrieOrder_r8_congr {env : Env} {h : Hp} {K : Env → Hp → Prop} : octroilaw08_TrieOrder_r8 env h K = octroilaw08_TrieOrder_r8 env h K := rfl

/-- law.go:134 -/
def octroilaw08_TrieOrder_r9 (env : Env) (h : Hp) (K : Env → Hp → Prop) : Prop :=
  rd Try.prog (bop Go.BinOp.add 3 (Go.Operand.tmp 50) (Go.Operand.const (Go.Value.int Go.IntKind.i64 1)) (env 8) (Go.Value.int Go.IntKind.i64 1)) noHp fun v51_1 =>
  K (((env.set 50 (env 8)).set 51 v51_1).set 8 v51_1) h
@[congr] theorem octroilaw08_TrieOrder_r9_congr {env : Env} {h : Hp} {K : Env → Hp → Prop} : octroilaw08_TrieOrder_r9 env h K = octroilaw08_TrieOrder_r9 env h K := rfl

def octroilaw08_TrieOrder_L0 : Den := (sq (sq (rg octroilaw08_TrieOrder_r7) (cnd (Go.Operand.tmp 49) (ex .normal) (ex (.exit 0)))) (sq (blk 1 (rg octroilaw08_TrieOrder_r8)) (rg octroilaw08_TrieOrder_r9)))

/-- law.go:137 -/
def octroilaw08_TrieOrder_r10 (env : Env) (h : Hp) (K : Env → Hp → Prop) : Prop :=
  rd Try.prog (Builtin.len_ #[22] 3 #[(env 0)]) h fun v66_1 =>
  rd Try.prog (bop Go.BinOp.sub 3 (Go.Operand.tmp 66) (Go.Operand.const (Go.Value.int Go.IntKind.i64 1)) v66_1 (Go.Value.int Go.IntKind.i64 1)) noHp fun v67_2 =>
  K ((((env.set 65 (env 0)).set 66 v66_1).set 67 v67_2).set 9 v67_2) h
@[congr] theorem octroilaw08_TrieOrder_r10_congr {env : Env} {h : Hp} {K : Env → Hp → Prop} : octroilaw08_TrieOrder_r10 env h K = octroilaw08_TrieOrder_r10 env h K := rfl

/-- law.go:137 -/
def octroilaw08_TrieOrder_r11 (env : Env) (h : Hp) (K : Env → Hp → Prop) : Prop :=
  rd Try.prog (bop Go.BinOp.geq 3 (Go.Operand.tmp 68) (Go.Operand.const (Go.Value.int Go.IntKind.i64 0)) (env 9) (Go.Value.int Go.IntKind.i64 0)) noHp fun v69_1 =>
  K ((env.set 68 (env 9)).set 69 v69_1) h
@[congr] theorem octroilaw08_TrieOrder_r11_congr {env : Env} {h : Hp} {K : Env → Hp → Prop} : octroilaw08_TrieOrder_r11 env h K = octroilaw08_TrieOrder_r11 env h K := rfl

/-- law.go:138 (in any order) -/
def octroilaw08_TrieOrder_r12 (env : Env) (h : Hp) (K : Env → Hp → Prop) : Prop :=
  rd Try.prog (Instr.indexAt 22 (env 0) (env 9)) noHp fun v75_3 =>
  rd Try.prog (Instr.fieldAt 32 v75_3 1) noHp fun v76_4 =>
  rd Try.prog (Instr.loadAt 30 v76_4) h fun v77_5 =>
  rd Try.prog (Instr.indexAt 22 (env 0) (env 9)) noHp fun v80_8 =>
  rd Try.prog (Instr.fieldAt 32 v80_8 1) noHp fun v81_9 =>
  rd Try.prog (Instr.fieldAt 30 v81_9 1) noHp fun v82_10 =>
  rd Try.prog (Instr.loadAt 3 v82_10) h fun v83_11 =>
  Ok Try.prog 11 #[(env 7), v77_5, v83_11] h fun v84_12 h1 =>
  (True) ∧
  K (((((((((((((env.set 72 (env 7)).set 73 (env 0)).set 74 (env 9)).set 75 v75_3).set 76 v76_4).set 77 v77_5).set 78 (env 0)).set 79 (env 9)).set 80 v80_8).set 81 v81_9).set 82 v82_10).set 83 v83_11).set 84 v84_12) h1
@[congr] theorem octroilaw08_TrieOrder_r12_congr {env : Env} {h : Hp} {K : Env → Hp → Prop} : octroilaw08_TrieOrder_r12 env h K = octroilaw08_TrieOrder_r12 env h K := rfl

/-- law.go:137 -/
def octroilaw08_TrieOrder_r13 (env : Env) (h : Hp) (K : Env → Hp → Prop) : Prop :=
  rd Try.prog (bop Go.BinOp.sub 3 (Go.Operand.tmp 70) (Go.Operand.const (Go.Value.int Go.IntKind.i64 1)) (env 9) (Go.Value.int Go.IntKind.i64 1)) noHp fun v71_1 =>
  K (((env.set 70 (env 9)).set 71 v71_1).set 9 v71_1) h
@[congr] theorem octroilaw08_TrieOrder_r13_congr {env : Env} {h : Hp} {K : Env → Hp → Prop} : octroilaw08_TrieOrder_r13 env h K = octroilaw08_TrieOrder_r13 env h K := rfl

def octroilaw08_TrieOrder_L1 : Den := (sq (sq (rg octroilaw08_TrieOrder_r11) (cnd (Go.Operand.tmp 69) (ex .normal) (ex (.exit 2)))) (sq (blk 3 (rg octroilaw08_TrieOrder_r12)) (rg octroilaw08_TrieOrder_r13)))

/-- law.go:140 -/
def octroilaw08_TrieOrder_r14 (env : Env) (h : Hp) (K : Env → Hp → Prop) : Prop :=
  Ok Try.prog 14 #[(env 6)] h fun v86_1 h1 =>
  K (((env.set 85 (env 6)).set 86 v86_1).set 10 v86_1) h1
@[congr] theorem octroilaw08_TrieOrder_r14_congr {env : Env} {h : Hp} {K : Env → Hp → Prop} : octroilaw08_TrieOrder_r14 env h K = octroilaw08_TrieOrder_r14 env h K := rfl

/-- law.go:141 -/
def octroilaw08_TrieOrder_r15 (env : Env) (h : Hp) (K : Env → Hp → Prop) : Prop :=
  Ok Try.prog 14 #[(env 7)] h fun v88_1 h1 =>
  K (((env.set 87 (env 7)).set 88 v88_1).set 11 v88_1) h1
@[congr] theorem octroilaw08_TrieOrder_r15_congr {env : Env} {h : Hp} {K : Env → Hp → Prop} : octroilaw08_TrieOrder_r15 env h K = octroilaw08_TrieOrder_r15 env h K := rfl

/-- law.go:142 -/
def octroilaw08_TrieOrder_r16 (env : Env) (h : Hp) (K : Env → Hp → Prop) : Prop :=
  rd Try.prog (Builtin.len_ #[37] 3 #[(env 10)]) h fun v90_1 =>
  rd Try.prog (Builtin.len_ #[37] 3 #[(env 11)]) h fun v92_3 =>
  rd Try.prog (bop Go.BinOp.neq 3 (Go.Operand.tmp 90) (Go.Operand.tmp 92) v90_1 v92_3) noHp fun v93_4 =>
  K (((((env.set 89 (env 10)).set 90 v90_1).set 91 (env 11)).set 92 v92_3).set 93 v93_4) h
@[congr] theorem octroilaw08_TrieOrder_r16_congr {env : Env} {h : Hp} {K : Env → Hp → Prop} : octroilaw08_TrieOrder_r16 env h K = octroilaw08_TrieOrder_r16 env h K := rfl

/-- law.go:143 -/
def octroilaw08_TrieOrder_r17 (env : Env) (h : Hp) (K : Env → Hp → Prop) : Prop :=
  K (env.set 4 (Go.Value.bool false)) h
@[congr] theorem octroilaw08_TrieOrder_r17_congr {env : Env} {h : Hp} {K : Env → Hp → Prop} : octroilaw08_TrieOrder_r17 env h K = octroilaw08_TrieOrder_r17 env h K := rfl

/-- law.go:145 -/
def octroilaw08_TrieOrder_r18 (env : Env) (h : Hp) (K : Env → Hp → Prop) : Prop :=
  K (env.set 12 (Go.Value.int Go.IntKind.i64 0)) h
@[congr] theorem octroilaw08_TrieOrder_r18_congr {env : Env} {h : Hp} {K : Env → Hp → Prop} : octroilaw08_TrieOrder_r18 env h K = octroilaw08_TrieOrder_r18 env h K := rfl

/-- law.go:145 -/
def octroilaw08_TrieOrder_r19 (env : Env) (h : Hp) (K : Env → Hp → Prop) : Prop :=
  rd Try.prog (Builtin.len_ #[37] 3 #[(env 10)]) h fun v96_2 =>
  rd Try.prog (bop Go.BinOp.lss 3 (Go.Operand.tmp 94) (Go.Operand.tmp 96) (env 12) v96_2) noHp fun v97_3 =>
  K ((((env.set 94 (env 12)).set 95 (env 10)).set 96 v96_2).set 97 v97_3) h
@[congr] theorem octroilaw08_TrieOrder_r19_congr {env : Env} {h : Hp} {K : Env → Hp → Prop} : octroilaw08_TrieOrder_r19 env h K = octroilaw08_TrieOrder_r19 env h K := rfl

/-- law.go:146 (in any order) -/
def octroilaw08_TrieOrder_r20 (env : Env) (h : Hp) (K : Env → Hp → Prop) : Prop :=
  rd Try.prog (Instr.indexAt 37 (env 10) (env 12)) noHp fun v102_2 =>
  rd Try.prog (Instr.loadAt 30 v102_2) h fun v103_3 =>
  rd Try.prog (Instr.indexAt 37 (env 11) (env 12)) noHp fun v106_6 =>
  rd Try.prog (Instr.loadAt 30 v106_6) h fun v107_7 =>
  rd Try.prog (bop Go.BinOp.neq 30 (Go.Operand.tmp 103) (Go.Operand.tmp 107) v103_3 v107_7) noHp fun v108_8 =>
  K (((((((((env.set 100 (env 10)).set 101 (env 12)).set 102 v102_2).set 103 v103_3).set 104 (env 11)).set 105 (env 12)).set 106 v106_6).set 107 v107_7).set 108 v108_8) h
@[congr] theorem octroilaw08_TrieOrder_r20_congr {env : Env} {h : Hp} {K : Env → Hp → Prop} : octroilaw08_TrieOrder_r20 env h K = octroilaw08_TrieOrder_r20 env h K := rfl

/-- law.go:147 -/
def octroilaw08_TrieOrder_r21 (env : Env) (h : Hp) (K : Env → Hp → Prop) : Prop :=
  K (env.set 4 (Go.Value.bool false)) h
@[congr] theorem octroilaw08_TrieOrder_r21_congr {env : Env} {h : Hp} {K : Env → Hp → Prop} : octroilaw08_TrieOrder_r21 env h K = octroilaw08_TrieOrder_r21 env h K := rfl

/-- law.go:145 -/
def octroilaw08_TrieOrder_r22 (env : Env) (h : Hp) (K : Env → Hp → Prop) : Prop :=
  rd Try.prog (bop Go.BinOp.add 3 (Go.Operand.tmp 98) (Go.Operand.const (Go.Value.int Go.IntKind.i64 1)) (env 12) (Go.Value.int Go.IntKind.i64 1)) noHp fun v99_1 =>
  K (((env.set 98 (env 12)).set 99 v99_1).set 12 v99_1) h
@[congr] theorem octroilaw08_TrieOrder_r22_congr {env : Env} {h : Hp} {K : Env → Hp → Prop} : octroilaw08_TrieOrder_r22 env h K = octroilaw08_TrieOrder_r22 env h K := rfl

def octroilaw08_TrieOrder_L2 : Den := (sq (sq (rg octroilaw08_TrieOrder_r19) (cnd (Go.Operand.tmp 97) (ex .normal) (ex (.exit 4)))) (sq (blk 5 (sq (rg octroilaw08_TrieOrder_r20) (cnd (Go.Operand.tmp 108) (sq (rg octroilaw08_TrieOrder_r21) (ex .ret)) (ex .normal)))) (rg octroilaw08_TrieOrder_r22)))

/-- law.go:150 -/
def octroilaw08_TrieOrder_r23 (env : Env) (h : Hp) (K : Env → Hp → Prop) : Prop :=
  Ok Try.prog 12 #[(env 6), (env 1)] h fun v112_2 h1 =>
  rd Try.prog (Instr.extract v112_2 0) noHp fun v113_4 =>
  rd Try.prog (Instr.extract v112_2 1) noHp fun v114_5 =>
  rd Try.prog (Instr.extract v112_2 2) noHp fun v115_6 =>
  arun Try.prog (Instr.alloc 30 true (Go.Value.tuple #[])) h1 fun v13_7 h2 =>
  arun Try.prog (Instr.storeAt 30 v13_7 v113_4) h2 fun _ h3 =>
  K ((((((((((env.set 110 (env 6)).set 111 (env 1)).set 112 v112_2).set 109 v112_2).set 113 v113_4).set 114 v114_5).set 115 v115_6).set 13 v13_7).set 14 v114_5).set 15 v115_6) h3
@[congr] theorem octroilaw08_TrieOrder_r23_congr {env : Env} {h : Hp} {K : Env → Hp → Prop} : octroilaw08_TrieOrder_r23 env h K = octroilaw08_TrieOrder_r23 env h K := rfl

/-- law.go:151 -/
def octroilaw08_TrieOrder_r24 (env : Env) (h : Hp) (K : Env → Hp → Prop) : Prop :=
  Ok Try.prog 12 #[(env 7), (env 1)] h fun v119_2 h1 =>
  rd Try.prog (Instr.extract v119_2 0) noHp fun v120_4 =>
  rd Try.prog (Instr.extract v119_2 1) noHp fun v121_5 =>
  rd Try.prog (Instr.extract v119_2 2) noHp fun v122_6 =>
  arun Try.prog (Instr.alloc 30 true (Go.Value.tuple #[])) h1 fun v16_7 h2 =>
  arun Try.prog (Instr.storeAt 30 v16_7 v120_4) h2 fun _ h3 =>
  K ((((((((((env.set 117 (env 7)).set 118 (env 1)).set 119 v119_2).set 116 v119_2).set 120 v120_4).set 121 v121_5).set 122 v122_6).set 16 v16_7).set 17 v121_5).set 18 v122_6) h3
@[congr] theorem octroilaw08_TrieOrder_r24_congr {env : Env} {h : Hp} {K : Env → Hp → Prop} : octroilaw08_TrieOrder_r24 env h K = octroilaw08_TrieOrder_r24 env h K := rfl

/-- law.go:152 -/
def octroilaw08_TrieOrder_r25 (env : Env) (h : Hp) (K : Env → Hp → Prop) : Prop :=
  rd Try.prog (Instr.loadAt 30 (env 13)) h fun v123_0 =>
  rd Try.prog (Instr.loadAt 30 (env 16)) h fun v124_1 =>
  rd Try.prog (bop Go.BinOp.eql 30 (Go.Operand.tmp 123) (Go.Operand.tmp 124) v123_0 v124_1) noHp fun v125_2 =>
  gd (yb v125_2 == some true) (fun h k => k (env 14) h) h fun v127_4 h1 =>
  gd (yb v125_2 == some true) (fun h k => k (env 17) h) h1 fun v128_5 h2 =>
  gd (yb v125_2 == some true) (fun h k => rd Try.prog (bop Go.BinOp.eql 3 (Go.Operand.tmp 127) (Go.Operand.tmp 128) v127_4 v128_5) noHp fun v => k v h) h2 fun v129_6 h3 =>
  rd Try.prog (pck v125_2 v129_6 (Go.Value.bool false)) noHp fun v130_7 =>
  gd (yb v130_7 == some true) (fun h k => k (env 15) h) h3 fun v132_9 h4 =>
  gd (yb v130_7 == some true) (fun h k => k (env 18) h) h4 fun v133_10 h5 =>
  gd (yb v130_7 == some true) (fun h k => rd Try.prog (bop Go.BinOp.eql 4 (Go.Operand.tmp 132) (Go.Operand.tmp 133) v132_9 v133_10) noHp fun v => k v h) h5 fun v134_11 h6 =>
  rd Try.prog (pck v130_7 v134_11 (Go.Value.bool false)) noHp fun v135_12 =>
  K ((((((((((((((env.set 123 v123_0).set 124 v124_1).set 125 v125_2).set 126 v125_2).set 127 v127_4).set 128 v128_5).set 129 v129_6).set 130 v130_7).set 131 v130_7).set 132 v132_9).set 133 v133_10).set 134 v134_11).set 135 v135_12).set 4 v135_12) h6
@[congr] theorem octroilaw08_TrieOrder_r25_congr {env : Env} {h : Hp} {K : Env → Hp → Prop} : octroilaw08_TrieOrder_r25 env h K = octroilaw08_TrieOrder_r25 env h K := rfl

def octroilaw08_TrieOrder_D : Den := (sq (rg octroilaw08_TrieOrder_r0) (sq (rg octroilaw08_TrieOrder_r1) (sq (rg octroilaw08_TrieOrder_r2) (sq (rg octroilaw08_TrieOrder_r3) (sq (sq (rg octroilaw08_TrieOrder_r4) (cnd (Go.Operand.tmp 36) (sq (rg octroilaw08_TrieOrder_r5) (ex .ret)) (ex .normal))) (sq (sq (rg octroilaw08_TrieOrder_r6) (blk 0 (lp octroilaw08_TrieOrder_L0))) (sq (sq (rg octroilaw08_TrieOrder_r10) (blk 2 (lp octroilaw08_TrieOrder_L1))) (sq (rg octroilaw08_TrieOrder_r14) (sq (rg octroilaw08_TrieOrder_r15) (sq (sq (rg octroilaw08_TrieOrder_r16) (cnd (Go.Operand.tmp 93) (sq (rg octroilaw08_TrieOrder_r17) (ex .ret)) (ex .normal))) (sq (sq (rg octroilaw08_TrieOrder_r18) (blk 4 (lp octroilaw08_TrieOrder_L2))) (sq (rg octroilaw08_TrieOrder_r23) (sq (rg octroilaw08_TrieOrder_r24) (sq (rg octroilaw08_TrieOrder_r25) (ex .ret)))))))))))))))

theorem octroilaw08_TrieOrder_eq : (den Try.prog 136 octroilaw08_TrieOrder_code).1 = octroilaw08_TrieOrder_D := by kernel_rfl

theorem octroilaw08_TrieOrder_ok {args : Array Value} {h : Hp} {Q : Value → Hp → Prop} (hn : args.size ≤ 136) (D : octroilaw08_TrieOrder_D (fin Try.prog [(Go.ResultVar.tmp 4)] Q) (env0 args) h) : Ok Try.prog 4 args h Q :=
  ok_of_den progIsOk Try.func4 (c := octroilaw08_TrieOrder_code) (by kernel_rfl) hn (by show (den Try.prog 136 octroilaw08_TrieOrder_code).1 _ _ _; rw [octroilaw08_TrieOrder_eq]; exact D)

/-! ### octroi/octroilaw08.TrieBack: function 5 -/
noncomputable def octroilaw08_TrieBack_code : Code := match Try.f5.body with | some c => c | none => .skip

/-- law.go:104 -/
def octroilaw08_TrieBack_r0 (env : Env) (h : Hp) (K : Env → Hp → Prop) : Prop :=
  arun Try.prog (Instr.box 30 (env 1)) h fun v5_0 h1 =>
  arun Try.prog (Instr.box 30 (env 3)) h1 fun v7_1 h2 =>
  K (((env.set 5 v5_0).set 7 v7_1).set 8 (Go.Value.bool false)) h2
@[congr] theorem octroilaw08_TrieBack_r0_congr {env : Env} {h : Hp} {K : Env → Hp → Prop} : octroilaw08_TrieBack_r0 env h K = octroilaw08_TrieBack_r0 env h K := rfl

/-- law.go:105 -/
def octroilaw08_TrieBack_r1 (env : Env) (h : Hp) (K : Env → Hp → Prop) : Prop :=
  Ok Try.prog 9 #[] h fun v24_0 h1 =>
  K ((env.set 24 v24_0).set 9 v24_0) h1
@[congr] theorem octroilaw08_TrieBack_r1_congr {env : Env} {h : Hp} {K : Env → Hp → Prop} : octroilaw08_TrieBack_r1 env h K = octroilaw08_TrieBack_r1 env h K := rfl

/-- law.go:106 -/
def octroilaw08_TrieBack_r2 (env : Env) (h : Hp) (K : Env → Hp → Prop) : Prop :=
  Ok Try.prog 10 #[(Go.Value.int Go.IntKind.i64 1000)] h fun v25_0 h1 =>
  K ((env.set 25 v25_0).set 10 v25_0) h1
@[congr] theorem octroilaw08_TrieBack_r2_congr {env : Env} {h : Hp} {K : Env → Hp → Prop} : octroilaw08_TrieBack_r2 env h K = octroilaw08_TrieBack_r2 env h K := rfl

/-- law.go:107 -/
def octroilaw08_TrieBack_r3 (env : Env) (h : Hp) (K : Env → Hp → Prop) : Prop :=
  rd Try.prog (Op.unary Go.UnOp.not (env 9)) noHp fun v27_1 =>
  gd (yb v27_1 == some false) (fun h k => k (env 10) h) h fun v29_3 h1 =>
  gd (yb v27_1 == some false) (fun h k => rd Try.prog (bop Go.BinOp.eql 25 (Go.Operand.tmp 29) (Go.Operand.const (Go.Value.pointer none)) v29_3 (Go.Value.pointer none)) noHp fun v => k v h) h1 fun v30_4 h2 =>
  rd Try.prog (pck v27_1 (Go.Value.bool true) v30_4) noHp fun v31_5 =>
  gd (yb v31_5 == some false) (fun h k => k (env 0) h) h2 fun v33_7 h3 =>
  gd (yb v31_5 == some false) (fun h k => rd Try.prog (Builtin.len_ #[22] 3 #[v33_7]) h fun v => k v h) h3 fun v34_8 h4 =>
  gd (yb v31_5 == some false) (fun h k => rd Try.prog (bop Go.BinOp.gtr 3 (Go.Operand.tmp 34) (Go.Operand.const (Go.Value.int Go.IntKind.i64 200)) v34_8 (Go.Value.int Go.IntKind.i64 200)) noHp fun v => k v h) h4 fun v35_9 h5 =>
  rd Try.prog (pck v31_5 (Go.Value.bool true) v35_9) noHp fun v36_10 =>
  gd (yb v36_10 == some false) (fun h k => rd Try.prog (Instr.loadAt 30 (env 5)) h fun v => k v h) h5 fun v38_12 h6 =>
  gd (yb v36_10 == some false) (fun h k => rd Try.prog (Instr.loadAt 30 (env 7)) h fun v => k v h) h6 fun v39_13 h7 =>
  gd (yb v36_10 == some false) (fun h k => rd Try.prog (bop Go.BinOp.eql 30 (Go.Operand.tmp 38) (Go.Operand.tmp 39) v38_12 v39_13) noHp fun v => k v h) h7 fun v40_14 h8 =>
  rd Try.prog (pck v36_10 (Go.Value.bool true) v40_14) noHp fun v41_15 =>
  K ((((((((((((((((env.set 26 (env 9)).set 27 v27_1).set 28 v27_1).set 29 v29_3).set 30 v30_4).set 31 v31_5).set 32 v31_5).set 33 v33_7).set 34 v34_8).set 35 v35_9).set 36 v36_10).set 37 v36_10).set 38 v38_12).set 39 v39_13).set 40 v40_14).set 41 v41_15) h8
@[congr] theorem octroilaw08_TrieBack_r3_congr {env : Env} {h : Hp} {K : Env → Hp → Prop} : octroilaw08_TrieBack_r3 env h K = octroilaw08_TrieBack_r3 env h K := rfl

/-- law.go:108 -/
def octroilaw08_TrieBack_r4 (env : Env) (h : Hp) (K : Env → Hp → Prop) : Prop :=
  gd (yb (env 9) == some true) (fun h k => k (env 10) h) h fun v44_2 h1 =>
  gd (yb (env 9) == some true) (fun h k => rd Try.prog (bop Go.BinOp.neq 25 (Go.Operand.tmp 44) (Go.Operand.const (Go.Value.pointer none)) v44_2 (Go.Value.pointer none)) noHp fun v => k v h) h1 fun v45_3 h2 =>
  rd Try.prog (pck (env 9) v45_3 (Go.Value.bool false)) noHp fun v46_4 =>
  K ((((((env.set 42 (env 9)).set 43 (env 9)).set 44 v44_2).set 45 v45_3).set 46 v46_4).set 8 v46_4) h2
@[congr] theorem octroilaw08_TrieBack_r4_congr {env : Env} {h : Hp} {K : Env → Hp → Prop} : octroilaw08_TrieBack_r4 env h K = octroilaw08_TrieBack_r4 env h K := rfl

/-- law.go:110 -/
def octroilaw08_TrieBack_r5 (env : Env) (h : Hp) (K : Env → Hp → Prop) : Prop :=
  K (env.set 11 (Go.Value.int Go.IntKind.i64 0)) h
@[congr] theorem octroilaw08_TrieBack_r5_congr {env : Env} {h : Hp} {K : Env → Hp → Prop} : octroilaw08_TrieBack_r5 env h K = octroilaw08_TrieBack_r5 env h K := rfl

/-- law.go:110 -/
def octroilaw08_TrieBack_r6 (env : Env) (h : Hp) (K : Env → Hp → Prop) : Prop :=
  rd Try.prog (Builtin.len_ #[22] 3 #[(env 0)]) h fun v49_2 =>
  rd Try.prog (bop Go.BinOp.lss 3 (Go.Operand.tmp 47) (Go.Operand.tmp 49) (env 11) v49_2) noHp fun v50_3 =>
  K ((((env.set 47 (env 11)).set 48 (env 0)).set 49 v49_2).set 50 v50_3) h
@[congr] theorem octroilaw08_TrieBack_r6_congr {env : Env} {h : Hp} {K : Env → Hp → Prop} : octroilaw08_TrieBack_r6 env h K = octroilaw08_TrieBack_r6 env h K := rfl

/-- law.go:111 (in any order) -/
def octroilaw08_TrieBack_r7 (env : Env) (h : Hp) (K : Env → Hp → Prop) : Prop :=
  rd Try.prog (Instr.indexAt 22 (env 0) (env 11)) noHp fun v56_3 =>
  rd Try.prog (Instr.fieldAt 32 v56_3 1) noHp fun v57_4 =>
  rd Try.prog (Instr.loadAt 30 v57_4) h fun v58_5 =>
  rd Try.prog (Instr.indexAt 22 (env 0) (env 11)) noHp fun v61_8 =>
  rd Try.prog (Instr.fieldAt 32 v61_8 2) noHp fun v62_9 =>
  rd Try.prog (Instr.loadAt 3 v62_9) h fun v63_10 =>
  Ok Try.prog 11 #[(env 10), v58_5, v63_10] h fun v64_11 h1 =>
  (True) ∧
  K ((((((((((((env.set 53 (env 10)).set 54 (env 0)).set 55 (env 11)).set 56 v56_3).set 57 v57_4).set 58 v58_5).set 59 (env 0)).set 60 (env 11)).set 61 v61_8).set 62 v62_9).set 63 v63_10).set 64 v64_11) h1
@[congr] theorem octroilaw08_TrieBack_r7_congr {env : Env} {h : Hp} {K : Env → Hp → Prop} : octroilaw08_TrieBack_r7 env h K = octroilaw08_TrieBack_r7 env h K := rfl

/-- law.go:110 -/
def octroilaw08_TrieBack_r8 (env : Env) (h : Hp) (K : Env → Hp → Prop) : Prop :=
  rd Try.prog (bop Go.BinOp.add 3 (Go.Operand.tmp 51) (Go.Operand.const (Go.Value.int Go.IntKind.i64 1)) (env 11) (Go.Value.int Go.IntKind.i64 1)) noHp fun v52_1 =>
  K (((env.set 51 (env 11)).set 52 v52_1).set 11 v52_1) h
@[congr] theorem octroilaw08_TrieBack_r8_congr {env : Env} {h : Hp} {K : Env → Hp → Prop} : octroilaw08_TrieBack_r8 env h K = octroilaw08_TrieBack_r8 env h K := rfl

def octroilaw08_TrieBack_L0 : Den := (sq (sq (rg octroilaw08_TrieBack_r6) (cnd (Go.Operand.tmp 50) (ex .normal) (ex (.exit 0)))) (sq (blk 1 (rg octroilaw08_TrieBack_r7)) (rg octroilaw08_TrieBack_r8)))

/-- law.go:113 -/
def octroilaw08_TrieBack_r9 (env : Env) (h : Hp) (K : Env → Hp → Prop) : Prop :=
  rd Try.prog (Instr.loadAt 30 (env 7)) h fun v67_1 =>
  Ok Try.prog 15 #[(env 10), v67_1] h fun v68_2 h1 =>
  rd Try.prog (Instr.extract v68_2 0) noHp fun v69_4 =>
  rd Try.prog (Instr.extract v68_2 1) noHp fun v70_5 =>
  K ((((((((env.set 66 (env 10)).set 67 v67_1).set 68 v68_2).set 65 v68_2).set 69 v69_4).set 70 v70_5).set 12 v69_4).set 13 v70_5) h1
@[congr] theorem octroilaw08_TrieBack_r9_congr {env : Env} {h : Hp} {K : Env → Hp → Prop} : octroilaw08_TrieBack_r9 env h K = octroilaw08_TrieBack_r9 env h K := rfl

/-- law.go:114 -/
def octroilaw08_TrieBack_r10 (env : Env) (h : Hp) (K : Env → Hp → Prop) : Prop :=
  rd Try.prog (Instr.loadAt 30 (env 5)) h fun v72_1 =>
  Ok Try.prog 11 #[(env 10), v72_1, (env 2)] h fun v74_3 h1 =>
  K (((((env.set 71 (env 10)).set 72 v72_1).set 73 (env 2)).set 74 v74_3).set 14 v74_3) h1
@[congr] theorem octroilaw08_TrieBack_r10_congr {env : Env} {h : Hp} {K : Env → Hp → Prop} : octroilaw08_TrieBack_r10 env h K = octroilaw08_TrieBack_r10 env h K := rfl

/-- law.go:115 -/
def octroilaw08_TrieBack_r11 (env : Env) (h : Hp) (K : Env → Hp → Prop) : Prop :=
  rd Try.prog (bop Go.BinOp.neq 27 (Go.Operand.tmp 75) (Go.Operand.const (Go.Value.int Go.IntKind.i64 0)) (env 14) (Go.Value.int Go.IntKind.i64 0)) noHp fun v76_1 =>
  K ((env.set 75 (env 14)).set 76 v76_1) h
@[congr] theorem octroilaw08_TrieBack_r11_congr {env : Env} {h : Hp} {K : Env → Hp → Prop} : octroilaw08_TrieBack_r11 env h K = octroilaw08_TrieBack_r11 env h K := rfl

/-- law.go:116 -/
def octroilaw08_TrieBack_r12 (env : Env) (h : Hp) (K : Env → Hp → Prop) : Prop :=
  rd Try.prog (bop Go.BinOp.eql 27 (Go.Operand.tmp 77) (Go.Operand.const (Go.Value.int Go.IntKind.i64 1)) (env 14) (Go.Value.int Go.IntKind.i64 1)) noHp fun v78_1 =>
  gd (yb v78_1 == some true) (fun h k => rd Try.prog (Instr.loadAt 30 (env 5)) h fun v => k v h) h fun v80_3 h1 =>
  gd (yb v78_1 == some true) (fun h k => Ok Try.prog 16 #[v80_3] h k) h1 fun v81_4 h2 =>
  gd (yb v78_1 == some true) (fun h k => rd Try.prog (Op.unary Go.UnOp.not v81_4) noHp fun v => k v h) h2 fun v82_5 h3 =>
  rd Try.prog (pck v78_1 v82_5 (Go.Value.bool false)) noHp fun v83_6 =>
  K ((((((((env.set 77 (env 14)).set 78 v78_1).set 79 v78_1).set 80 v80_3).set 81 v81_4).set 82 v82_5).set 83 v83_6).set 8 v83_6) h3
@[congr] theorem octroilaw08_TrieBack_r12_congr {env : Env} {h : Hp} {K : Env → Hp → Prop} : octroilaw08_TrieBack_r12 env h K = octroilaw08_TrieBack_r12 env h K := rfl

/-- law.go:118 -/
def octroilaw08_TrieBack_r13 (env : Env) (h : Hp) (K : Env → Hp → Prop) : Prop :=
  rd Try.prog (Instr.loadAt 30 (env 5)) h fun v86_1 =>
  Ok Try.prog 15 #[(env 10), v86_1] h fun v87_2 h1 =>
  rd Try.prog (Instr.extract v87_2 0) noHp fun v88_4 =>
  rd Try.prog (Instr.extract v87_2 1) noHp fun v89_5 =>
  K ((((((((env.set 85 (env 10)).set 86 v86_1).set 87 v87_2).set 84 v87_2).set 88 v88_4).set 89 v89_5).set 15 v88_4).set 16 v89_5) h1
@[congr] theorem octroilaw08_TrieBack_r13_congr {env : Env} {h : Hp} {K : Env → Hp → Prop} : octroilaw08_TrieBack_r13 env h K = octroilaw08_TrieBack_r13 env h K := rfl

/-- law.go:119 -/
def octroilaw08_TrieBack_r14 (env : Env) (h : Hp) (K : Env → Hp → Prop) : Prop :=
  rd Try.prog (Instr.loadAt 30 (env 7)) h fun v92_1 =>
  Ok Try.prog 15 #[(env 10), v92_1] h fun v93_2 h1 =>
  rd Try.prog (Instr.extract v93_2 0) noHp fun v94_4 =>
  rd Try.prog (Instr.extract v93_2 1) noHp fun v95_5 =>
  K ((((((((env.set 91 (env 10)).set 92 v92_1).set 93 v93_2).set 90 v93_2).set 94 v94_4).set 95 v95_5).set 17 v94_4).set 18 v95_5) h1
@[congr] theorem octroilaw08_TrieBack_r14_congr {env : Env} {h : Hp} {K : Env → Hp → Prop} : octroilaw08_TrieBack_r14 env h K = octroilaw08_TrieBack_r14 env h K := rfl

/-- law.go:120 -/
def octroilaw08_TrieBack_r15 (env : Env) (h : Hp) (K : Env → Hp → Prop) : Prop :=
  rd Try.prog (Instr.loadAt 30 (env 5)) h fun v97_1 =>
  Ok Try.prog 17 #[(env 10), v97_1] h fun v98_2 h1 =>
  K ((((env.set 96 (env 10)).set 97 v97_1).set 98 v98_2).set 19 v98_2) h1
@[congr] theorem octroilaw08_TrieBack_r15_congr {env : Env} {h : Hp} {K : Env → Hp → Prop} : octroilaw08_TrieBack_r15 env h K = octroilaw08_TrieBack_r15 env h K := rfl

/-- law.go:121 -/
def octroilaw08_TrieBack_r16 (env : Env) (h : Hp) (K : Env → Hp → Prop) : Prop :=
  rd Try.prog (Instr.loadAt 30 (env 5)) h fun v101_1 =>
  Ok Try.prog 15 #[(env 10), v101_1] h fun v102_2 h1 =>
  rd Try.prog (Instr.extract v102_2 0) noHp fun v103_4 =>
  rd Try.prog (Instr.extract v102_2 1) noHp fun v104_5 =>
  K ((((((((env.set 100 (env 10)).set 101 v101_1).set 102 v102_2).set 99 v102_2).set 103 v103_4).set 104 v104_5).set 20 v103_4).set 21 v104_5) h1
@[congr] theorem octroilaw08_TrieBack_r16_congr {env : Env} {h : Hp} {K : Env → Hp → Prop} : octroilaw08_TrieBack_r16 env h K = octroilaw08_TrieBack_r16 env h K := rfl

/-- law.go:122 -/
def octroilaw08_TrieBack_r17 (env : Env) (h : Hp) (K : Env → Hp → Prop) : Prop :=
  rd Try.prog (Instr.loadAt 30 (env 7)) h fun v107_1 =>
  Ok Try.prog 15 #[(env 10), v107_1] h fun v108_2 h1 =>
  rd Try.prog (Instr.extract v108_2 0) noHp fun v109_4 =>
  rd Try.prog (Instr.extract v108_2 1) noHp fun v110_5 =>
  K ((((((((env.set 106 (env 10)).set 107 v107_1).set 108 v108_2).set 105 v108_2).set 109 v109_4).set 110 v110_5).set 22 v109_4).set 23 v110_5) h1
@[congr] theorem octroilaw08_TrieBack_r17_congr {env : Env} {h : Hp} {K : Env → Hp → Prop} : octroilaw08_TrieBack_r17 env h K = octroilaw08_TrieBack_r17 env h K := rfl

/-- law.go:123 -/
def octroilaw08_TrieBack_r18 (env : Env) (h : Hp) (K : Env → Hp → Prop) : Prop :=
  rd Try.prog (bop Go.BinOp.eql 3 (Go.Operand.tmp 111) (Go.Operand.tmp 112) (env 15) (env 2)) noHp fun v113_2 =>
  gd (yb v113_2 == some true) (fun h k => k (env 16) h) h fun v115_4 h1 =>
  rd Try.prog (pck v113_2 v115_4 (Go.Value.bool false)) noHp fun v116_5 =>
  gd (yb v116_5 == some true) (fun h k => k (env 12) h) h1 fun v118_7 h2 =>
  gd (yb v116_5 == some true) (fun h k => k (env 17) h) h2 fun v119_8 h3 =>
  gd (yb v116_5 == some true) (fun h k => rd Try.prog (bop Go.BinOp.eql 3 (Go.Operand.tmp 118) (Go.Operand.tmp 119) v118_7 v119_8) noHp fun v => k v h) h3 fun v120_9 h4 =>
  rd Try.prog (pck v116_5 v120_9 (Go.Value.bool false)) noHp fun v121_10 =>
  gd (yb v121_10 == some true) (fun h k => k (env 13) h) h4 fun v123_12 h5 =>
  gd (yb v121_10 == some true) (fun h k => k (env 18) h) h5 fun v124_13 h6 =>
  gd (yb v121_10 == some true) (fun h k => rd Try.prog (bop Go.BinOp.eql 4 (Go.Operand.tmp 123) (Go.Operand.tmp 124) v123_12 v124_13) noHp fun v => k v h) h6 fun v125_14 h7 =>
  rd Try.prog (pck v121_10 v125_14 (Go.Value.bool false)) noHp fun v126_15 =>
  gd (yb v126_15 == some true) (fun h k => k (env 19) h) h7 fun v128_17 h8 =>
  gd (yb v126_15 == some true) (fun h k => rd Try.prog (bop Go.BinOp.eql 27 (Go.Operand.tmp 128) (Go.Operand.const (Go.Value.int Go.IntKind.i64 0)) v128_17 (Go.Value.int Go.IntKind.i64 0)) noHp fun v => k v h) h8 fun v129_18 h9 =>
  rd Try.prog (pck v126_15 v129_18 (Go.Value.bool false)) noHp fun v130_19 =>
  gd (yb v130_19 == some true) (fun h k => k (env 21) h) h9 fun v132_21 h10 =>
  gd (yb v130_19 == some true) (fun h k => rd Try.prog (Op.unary Go.UnOp.not v132_21) noHp fun v => k v h) h10 fun v133_22 h11 =>
  rd Try.prog (pck v130_19 v133_22 (Go.Value.bool false)) noHp fun v134_23 =>
  gd (yb v134_23 == some true) (fun h k => k (env 22) h) h11 fun v136_25 h12 =>
  gd (yb v134_23 == some true) (fun h k => k (env 12) h) h12 fun v137_26 h13 =>
  gd (yb v134_23 == some true) (fun h k => rd Try.prog (bop Go.BinOp.eql 3 (Go.Operand.tmp 136) (Go.Operand.tmp 137) v136_25 v137_26) noHp fun v => k v h) h13 fun v138_27 h14 =>
  rd Try.prog (pck v134_23 v138_27 (Go.Value.bool false)) noHp fun v139_28 =>
  gd (yb v139_28 == some true) (fun h k => k (env 23) h) h14 fun v141_30 h15 =>
  gd (yb v139_28 == some true) (fun h k => k (env 13) h) h15 fun v142_31 h16 =>
  gd (yb v139_28 == some true) (fun h k => rd Try.prog (bop Go.BinOp.eql 4 (Go.Operand.tmp 141) (Go.Operand.tmp 142) v141_30 v142_31) noHp fun v => k v h) h16 fun v143_32 h17 =>
  rd Try.prog (pck v139_28 v143_32 (Go.Value.bool false)) noHp fun v144_33 =>
  gd (yb v144_33 == some true) (fun h k => k (env 10) h) h17 fun v146_35 h18 =>
  gd (yb v144_33 == some true) (fun h k => rd Try.prog (Instr.loadAt 30 (env 5)) h fun v => k v h) h18 fun v147_36 h19 =>
  gd (yb v144_33 == some true) (fun h k => Ok Try.prog 17 #[v146_35, v147_36] h k) h19 fun v148_37 h20 =>
  gd (yb v144_33 == some true) (fun h k => rd Try.prog (bop Go.BinOp.eql 27 (Go.Operand.tmp 148) (Go.Operand.const (Go.Value.int Go.IntKind.i64 5)) v148_37 (Go.Value.int Go.IntKind.i64 5)) noHp fun v => k v h) h20 fun v149_38 h21 =>
  rd Try.prog (pck v144_33 v149_38 (Go.Value.bool false)) noHp fun v150_39 =>
  K (((((((((((((((((((((((((((((((((((((((((env.set 111 (env 15)).set 112 (env 2)).set 113 v113_2).set 114 v113_2).set 115 v115_4).set 116 v116_5).set 117 v116_5).set 118 v118_7).set 119 v119_8).set 120 v120_9).set 121 v121_10).set 122 v121_10).set 123 v123_12).set 124 v124_13).set 125 v125_14).set 126 v126_15).set 127 v126_15).set 128 v128_17).set 129 v129_18).set 130 v130_19).set 131 v130_19).set 132 v132_21).set 133 v133_22).set 134 v134_23).set 135 v134_23).set 136 v136_25).set 137 v137_26).set 138 v138_27).set 139 v139_28).set 140 v139_28).set 141 v141_30).set 142 v142_31).set 143 v143_32).set 144 v144_33).set 145 v144_33).set 146 v146_35).set 147 v147_36).set 148 v148_37).set 149 v149_38).set 150 v150_39).set 8 v150_39) h21
@[congr] theorem octroilaw08_TrieBack_r18_congr {env : Env} {h : Hp} {K : Env → Hp → Prop} : octroilaw08_TrieBack_r18 env h K = octroilaw08_TrieBack_r18 env h K := rfl

def octroilaw08_TrieBack_D : Den := (sq (rg octroilaw08_TrieBack_r0) (sq (rg octroilaw08_TrieBack_r1) (sq (rg octroilaw08_TrieBack_r2) (sq (sq (rg octroilaw08_TrieBack_r3) (cnd (Go.Operand.tmp 41) (sq (rg octroilaw08_TrieBack_r4) (ex .ret)) (ex .normal))) (sq (sq (rg octroilaw08_TrieBack_r5) (blk 0 (lp octroilaw08_TrieBack_L0))) (sq (rg octroilaw08_TrieBack_r9) (sq (rg octroilaw08_TrieBack_r10) (sq (sq (rg octroilaw08_TrieBack_r11) (cnd (Go.Operand.tmp 76) (sq (rg octroilaw08_TrieBack_r12) (ex .ret)) (ex .normal))) (sq (rg octroilaw08_TrieBack_r13) (sq (rg octroilaw08_TrieBack_r14) (sq (rg octroilaw08_TrieBack_r15) (sq (rg octroilaw08_TrieBack_r16) (sq (rg octroilaw08_TrieBack_r17) (sq (rg octroilaw08_TrieBack_r18) (ex .ret)))))))))))))))

theorem octroilaw08_TrieBack_eq : (den Try.prog 151 octroilaw08_TrieBack_code).1 = octroilaw08_TrieBack_D := by kernel_rfl

theorem octroilaw08_TrieBack_ok {args : Array Value} {h : Hp} {Q : Value → Hp → Prop} (hn : args.size ≤ 151) (D : octroilaw08_TrieBack_D (fin Try.prog [(Go.ResultVar.tmp 8)] Q) (env0 args) h) : Ok Try.prog 5 args h Q :=
  ok_of_den progIsOk Try.func5 (c := octroilaw08_TrieBack_code) (by kernel_rfl) hn (by show (den Try.prog 151 octroilaw08_TrieBack_code).1 _ _ _; rw [octroilaw08_TrieBack_eq]; exact D)

/-! ### octroi/octroilaw08.TrieEmpty: function 6 -/
noncomputable def octroilaw08_TrieEmpty_code : Code := match Try.f6.body with | some c => c | none => .skip

/-- more.go:28 -/
def octroilaw08_TrieEmpty_r0 (env : Env) (h : Hp) (K : Env → Hp → Prop) : Prop :=
  K (env.set 6 (Go.Value.bool false)) h
@[congr] theorem octroilaw08_TrieEmpty_r0_congr {env : Env} {h : Hp} {K : Env → Hp → Prop} : octroilaw08_TrieEmpty_r0 env h K = octroilaw08_TrieEmpty_r0 env h K := rfl

/-- more.go:29 -/
def octroilaw08_TrieEmpty_r1 (env : Env) (h : Hp) (K : Env → Hp → Prop) : Prop :=
  Ok Try.prog 9 #[] h fun v15_0 h1 =>
  K ((env.set 15 v15_0).set 7 v15_0) h1
@[congr] theorem octroilaw08_TrieEmpty_r1_congr {env : Env} {h : Hp} {K : Env → Hp → Prop} : octroilaw08_TrieEmpty_r1 env h K = octroilaw08_TrieEmpty_r1 env h K := rfl

/-- more.go:30 -/
def octroilaw08_TrieEmpty_r2 (env : Env) (h : Hp) (K : Env → Hp → Prop) : Prop :=
  Ok Try.prog 10 #[(env 0)] h fun v17_1 h1 =>
  K (((env.set 16 (env 0)).set 17 v17_1).set 8 v17_1) h1
@[congr] theorem octroilaw08_TrieEmpty_r2_congr {env : Env} {h : Hp} {K : Env → Hp → Prop} : octroilaw08_TrieEmpty_r2 env h K = octroilaw08_TrieEmpty_r2 env h K := rfl

/-- more.go:31 -/
def octroilaw08_TrieEmpty_r3 (env : Env) (h : Hp) (K : Env → Hp → Prop) : Prop :=
  rd Try.prog (Op.unary Go.UnOp.not (env 7)) noHp fun v19_1 =>
  gd (yb v19_1 == some false) (fun h k => k (env 8) h) h fun v21_3 h1 =>
  gd (yb v19_1 == some false) (fun h k => rd Try.prog (bop Go.BinOp.eql 25 (Go.Operand.tmp 21) (Go.Operand.const (Go.Value.pointer none)) v21_3 (Go.Value.pointer none)) noHp fun v => k v h) h1 fun v22_4 h2 =>
  rd Try.prog (pck v19_1 (Go.Value.bool true) v22_4) noHp fun v23_5 =>
  gd (yb v23_5 == some false) (fun h k => k (env 1) h) h2 fun v25_7 h3 =>
  gd (yb v23_5 == some false) (fun h k => rd Try.prog (Builtin.len_ #[22] 3 #[v25_7]) h fun v => k v h) h3 fun v26_8 h4 =>
  gd (yb v23_5 == some false) (fun h k => rd Try.prog (bop Go.BinOp.gtr 3 (Go.Operand.tmp 26) (Go.Operand.const (Go.Value.int Go.IntKind.i64 200)) v26_8 (Go.Value.int Go.IntKind.i64 200)) noHp fun v => k v h) h4 fun v27_9 h5 =>
  rd Try.prog (pck v23_5 (Go.Value.bool true) v27_9) noHp fun v28_10 =>
  gd (yb v28_10 == some false) (fun h k => k (env 0) h) h5 fun v30_12 h6 =>
  gd (yb v28_10 == some false) (fun h k => rd Try.prog (bop Go.BinOp.lss 3 (Go.Operand.tmp 30) (Go.Operand.const (Go.Value.int Go.IntKind.i64 1)) v30_12 (Go.Value.int Go.IntKind.i64 1)) noHp fun v => k v h) h6 fun v31_13 h7 =>
  rd Try.prog (pck v28_10 (Go.Value.bool true) v31_13) noHp fun v32_14 =>
  K (((((((((((((((env.set 18 (env 7)).set 19 v19_1).set 20 v19_1).set 21 v21_3).set 22 v22_4).set 23 v23_5).set 24 v23_5).set 25 v25_7).set 26 v26_8).set 27 v27_9).set 28 v28_10).set 29 v28_10).set 30 v30_12).set 31 v31_13).set 32 v32_14) h7
@[congr] theorem octroilaw08_TrieEmpty_r3_congr {env : Env} {h : Hp} {K : Env → Hp → Prop} : octroilaw08_TrieEmpty_r3 env h K = octroilaw08_TrieEmpty_r3 env h K := rfl

/-- more.go:32 -/
def octroilaw08_TrieEmpty_r4 (env : Env) (h : Hp) (K : Env → Hp → Prop) : Prop :=
  gd (yb (env 7) == some true) (fun h k => k (env 8) h) h fun v35_2 h1 =>
  gd (yb (env 7) == some true) (fun h k => rd Try.prog (bop Go.BinOp.neq 25 (Go.Operand.tmp 35) (Go.Operand.const (Go.Value.pointer none)) v35_2 (Go.Value.pointer none)) noHp fun v => k v h) h1 fun v36_3 h2 =>
  rd Try.prog (pck (env 7) v36_3 (Go.Value.bool false)) noHp fun v37_4 =>
  K ((((((env.set 33 (env 7)).set 34 (env 7)).set 35 v35_2).set 36 v36_3).set 37 v37_4).set 6 v37_4) h2
@[congr] theorem octroilaw08_TrieEmpty_r4_congr {env : Env} {h : Hp} {K : Env → Hp → Prop} : octroilaw08_TrieEmpty_r4 env h K = octroilaw08_TrieEmpty_r4 env h K := rfl

/-- more.go:34 -/
def octroilaw08_TrieEmpty_r5 (env : Env) (h : Hp) (K : Env → Hp → Prop) : Prop :=
  K (env.set 9 (Go.Value.int Go.IntKind.i64 0)) h
@[congr] theorem octroilaw08_TrieEmpty_r5_congr {env : Env} {h : Hp} {K : Env → Hp → Prop} : octroilaw08_TrieEmpty_r5 env h K = octroilaw08_TrieEmpty_r5 env h K := rfl

/-- more.go:34 -/
def octroilaw08_TrieEmpty_r6 (env : Env) (h : Hp) (K : Env → Hp → Prop) : Prop :=
  rd Try.prog (Builtin.len_ #[22] 3 #[(env 1)]) h fun v40_2 =>
  rd Try.prog (bop Go.BinOp.lss 3 (Go.Operand.tmp 38) (Go.Operand.tmp 40) (env 9) v40_2) noHp fun v41_3 =>
  K ((((env.set 38 (env 9)).set 39 (env 1)).set 40 v40_2).set 41 v41_3) h
@[congr] theorem octroilaw08_TrieEmpty_r6_congr {env : Env} {h : Hp} {K : Env → Hp → Prop} : octroilaw08_TrieEmpty_r6 env h K = octroilaw08_TrieEmpty_r6 env h K := rfl

/-- more.go:35 (in any order) -/
def octroilaw08_TrieEmpty_r7 (env : Env) (h : Hp) (K : Env → Hp → Prop) : Prop :=
  rd Try.prog (Instr.indexAt 22 (env 1) (env 9)) noHp fun v47_3 =>
  rd Try.prog (Instr.fieldAt 32 v47_3 1) noHp fun v48_4 =>
  rd Try.prog (Instr.loadAt 30 v48_4) h fun v49_5 =>
  rd Try.prog (Instr.indexAt 22 (env 1) (env 9)) noHp fun v52_8 =>
  rd Try.prog (Instr.fieldAt 32 v52_8 2) noHp fun v53_9 =>
  rd Try.prog (Instr.loadAt 3 v53_9) h fun v54_10 =>
  Ok Try.prog 11 #[(env 8), v49_5, v54_10] h fun v55_11 h1 =>
  (True) ∧
  K ((((((((((((env.set 44 (env 8)).set 45 (env 1)).set 46 (env 9)).set 47 v47_3).set 48 v48_4).set 49 v49_5).set 50 (env 1)).set 51 (env 9)).set 52 v52_8).set 53 v53_9).set 54 v54_10).set 55 v55_11) h1
@[congr] theorem octroilaw08_TrieEmpty_r7_congr {env : Env} {h : Hp} {K : Env → Hp → Prop} : octroilaw08_TrieEmpty_r7 env h K = octroilaw08_TrieEmpty_r7 env h K := rfl

/-- more.go:34 -/
def octroilaw08_TrieEmpty_r8 (env : Env) (h : Hp) (K : Env → Hp → Prop) : Prop :=
  rd Try.prog (bop Go.BinOp.add 3 (Go.Operand.tmp 42) (Go.Operand.const (Go.Value.int Go.IntKind.i64 1)) (env 9) (Go.Value.int Go.IntKind.i64 1)) noHp fun v43_1 =>
  K (((env.set 42 (env 9)).set 43 v43_1).set 9 v43_1) h
@[congr] theorem octroilaw08_TrieEmpty_r8_congr {env : Env} {h : Hp} {K : Env → Hp → Prop} : octroilaw08_TrieEmpty_r8 env h K = octroilaw08_TrieEmpty_r8 env h K := rfl

def octroilaw08_TrieEmpty_L0 : Den := (sq (sq (rg octroilaw08_TrieEmpty_r6) (cnd (Go.Operand.tmp 41) (ex .normal) (ex (.exit 0)))) (sq (blk 1 (rg octroilaw08_TrieEmpty_r7)) (rg octroilaw08_TrieEmpty_r8)))

/-- more.go:37 -/
def octroilaw08_TrieEmpty_r9 (env : Env) (h : Hp) (K : Env → Hp → Prop) : Prop :=
  Ok Try.prog 14 #[(env 8)] h fun v57_1 h1 =>
  K (((env.set 56 (env 8)).set 57 v57_1).set 10 v57_1) h1
@[congr] theorem octroilaw08_TrieEmpty_r9_congr {env : Env} {h : Hp} {K : Env → Hp → Prop} : octroilaw08_TrieEmpty_r9 env h K = octroilaw08_TrieEmpty_r9 env h K := rfl

/-- more.go:38 -/
def octroilaw08_TrieEmpty_r10 (env : Env) (h : Hp) (K : Env → Hp → Prop) : Prop :=
  K (env.set 11 (Go.Value.int Go.IntKind.i64 0)) h
@[congr] theorem octroilaw08_TrieEmpty_r10_congr {env : Env} {h : Hp} {K : Env → Hp → Prop} : octroilaw08_TrieEmpty_r10 env h K = octroilaw08_TrieEmpty_r10 env h K := rfl

/-- more.go:38 -/
def octroilaw08_TrieEmpty_r11 (env : Env) (h : Hp) (K : Env → Hp → Prop) : Prop :=
  rd Try.prog (Builtin.len_ #[37] 3 #[(env 10)]) h fun v60_2 =>
  rd Try.prog (bop Go.BinOp.lss 3 (Go.Operand.tmp 58) (Go.Operand.tmp 60) (env 11) v60_2) noHp fun v61_3 =>
  K ((((env.set 58 (env 11)).set 59 (env 10)).set 60 v60_2).set 61 v61_3) h
@[congr] theorem octroilaw08_TrieEmpty_r11_congr {env : Env} {h : Hp} {K : Env → Hp → Prop} : octroilaw08_TrieEmpty_r11 env h K = octroilaw08_TrieEmpty_r11 env h K := rfl

/-- more.go:39 -/
def octroilaw08_TrieEmpty_r12 (env : Env) (h : Hp) (K : Env → Hp → Prop) : Prop :=
  rd Try.prog (Instr.indexAt 37 (env 10) (env 11)) noHp fun v67_3 =>
  rd Try.prog (Instr.loadAt 30 v67_3) h fun v68_4 =>
  Ok Try.prog 17 #[(env 8), v68_4] h fun v69_5 h1 =>
  rd Try.prog (bop Go.BinOp.neq 27 (Go.Operand.tmp 69) (Go.Operand.const (Go.Value.int Go.IntKind.i64 0)) v69_5 (Go.Value.int Go.IntKind.i64 0)) noHp fun v70_6 =>
  K (((((((env.set 64 (env 8)).set 65 (env 10)).set 66 (env 11)).set 67 v67_3).set 68 v68_4).set 69 v69_5).set 70 v70_6) h1
@[congr] theorem octroilaw08_TrieEmpty_r12_congr {env : Env} {h : Hp} {K : Env → Hp → Prop} : octroilaw08_TrieEmpty_r12 env h K = octroilaw08_TrieEmpty_r12 env h K := rfl

/-- more.go:40 -/
def octroilaw08_TrieEmpty_r13 (env : Env) (h : Hp) (K : Env → Hp → Prop) : Prop :=
  K (env.set 6 (Go.Value.bool false)) h
@[congr] theorem octroilaw08_TrieEmpty_r13_congr {env : Env} {h : Hp} {K : Env → Hp → Prop} : octroilaw08_TrieEmpty_r13 env h K = octroilaw08_TrieEmpty_r13 env h K := rfl

/-- more.go:38 -/
def octroilaw08_TrieEmpty_r14 (env : Env) (h : Hp) (K : Env → Hp → Prop) : Prop :=
  rd Try.prog (bop Go.BinOp.add 3 (Go.Operand.tmp 62) (Go.Operand.const (Go.Value.int Go.IntKind.i64 1)) (env 11) (Go.Value.int Go.IntKind.i64 1)) noHp fun v63_1 =>
  K (((env.set 62 (env 11)).set 63 v63_1).set 11 v63_1) h
@[congr] theorem octroilaw08_TrieEmpty_r14_congr {env : Env} {h : Hp} {K : Env → Hp → Prop} : octroilaw08_TrieEmpty_r14 env h K = octroilaw08_TrieEmpty_r14 env h K := rfl

def octroilaw08_TrieEmpty_L1 : Den := (sq (sq (rg octroilaw08_TrieEmpty_r11) (cnd (Go.Operand.tmp 61) (ex .normal) (ex (.exit 2)))) (sq (blk 3 (sq (rg octroilaw08_TrieEmpty_r12) (cnd (Go.Operand.tmp 70) (sq (rg octroilaw08_TrieEmpty_r13) (ex .ret)) (ex .normal)))) (rg octroilaw08_TrieEmpty_r14)))

/-- more.go:43 -/
def octroilaw08_TrieEmpty_r15 (env : Env) (h : Hp) (K : Env → Hp → Prop) : Prop :=
  Ok Try.prog 12 #[(env 8), (env 2)] h fun v74_2 h1 =>
  rd Try.prog (Instr.extract v74_2 0) noHp fun v75_4 =>
  rd Try.prog (Instr.extract v74_2 1) noHp fun v76_5 =>
  rd Try.prog (Instr.extract v74_2 2) noHp fun v77_6 =>
  arun Try.prog (Instr.alloc 30 true (Go.Value.tuple #[])) h1 fun v12_7 h2 =>
  arun Try.prog (Instr.storeAt 30 v12_7 v75_4) h2 fun _ h3 =>
  K ((((((((((env.set 72 (env 8)).set 73 (env 2)).set 74 v74_2).set 71 v74_2).set 75 v75_4).set 76 v76_5).set 77 v77_6).set 12 v12_7).set 13 v76_5).set 14 v77_6) h3
@[congr] theorem octroilaw08_TrieEmpty_r15_congr {env : Env} {h : Hp} {K : Env → Hp → Prop} : octroilaw08_TrieEmpty_r15 env h K = octroilaw08_TrieEmpty_r15 env h K := rfl

/-- more.go:44 -/
def octroilaw08_TrieEmpty_r16 (env : Env) (h : Hp) (K : Env → Hp → Prop) : Prop :=
  rd Try.prog (Op.unary Go.UnOp.not (env 14)) noHp fun v79_1 =>
  gd (yb v79_1 == some true) (fun h k => k (env 8) h) h fun v81_3 h1 =>
  gd (yb v79_1 == some true) (fun h k => Ok Try.prog 18 #[v81_3] h k) h1 fun v82_4 h2 =>
  gd (yb v79_1 == some true) (fun h k => rd Try.prog (bop Go.BinOp.eql 3 (Go.Operand.tmp 82) (Go.Operand.const (Go.Value.int Go.IntKind.i64 0)) v82_4 (Go.Value.int Go.IntKind.i64 0)) noHp fun v => k v h) h2 fun v83_5 h3 =>
  rd Try.prog (pck v79_1 v83_5 (Go.Value.bool false)) noHp fun v84_6 =>
  gd (yb v84_6 == some true) (fun h k => k (env 8) h) h3 fun v86_8 h4 =>
  gd (yb v84_6 == some true) (fun h k => Ok Try.prog 14 #[v86_8] h k) h4 fun v87_9 h5 =>
  gd (yb v84_6 == some true) (fun h k => rd Try.prog (Builtin.len_ #[37] 3 #[v87_9]) h fun v => k v h) h5 fun v88_10 h6 =>
  gd (yb v84_6 == some true) (fun h k => rd Try.prog (bop Go.BinOp.eql 3 (Go.Operand.tmp 88) (Go.Operand.const (Go.Value.int Go.IntKind.i64 0)) v88_10 (Go.Value.int Go.IntKind.i64 0)) noHp fun v => k v h) h6 fun v89_11 h7 =>
  rd Try.prog (pck v84_6 v89_11 (Go.Value.bool false)) noHp fun v90_12 =>
  gd (yb v90_12 == some true) (fun h k => k (env 8) h) h7 fun v92_14 h8 =>
  gd (yb v90_12 == some true) (fun h k => rd Try.prog (Instr.build 30 #[]) noHp fun v => k v h) h8 fun v93_15 h9 =>
  gd (yb v90_12 == some true) (fun h k => Ok Try.prog 11 #[v92_14, v93_15, (Go.Value.int Go.IntKind.i64 1)] h k) h9 fun v94_16 h10 =>
  gd (yb v90_12 == some true) (fun h k => rd Try.prog (bop Go.BinOp.eql 27 (Go.Operand.tmp 94) (Go.Operand.const (Go.Value.int Go.IntKind.i64 0)) v94_16 (Go.Value.int Go.IntKind.i64 0)) noHp fun v => k v h) h10 fun v95_17 h11 =>
  rd Try.prog (pck v90_12 v95_17 (Go.Value.bool false)) noHp fun v96_18 =>
  K ((((((((((((((((((((env.set 78 (env 14)).set 79 v79_1).set 80 v79_1).set 81 v81_3).set 82 v82_4).set 83 v83_5).set 84 v84_6).set 85 v84_6).set 86 v86_8).set 87 v87_9).set 88 v88_10).set 89 v89_11).set 90 v90_12).set 91 v90_12).set 92 v92_14).set 93 v93_15).set 94 v94_16).set 95 v95_17).set 96 v96_18).set 6 v96_18) h11
@[congr] theorem octroilaw08_TrieEmpty_r16_congr {env : Env} {h : Hp} {K : Env → Hp → Prop} : octroilaw08_TrieEmpty_r16 env h K = octroilaw08_TrieEmpty_r16 env h K := rfl

def octroilaw08_TrieEmpty_D : Den := (sq (rg octroilaw08_TrieEmpty_r0) (sq (rg octroilaw08_TrieEmpty_r1) (sq (rg octroilaw08_TrieEmpty_r2) (sq (sq (rg octroilaw08_TrieEmpty_r3) (cnd (Go.Operand.tmp 32) (sq (rg octroilaw08_TrieEmpty_r4) (ex .ret)) (ex .normal))) (sq (sq (rg octroilaw08_TrieEmpty_r5) (blk 0 (lp octroilaw08_TrieEmpty_L0))) (sq (rg octroilaw08_TrieEmpty_r9) (sq (sq (rg octroilaw08_TrieEmpty_r10) (blk 2 (lp octroilaw08_TrieEmpty_L1))) (sq (rg octroilaw08_TrieEmpty_r15) (sq (rg octroilaw08_TrieEmpty_r16) (ex .ret))))))))))

theorem octroilaw08_TrieEmpty_eq : (den Try.prog 97 octroilaw08_TrieEmpty_code).1 = octroilaw08_TrieEmpty_D := by kernel_rfl

theorem octroilaw08_TrieEmpty_ok {args : Array Value} {h : Hp} {Q : Value → Hp → Prop} (hn : args.size ≤ 97) (D : octroilaw08_TrieEmpty_D (fin Try.prog [(Go.ResultVar.tmp 6)] Q) (env0 args) h) : Ok Try.prog 6 args h Q :=
  ok_of_den progIsOk Try.func6 (c := octroilaw08_TrieEmpty_code) (by kernel_rfl) hn (by show (den Try.prog 97 octroilaw08_TrieEmpty_code).1 _ _ _; rw [octroilaw08_TrieEmpty_eq]; exact D)

/-! ### octroi/octroilaw08.TrieDoes: function 7 -/
noncomputable def octroilaw08_TrieDoes_code : Code := match Try.f7.body with | some c => c | none => .skip

/-- law.go:46 -/
def octroilaw08_TrieDoes_r0 (env : Env) (h : Hp) (K : Env → Hp → Prop) : Prop :=
  K (env.set 4 (Go.Value.bool false)) h
@[congr] theorem octroilaw08_TrieDoes_r0_congr {env : Env} {h : Hp} {K : Env → Hp → Prop} : octroilaw08_TrieDoes_r0 env h K = octroilaw08_TrieDoes_r0 env h K := rfl

/-- law.go:47 -/
def octroilaw08_TrieDoes_r1 (env : Env) (h : Hp) (K : Env → Hp → Prop) : Prop :=
  Ok Try.prog 9 #[] h fun v21_0 h1 =>
  K ((env.set 21 v21_0).set 5 v21_0) h1
@[congr] theorem octroilaw08_TrieDoes_r1_congr {env : Env} {h : Hp} {K : Env → Hp → Prop} : octroilaw08_TrieDoes_r1 env h K = octroilaw08_TrieDoes_r1 env h K := rfl

/-- law.go:48 -/
def octroilaw08_TrieDoes_r2 (env : Env) (h : Hp) (K : Env → Hp → Prop) : Prop :=
  Ok Try.prog 10 #[(env 0)] h fun v23_1 h1 =>
  K (((env.set 22 (env 0)).set 23 v23_1).set 6 v23_1) h1
@[congr] theorem octroilaw08_TrieDoes_r2_congr {env : Env} {h : Hp} {K : Env → Hp → Prop} : octroilaw08_TrieDoes_r2 env h K = octroilaw08_TrieDoes_r2 env h K := rfl

/-- law.go:49 -/
def octroilaw08_TrieDoes_r3 (env : Env) (h : Hp) (K : Env → Hp → Prop) : Prop :=
  rd Try.prog (Op.unary Go.UnOp.not (env 5)) noHp fun v25_1 =>
  gd (yb v25_1 == some false) (fun h k => k (env 6) h) h fun v27_3 h1 =>
  gd (yb v25_1 == some false) (fun h k => rd Try.prog (bop Go.BinOp.eql 25 (Go.Operand.tmp 27) (Go.Operand.const (Go.Value.pointer none)) v27_3 (Go.Value.pointer none)) noHp fun v => k v h) h1 fun v28_4 h2 =>
  rd Try.prog (pck v25_1 (Go.Value.bool true) v28_4) noHp fun v29_5 =>
  gd (yb v29_5 == some false) (fun h k => k (env 1) h) h2 fun v31_7 h3 =>
  gd (yb v29_5 == some false) (fun h k => rd Try.prog (Builtin.len_ #[22] 3 #[v31_7]) h fun v => k v h) h3 fun v32_8 h4 =>
  gd (yb v29_5 == some false) (fun h k => rd Try.prog (bop Go.BinOp.gtr 3 (Go.Operand.tmp 32) (Go.Operand.const (Go.Value.int Go.IntKind.i64 200)) v32_8 (Go.Value.int Go.IntKind.i64 200)) noHp fun v => k v h) h4 fun v33_9 h5 =>
  rd Try.prog (pck v29_5 (Go.Value.bool true) v33_9) noHp fun v34_10 =>
  K (((((((((((env.set 24 (env 5)).set 25 v25_1).set 26 v25_1).set 27 v27_3).set 28 v28_4).set 29 v29_5).set 30 v29_5).set 31 v31_7).set 32 v32_8).set 33 v33_9).set 34 v34_10) h5
@[congr] theorem octroilaw08_TrieDoes_r3_congr {env : Env} {h : Hp} {K : Env → Hp → Prop} : octroilaw08_TrieDoes_r3 env h K = octroilaw08_TrieDoes_r3 env h K := rfl

/-- law.go:50 -/
def octroilaw08_TrieDoes_r4 (env : Env) (h : Hp) (K : Env → Hp → Prop) : Prop :=
  gd (yb (env 5) == some true) (fun h k => k (env 6) h) h fun v37_2 h1 =>
  gd (yb (env 5) == some true) (fun h k => rd Try.prog (bop Go.BinOp.neq 25 (Go.Operand.tmp 37) (Go.Operand.const (Go.Value.pointer none)) v37_2 (Go.Value.pointer none)) noHp fun v => k v h) h1 fun v38_3 h2 =>
  rd Try.prog (pck (env 5) v38_3 (Go.Value.bool false)) noHp fun v39_4 =>
  K ((((((env.set 35 (env 5)).set 36 (env 5)).set 37 v37_2).set 38 v38_3).set 39 v39_4).set 4 v39_4) h2
@[congr] theorem octroilaw08_TrieDoes_r4_congr {env : Env} {h : Hp} {K : Env → Hp → Prop} : octroilaw08_TrieDoes_r4 env h K = octroilaw08_TrieDoes_r4 env h K := rfl

/-- law.go:52 -/
def octroilaw08_TrieDoes_r5 (env : Env) (h : Hp) (K : Env → Hp → Prop) : Prop :=
  rd Try.prog (Instr.build 50 #[(0, (env 0))]) noHp fun v41_1 =>
  arun Try.prog (Instr.box 50 v41_1) h fun v42_2 h1 =>
  K ((((env.set 40 (env 0)).set 41 v41_1).set 42 v42_2).set 7 v42_2) h1
@[congr] theorem octroilaw08_TrieDoes_r5_congr {env : Env} {h : Hp} {K : Env → Hp → Prop} : octroilaw08_TrieDoes_r5 env h K = octroilaw08_TrieDoes_r5 env h K := rfl

/-- law.go:53 -/
def octroilaw08_TrieDoes_r6 (env : Env) (h : Hp) (K : Env → Hp → Prop) : Prop :=
  K (env.set 8 (Go.Value.int Go.IntKind.i64 0)) h
@[congr] theorem octroilaw08_TrieDoes_r6_congr {env : Env} {h : Hp} {K : Env → Hp → Prop} : octroilaw08_TrieDoes_r6 env h K = octroilaw08_TrieDoes_r6 env h K := rfl

/-- law.go:53 -/
def octroilaw08_TrieDoes_r7 (env : Env) (h : Hp) (K : Env → Hp → Prop) : Prop :=
  rd Try.prog (Builtin.len_ #[22] 3 #[(env 1)]) h fun v45_2 =>
  rd Try.prog (bop Go.BinOp.lss 3 (Go.Operand.tmp 43) (Go.Operand.tmp 45) (env 8) v45_2) noHp fun v46_3 =>
  K ((((env.set 43 (env 8)).set 44 (env 1)).set 45 v45_2).set 46 v46_3) h
@[congr] theorem octroilaw08_TrieDoes_r7_congr {env : Env} {h : Hp} {K : Env → Hp → Prop} : octroilaw08_TrieDoes_r7 env h K = octroilaw08_TrieDoes_r7 env h K := rfl

/-- law.go:54 -/
def octroilaw08_TrieDoes_r8 (env : Env) (h : Hp) (K : Env → Hp → Prop) : Prop :=
  K (env.set 9 (Go.Value.bool true)) h
@[congr] theorem octroilaw08_TrieDoes_r8_congr {env : Env} {h : Hp} {K : Env → Hp → Prop} : octroilaw08_TrieDoes_r8 env h K = octroilaw08_TrieDoes_r8 env h K := rfl

/-- law.go:55 -/
def octroilaw08_TrieDoes_r9 (env : Env) (h : Hp) (K : Env → Hp → Prop) : Prop :=
  rd Try.prog (Instr.indexAt 22 (env 1) (env 8)) noHp fun v51_2 =>
  rd Try.prog (Instr.fieldAt 32 v51_2 0) noHp fun v52_3 =>
  rd Try.prog (Instr.loadAt 3 v52_3) h fun v53_4 =>
  K (((((env.set 49 (env 1)).set 50 (env 8)).set 51 v51_2).set 52 v52_3).set 53 v53_4) h
@[congr] theorem octroilaw08_TrieDoes_r9_congr {env : Env} {h : Hp} {K : Env → Hp → Prop} : octroilaw08_TrieDoes_r9 env h K = octroilaw08_TrieDoes_r9 env h K := rfl

/-- law.go:56 -/
def octroilaw08_TrieDoes_r10 (env : Env) (h : Hp) (K : Env → Hp → Prop) : Prop :=
  rd Try.prog (bop Go.BinOp.eql 3 (Go.Operand.tmp 53) (Go.Operand.const (Go.Value.int Go.IntKind.i64 0)) (env 53) (Go.Value.int Go.IntKind.i64 0)) noHp fun v55_0 =>
  K ((env.set 55 v55_0).set 54 v55_0) h
@[congr] theorem octroilaw08_TrieDoes_r10_congr {env : Env} {h : Hp} {K : Env → Hp → Prop} : octroilaw08_TrieDoes_r10 env h K = octroilaw08_TrieDoes_r10 env h K := rfl

/-- law.go:57 (in any order) -/
def octroilaw08_TrieDoes_r11 (env : Env) (h : Hp) (K : Env → Hp → Prop) : Prop :=
  rd Try.prog (Instr.indexAt 22 (env 1) (env 8)) noHp fun v59_3 =>
  rd Try.prog (Instr.fieldAt 32 v59_3 1) noHp fun v60_4 =>
  rd Try.prog (Instr.loadAt 30 v60_4) h fun v61_5 =>
  rd Try.prog (Instr.indexAt 22 (env 1) (env 8)) noHp fun v64_8 =>
  rd Try.prog (Instr.fieldAt 32 v64_8 2) noHp fun v65_9 =>
  rd Try.prog (Instr.loadAt 3 v65_9) h fun v66_10 =>
  rd Try.prog (Instr.indexAt 22 (env 1) (env 8)) noHp fun v71_14 =>
  rd Try.prog (Instr.fieldAt 32 v71_14 1) noHp fun v72_15 =>
  rd Try.prog (Instr.loadAt 30 v72_15) h fun v73_16 =>
  rd Try.prog (Instr.indexAt 22 (env 1) (env 8)) noHp fun v76_19 =>
  rd Try.prog (Instr.fieldAt 32 v76_19 2) noHp fun v77_20 =>
  rd Try.prog (Instr.loadAt 3 v77_20) h fun v78_21 =>
  Ok Try.prog 11 #[(env 6), v61_5, v66_10] h fun v67_22 h1 =>
  (rrun Try.prog (Instr.loadAt 3 v77_20) h1 = some v78_21 ∧ rrun Try.prog (Instr.loadAt 30 v72_15) h1 = some v73_16 ∧ True) ∧
  Ok Try.prog 19 #[(env 7), v73_16, v78_21] h1 fun v79_23 h2 =>
  (True) ∧
  rd Try.prog (bop Go.BinOp.eql 27 (Go.Operand.tmp 67) (Go.Operand.tmp 79) v67_22 v79_23) noHp fun v80_24 =>
  K ((((((((((((((((((((((((((env.set 56 (env 6)).set 57 (env 1)).set 58 (env 8)).set 59 v59_3).set 60 v60_4).set 61 v61_5).set 62 (env 1)).set 63 (env 8)).set 64 v64_8).set 65 v65_9).set 66 v66_10).set 68 (env 7)).set 69 (env 1)).set 70 (env 8)).set 71 v71_14).set 72 v72_15).set 73 v73_16).set 74 (env 1)).set 75 (env 8)).set 76 v76_19).set 77 v77_20).set 78 v78_21).set 67 v67_22).set 79 v79_23).set 80 v80_24).set 9 v80_24) h2
@[congr] theorem octroilaw08_TrieDoes_r11_congr {env : Env} {h : Hp} {K : Env → Hp → Prop} : octroilaw08_TrieDoes_r11 env h K = octroilaw08_TrieDoes_r11 env h K := rfl

/-- law.go:58 -/
def octroilaw08_TrieDoes_r12 (env : Env) (h : Hp) (K : Env → Hp → Prop) : Prop :=
  rd Try.prog (bop Go.BinOp.eql 3 (Go.Operand.tmp 53) (Go.Operand.const (Go.Value.int Go.IntKind.i64 1)) (env 53) (Go.Value.int Go.IntKind.i64 1)) noHp fun v82_0 =>
  K ((env.set 82 v82_0).set 81 v82_0) h
@[congr] theorem octroilaw08_TrieDoes_r12_congr {env : Env} {h : Hp} {K : Env → Hp → Prop} : octroilaw08_TrieDoes_r12 env h K = octroilaw08_TrieDoes_r12 env h K := rfl

/-- law.go:59 (in any order) -/
def octroilaw08_TrieDoes_r13 (env : Env) (h : Hp) (K : Env → Hp → Prop) : Prop :=
  rd Try.prog (Instr.indexAt 22 (env 1) (env 8)) noHp fun v86_3 =>
  rd Try.prog (Instr.fieldAt 32 v86_3 1) noHp fun v87_4 =>
  rd Try.prog (Instr.loadAt 30 v87_4) h fun v88_5 =>
  rd Try.prog (Instr.indexAt 22 (env 1) (env 8)) noHp fun v93_9 =>
  rd Try.prog (Instr.fieldAt 32 v93_9 1) noHp fun v94_10 =>
  rd Try.prog (Instr.loadAt 30 v94_10) h fun v95_11 =>
  Ok Try.prog 17 #[(env 6), v88_5] h fun v89_12 h1 =>
  (rrun Try.prog (Instr.loadAt 30 v94_10) h1 = some v95_11 ∧ True) ∧
  Ok Try.prog 20 #[(env 7), v95_11] h1 fun v96_13 h2 =>
  (True) ∧
  rd Try.prog (bop Go.BinOp.eql 27 (Go.Operand.tmp 89) (Go.Operand.tmp 96) v89_12 v96_13) noHp fun v97_14 =>
  K ((((((((((((((((env.set 83 (env 6)).set 84 (env 1)).set 85 (env 8)).set 86 v86_3).set 87 v87_4).set 88 v88_5).set 90 (env 7)).set 91 (env 1)).set 92 (env 8)).set 93 v93_9).set 94 v94_10).set 95 v95_11).set 89 v89_12).set 96 v96_13).set 97 v97_14).set 9 v97_14) h2
@[congr] theorem octroilaw08_TrieDoes_r13_congr {env : Env} {h : Hp} {K : Env → Hp → Prop} : octroilaw08_TrieDoes_r13 env h K = octroilaw08_TrieDoes_r13 env h K := rfl

/-- law.go:60 -/
def octroilaw08_TrieDoes_r14 (env : Env) (h : Hp) (K : Env → Hp → Prop) : Prop :=
  rd Try.prog (bop Go.BinOp.eql 3 (Go.Operand.tmp 53) (Go.Operand.const (Go.Value.int Go.IntKind.i64 2)) (env 53) (Go.Value.int Go.IntKind.i64 2)) noHp fun v99_0 =>
  K ((env.set 99 v99_0).set 98 v99_0) h
@[congr] theorem octroilaw08_TrieDoes_r14_congr {env : Env} {h : Hp} {K : Env → Hp → Prop} : octroilaw08_TrieDoes_r14 env h K = octroilaw08_TrieDoes_r14 env h K := rfl

/-- law.go:61 -/
def octroilaw08_TrieDoes_r15 (env : Env) (h : Hp) (K : Env → Hp → Prop) : Prop :=
  rd Try.prog (Instr.indexAt 22 (env 1) (env 8)) noHp fun v104_3 =>
  rd Try.prog (Instr.fieldAt 32 v104_3 1) noHp fun v105_4 =>
  rd Try.prog (Instr.loadAt 30 v105_4) h fun v106_5 =>
  Ok Try.prog 15 #[(env 6), v106_5] h fun v107_6 h1 =>
  rd Try.prog (Instr.extract v107_6 0) noHp fun v108_8 =>
  rd Try.prog (Instr.extract v107_6 1) noHp fun v109_9 =>
  K ((((((((((((env.set 101 (env 6)).set 102 (env 1)).set 103 (env 8)).set 104 v104_3).set 105 v105_4).set 106 v106_5).set 107 v107_6).set 100 v107_6).set 108 v108_8).set 109 v109_9).set 10 v108_8).set 11 v109_9) h1
@[congr] theorem octroilaw08_TrieDoes_r15_congr {env : Env} {h : Hp} {K : Env → Hp → Prop} : octroilaw08_TrieDoes_r15 env h K = octroilaw08_TrieDoes_r15 env h K := rfl

/-- law.go:62 -/
def octroilaw08_TrieDoes_r16 (env : Env) (h : Hp) (K : Env → Hp → Prop) : Prop :=
  rd Try.prog (Instr.indexAt 22 (env 1) (env 8)) noHp fun v114_3 =>
  rd Try.prog (Instr.fieldAt 32 v114_3 1) noHp fun v115_4 =>
  rd Try.prog (Instr.loadAt 30 v115_4) h fun v116_5 =>
  Ok Try.prog 21 #[(env 7), v116_5] h fun v117_6 h1 =>
  rd Try.prog (Instr.extract v117_6 0) noHp fun v118_8 =>
  rd Try.prog (Instr.extract v117_6 1) noHp fun v119_9 =>
  K ((((((((((((env.set 111 (env 7)).set 112 (env 1)).set 113 (env 8)).set 114 v114_3).set 115 v115_4).set 116 v116_5).set 117 v117_6).set 110 v117_6).set 118 v118_8).set 119 v119_9).set 12 v118_8).set 13 v119_9) h1
@[congr] theorem octroilaw08_TrieDoes_r16_congr {env : Env} {h : Hp} {K : Env → Hp → Prop} : octroilaw08_TrieDoes_r16 env h K = octroilaw08_TrieDoes_r16 env h K := rfl

/-- law.go:63 -/
def octroilaw08_TrieDoes_r17 (env : Env) (h : Hp) (K : Env → Hp → Prop) : Prop :=
  rd Try.prog (bop Go.BinOp.eql 3 (Go.Operand.tmp 120) (Go.Operand.tmp 121) (env 10) (env 12)) noHp fun v122_2 =>
  gd (yb v122_2 == some true) (fun h k => k (env 11) h) h fun v124_4 h1 =>
  gd (yb v122_2 == some true) (fun h k => k (env 13) h) h1 fun v125_5 h2 =>
  gd (yb v122_2 == some true) (fun h k => rd Try.prog (bop Go.BinOp.eql 4 (Go.Operand.tmp 124) (Go.Operand.tmp 125) v124_4 v125_5) noHp fun v => k v h) h2 fun v126_6 h3 =>
  rd Try.prog (pck v122_2 v126_6 (Go.Value.bool false)) noHp fun v127_7 =>
  K (((((((((env.set 120 (env 10)).set 121 (env 12)).set 122 v122_2).set 123 v122_2).set 124 v124_4).set 125 v125_5).set 126 v126_6).set 127 v127_7).set 9 v127_7) h3
@[congr] theorem octroilaw08_TrieDoes_r17_congr {env : Env} {h : Hp} {K : Env → Hp → Prop} : octroilaw08_TrieDoes_r17 env h K = octroilaw08_TrieDoes_r17 env h K := rfl

/-- law.go:65 -/
def octroilaw08_TrieDoes_r18 (env : Env) (h : Hp) (K : Env → Hp → Prop) : Prop :=
  rd Try.prog (Instr.indexAt 22 (env 1) (env 8)) noHp fun v132_3 =>
  rd Try.prog (Instr.fieldAt 32 v132_3 3) noHp fun v133_4 =>
  rd Try.prog (Instr.loadAt 23 v133_4) h fun v134_5 =>
  Ok Try.prog 12 #[(env 6), v134_5] h fun v135_6 h1 =>
  rd Try.prog (Instr.extract v135_6 0) noHp fun v136_8 =>
  rd Try.prog (Instr.extract v135_6 1) noHp fun v137_9 =>
  rd Try.prog (Instr.extract v135_6 2) noHp fun v138_10 =>
  arun Try.prog (Instr.alloc 30 true (Go.Value.tuple #[])) h1 fun v14_11 h2 =>
  arun Try.prog (Instr.storeAt 30 v14_11 v136_8) h2 fun _ h3 =>
  K ((((((((((((((env.set 129 (env 6)).set 130 (env 1)).set 131 (env 8)).set 132 v132_3).set 133 v133_4).set 134 v134_5).set 135 v135_6).set 128 v135_6).set 136 v136_8).set 137 v137_9).set 138 v138_10).set 14 v14_11).set 15 v137_9).set 16 v138_10) h3
@[congr] theorem octroilaw08_TrieDoes_r18_congr {env : Env} {h : Hp} {K : Env → Hp → Prop} : octroilaw08_TrieDoes_r18 env h K = octroilaw08_TrieDoes_r18 env h K := rfl

/-- law.go:66 -/
def octroilaw08_TrieDoes_r19 (env : Env) (h : Hp) (K : Env → Hp → Prop) : Prop :=
  rd Try.prog (Instr.indexAt 22 (env 1) (env 8)) noHp fun v143_3 =>
  rd Try.prog (Instr.fieldAt 32 v143_3 3) noHp fun v144_4 =>
  rd Try.prog (Instr.loadAt 23 v144_4) h fun v145_5 =>
  Ok Try.prog 22 #[(env 7), v145_5] h fun v146_6 h1 =>
  rd Try.prog (Instr.extract v146_6 0) noHp fun v147_8 =>
  rd Try.prog (Instr.extract v146_6 1) noHp fun v148_9 =>
  rd Try.prog (Instr.extract v146_6 2) noHp fun v149_10 =>
  arun Try.prog (Instr.alloc 30 true (Go.Value.tuple #[])) h1 fun v17_11 h2 =>
  arun Try.prog (Instr.storeAt 30 v17_11 v147_8) h2 fun _ h3 =>
  K ((((((((((((((env.set 140 (env 7)).set 141 (env 1)).set 142 (env 8)).set 143 v143_3).set 144 v144_4).set 145 v145_5).set 146 v146_6).set 139 v146_6).set 147 v147_8).set 148 v148_9).set 149 v149_10).set 17 v17_11).set 18 v148_9).set 19 v149_10) h3
@[congr] theorem octroilaw08_TrieDoes_r19_congr {env : Env} {h : Hp} {K : Env → Hp → Prop} : octroilaw08_TrieDoes_r19 env h K = octroilaw08_TrieDoes_r19 env h K := rfl

/-- law.go:67 (in any order) -/
def octroilaw08_TrieDoes_r20 (env : Env) (h : Hp) (K : Env → Hp → Prop) : Prop :=
  nck (env 7) (
  rd Try.prog (Instr.fieldAt 50 (env 7) 1) noHp fun v154_3 =>
  rd Try.prog (Instr.loadAt 48 v154_3) h fun v155_4 =>
  Ok Try.prog 14 #[(env 6)] h fun v151_5 h1 =>
  (rrun Try.prog (Instr.loadAt 48 v154_3) h1 = some v155_4 ∧ True) ∧
  Ok Try.prog 23 #[v151_5, v155_4] h1 fun v156_6 h2 =>
  (True) ∧
  K ((((((((env.set 150 (env 6)).set 152 (env 7)).set 153 (env 7)).set 154 v154_3).set 155 v155_4).set 151 v151_5).set 156 v156_6).set 20 v156_6) h2)
@[congr] theorem octroilaw08_TrieDoes_r20_congr {env : Env} {h : Hp} {K : Env → Hp → Prop} : octroilaw08_TrieDoes_r20 env h K = octroilaw08_TrieDoes_r20 env h K := rfl

/-- law.go:68 (in any order) -/
def octroilaw08_TrieDoes_r21 (env : Env) (h : Hp) (K : Env → Hp → Prop) : Prop :=
  rd Try.prog (Op.unary Go.UnOp.not (env 9)) noHp fun v158_1 =>
  gd (yb v158_1 == some false) (fun h k => k (env 20) h) h fun v160_3 h1 =>
  gd (yb v158_1 == some false) (fun h k => rd Try.prog (Op.unary Go.UnOp.not v160_3) noHp fun v => k v h) h1 fun v161_4 h2 =>
  rd Try.prog (pck v158_1 (Go.Value.bool true) v161_4) noHp fun v162_5 =>
  gd (yb v162_5 == some false) (fun h k => rd Try.prog (Instr.loadAt 30 (env 14)) h fun v => k v h) h2 fun v164_7 h3 =>
  gd (yb v162_5 == some false) (fun h k => rd Try.prog (Instr.loadAt 30 (env 17)) h fun v => k v h) h3 fun v165_8 h4 =>
  gd (yb v162_5 == some false) (fun h k => rd Try.prog (bop Go.BinOp.neq 30 (Go.Operand.tmp 164) (Go.Operand.tmp 165) v164_7 v165_8) noHp fun v => k v h) h4 fun v166_9 h5 =>
  rd Try.prog (pck v162_5 (Go.Value.bool true) v166_9) noHp fun v167_10 =>
  gd (yb v167_10 == some false) (fun h k => k (env 15) h) h5 fun v169_12 h6 =>
  gd (yb v167_10 == some false) (fun h k => k (env 18) h) h6 fun v170_13 h7 =>
  gd (yb v167_10 == some false) (fun h k => rd Try.prog (bop Go.BinOp.neq 3 (Go.Operand.tmp 169) (Go.Operand.tmp 170) v169_12 v170_13) noHp fun v => k v h) h7 fun v171_14 h8 =>
  rd Try.prog (pck v167_10 (Go.Value.bool true) v171_14) noHp fun v172_15 =>
  gd (yb v172_15 == some false) (fun h k => k (env 16) h) h8 fun v174_17 h9 =>
  gd (yb v172_15 == some false) (fun h k => k (env 19) h) h9 fun v175_18 h10 =>
  gd (yb v172_15 == some false) (fun h k => rd Try.prog (bop Go.BinOp.neq 4 (Go.Operand.tmp 174) (Go.Operand.tmp 175) v174_17 v175_18) noHp fun v => k v h) h10 fun v176_19 h11 =>
  rd Try.prog (pck v172_15 (Go.Value.bool true) v176_19) noHp fun v177_20 =>
  gd (yb v177_20 == some false) (fun h k => k (env 6) h) h11 fun v179_22 h12 =>
  gd (yb v177_20 == some false) (fun h k => k (env 7) h) h12 fun v181_23 h13 =>
  gd (yb v177_20 == some false) (fun h k => nck v181_23 (k v181_23 h)) h13 fun v182_24 h14 =>
  gd (yb v177_20 == some false) (fun h k => rd Try.prog (Instr.fieldAt 50 v182_24 1) noHp fun v => k v h) h14 fun v183_25 h15 =>
  gd (yb v177_20 == some false) (fun h k => rd Try.prog (Instr.loadAt 48 v183_25) h fun v => k v h) h15 fun v184_26 h16 =>
  gd (yb v177_20 == some false) (fun h k => rd Try.prog (Builtin.len_ #[48] 3 #[v184_26]) h fun v => k v h) h16 fun v185_27 h17 =>
  gd (yb v177_20 == some false) (fun h k => Ok Try.prog 18 #[v179_22] h k) h17 fun v180_28 h18 =>
  (((yb v177_20 == some false) = true → rrun Try.prog (Builtin.len_ #[48] 3 #[v184_26]) h18 = some v185_27) ∧ ((yb v177_20 == some false) = true → rrun Try.prog (Instr.loadAt 48 v183_25) h18 = some v184_26) ∧ True) ∧
  gd (yb v177_20 == some false) (fun h k => rd Try.prog (bop Go.BinOp.neq 3 (Go.Operand.tmp 180) (Go.Operand.tmp 185) v180_28 v185_27) noHp fun v => k v h) h18 fun v186_29 h19 =>
  rd Try.prog (pck v177_20 (Go.Value.bool true) v186_29) noHp fun v187_30 =>
  K (((((((((((((((((((((((((((((((env.set 157 (env 9)).set 158 v158_1).set 159 v158_1).set 160 v160_3).set 161 v161_4).set 162 v162_5).set 163 v162_5).set 164 v164_7).set 165 v165_8).set 166 v166_9).set 167 v167_10).set 168 v167_10).set 169 v169_12).set 170 v170_13).set 171 v171_14).set 172 v172_15).set 173 v172_15).set 174 v174_17).set 175 v175_18).set 176 v176_19).set 177 v177_20).set 178 v177_20).set 179 v179_22).set 181 v181_23).set 182 v182_24).set 183 v183_25).set 184 v184_26).set 185 v185_27).set 180 v180_28).set 186 v186_29).set 187 v187_30) h19
@[congr] theorem octroilaw08_TrieDoes_r21_congr {env : Env} {h : Hp} {K : Env → Hp → Prop} : octroilaw08_TrieDoes_r21 env h K = octroilaw08_TrieDoes_r21 env h K := rfl

/-- law.go:69 -/
def octroilaw08_TrieDoes_r22 (env : Env) (h : Hp) (K : Env → Hp → Prop) : Prop :=
  K (env.set 4 (Go.Value.bool false)) h
@[congr] theorem octroilaw08_TrieDoes_r22_congr {env : Env} {h : Hp} {K : Env → Hp → Prop} : octroilaw08_TrieDoes_r22 env h K = octroilaw08_TrieDoes_r22 env h K := rfl

/-- law.go:53 -/
def octroilaw08_TrieDoes_r23 (env : Env) (h : Hp) (K : Env → Hp → Prop) : Prop :=
  rd Try.prog (bop Go.BinOp.add 3 (Go.Operand.tmp 47) (Go.Operand.const (Go.Value.int Go.IntKind.i64 1)) (env 8) (Go.Value.int Go.IntKind.i64 1)) noHp fun v48_1 =>
  K (((env.set 47 (env 8)).set 48 v48_1).set 8 v48_1) h
@[congr] theorem octroilaw08_TrieDoes_r23_congr {env : Env} {h : Hp} {K : Env → Hp → Prop} : octroilaw08_TrieDoes_r23 env h K = octroilaw08_TrieDoes_r23 env h K := rfl

def octroilaw08_TrieDoes_L0 : Den := (sq (sq (rg octroilaw08_TrieDoes_r7) (cnd (Go.Operand.tmp 46) (ex .normal) (ex (.exit 0)))) (sq (blk 1 (sq (rg octroilaw08_TrieDoes_r8) (sq (sq (rg octroilaw08_TrieDoes_r9) (blk 2 (sq (rg octroilaw08_TrieDoes_r10) (cnd (Go.Operand.tmp 54) (rg octroilaw08_TrieDoes_r11) (sq (rg octroilaw08_TrieDoes_r12) (cnd (Go.Operand.tmp 81) (rg octroilaw08_TrieDoes_r13) (sq (rg octroilaw08_TrieDoes_r14) (cnd (Go.Operand.tmp 98) (sq (rg octroilaw08_TrieDoes_r15) (sq (rg octroilaw08_TrieDoes_r16) (rg octroilaw08_TrieDoes_r17))) (ex .normal))))))))) (sq (rg octroilaw08_TrieDoes_r18) (sq (rg octroilaw08_TrieDoes_r19) (sq (rg octroilaw08_TrieDoes_r20) (sq (rg octroilaw08_TrieDoes_r21) (cnd (Go.Operand.tmp 187) (sq (rg octroilaw08_TrieDoes_r22) (ex .ret)) (ex .normal))))))))) (rg octroilaw08_TrieDoes_r23)))

/-- law.go:72 -/
def octroilaw08_TrieDoes_r24 (env : Env) (h : Hp) (K : Env → Hp → Prop) : Prop :=
  K (env.set 4 (Go.Value.bool true)) h
@[congr] theorem octroilaw08_TrieDoes_r24_congr {env : Env} {h : Hp} {K : Env → Hp → Prop} : octroilaw08_TrieDoes_r24 env h K = octroilaw08_TrieDoes_r24 env h K := rfl

def octroilaw08_TrieDoes_D : Den := (sq (rg octroilaw08_TrieDoes_r0) (sq (rg octroilaw08_TrieDoes_r1) (sq (rg octroilaw08_TrieDoes_r2) (sq (sq (rg octroilaw08_TrieDoes_r3) (cnd (Go.Operand.tmp 34) (sq (rg octroilaw08_TrieDoes_r4) (ex .ret)) (ex .normal))) (sq (rg octroilaw08_TrieDoes_r5) (sq (sq (rg octroilaw08_TrieDoes_r6) (blk 0 (lp octroilaw08_TrieDoes_L0))) (sq (rg octroilaw08_TrieDoes_r24) (ex .ret))))))))

theorem octroilaw08_TrieDoes_eq : (den Try.prog 188 octroilaw08_TrieDoes_code).1 = octroilaw08_TrieDoes_D := by kernel_rfl

theorem octroilaw08_TrieDoes_ok {args : Array Value} {h : Hp} {Q : Value → Hp → Prop} (hn : args.size ≤ 188) (D : octroilaw08_TrieDoes_D (fin Try.prog [(Go.ResultVar.tmp 4)] Q) (env0 args) h) : Ok Try.prog 7 args h Q :=
  ok_of_den progIsOk Try.func7 (c := octroilaw08_TrieDoes_code) (by kernel_rfl) hn (by show (den Try.prog 188 octroilaw08_TrieDoes_code).1 _ _ _; rw [octroilaw08_TrieDoes_eq]; exact D)

/-! ### octroi/octroilaw08.TrieLongest: function 8 -/
noncomputable def octroilaw08_TrieLongest_code : Code := match Try.f8.body with | some c => c | none => .skip

/-- law.go:76 -/
def octroilaw08_TrieLongest_r0 (env : Env) (h : Hp) (K : Env → Hp → Prop) : Prop :=
  K (env.set 6 (Go.Value.bool false)) h
@[congr] theorem octroilaw08_TrieLongest_r0_congr {env : Env} {h : Hp} {K : Env → Hp → Prop} : octroilaw08_TrieLongest_r0 env h K = octroilaw08_TrieLongest_r0 env h K := rfl

/-- law.go:77 -/
def octroilaw08_TrieLongest_r1 (env : Env) (h : Hp) (K : Env → Hp → Prop) : Prop :=
  Ok Try.prog 9 #[] h fun v17_0 h1 =>
  K ((env.set 17 v17_0).set 7 v17_0) h1
@[congr] theorem octroilaw08_TrieLongest_r1_congr {env : Env} {h : Hp} {K : Env → Hp → Prop} : octroilaw08_TrieLongest_r1 env h K = octroilaw08_TrieLongest_r1 env h K := rfl

/-- law.go:78 -/
def octroilaw08_TrieLongest_r2 (env : Env) (h : Hp) (K : Env → Hp → Prop) : Prop :=
  Ok Try.prog 10 #[(env 0)] h fun v19_1 h1 =>
  K (((env.set 18 (env 0)).set 19 v19_1).set 8 v19_1) h1
@[congr] theorem octroilaw08_TrieLongest_r2_congr {env : Env} {h : Hp} {K : Env → Hp → Prop} : octroilaw08_TrieLongest_r2 env h K = octroilaw08_TrieLongest_r2 env h K := rfl

/-- law.go:79 -/
def octroilaw08_TrieLongest_r3 (env : Env) (h : Hp) (K : Env → Hp → Prop) : Prop :=
  rd Try.prog (Op.unary Go.UnOp.not (env 7)) noHp fun v21_1 =>
  gd (yb v21_1 == some false) (fun h k => k (env 8) h) h fun v23_3 h1 =>
  gd (yb v21_1 == some false) (fun h k => rd Try.prog (bop Go.BinOp.eql 25 (Go.Operand.tmp 23) (Go.Operand.const (Go.Value.pointer none)) v23_3 (Go.Value.pointer none)) noHp fun v => k v h) h1 fun v24_4 h2 =>
  rd Try.prog (pck v21_1 (Go.Value.bool true) v24_4) noHp fun v25_5 =>
  gd (yb v25_5 == some false) (fun h k => k (env 1) h) h2 fun v27_7 h3 =>
  gd (yb v25_5 == some false) (fun h k => rd Try.prog (Builtin.len_ #[22] 3 #[v27_7]) h fun v => k v h) h3 fun v28_8 h4 =>
  gd (yb v25_5 == some false) (fun h k => rd Try.prog (bop Go.BinOp.gtr 3 (Go.Operand.tmp 28) (Go.Operand.const (Go.Value.int Go.IntKind.i64 200)) v28_8 (Go.Value.int Go.IntKind.i64 200)) noHp fun v => k v h) h4 fun v29_9 h5 =>
  rd Try.prog (pck v25_5 (Go.Value.bool true) v29_9) noHp fun v30_10 =>
  K (((((((((((env.set 20 (env 7)).set 21 v21_1).set 22 v21_1).set 23 v23_3).set 24 v24_4).set 25 v25_5).set 26 v25_5).set 27 v27_7).set 28 v28_8).set 29 v29_9).set 30 v30_10) h5
@[congr] theorem octroilaw08_TrieLongest_r3_congr {env : Env} {h : Hp} {K : Env → Hp → Prop} : octroilaw08_TrieLongest_r3 env h K = octroilaw08_TrieLongest_r3 env h K := rfl

/-- law.go:80 -/
def octroilaw08_TrieLongest_r4 (env : Env) (h : Hp) (K : Env → Hp → Prop) : Prop :=
  gd (yb (env 7) == some true) (fun h k => k (env 8) h) h fun v33_2 h1 =>
  gd (yb (env 7) == some true) (fun h k => rd Try.prog (bop Go.BinOp.neq 25 (Go.Operand.tmp 33) (Go.Operand.const (Go.Value.pointer none)) v33_2 (Go.Value.pointer none)) noHp fun v => k v h) h1 fun v34_3 h2 =>
  rd Try.prog (pck (env 7) v34_3 (Go.Value.bool false)) noHp fun v35_4 =>
  K ((((((env.set 31 (env 7)).set 32 (env 7)).set 33 v33_2).set 34 v34_3).set 35 v35_4).set 6 v35_4) h2
@[congr] theorem octroilaw08_TrieLongest_r4_congr {env : Env} {h : Hp} {K : Env → Hp → Prop} : octroilaw08_TrieLongest_r4 env h K = octroilaw08_TrieLongest_r4 env h K := rfl

/-- law.go:82 -/
def octroilaw08_TrieLongest_r5 (env : Env) (h : Hp) (K : Env → Hp → Prop) : Prop :=
  K (env.set 9 (Go.Value.int Go.IntKind.i64 0)) h
@[congr] theorem octroilaw08_TrieLongest_r5_congr {env : Env} {h : Hp} {K : Env → Hp → Prop} : octroilaw08_TrieLongest_r5 env h K = octroilaw08_TrieLongest_r5 env h K := rfl

/-- law.go:82 -/
def octroilaw08_TrieLongest_r6 (env : Env) (h : Hp) (K : Env → Hp → Prop) : Prop :=
  rd Try.prog (Builtin.len_ #[22] 3 #[(env 1)]) h fun v38_2 =>
  rd Try.prog (bop Go.BinOp.lss 3 (Go.Operand.tmp 36) (Go.Operand.tmp 38) (env 9) v38_2) noHp fun v39_3 =>
  K ((((env.set 36 (env 9)).set 37 (env 1)).set 38 v38_2).set 39 v39_3) h
@[congr] theorem octroilaw08_TrieLongest_r6_congr {env : Env} {h : Hp} {K : Env → Hp → Prop} : octroilaw08_TrieLongest_r6 env h K = octroilaw08_TrieLongest_r6 env h K := rfl

/-- law.go:83 -/
def octroilaw08_TrieLongest_r7 (env : Env) (h : Hp) (K : Env → Hp → Prop) : Prop :=
  rd Try.prog (Instr.indexAt 22 (env 1) (env 9)) noHp fun v44_2 =>
  rd Try.prog (Instr.fieldAt 32 v44_2 0) noHp fun v45_3 =>
  rd Try.prog (Instr.loadAt 3 v45_3) h fun v46_4 =>
  rd Try.prog (bop Go.BinOp.eql 3 (Go.Operand.tmp 46) (Go.Operand.const (Go.Value.int Go.IntKind.i64 1)) v46_4 (Go.Value.int Go.IntKind.i64 1)) noHp fun v47_5 =>
  K ((((((env.set 42 (env 1)).set 43 (env 9)).set 44 v44_2).set 45 v45_3).set 46 v46_4).set 47 v47_5) h
@[congr] theorem octroilaw08_TrieLongest_r7_congr {env : Env} {h : Hp} {K : Env → Hp → Prop} : octroilaw08_TrieLongest_r7 env h K = octroilaw08_TrieLongest_r7 env h K := rfl

/-- law.go:84 -/
def octroilaw08_TrieLongest_r8 (env : Env) (h : Hp) (K : Env → Hp → Prop) : Prop :=
  rd Try.prog (Instr.indexAt 22 (env 1) (env 9)) noHp fun v51_3 =>
  rd Try.prog (Instr.fieldAt 32 v51_3 1) noHp fun v52_4 =>
  rd Try.prog (Instr.loadAt 30 v52_4) h fun v53_5 =>
  Ok Try.prog 17 #[(env 8), v53_5] h fun v54_6 h1 =>
  K (((((((env.set 48 (env 8)).set 49 (env 1)).set 50 (env 9)).set 51 v51_3).set 52 v52_4).set 53 v53_5).set 54 v54_6) h1
@[congr] theorem octroilaw08_TrieLongest_r8_congr {env : Env} {h : Hp} {K : Env → Hp → Prop} : octroilaw08_TrieLongest_r8 env h K = octroilaw08_TrieLongest_r8 env h K := rfl

/-- law.go:86 (in any order) -/
def octroilaw08_TrieLongest_r9 (env : Env) (h : Hp) (K : Env → Hp → Prop) : Prop :=
  rd Try.prog (Instr.indexAt 22 (env 1) (env 9)) noHp fun v58_3 =>
  rd Try.prog (Instr.fieldAt 32 v58_3 1) noHp fun v59_4 =>
  rd Try.prog (Instr.loadAt 30 v59_4) h fun v60_5 =>
  rd Try.prog (Instr.indexAt 22 (env 1) (env 9)) noHp fun v63_8 =>
  rd Try.prog (Instr.fieldAt 32 v63_8 2) noHp fun v64_9 =>
  rd Try.prog (Instr.loadAt 3 v64_9) h fun v65_10 =>
  Ok Try.prog 11 #[(env 8), v60_5, v65_10] h fun v66_11 h1 =>
  (True) ∧
  K ((((((((((((env.set 55 (env 8)).set 56 (env 1)).set 57 (env 9)).set 58 v58_3).set 59 v59_4).set 60 v60_5).set 61 (env 1)).set 62 (env 9)).set 63 v63_8).set 64 v64_9).set 65 v65_10).set 66 v66_11) h1
@[congr] theorem octroilaw08_TrieLongest_r9_congr {env : Env} {h : Hp} {K : Env → Hp → Prop} : octroilaw08_TrieLongest_r9 env h K = octroilaw08_TrieLongest_r9 env h K := rfl

/-- law.go:82 -/
def octroilaw08_TrieLongest_r10 (env : Env) (h : Hp) (K : Env → Hp → Prop) : Prop :=
  rd Try.prog (bop Go.BinOp.add 3 (Go.Operand.tmp 40) (Go.Operand.const (Go.Value.int Go.IntKind.i64 1)) (env 9) (Go.Value.int Go.IntKind.i64 1)) noHp fun v41_1 =>
  K (((env.set 40 (env 9)).set 41 v41_1).set 9 v41_1) h
@[congr] theorem octroilaw08_TrieLongest_r10_congr {env : Env} {h : Hp} {K : Env → Hp → Prop} : octroilaw08_TrieLongest_r10 env h K = octroilaw08_TrieLongest_r10 env h K := rfl

def octroilaw08_TrieLongest_L0 : Den := (sq (sq (rg octroilaw08_TrieLongest_r6) (cnd (Go.Operand.tmp 39) (ex .normal) (ex (.exit 0)))) (sq (blk 1 (sq (rg octroilaw08_TrieLongest_r7) (cnd (Go.Operand.tmp 47) (rg octroilaw08_TrieLongest_r8) (rg octroilaw08_TrieLongest_r9)))) (rg octroilaw08_TrieLongest_r10)))

/-- law.go:89 -/
def octroilaw08_TrieLongest_r11 (env : Env) (h : Hp) (K : Env → Hp → Prop) : Prop :=
  Ok Try.prog 12 #[(env 8), (env 2)] h fun v70_2 h1 =>
  rd Try.prog (Instr.extract v70_2 0) noHp fun v71_4 =>
  rd Try.prog (Instr.extract v70_2 1) noHp fun v72_5 =>
  rd Try.prog (Instr.extract v70_2 2) noHp fun v73_6 =>
  arun Try.prog (Instr.alloc 30 true (Go.Value.tuple #[])) h1 fun v10_7 h2 =>
  arun Try.prog (Instr.storeAt 30 v10_7 v71_4) h2 fun _ h3 =>
  K ((((((((((env.set 68 (env 8)).set 69 (env 2)).set 70 v70_2).set 67 v70_2).set 71 v71_4).set 72 v72_5).set 73 v73_6).set 10 v10_7).set 11 v72_5).set 12 v73_6) h3
@[congr] theorem octroilaw08_TrieLongest_r11_congr {env : Env} {h : Hp} {K : Env → Hp → Prop} : octroilaw08_TrieLongest_r11 env h K = octroilaw08_TrieLongest_r11 env h K := rfl

/-- law.go:90 -/
def octroilaw08_TrieLongest_r12 (env : Env) (h : Hp) (K : Env → Hp → Prop) : Prop :=
  rd Try.prog (Instr.loadAt 30 (env 10)) h fun v76_1 =>
  Ok Try.prog 15 #[(env 8), v76_1] h fun v77_2 h1 =>
  rd Try.prog (Instr.extract v77_2 0) noHp fun v78_4 =>
  rd Try.prog (Instr.extract v77_2 1) noHp fun v79_5 =>
  K ((((((((env.set 75 (env 8)).set 76 v76_1).set 77 v77_2).set 74 v77_2).set 78 v78_4).set 79 v79_5).set 13 v78_4).set 14 v79_5) h1
@[congr] theorem octroilaw08_TrieLongest_r12_congr {env : Env} {h : Hp} {K : Env → Hp → Prop} : octroilaw08_TrieLongest_r12 env h K = octroilaw08_TrieLongest_r12 env h K := rfl

/-- law.go:91 -/
def octroilaw08_TrieLongest_r13 (env : Env) (h : Hp) (K : Env → Hp → Prop) : Prop :=
  gd (yb (env 12) == some true) (fun h k => k (env 14) h) h fun v82_2 h1 =>
  gd (yb (env 12) == some true) (fun h k => rd Try.prog (Op.unary Go.UnOp.not v82_2) noHp fun v => k v h) h1 fun v83_3 h2 =>
  gd (yb (env 12) == some true) (fun h k => k v83_3 h) h2 fun v84_4 h3 =>
  gd (yb v84_4 == some false) (fun h k => k (env 13) h) h3 fun v85_5 h4 =>
  gd (yb v84_4 == some false) (fun h k => k (env 11) h) h4 fun v86_6 h5 =>
  gd (yb v84_4 == some false) (fun h k => rd Try.prog (bop Go.BinOp.neq 3 (Go.Operand.tmp 85) (Go.Operand.tmp 86) v85_5 v86_6) noHp fun v => k v h) h5 fun v87_7 h6 =>
  gd (yb (env 12) == some true) (fun h k => rd Try.prog (pck v84_4 (Go.Value.bool true) v87_7) noHp fun v => k v h) h6 fun v88_8 h7 =>
  gd (yb (env 12) == some true) (fun h k => k v88_8 h) h7 fun v89_9 h8 =>
  gd (yb v89_9 == some false) (fun h k => rd Try.prog (Instr.loadAt 30 (env 10)) h fun v => k v h) h8 fun v90_10 h9 =>
  gd (yb v89_9 == some false) (fun h k => k (env 2) h) h9 fun v91_11 h10 =>
  gd (yb v89_9 == some false) (fun h k => Ok Try.prog 13 #[v90_10, v91_11] h k) h10 fun v92_12 h11 =>
  gd (yb v89_9 == some false) (fun h k => rd Try.prog (Op.unary Go.UnOp.not v92_12) noHp fun v => k v h) h11 fun v93_13 h12 =>
  gd (yb (env 12) == some true) (fun h k => rd Try.prog (pck v89_9 (Go.Value.bool true) v93_13) noHp fun v => k v h) h12 fun v94_14 h13 =>
  rd Try.prog (pck (env 12) v94_14 (Go.Value.bool false)) noHp fun v95_15 =>
  K ((((((((((((((((env.set 80 (env 12)).set 81 (env 12)).set 82 v82_2).set 83 v83_3).set 84 v84_4).set 85 v85_5).set 86 v86_6).set 87 v87_7).set 88 v88_8).set 89 v89_9).set 90 v90_10).set 91 v91_11).set 92 v92_12).set 93 v93_13).set 94 v94_14).set 95 v95_15) h13
@[congr] theorem octroilaw08_TrieLongest_r13_congr {env : Env} {h : Hp} {K : Env → Hp → Prop} : octroilaw08_TrieLongest_r13 env h K = octroilaw08_TrieLongest_r13 env h K := rfl

/-- law.go:92 -/
def octroilaw08_TrieLongest_r14 (env : Env) (h : Hp) (K : Env → Hp → Prop) : Prop :=
  K (env.set 6 (Go.Value.bool false)) h
@[congr] theorem octroilaw08_TrieLongest_r14_congr {env : Env} {h : Hp} {K : Env → Hp → Prop} : octroilaw08_TrieLongest_r14 env h K = octroilaw08_TrieLongest_r14 env h K := rfl

/-- law.go:94 -/
def octroilaw08_TrieLongest_r15 (env : Env) (h : Hp) (K : Env → Hp → Prop) : Prop :=
  Ok Try.prog 14 #[(env 8)] h fun v97_1 h1 =>
  K (((env.set 96 (env 8)).set 97 v97_1).set 15 v97_1) h1
@[congr] theorem octroilaw08_TrieLongest_r15_congr {env : Env} {h : Hp} {K : Env → Hp → Prop} : octroilaw08_TrieLongest_r15 env h K = octroilaw08_TrieLongest_r15 env h K := rfl

/-- law.go:95 -/
def octroilaw08_TrieLongest_r16 (env : Env) (h : Hp) (K : Env → Hp → Prop) : Prop :=
  K (env.set 16 (Go.Value.int Go.IntKind.i64 0)) h
@[congr] theorem octroilaw08_TrieLongest_r16_congr {env : Env} {h : Hp} {K : Env → Hp → Prop} : octroilaw08_TrieLongest_r16 env h K = octroilaw08_TrieLongest_r16 env h K := rfl

/-- law.go:95 -/
def octroilaw08_TrieLongest_r17 (env : Env) (h : Hp) (K : Env → Hp → Prop) : Prop :=
  rd Try.prog (Builtin.len_ #[37] 3 #[(env 15)]) h fun v100_2 =>
  rd Try.prog (bop Go.BinOp.lss 3 (Go.Operand.tmp 98) (Go.Operand.tmp 100) (env 16) v100_2) noHp fun v101_3 =>
  K ((((env.set 98 (env 16)).set 99 (env 15)).set 100 v100_2).set 101 v101_3) h
@[congr] theorem octroilaw08_TrieLongest_r17_congr {env : Env} {h : Hp} {K : Env → Hp → Prop} : octroilaw08_TrieLongest_r17 env h K = octroilaw08_TrieLongest_r17 env h K := rfl

/-- law.go:96 (in any order) -/
def octroilaw08_TrieLongest_r18 (env : Env) (h : Hp) (K : Env → Hp → Prop) : Prop :=
  rd Try.prog (Instr.indexAt 37 (env 15) (env 16)) noHp fun v106_2 =>
  rd Try.prog (Instr.loadAt 30 v106_2) h fun v107_3 =>
  Ok Try.prog 13 #[v107_3, (env 2)] h fun v109_5 h1 =>
  (True) ∧
  gd (yb v109_5 == some true) (fun h k => k (env 12) h) h1 fun v111_7 h2 =>
  gd (yb v109_5 == some true) (fun h k => rd Try.prog (Op.unary Go.UnOp.not v111_7) noHp fun v => k v h) h2 fun v112_8 h3 =>
  gd (yb v109_5 == some true) (fun h k => k v112_8 h) h3 fun v113_9 h4 =>
  gd (yb v113_9 == some false) (fun h k => k (env 15) h) h4 fun v114_10 h5 =>
  gd (yb v113_9 == some false) (fun h k => k (env 16) h) h5 fun v115_11 h6 =>
  gd (yb v113_9 == some false) (fun h k => rd Try.prog (Instr.indexAt 37 v114_10 v115_11) noHp fun v => k v h) h6 fun v116_12 h7 =>
  gd (yb v113_9 == some false) (fun h k => rd Try.prog (Instr.fieldAt 30 v116_12 1) noHp fun v => k v h) h7 fun v117_13 h8 =>
  gd (yb v113_9 == some false) (fun h k => rd Try.prog (Instr.loadAt 3 v117_13) h fun v => k v h) h8 fun v118_14 h9 =>
  gd (yb v113_9 == some false) (fun h k => rd Try.prog (Instr.fieldAt 30 (env 10) 1) noHp fun v => k v h) h9 fun v119_15 h10 =>
  gd (yb v113_9 == some false) (fun h k => rd Try.prog (Instr.loadAt 3 v119_15) h fun v => k v h) h10 fun v120_16 h11 =>
  gd (yb v113_9 == some false) (fun h k => rd Try.prog (bop Go.BinOp.gtr 3 (Go.Operand.tmp 118) (Go.Operand.tmp 120) v118_14 v120_16) noHp fun v => k v h) h11 fun v121_17 h12 =>
  gd (yb v109_5 == some true) (fun h k => rd Try.prog (pck v113_9 (Go.Value.bool true) v121_17) noHp fun v => k v h) h12 fun v122_18 h13 =>
  rd Try.prog (pck v109_5 v122_18 (Go.Value.bool false)) noHp fun v123_19 =>
  gd (yb v123_19 == some false) (fun h k => k (env 16) h) h13 fun v125_21 h14 =>
  gd (yb v123_19 == some false) (fun h k => rd Try.prog (bop Go.BinOp.gtr 3 (Go.Operand.tmp 125) (Go.Operand.const (Go.Value.int Go.IntKind.i64 0)) v125_21 (Go.Value.int Go.IntKind.i64 0)) noHp fun v => k v h) h14 fun v126_22 h15 =>
  gd (yb v123_19 == some false) (fun h k => k v126_22 h) h15 fun v127_23 h16 =>
  gd (yb v127_23 == some true) (fun h k => k (env 15) h) h16 fun v128_24 h17 =>
  gd (yb v127_23 == some true) (fun h k => k (env 16) h) h17 fun v129_25 h18 =>
  gd (yb v127_23 == some true) (fun h k => rd Try.prog (bop Go.BinOp.sub 3 (Go.Operand.tmp 129) (Go.Operand.const (Go.Value.int Go.IntKind.i64 1)) v129_25 (Go.Value.int Go.IntKind.i64 1)) noHp fun v => k v h) h18 fun v130_26 h19 =>
  gd (yb v127_23 == some true) (fun h k => rd Try.prog (Instr.indexAt 37 v128_24 v130_26) noHp fun v => k v h) h19 fun v131_27 h20 =>
  gd (yb v127_23 == some true) (fun h k => rd Try.prog (Instr.loadAt 30 v131_27) h fun v => k v h) h20 fun v132_28 h21 =>
  gd (yb v127_23 == some true) (fun h k => k (env 15) h) h21 fun v133_29 h22 =>
  gd (yb v127_23 == some true) (fun h k => k (env 16) h) h22 fun v134_30 h23 =>
  gd (yb v127_23 == some true) (fun h k => rd Try.prog (Instr.indexAt 37 v133_29 v134_30) noHp fun v => k v h) h23 fun v135_31 h24 =>
  gd (yb v127_23 == some true) (fun h k => rd Try.prog (Instr.loadAt 30 v135_31) h fun v => k v h) h24 fun v136_32 h25 =>
  gd (yb v127_23 == some true) (fun h k => Ok Try.prog 24 #[v132_28, v136_32] h k) h25 fun v137_33 h26 =>
  (True) ∧
  gd (yb v127_23 == some true) (fun h k => rd Try.prog (Op.unary Go.UnOp.not v137_33) noHp fun v => k v h) h26 fun v138_34 h27 =>
  gd (yb v123_19 == some false) (fun h k => rd Try.prog (pck v127_23 v138_34 (Go.Value.bool false)) noHp fun v => k v h) h27 fun v139_35 h28 =>
  rd Try.prog (pck v123_19 (Go.Value.bool true) v139_35) noHp fun v140_36 =>
  K (((((((((((((((((((((((((((((((((((((env.set 104 (env 15)).set 105 (env 16)).set 106 v106_2).set 107 v107_3).set 108 (env 2)).set 109 v109_5).set 110 v109_5).set 111 v111_7).set 112 v112_8).set 113 v113_9).set 114 v114_10).set 115 v115_11).set 116 v116_12).set 117 v117_13).set 118 v118_14).set 119 v119_15).set 120 v120_16).set 121 v121_17).set 122 v122_18).set 123 v123_19).set 124 v123_19).set 125 v125_21).set 126 v126_22).set 127 v127_23).set 128 v128_24).set 129 v129_25).set 130 v130_26).set 131 v131_27).set 132 v132_28).set 133 v133_29).set 134 v134_30).set 135 v135_31).set 136 v136_32).set 137 v137_33).set 138 v138_34).set 139 v139_35).set 140 v140_36) h28
@[congr] theorem octroilaw08_TrieLongest_r18_congr {env : Env} {h : Hp} {K : Env → Hp → Prop} : octroilaw08_TrieLongest_r18 env h K = octroilaw08_TrieLongest_r18 env h K := rfl

/-- law.go:97 -/
def octroilaw08_TrieLongest_r19 (env : Env) (h : Hp) (K : Env → Hp → Prop) : Prop :=
  K (env.set 6 (Go.Value.bool false)) h
@[congr] theorem octroilaw08_TrieLongest_r19_congr {env : Env} {h : Hp} {K : Env → Hp → Prop} : octroilaw08_TrieLongest_r19 env h K = octroilaw08_TrieLongest_r19 env h K := rfl

/-- law.go:95 -/
def octroilaw08_TrieLongest_r20 (env : Env) (h : Hp) (K : Env → Hp → Prop) : Prop :=
  rd Try.prog (bop Go.BinOp.add 3 (Go.Operand.tmp 102) (Go.Operand.const (Go.Value.int Go.IntKind.i64 1)) (env 16) (Go.Value.int Go.IntKind.i64 1)) noHp fun v103_1 =>
  K (((env.set 102 (env 16)).set 103 v103_1).set 16 v103_1) h
@[congr] theorem octroilaw08_TrieLongest_r20_congr {env : Env} {h : Hp} {K : Env → Hp → Prop} : octroilaw08_TrieLongest_r20 env h K = octroilaw08_TrieLongest_r20 env h K := rfl

def octroilaw08_TrieLongest_L1 : Den := (sq (sq (rg octroilaw08_TrieLongest_r17) (cnd (Go.Operand.tmp 101) (ex .normal) (ex (.exit 2)))) (sq (blk 3 (sq (rg octroilaw08_TrieLongest_r18) (cnd (Go.Operand.tmp 140) (sq (rg octroilaw08_TrieLongest_r19) (ex .ret)) (ex .normal)))) (rg octroilaw08_TrieLongest_r20)))

/-- law.go:100 -/
def octroilaw08_TrieLongest_r21 (env : Env) (h : Hp) (K : Env → Hp → Prop) : Prop :=
  K (env.set 6 (Go.Value.bool true)) h
@[congr] theorem octroilaw08_TrieLongest_r21_congr {env : Env} {h : Hp} {K : Env → Hp → Prop} : octroilaw08_TrieLongest_r21 env h K = octroilaw08_TrieLongest_r21 env h K := rfl

def octroilaw08_TrieLongest_D : Den := (sq (rg octroilaw08_TrieLongest_r0) (sq (rg octroilaw08_TrieLongest_r1) (sq (rg octroilaw08_TrieLongest_r2) (sq (sq (rg octroilaw08_TrieLongest_r3) (cnd (Go.Operand.tmp 30) (sq (rg octroilaw08_TrieLongest_r4) (ex .ret)) (ex .normal))) (sq (sq (rg octroilaw08_TrieLongest_r5) (blk 0 (lp octroilaw08_TrieLongest_L0))) (sq (rg octroilaw08_TrieLongest_r11) (sq (rg octroilaw08_TrieLongest_r12) (sq (sq (rg octroilaw08_TrieLongest_r13) (cnd (Go.Operand.tmp 95) (sq (rg octroilaw08_TrieLongest_r14) (ex .ret)) (ex .normal))) (sq (rg octroilaw08_TrieLongest_r15) (sq (sq (rg octroilaw08_TrieLongest_r16) (blk 2 (lp octroilaw08_TrieLongest_L1))) (sq (rg octroilaw08_TrieLongest_r21) (ex .ret))))))))))))

theorem octroilaw08_TrieLongest_eq : (den Try.prog 141 octroilaw08_TrieLongest_code).1 = octroilaw08_TrieLongest_D := by kernel_rfl

theorem octroilaw08_TrieLongest_ok {args : Array Value} {h : Hp} {Q : Value → Hp → Prop} (hn : args.size ≤ 141) (D : octroilaw08_TrieLongest_D (fin Try.prog [(Go.ResultVar.tmp 6)] Q) (env0 args) h) : Ok Try.prog 8 args h Q :=
  ok_of_den progIsOk Try.func8 (c := octroilaw08_TrieLongest_code) (by kernel_rfl) hn (by show (den Try.prog 141 octroilaw08_TrieLongest_code).1 _ _ _; rw [octroilaw08_TrieLongest_eq]; exact D)

/-! ### octroi/octroilaw08.awake: function 9 -/
noncomputable def octroilaw08_awake_code : Code := match Try.f9.body with | some c => c | none => .skip

/-- law.go:20 -/
def octroilaw08_awake_r0 (env : Env) (h : Hp) (K : Env → Hp → Prop) : Prop :=
  K (env.set 0 (Go.Value.bool false)) h
@[congr] theorem octroilaw08_awake_r0_congr {env : Env} {h : Hp} {K : Env → Hp → Prop} : octroilaw08_awake_r0 env h K = octroilaw08_awake_r0 env h K := rfl

/-- law.go:21 -/
def octroilaw08_awake_r1 (env : Env) (h : Hp) (K : Env → Hp → Prop) : Prop :=
  Ok Try.prog 10 #[(Go.Value.int Go.IntKind.i64 5)] h fun v10_0 h1 =>
  K ((env.set 10 v10_0).set 1 v10_0) h1
@[congr] theorem octroilaw08_awake_r1_congr {env : Env} {h : Hp} {K : Env → Hp → Prop} : octroilaw08_awake_r1 env h K = octroilaw08_awake_r1 env h K := rfl

/-- law.go:22 -/
def octroilaw08_awake_r2 (env : Env) (h : Hp) (K : Env → Hp → Prop) : Prop :=
  rd Try.prog (bop Go.BinOp.eql 25 (Go.Operand.tmp 11) (Go.Operand.const (Go.Value.pointer none)) (env 1) (Go.Value.pointer none)) noHp fun v12_1 =>
  K ((env.set 11 (env 1)).set 12 v12_1) h
@[congr] theorem octroilaw08_awake_r2_congr {env : Env} {h : Hp} {K : Env → Hp → Prop} : octroilaw08_awake_r2 env h K = octroilaw08_awake_r2 env h K := rfl

/-- law.go:23 -/
def octroilaw08_awake_r3 (env : Env) (h : Hp) (K : Env → Hp → Prop) : Prop :=
  K (env.set 0 (Go.Value.bool false)) h
@[congr] theorem octroilaw08_awake_r3_congr {env : Env} {h : Hp} {K : Env → Hp → Prop} : octroilaw08_awake_r3 env h K = octroilaw08_awake_r3 env h K := rfl

/-- law.go:25 -/
def octroilaw08_awake_r4 (env : Env) (h : Hp) (K : Env → Hp → Prop) : Prop :=
  rd Try.prog (Instr.build 30 #[(0, (Go.Value.int Go.IntKind.u32 167772160)), (1, (Go.Value.int Go.IntKind.i64 8))]) noHp fun v14_1 =>
  Ok Try.prog 11 #[(env 1), v14_1, (Go.Value.int Go.IntKind.i64 1)] h fun v15_2 h1 =>
  K ((((env.set 13 (env 1)).set 14 v14_1).set 15 v15_2).set 2 v15_2) h1
@[congr] theorem octroilaw08_awake_r4_congr {env : Env} {h : Hp} {K : Env → Hp → Prop} : octroilaw08_awake_r4 env h K = octroilaw08_awake_r4 env h K := rfl

/-- law.go:26 -/
def octroilaw08_awake_r5 (env : Env) (h : Hp) (K : Env → Hp → Prop) : Prop :=
  rd Try.prog (Instr.build 30 #[(0, (Go.Value.int Go.IntKind.u32 167837696)), (1, (Go.Value.int Go.IntKind.i64 16))]) noHp fun v17_1 =>
  Ok Try.prog 11 #[(env 1), v17_1, (Go.Value.int Go.IntKind.i64 2)] h fun v18_2 h1 =>
  K ((((env.set 16 (env 1)).set 17 v17_1).set 18 v18_2).set 3 v18_2) h1
@[congr] theorem octroilaw08_awake_r5_congr {env : Env} {h : Hp} {K : Env → Hp → Prop} : octroilaw08_awake_r5 env h K = octroilaw08_awake_r5 env h K := rfl

/-- law.go:27 -/
def octroilaw08_awake_r6 (env : Env) (h : Hp) (K : Env → Hp → Prop) : Prop :=
  Ok Try.prog 12 #[(env 1), (Go.Value.int Go.IntKind.u32 167838211)] h fun v21_1 h1 =>
  rd Try.prog (Instr.extract v21_1 0) noHp fun v22_3 =>
  rd Try.prog (Instr.extract v21_1 1) noHp fun v23_4 =>
  rd Try.prog (Instr.extract v21_1 2) noHp fun v24_5 =>
  arun Try.prog (Instr.alloc 30 true (Go.Value.tuple #[])) h1 fun v4_6 h2 =>
  arun Try.prog (Instr.storeAt 30 v4_6 v22_3) h2 fun _ h3 =>
  K (((((((((env.set 20 (env 1)).set 21 v21_1).set 19 v21_1).set 22 v22_3).set 23 v23_4).set 24 v24_5).set 4 v4_6).set 5 v23_4).set 6 v24_5) h3
@[congr] theorem octroilaw08_awake_r6_congr {env : Env} {h : Hp} {K : Env → Hp → Prop} : octroilaw08_awake_r6 env h K = octroilaw08_awake_r6 env h K := rfl

/-- law.go:28 -/
def octroilaw08_awake_r7 (env : Env) (h : Hp) (K : Env → Hp → Prop) : Prop :=
  Ok Try.prog 12 #[(env 1), (Go.Value.int Go.IntKind.u32 167903232)] h fun v27_1 h1 =>
  rd Try.prog (Instr.extract v27_1 0) noHp fun v28_3 =>
  rd Try.prog (Instr.extract v27_1 1) noHp fun v29_4 =>
  rd Try.prog (Instr.extract v27_1 2) noHp fun v30_5 =>
  arun Try.prog (Instr.alloc 30 true (Go.Value.tuple #[])) h1 fun v7_6 h2 =>
  arun Try.prog (Instr.storeAt 30 v7_6 v28_3) h2 fun _ h3 =>
  K (((((((((env.set 26 (env 1)).set 27 v27_1).set 25 v27_1).set 28 v28_3).set 29 v29_4).set 30 v30_5).set 7 v7_6).set 8 v29_4).set 9 v30_5) h3
@[congr] theorem octroilaw08_awake_r7_congr {env : Env} {h : Hp} {K : Env → Hp → Prop} : octroilaw08_awake_r7 env h K = octroilaw08_awake_r7 env h K := rfl

/-- law.go:29 -/
def octroilaw08_awake_r8 (env : Env) (h : Hp) (K : Env → Hp → Prop) : Prop :=
  rd Try.prog (bop Go.BinOp.eql 27 (Go.Operand.tmp 31) (Go.Operand.const (Go.Value.int Go.IntKind.i64 0)) (env 2) (Go.Value.int Go.IntKind.i64 0)) noHp fun v32_1 =>
  gd (yb v32_1 == some true) (fun h k => k (env 3) h) h fun v34_3 h1 =>
  gd (yb v32_1 == some true) (fun h k => rd Try.prog (bop Go.BinOp.eql 27 (Go.Operand.tmp 34) (Go.Operand.const (Go.Value.int Go.IntKind.i64 0)) v34_3 (Go.Value.int Go.IntKind.i64 0)) noHp fun v => k v h) h1 fun v35_4 h2 =>
  rd Try.prog (pck v32_1 v35_4 (Go.Value.bool false)) noHp fun v36_5 =>
  gd (yb v36_5 == some true) (fun h k => k (env 6) h) h2 fun v38_7 h3 =>
  rd Try.prog (pck v36_5 v38_7 (Go.Value.bool false)) noHp fun v39_8 =>
  gd (yb v39_8 == some true) (fun h k => k (env 9) h) h3 fun v41_10 h4 =>
  rd Try.prog (pck v39_8 v41_10 (Go.Value.bool false)) noHp fun v42_11 =>
  gd (yb v42_11 == some true) (fun h k => k (env 5) h) h4 fun v44_13 h5 =>
  gd (yb v42_11 == some true) (fun h k => rd Try.prog (bop Go.BinOp.eql 3 (Go.Operand.tmp 44) (Go.Operand.const (Go.Value.int Go.IntKind.i64 2)) v44_13 (Go.Value.int Go.IntKind.i64 2)) noHp fun v => k v h) h5 fun v45_14 h6 =>
  rd Try.prog (pck v42_11 v45_14 (Go.Value.bool false)) noHp fun v46_15 =>
  gd (yb v46_15 == some true) (fun h k => k (env 8) h) h6 fun v48_17 h7 =>
  gd (yb v46_15 == some true) (fun h k => rd Try.prog (bop Go.BinOp.eql 3 (Go.Operand.tmp 48) (Go.Operand.const (Go.Value.int Go.IntKind.i64 1)) v48_17 (Go.Value.int Go.IntKind.i64 1)) noHp fun v => k v h) h7 fun v49_18 h8 =>
  rd Try.prog (pck v46_15 v49_18 (Go.Value.bool false)) noHp fun v50_19 =>
  gd (yb v50_19 == some true) (fun h k => rd Try.prog (Instr.fieldAt 30 (env 4) 1) noHp fun v => k v h) h8 fun v52_21 h9 =>
  gd (yb v50_19 == some true) (fun h k => rd Try.prog (Instr.loadAt 3 v52_21) h fun v => k v h) h9 fun v53_22 h10 =>
  gd (yb v50_19 == some true) (fun h k => rd Try.prog (bop Go.BinOp.eql 3 (Go.Operand.tmp 53) (Go.Operand.const (Go.Value.int Go.IntKind.i64 16)) v53_22 (Go.Value.int Go.IntKind.i64 16)) noHp fun v => k v h) h10 fun v54_23 h11 =>
  rd Try.prog (pck v50_19 v54_23 (Go.Value.bool false)) noHp fun v55_24 =>
  gd (yb v55_24 == some true) (fun h k => k (env 1) h) h11 fun v57_26 h12 =>
  gd (yb v55_24 == some true) (fun h k => Ok Try.prog 18 #[v57_26] h k) h12 fun v58_27 h13 =>
  gd (yb v55_24 == some true) (fun h k => rd Try.prog (bop Go.BinOp.eql 3 (Go.Operand.tmp 58) (Go.Operand.const (Go.Value.int Go.IntKind.i64 2)) v58_27 (Go.Value.int Go.IntKind.i64 2)) noHp fun v => k v h) h13 fun v59_28 h14 =>
  rd Try.prog (pck v55_24 v59_28 (Go.Value.bool false)) noHp fun v60_29 =>
  K (((((((((((((((((((((((((((((((env.set 31 (env 2)).set 32 v32_1).set 33 v32_1).set 34 v34_3).set 35 v35_4).set 36 v36_5).set 37 v36_5).set 38 v38_7).set 39 v39_8).set 40 v39_8).set 41 v41_10).set 42 v42_11).set 43 v42_11).set 44 v44_13).set 45 v45_14).set 46 v46_15).set 47 v46_15).set 48 v48_17).set 49 v49_18).set 50 v50_19).set 51 v50_19).set 52 v52_21).set 53 v53_22).set 54 v54_23).set 55 v55_24).set 56 v55_24).set 57 v57_26).set 58 v58_27).set 59 v59_28).set 60 v60_29).set 0 v60_29) h14
@[congr] theorem octroilaw08_awake_r8_congr {env : Env} {h : Hp} {K : Env → Hp → Prop} : octroilaw08_awake_r8 env h K = octroilaw08_awake_r8 env h K := rfl

def octroilaw08_awake_D : Den := (sq (rg octroilaw08_awake_r0) (sq (rg octroilaw08_awake_r1) (sq (sq (rg octroilaw08_awake_r2) (cnd (Go.Operand.tmp 12) (sq (rg octroilaw08_awake_r3) (ex .ret)) (ex .normal))) (sq (rg octroilaw08_awake_r4) (sq (rg octroilaw08_awake_r5) (sq (rg octroilaw08_awake_r6) (sq (rg octroilaw08_awake_r7) (sq (rg octroilaw08_awake_r8) (ex .ret)))))))))

theorem octroilaw08_awake_eq : (den Try.prog 61 octroilaw08_awake_code).1 = octroilaw08_awake_D := by kernel_rfl

theorem octroilaw08_awake_ok {args : Array Value} {h : Hp} {Q : Value → Hp → Prop} (hn : args.size ≤ 61) (D : octroilaw08_awake_D (fin Try.prog [(Go.ResultVar.tmp 0)] Q) (env0 args) h) : Ok Try.prog 9 args h Q :=
  ok_of_den progIsOk Try.func9 (c := octroilaw08_awake_code) (by kernel_rfl) hn (by show (den Try.prog 61 octroilaw08_awake_code).1 _ _ _; rw [octroilaw08_awake_eq]; exact D)

/-! ### octroi/trie.New: function 10 -/
noncomputable def trie_New_code : Code := match Try.f10.body with | some c => c | none => .skip

/-- trie.go:28 -/
def trie_New_r0 (env : Env) (h : Hp) (K : Env → Hp → Prop) : Prop :=
  K (env.set 2 (Go.Value.pointer none)) h
@[congr] theorem trie_New_r0_congr {env : Env} {h : Hp} {K : Env → Hp → Prop} : trie_New_r0 env h K = trie_New_r0 env h K := rfl

/-- trie.go:28 -/
def trie_New_r1 (env : Env) (h : Hp) (K : Env → Hp → Prop) : Prop :=
  arun Try.prog (Instr.makeSlice 54 (Go.Value.int Go.IntKind.i64 1) (Go.Value.int Go.IntKind.i64 1)) h fun v4_1 h1 =>
  rd Try.prog (Instr.build 56 #[(0, (env 0)), (2, v4_1)]) noHp fun v5_2 =>
  arun Try.prog (Instr.box 56 v5_2) h1 fun v6_3 h2 =>
  K (((((env.set 3 (env 0)).set 4 v4_1).set 5 v5_2).set 6 v6_3).set 2 v6_3) h2
@[congr] theorem trie_New_r1_congr {env : Env} {h : Hp} {K : Env → Hp → Prop} : trie_New_r1 env h K = trie_New_r1 env h K := rfl

def trie_New_D : Den := (sq (rg trie_New_r0) (sq (rg trie_New_r1) (ex .ret)))

theorem trie_New_eq : (den Try.prog 7 trie_New_code).1 = trie_New_D := by kernel_rfl

theorem trie_New_ok {args : Array Value} {h : Hp} {Q : Value → Hp → Prop} (hn : args.size ≤ 7) (D : trie_New_D (fin Try.prog [(Go.ResultVar.tmp 2)] Q) (env0 args) h) : Ok Try.prog 10 args h Q :=
  ok_of_den progIsOk Try.func10 (c := trie_New_code) (by kernel_rfl) hn (by show (den Try.prog 7 trie_New_code).1 _ _ _; rw [trie_New_eq]; exact D)

/-! ### (*octroi/trie.Trie).Put: function 11 -/
noncomputable def trie_Trie_Put_code : Code := match Try.f11.body with | some c => c | none => .skip

/-- trie.go:66 -/
def trie_Trie_Put_r0 (env : Env) (h : Hp) (K : Env → Hp → Prop) : Prop :=
  arun Try.prog (Instr.box 30 (env 1)) h fun v4_0 h1 =>
  K ((env.set 4 v4_0).set 6 (Go.Value.int Go.IntKind.i64 0)) h1
@[congr] theorem trie_Trie_Put_r0_congr {env : Env} {h : Hp} {K : Env → Hp → Prop} : trie_Trie_Put_r0 env h K = trie_Trie_Put_r0 env h K := rfl

/-- trie.go:67 -/
def trie_Trie_Put_r1 (env : Env) (h : Hp) (K : Env → Hp → Prop) : Prop :=
  rd Try.prog (Instr.loadAt 30 (env 4)) h fun v11_1 =>
  Ok Try.prog 25 #[(env 0), v11_1] h fun v12_2 h1 =>
  K ((((env.set 10 (env 0)).set 11 v11_1).set 12 v12_2).set 7 v12_2) h1
@[congr] theorem trie_Trie_Put_r1_congr {env : Env} {h : Hp} {K : Env → Hp → Prop} : trie_Trie_Put_r1 env h K = trie_Trie_Put_r1 env h K := rfl

/-- trie.go:69 -/
def trie_Trie_Put_r2 (env : Env) (h : Hp) (K : Env → Hp → Prop) : Prop :=
  rd Try.prog (Instr.loadAt 30 (env 4)) h fun v14_0 =>
  Ok Try.prog 16 #[v14_0] h fun v15_1 h1 =>
  rd Try.prog (Op.unary Go.UnOp.not v15_1) noHp fun v16_2 =>
  K ((((env.set 14 v14_0).set 15 v15_1).set 16 v16_2).set 13 v16_2) h1
@[congr] theorem trie_Trie_Put_r2_congr {env : Env} {h : Hp} {K : Env → Hp → Prop} : trie_Trie_Put_r2 env h K = trie_Trie_Put_r2 env h K := rfl

/-- trie.go:70 -/
def trie_Trie_Put_r3 (env : Env) (h : Hp) (K : Env → Hp → Prop) : Prop :=
  K (env.set 6 (Go.Value.int Go.IntKind.i64 1)) h
@[congr] theorem trie_Trie_Put_r3_congr {env : Env} {h : Hp} {K : Env → Hp → Prop} : trie_Trie_Put_r3 env h K = trie_Trie_Put_r3 env h K := rfl

/-- trie.go:71 -/
def trie_Trie_Put_r4 (env : Env) (h : Hp) (K : Env → Hp → Prop) : Prop :=
  rd Try.prog (bop Go.BinOp.neq 57 (Go.Operand.tmp 18) (Go.Operand.const (Go.Value.pointer none)) (env 7) (Go.Value.pointer none)) noHp fun v19_1 =>
  K (((env.set 18 (env 7)).set 19 v19_1).set 17 v19_1) h
@[congr] theorem trie_Trie_Put_r4_congr {env : Env} {h : Hp} {K : Env → Hp → Prop} : trie_Trie_Put_r4 env h K = trie_Trie_Put_r4 env h K := rfl

/-- trie.go:72 -/
def trie_Trie_Put_r5 (env : Env) (h : Hp) (K : Env → Hp → Prop) : Prop :=
  nck (env 7) (
  rd Try.prog (Instr.fieldAt 61 (env 7) 1) noHp fun v23_3 =>
  arun Try.prog (Instr.storeAt 3 v23_3 (env 2)) h fun _ h1 =>
  K ((((env.set 20 (env 7)).set 21 (env 2)).set 22 (env 7)).set 23 v23_3) h1)
@[congr] theorem trie_Trie_Put_r5_congr {env : Env} {h : Hp} {K : Env → Hp → Prop} : trie_Trie_Put_r5 env h K = trie_Trie_Put_r5 env h K := rfl

/-- trie.go:73 -/
def trie_Trie_Put_r6 (env : Env) (h : Hp) (K : Env → Hp → Prop) : Prop :=
  K (env.set 6 (Go.Value.int Go.IntKind.i64 0)) h
@[congr] theorem trie_Trie_Put_r6_congr {env : Env} {h : Hp} {K : Env → Hp → Prop} : trie_Trie_Put_r6 env h K = trie_Trie_Put_r6 env h K := rfl

/-- trie.go:74 (in any order) -/
def trie_Trie_Put_r7 (env : Env) (h : Hp) (K : Env → Hp → Prop) : Prop :=
  nck (env 0) (
  rd Try.prog (Instr.fieldAt 56 (env 0) 1) noHp fun v27_2 =>
  rd Try.prog (Instr.loadAt 3 v27_2) h fun v28_3 =>
  nck (env 0) (
  rd Try.prog (Instr.fieldAt 56 (env 0) 0) noHp fun v31_6 =>
  rd Try.prog (Instr.loadAt 3 v31_6) h fun v32_7 =>
  rd Try.prog (bop Go.BinOp.geq 3 (Go.Operand.tmp 28) (Go.Operand.tmp 32) v28_3 v32_7) noHp fun v33_8 =>
  K ((((((((((env.set 25 (env 0)).set 26 (env 0)).set 27 v27_2).set 28 v28_3).set 29 (env 0)).set 30 (env 0)).set 31 v31_6).set 32 v32_7).set 33 v33_8).set 24 v33_8) h))
@[congr] theorem trie_Trie_Put_r7_congr {env : Env} {h : Hp} {K : Env → Hp → Prop} : trie_Trie_Put_r7 env h K = trie_Trie_Put_r7 env h K := rfl

/-- trie.go:75 -/
def trie_Trie_Put_r8 (env : Env) (h : Hp) (K : Env → Hp → Prop) : Prop :=
  K (env.set 6 (Go.Value.int Go.IntKind.i64 4)) h
@[congr] theorem trie_Trie_Put_r8_congr {env : Env} {h : Hp} {K : Env → Hp → Prop} : trie_Trie_Put_r8 env h K = trie_Trie_Put_r8 env h K := rfl

/-- trie.go:77 -/
def trie_Trie_Put_r9 (env : Env) (h : Hp) (K : Env → Hp → Prop) : Prop :=
  rd Try.prog (Instr.loadAt 30 (env 4)) h fun v36_1 =>
  Ok Try.prog 26 #[(env 0), v36_1, (Go.Value.bool true)] h fun v37_2 h1 =>
  rd Try.prog (Instr.extract v37_2 0) noHp fun v38_4 =>
  rd Try.prog (Instr.extract v37_2 1) noHp fun v39_5 =>
  K ((((((((env.set 35 (env 0)).set 36 v36_1).set 37 v37_2).set 34 v37_2).set 38 v38_4).set 39 v39_5).set 8 v38_4).set 9 v39_5) h1
@[congr] theorem trie_Trie_Put_r9_congr {env : Env} {h : Hp} {K : Env → Hp → Prop} : trie_Trie_Put_r9 env h K = trie_Trie_Put_r9 env h K := rfl

/-- trie.go:78 (in any order) -/
def trie_Trie_Put_r10 (env : Env) (h : Hp) (K : Env → Hp → Prop) : Prop :=
  nck (env 0) (
  rd Try.prog (Instr.fieldAt 56 (env 0) 2) noHp fun v42_2 =>
  rd Try.prog (Instr.loadAt 54 v42_2) h fun v43_3 =>
  nck (env 0) (
  rd Try.prog (Instr.fieldAt 56 (env 0) 2) noHp fun v47_7 =>
  rd Try.prog (Instr.loadAt 54 v47_7) h fun v48_8 =>
  rd Try.prog (Instr.indexAt 54 v43_3 (env 8)) noHp fun v51_11 =>
  rd Try.prog (Instr.fieldAt 61 v51_11 1) noHp fun v52_12 =>
  arun Try.prog (Instr.storeAt 3 v52_12 (env 2)) h fun _ h1 =>
  (True) ∧
  rd Try.prog (Instr.indexAt 54 v48_8 (env 8)) noHp fun v53_14 =>
  rd Try.prog (Instr.fieldAt 61 v53_14 2) noHp fun v54_15 =>
  arun Try.prog (Instr.storeAt 4 v54_15 (Go.Value.bool true)) h1 fun _ h2 =>
  (True) ∧
  K (((((((((((((((env.set 40 (env 0)).set 41 (env 0)).set 42 v42_2).set 43 v43_3).set 44 (env 8)).set 45 (env 0)).set 46 (env 0)).set 47 v47_7).set 48 v48_8).set 49 (env 8)).set 50 (env 2)).set 51 v51_11).set 52 v52_12).set 53 v53_14).set 54 v54_15) h2))
@[congr] theorem trie_Trie_Put_r10_congr {env : Env} {h : Hp} {K : Env → Hp → Prop} : trie_Trie_Put_r10 env h K = trie_Trie_Put_r10 env h K := rfl

/-- trie.go:79 -/
def trie_Trie_Put_r11 (env : Env) (h : Hp) (K : Env → Hp → Prop) : Prop :=
  nck (env 0) (
  rd Try.prog (Instr.fieldAt 56 (env 0) 1) noHp fun v57_2 =>
  rd Try.prog (Instr.loadAt 3 v57_2) h fun v58_3 =>
  rd Try.prog (bop Go.BinOp.add 3 (Go.Operand.tmp 58) (Go.Operand.const (Go.Value.int Go.IntKind.i64 1)) v58_3 (Go.Value.int Go.IntKind.i64 1)) noHp fun v59_4 =>
  nck (env 0) (
  rd Try.prog (Instr.fieldAt 56 (env 0) 1) noHp fun v61_6 =>
  arun Try.prog (Instr.storeAt 3 v61_6 v59_4) h fun _ h1 =>
  K (((((((env.set 55 (env 0)).set 56 (env 0)).set 57 v57_2).set 58 v58_3).set 59 v59_4).set 60 (env 0)).set 61 v61_6) h1))
@[congr] theorem trie_Trie_Put_r11_congr {env : Env} {h : Hp} {K : Env → Hp → Prop} : trie_Trie_Put_r11 env h K = trie_Trie_Put_r11 env h K := rfl

/-- trie.go:80 -/
def trie_Trie_Put_r12 (env : Env) (h : Hp) (K : Env → Hp → Prop) : Prop :=
  K (env.set 6 (Go.Value.int Go.IntKind.i64 0)) h
@[congr] theorem trie_Trie_Put_r12_congr {env : Env} {h : Hp} {K : Env → Hp → Prop} : trie_Trie_Put_r12 env h K = trie_Trie_Put_r12 env h K := rfl

def trie_Trie_Put_D : Den := (sq (rg trie_Trie_Put_r0) (sq (rg trie_Trie_Put_r1) (sq (blk 0 (sq (rg trie_Trie_Put_r2) (cnd (Go.Operand.tmp 13) (sq (rg trie_Trie_Put_r3) (ex .ret)) (sq (rg trie_Trie_Put_r4) (cnd (Go.Operand.tmp 17) (sq (rg trie_Trie_Put_r5) (sq (rg trie_Trie_Put_r6) (ex .ret))) (sq (rg trie_Trie_Put_r7) (cnd (Go.Operand.tmp 24) (sq (rg trie_Trie_Put_r8) (ex .ret)) (ex .normal)))))))) (sq (rg trie_Trie_Put_r9) (sq (rg trie_Trie_Put_r10) (sq (rg trie_Trie_Put_r11) (sq (rg trie_Trie_Put_r12) (ex .ret))))))))

theorem trie_Trie_Put_eq : (den Try.prog 62 trie_Trie_Put_code).1 = trie_Trie_Put_D := by kernel_rfl

theorem trie_Trie_Put_ok {args : Array Value} {h : Hp} {Q : Value → Hp → Prop} (hn : args.size ≤ 62) (D : trie_Trie_Put_D (fin Try.prog [(Go.ResultVar.tmp 6)] Q) (env0 args) h) : Ok Try.prog 11 args h Q :=
  ok_of_den progIsOk Try.func11 (c := trie_Trie_Put_code) (by kernel_rfl) hn (by show (den Try.prog 62 trie_Trie_Put_code).1 _ _ _; rw [trie_Trie_Put_eq]; exact D)

/-! ### (*octroi/trie.Trie).Find: function 12 -/
noncomputable def trie_Trie_Find_code : Code := match Try.f12.body with | some c => c | none => .skip

/-- trie.go:104 -/
def trie_Trie_Find_r0 (env : Env) (h : Hp) (K : Env → Hp → Prop) : Prop :=
  arun Try.prog (Instr.alloc 30 true (Go.Value.tuple #[])) h fun v4_0 h1 =>
  K (((env.set 4 v4_0).set 5 (Go.Value.int Go.IntKind.i64 0)).set 6 (Go.Value.bool false)) h1
@[congr] theorem trie_Trie_Find_r0_congr {env : Env} {h : Hp} {K : Env → Hp → Prop} : trie_Trie_Find_r0 env h K = trie_Trie_Find_r0 env h K := rfl

/-- trie.go:105 -/
def trie_Trie_Find_r1 (env : Env) (h : Hp) (K : Env → Hp → Prop) : Prop :=
  K ((env.set 7 (Go.Value.int Go.IntKind.i64 0)).set 8 (Go.Value.int Go.IntKind.i64 0)) h
@[congr] theorem trie_Trie_Find_r1_congr {env : Env} {h : Hp} {K : Env → Hp → Prop} : trie_Trie_Find_r1 env h K = trie_Trie_Find_r1 env h K := rfl

/-- trie.go:107 -/
def trie_Trie_Find_r2 (env : Env) (h : Hp) (K : Env → Hp → Prop) : Prop :=
  nck (env 0) (
  rd Try.prog (Instr.fieldAt 56 (env 0) 2) noHp fun v12_2 =>
  rd Try.prog (Instr.loadAt 54 v12_2) h fun v13_3 =>
  rd Try.prog (Instr.indexAt 54 v13_3 (env 7)) noHp fun v15_5 =>
  rd Try.prog (Instr.loadAt 61 v15_5) h fun v16_6 =>
  arun Try.prog (Instr.alloc 61 true (Go.Value.tuple #[])) h fun v9_7 h1 =>
  arun Try.prog (Instr.storeAt 61 v9_7 v16_6) h1 fun _ h2 =>
  K ((((((((env.set 10 (env 0)).set 11 (env 0)).set 12 v12_2).set 13 v13_3).set 14 (env 7)).set 15 v15_5).set 16 v16_6).set 9 v9_7) h2)
@[congr] theorem trie_Trie_Find_r2_congr {env : Env} {h : Hp} {K : Env → Hp → Prop} : trie_Trie_Find_r2 env h K = trie_Trie_Find_r2 env h K := rfl

/-- trie.go:107 -/
def trie_Trie_Find_r3 (env : Env) (h : Hp) (K : Env → Hp → Prop) : Prop :=
  rd Try.prog (Instr.fieldAt 61 (env 9) 2) noHp fun v17_0 =>
  rd Try.prog (Instr.loadAt 4 v17_0) h fun v18_1 =>
  K ((env.set 17 v17_0).set 18 v18_1) h
@[congr] theorem trie_Trie_Find_r3_congr {env : Env} {h : Hp} {K : Env → Hp → Prop} : trie_Trie_Find_r3 env h K = trie_Trie_Find_r3 env h K := rfl

/-- trie.go:108 (in any order) -/
def trie_Trie_Find_r4 (env : Env) (h : Hp) (K : Env → Hp → Prop) : Prop :=
  rd Try.prog (Instr.fieldAt 61 (env 9) 1) noHp fun v25_3 =>
  rd Try.prog (Instr.loadAt 3 v25_3) h fun v26_4 =>
  Ok Try.prog 27 #[(env 8)] h fun v21_5 h1 =>
  (rrun Try.prog (Instr.loadAt 3 v25_3) h1 = some v26_4 ∧ True) ∧
  rd Try.prog (bop Go.BinOp.and 23 (Go.Operand.tmp 19) (Go.Operand.tmp 21) (env 1) v21_5) noHp fun v22_6 =>
  rd Try.prog (Instr.build 30 #[(0, v22_6), (1, (env 8))]) noHp fun v24_7 =>
  arun Try.prog (Instr.storeAt 30 (env 4) v24_7) h1 fun _ h2 =>
  (rrun Try.prog (Instr.loadAt 3 v25_3) h2 = some v26_4 ∧ True) ∧
  K ((((((((((env.set 19 (env 1)).set 20 (env 8)).set 23 (env 8)).set 25 v25_3).set 26 v26_4).set 21 v21_5).set 22 v22_6).set 24 v24_7).set 5 v26_4).set 6 (Go.Value.bool true)) h2
@[congr] theorem trie_Trie_Find_r4_congr {env : Env} {h : Hp} {K : Env → Hp → Prop} : trie_Trie_Find_r4 env h K = trie_Trie_Find_r4 env h K := rfl

/-- trie.go:110 -/
def trie_Trie_Find_r5 (env : Env) (h : Hp) (K : Env → Hp → Prop) : Prop :=
  rd Try.prog (bop Go.BinOp.leq 3 (Go.Operand.tmp 27) (Go.Operand.const (Go.Value.int Go.IntKind.i64 31)) (env 8) (Go.Value.int Go.IntKind.i64 31)) noHp fun v28_1 =>
  K ((env.set 27 (env 8)).set 28 v28_1) h
@[congr] theorem trie_Trie_Find_r5_congr {env : Env} {h : Hp} {K : Env → Hp → Prop} : trie_Trie_Find_r5 env h K = trie_Trie_Find_r5 env h K := rfl

/-- trie.go:111 (in any order) -/
def trie_Trie_Find_r6 (env : Env) (h : Hp) (K : Env → Hp → Prop) : Prop :=
  nck (env 0) (
  rd Try.prog (Instr.fieldAt 56 (env 0) 2) noHp fun v31_2 =>
  rd Try.prog (Instr.loadAt 54 v31_2) h fun v32_3 =>
  rd Try.prog (Instr.indexAt 54 v32_3 (env 7)) noHp fun v37_7 =>
  rd Try.prog (Instr.fieldAt 61 v37_7 0) noHp fun v38_8 =>
  Ok Try.prog 28 #[(env 1), (env 8)] h fun v36_9 h1 =>
  (rrun Try.prog (Instr.loadAt 54 v31_2) h1 = some v32_3 ∧ True) ∧
  rd Try.prog (Instr.indexAt 59 v38_8 v36_9) noHp fun v39_10 =>
  rd Try.prog (Instr.loadAt 3 v39_10) h1 fun v40_11 =>
  K (((((((((((((env.set 29 (env 0)).set 30 (env 0)).set 31 v31_2).set 32 v32_3).set 33 (env 7)).set 34 (env 1)).set 35 (env 8)).set 37 v37_7).set 38 v38_8).set 36 v36_9).set 39 v39_10).set 40 v40_11).set 7 v40_11) h1)
@[congr] theorem trie_Trie_Find_r6_congr {env : Env} {h : Hp} {K : Env → Hp → Prop} : trie_Trie_Find_r6 env h K = trie_Trie_Find_r6 env h K := rfl

/-- trie.go:111 -/
def trie_Trie_Find_r7 (env : Env) (h : Hp) (K : Env → Hp → Prop) : Prop :=
  rd Try.prog (bop Go.BinOp.neq 3 (Go.Operand.tmp 41) (Go.Operand.const (Go.Value.int Go.IntKind.i64 0)) (env 7) (Go.Value.int Go.IntKind.i64 0)) noHp fun v42_1 =>
  K ((env.set 41 (env 7)).set 42 v42_1) h
@[congr] theorem trie_Trie_Find_r7_congr {env : Env} {h : Hp} {K : Env → Hp → Prop} : trie_Trie_Find_r7 env h K = trie_Trie_Find_r7 env h K := rfl

/-- trie.go:112 -/
def trie_Trie_Find_r8 (env : Env) (h : Hp) (K : Env → Hp → Prop) : Prop :=
  rd Try.prog (bop Go.BinOp.add 3 (Go.Operand.tmp 43) (Go.Operand.const (Go.Value.int Go.IntKind.i64 1)) (env 8) (Go.Value.int Go.IntKind.i64 1)) noHp fun v44_1 =>
  K (((env.set 43 (env 8)).set 44 v44_1).set 8 v44_1) h
@[congr] theorem trie_Trie_Find_r8_congr {env : Env} {h : Hp} {K : Env → Hp → Prop} : trie_Trie_Find_r8 env h K = trie_Trie_Find_r8 env h K := rfl

/-- trie.go:116 -/
def trie_Trie_Find_r9 (env : Env) (h : Hp) (K : Env → Hp → Prop) : Prop :=
  rd Try.prog (Instr.loadAt 30 (env 4)) h fun v45_0 =>
  arun Try.prog (Instr.storeAt 30 (env 4) v45_0) h fun _ h1 =>
  K (((((env.set 45 v45_0).set 46 (env 5)).set 47 (env 6)).set 5 (env 5)).set 6 (env 6)) h1
@[congr] theorem trie_Trie_Find_r9_congr {env : Env} {h : Hp} {K : Env → Hp → Prop} : trie_Trie_Find_r9 env h K = trie_Trie_Find_r9 env h K := rfl

def trie_Trie_Find_S0 : Den := (sq (rg trie_Trie_Find_r1) (sq (ex .normal) (sq (sq (rg trie_Trie_Find_r2) (sq (rg trie_Trie_Find_r3) (cnd (Go.Operand.tmp 18) (rg trie_Trie_Find_r4) (ex .normal)))) (sq (sq (rg trie_Trie_Find_r5) (cnd (Go.Operand.tmp 28) (sq (rg trie_Trie_Find_r6) (sq (rg trie_Trie_Find_r7) (cnd (Go.Operand.tmp 42) (sq (rg trie_Trie_Find_r8) (ex (.goto 0))) (ex .normal)))) (ex .normal))) (sq (rg trie_Trie_Find_r9) (ex .ret))))))

noncomputable def trie_Trie_Find_S0_code : Code := subCode [1, 0] trie_Trie_Find_code

def trie_Trie_Find_S0_at0 : Den := (sq (ex .normal) (sq (sq (rg trie_Trie_Find_r2) (sq (rg trie_Trie_Find_r3) (cnd (Go.Operand.tmp 18) (rg trie_Trie_Find_r4) (ex .normal)))) (sq (sq (rg trie_Trie_Find_r5) (cnd (Go.Operand.tmp 28) (sq (rg trie_Trie_Find_r6) (sq (rg trie_Trie_Find_r7) (cnd (Go.Operand.tmp 42) (sq (rg trie_Trie_Find_r8) (ex (.goto 0))) (ex .normal)))) (ex .normal))) (sq (rg trie_Trie_Find_r9) (ex .ret)))))

theorem trie_Trie_Find_S0_lab0 : (den Try.prog 48 trie_Trie_Find_S0_code).2 0 = some trie_Trie_Find_S0_at0 := by kernel_rfl

def trie_Trie_Find_D : Den := (sq (rg trie_Trie_Find_r0) (scp trie_Trie_Find_S0 (den Try.prog 48 trie_Trie_Find_S0_code).2))

theorem trie_Trie_Find_eq : (den Try.prog 48 trie_Trie_Find_code).1 = trie_Trie_Find_D := by kernel_rfl

theorem trie_Trie_Find_ok {args : Array Value} {h : Hp} {Q : Value → Hp → Prop} (hn : args.size ≤ 48) (D : trie_Trie_Find_D (fin Try.prog [(Go.ResultVar.cell 4 30), (Go.ResultVar.tmp 5), (Go.ResultVar.tmp 6)] Q) (env0 args) h) : Ok Try.prog 12 args h Q :=
  ok_of_den progIsOk Try.func12 (c := trie_Trie_Find_code) (by kernel_rfl) hn (by show (den Try.prog 48 trie_Trie_Find_code).1 _ _ _; rw [trie_Trie_Find_eq]; exact D)

/-! ### octroi/prefix.Has: function 13 -/
noncomputable def prefix_Has_code : Code := match Try.f13.body with | some c => c | none => .skip

/-- prefix.go:42 -/
def prefix_Has_r0 (env : Env) (h : Hp) (K : Env → Hp → Prop) : Prop :=
  arun Try.prog (Instr.box 30 (env 0)) h fun v2_0 h1 =>
  K ((env.set 2 v2_0).set 4 (Go.Value.bool false)) h1
@[congr] theorem prefix_Has_r0_congr {env : Env} {h : Hp} {K : Env → Hp → Prop} : prefix_Has_r0 env h K = prefix_Has_r0 env h K := rfl

/-- prefix.go:42 (in any order) -/
def prefix_Has_r1 (env : Env) (h : Hp) (K : Env → Hp → Prop) : Prop :=
  rd Try.prog (Instr.loadAt 30 (env 2)) h fun v5_0 =>
  Ok Try.prog 16 #[v5_0] h fun v6_1 h1 =>
  (True) ∧
  gd (yb v6_1 == some true) (fun h k => k (env 1) h) h1 fun v8_3 h2 =>
  gd (yb v6_1 == some true) (fun h k => rd Try.prog (Instr.fieldAt 30 (env 2) 0) noHp fun v => k v h) h2 fun v9_4 h3 =>
  gd (yb v6_1 == some true) (fun h k => rd Try.prog (Instr.loadAt 23 v9_4) h fun v => k v h) h3 fun v10_5 h4 =>
  gd (yb v6_1 == some true) (fun h k => rd Try.prog (bop Go.BinOp.xor 23 (Go.Operand.tmp 8) (Go.Operand.tmp 10) v8_3 v10_5) noHp fun v => k v h) h4 fun v11_6 h5 =>
  gd (yb v6_1 == some true) (fun h k => rd Try.prog (Instr.fieldAt 30 (env 2) 1) noHp fun v => k v h) h5 fun v12_7 h6 =>
  gd (yb v6_1 == some true) (fun h k => rd Try.prog (Instr.loadAt 3 v12_7) h fun v => k v h) h6 fun v13_8 h7 =>
  gd (yb v6_1 == some true) (fun h k => Ok Try.prog 27 #[v13_8] h k) h7 fun v14_9 h8 =>
  (((yb v6_1 == some true) = true → rrun Try.prog (Instr.loadAt 23 v9_4) h8 = some v10_5) ∧ True) ∧
  gd (yb v6_1 == some true) (fun h k => rd Try.prog (bop Go.BinOp.and 23 (Go.Operand.tmp 11) (Go.Operand.tmp 14) v11_6 v14_9) noHp fun v => k v h) h8 fun v15_10 h9 =>
  gd (yb v6_1 == some true) (fun h k => rd Try.prog (bop Go.BinOp.eql 23 (Go.Operand.tmp 15) (Go.Operand.const (Go.Value.int Go.IntKind.u32 0)) v15_10 (Go.Value.int Go.IntKind.u32 0)) noHp fun v => k v h) h9 fun v16_11 h10 =>
  rd Try.prog (pck v6_1 v16_11 (Go.Value.bool false)) noHp fun v17_12 =>
  K ((((((((((((((env.set 5 v5_0).set 6 v6_1).set 7 v6_1).set 8 v8_3).set 9 v9_4).set 10 v10_5).set 11 v11_6).set 12 v12_7).set 13 v13_8).set 14 v14_9).set 15 v15_10).set 16 v16_11).set 17 v17_12).set 4 v17_12) h10
@[congr] theorem prefix_Has_r1_congr {env : Env} {h : Hp} {K : Env → Hp → Prop} : prefix_Has_r1 env h K = prefix_Has_r1 env h K := rfl

def prefix_Has_D : Den := (sq (rg prefix_Has_r0) (sq (rg prefix_Has_r1) (ex .ret)))

theorem prefix_Has_eq : (den Try.prog 18 prefix_Has_code).1 = prefix_Has_D := by kernel_rfl

theorem prefix_Has_ok {args : Array Value} {h : Hp} {Q : Value → Hp → Prop} (hn : args.size ≤ 18) (D : prefix_Has_D (fin Try.prog [(Go.ResultVar.tmp 4)] Q) (env0 args) h) : Ok Try.prog 13 args h Q :=
  ok_of_den progIsOk Try.func13 (c := prefix_Has_code) (by kernel_rfl) hn (by show (den Try.prog 18 prefix_Has_code).1 _ _ _; rw [prefix_Has_eq]; exact D)

/-! ### (*octroi/trie.Trie).All: function 14 -/
noncomputable def trie_Trie_All_code : Code := match Try.f14.body with | some c => c | none => .skip

/-- trie.go:134 -/
def trie_Trie_All_r0 (env : Env) (h : Hp) (K : Env → Hp → Prop) : Prop :=
  K (env.set 2 (Go.Value.slice none 0 0)) h
@[congr] theorem trie_Trie_All_r0_congr {env : Env} {h : Hp} {K : Env → Hp → Prop} : trie_Trie_All_r0 env h K = trie_Trie_All_r0 env h K := rfl

/-- trie.go:134 -/
def trie_Trie_All_r1 (env : Env) (h : Hp) (K : Env → Hp → Prop) : Prop :=
  rd Try.prog (Instr.build 30 #[]) noHp fun v4_1 =>
  Ok Try.prog 29 #[(env 0), (Go.Value.slice none 0 0), (Go.Value.int Go.IntKind.i64 0), v4_1] h fun v5_2 h1 =>
  K ((((env.set 3 (env 0)).set 4 v4_1).set 5 v5_2).set 2 v5_2) h1
@[congr] theorem trie_Trie_All_r1_congr {env : Env} {h : Hp} {K : Env → Hp → Prop} : trie_Trie_All_r1 env h K = trie_Trie_All_r1 env h K := rfl

def trie_Trie_All_D : Den := (sq (rg trie_Trie_All_r0) (sq (rg trie_Trie_All_r1) (ex .ret)))

theorem trie_Trie_All_eq : (den Try.prog 6 trie_Trie_All_code).1 = trie_Trie_All_D := by kernel_rfl

theorem trie_Trie_All_ok {args : Array Value} {h : Hp} {Q : Value → Hp → Prop} (hn : args.size ≤ 6) (D : trie_Trie_All_D (fin Try.prog [(Go.ResultVar.tmp 2)] Q) (env0 args) h) : Ok Try.prog 14 args h Q :=
  ok_of_den progIsOk Try.func14 (c := trie_Trie_All_code) (by kernel_rfl) hn (by show (den Try.prog 6 trie_Trie_All_code).1 _ _ _; rw [trie_Trie_All_eq]; exact D)

/-! ### (*octroi/trie.Trie).Get: function 15 -/
noncomputable def trie_Trie_Get_code : Code := match Try.f15.body with | some c => c | none => .skip

/-- trie.go:95 -/
def trie_Trie_Get_r0 (env : Env) (h : Hp) (K : Env → Hp → Prop) : Prop :=
  arun Try.prog (Instr.box 30 (env 1)) h fun v3_0 h1 =>
  K (((env.set 3 v3_0).set 4 (Go.Value.int Go.IntKind.i64 0)).set 5 (Go.Value.bool false)) h1
@[congr] theorem trie_Trie_Get_r0_congr {env : Env} {h : Hp} {K : Env → Hp → Prop} : trie_Trie_Get_r0 env h K = trie_Trie_Get_r0 env h K := rfl

/-- trie.go:96 -/
def trie_Trie_Get_r1 (env : Env) (h : Hp) (K : Env → Hp → Prop) : Prop :=
  rd Try.prog (Instr.loadAt 30 (env 3)) h fun v8_1 =>
  Ok Try.prog 25 #[(env 0), v8_1] h fun v9_2 h1 =>
  K ((((env.set 7 (env 0)).set 8 v8_1).set 9 v9_2).set 6 v9_2) h1
@[congr] theorem trie_Trie_Get_r1_congr {env : Env} {h : Hp} {K : Env → Hp → Prop} : trie_Trie_Get_r1 env h K = trie_Trie_Get_r1 env h K := rfl

/-- trie.go:97 -/
def trie_Trie_Get_r2 (env : Env) (h : Hp) (K : Env → Hp → Prop) : Prop :=
  rd Try.prog (bop Go.BinOp.eql 57 (Go.Operand.tmp 10) (Go.Operand.const (Go.Value.pointer none)) (env 6) (Go.Value.pointer none)) noHp fun v11_1 =>
  K ((env.set 10 (env 6)).set 11 v11_1) h
@[congr] theorem trie_Trie_Get_r2_congr {env : Env} {h : Hp} {K : Env → Hp → Prop} : trie_Trie_Get_r2 env h K = trie_Trie_Get_r2 env h K := rfl

/-- trie.go:98 -/
def trie_Trie_Get_r3 (env : Env) (h : Hp) (K : Env → Hp → Prop) : Prop :=
  K ((env.set 4 (Go.Value.int Go.IntKind.i64 0)).set 5 (Go.Value.bool false)) h
@[congr] theorem trie_Trie_Get_r3_congr {env : Env} {h : Hp} {K : Env → Hp → Prop} : trie_Trie_Get_r3 env h K = trie_Trie_Get_r3 env h K := rfl

/-- trie.go:100 -/
def trie_Trie_Get_r4 (env : Env) (h : Hp) (K : Env → Hp → Prop) : Prop :=
  nck (env 6) (
  rd Try.prog (Instr.fieldAt 61 (env 6) 1) noHp fun v14_2 =>
  rd Try.prog (Instr.loadAt 3 v14_2) h fun v15_3 =>
  K ((((((env.set 12 (env 6)).set 13 (env 6)).set 14 v14_2).set 15 v15_3).set 4 v15_3).set 5 (Go.Value.bool true)) h)
@[congr] theorem trie_Trie_Get_r4_congr {env : Env} {h : Hp} {K : Env → Hp → Prop} : trie_Trie_Get_r4 env h K = trie_Trie_Get_r4 env h K := rfl

def trie_Trie_Get_D : Den := (sq (rg trie_Trie_Get_r0) (sq (rg trie_Trie_Get_r1) (sq (sq (rg trie_Trie_Get_r2) (cnd (Go.Operand.tmp 11) (sq (rg trie_Trie_Get_r3) (ex .ret)) (ex .normal))) (sq (rg trie_Trie_Get_r4) (ex .ret)))))

theorem trie_Trie_Get_eq : (den Try.prog 16 trie_Trie_Get_code).1 = trie_Trie_Get_D := by kernel_rfl

theorem trie_Trie_Get_ok {args : Array Value} {h : Hp} {Q : Value → Hp → Prop} (hn : args.size ≤ 16) (D : trie_Trie_Get_D (fin Try.prog [(Go.ResultVar.tmp 4), (Go.ResultVar.tmp 5)] Q) (env0 args) h) : Ok Try.prog 15 args h Q :=
  ok_of_den progIsOk Try.func15 (c := trie_Trie_Get_code) (by kernel_rfl) hn (by show (den Try.prog 16 trie_Trie_Get_code).1 _ _ _; rw [trie_Trie_Get_eq]; exact D)

/-! ### octroi/prefix.May: function 16 -/
noncomputable def prefix_May_code : Code := match Try.f16.body with | some c => c | none => .skip

/-- prefix.go:39 -/
def prefix_May_r0 (env : Env) (h : Hp) (K : Env → Hp → Prop) : Prop :=
  arun Try.prog (Instr.box 30 (env 0)) h fun v1_0 h1 =>
  K ((env.set 1 v1_0).set 2 (Go.Value.bool false)) h1
@[congr] theorem prefix_May_r0_congr {env : Env} {h : Hp} {K : Env → Hp → Prop} : prefix_May_r0 env h K = prefix_May_r0 env h K := rfl

/-- prefix.go:39 (in any order) -/
def prefix_May_r1 (env : Env) (h : Hp) (K : Env → Hp → Prop) : Prop :=
  rd Try.prog (Instr.fieldAt 30 (env 1) 1) noHp fun v3_0 =>
  rd Try.prog (Instr.loadAt 3 v3_0) h fun v4_1 =>
  rd Try.prog (bop Go.BinOp.geq 3 (Go.Operand.tmp 4) (Go.Operand.const (Go.Value.int Go.IntKind.i64 0)) v4_1 (Go.Value.int Go.IntKind.i64 0)) noHp fun v5_2 =>
  gd (yb v5_2 == some true) (fun h k => rd Try.prog (Instr.fieldAt 30 (env 1) 1) noHp fun v => k v h) h fun v7_4 h1 =>
  gd (yb v5_2 == some true) (fun h k => rd Try.prog (Instr.loadAt 3 v7_4) h fun v => k v h) h1 fun v8_5 h2 =>
  gd (yb v5_2 == some true) (fun h k => rd Try.prog (bop Go.BinOp.leq 3 (Go.Operand.tmp 8) (Go.Operand.const (Go.Value.int Go.IntKind.i64 32)) v8_5 (Go.Value.int Go.IntKind.i64 32)) noHp fun v => k v h) h2 fun v9_6 h3 =>
  rd Try.prog (pck v5_2 v9_6 (Go.Value.bool false)) noHp fun v10_7 =>
  gd (yb v10_7 == some true) (fun h k => rd Try.prog (Instr.fieldAt 30 (env 1) 0) noHp fun v => k v h) h3 fun v12_9 h4 =>
  gd (yb v10_7 == some true) (fun h k => rd Try.prog (Instr.loadAt 23 v12_9) h fun v => k v h) h4 fun v13_10 h5 =>
  gd (yb v10_7 == some true) (fun h k => rd Try.prog (Instr.fieldAt 30 (env 1) 1) noHp fun v => k v h) h5 fun v14_11 h6 =>
  gd (yb v10_7 == some true) (fun h k => rd Try.prog (Instr.loadAt 3 v14_11) h fun v => k v h) h6 fun v15_12 h7 =>
  gd (yb v10_7 == some true) (fun h k => Ok Try.prog 27 #[v15_12] h k) h7 fun v16_13 h8 =>
  (((yb v10_7 == some true) = true → rrun Try.prog (Instr.loadAt 23 v12_9) h8 = some v13_10) ∧ True) ∧
  gd (yb v10_7 == some true) (fun h k => rd Try.prog (bop Go.BinOp.andNot 23 (Go.Operand.tmp 13) (Go.Operand.tmp 16) v13_10 v16_13) noHp fun v => k v h) h8 fun v17_14 h9 =>
  gd (yb v10_7 == some true) (fun h k => rd Try.prog (bop Go.BinOp.eql 23 (Go.Operand.tmp 17) (Go.Operand.const (Go.Value.int Go.IntKind.u32 0)) v17_14 (Go.Value.int Go.IntKind.u32 0)) noHp fun v => k v h) h9 fun v18_15 h10 =>
  rd Try.prog (pck v10_7 v18_15 (Go.Value.bool false)) noHp fun v19_16 =>
  K ((((((((((((((((((env.set 3 v3_0).set 4 v4_1).set 5 v5_2).set 6 v5_2).set 7 v7_4).set 8 v8_5).set 9 v9_6).set 10 v10_7).set 11 v10_7).set 12 v12_9).set 13 v13_10).set 14 v14_11).set 15 v15_12).set 16 v16_13).set 17 v17_14).set 18 v18_15).set 19 v19_16).set 2 v19_16) h10
@[congr] theorem prefix_May_r1_congr {env : Env} {h : Hp} {K : Env → Hp → Prop} : prefix_May_r1 env h K = prefix_May_r1 env h K := rfl

def prefix_May_D : Den := (sq (rg prefix_May_r0) (sq (rg prefix_May_r1) (ex .ret)))

theorem prefix_May_eq : (den Try.prog 20 prefix_May_code).1 = prefix_May_D := by kernel_rfl

theorem prefix_May_ok {args : Array Value} {h : Hp} {Q : Value → Hp → Prop} (hn : args.size ≤ 20) (D : prefix_May_D (fin Try.prog [(Go.ResultVar.tmp 2)] Q) (env0 args) h) : Ok Try.prog 16 args h Q :=
  ok_of_den progIsOk Try.func16 (c := prefix_May_code) (by kernel_rfl) hn (by show (den Try.prog 20 prefix_May_code).1 _ _ _; rw [prefix_May_eq]; exact D)

/-! ### (*octroi/trie.Trie).Take: function 17 -/
noncomputable def trie_Trie_Take_code : Code := match Try.f17.body with | some c => c | none => .skip

/-- trie.go:84 -/
def trie_Trie_Take_r0 (env : Env) (h : Hp) (K : Env → Hp → Prop) : Prop :=
  arun Try.prog (Instr.box 30 (env 1)) h fun v3_0 h1 =>
  K ((env.set 3 v3_0).set 4 (Go.Value.int Go.IntKind.i64 0)) h1
@[congr] theorem trie_Trie_Take_r0_congr {env : Env} {h : Hp} {K : Env → Hp → Prop} : trie_Trie_Take_r0 env h K = trie_Trie_Take_r0 env h K := rfl

/-- trie.go:85 -/
def trie_Trie_Take_r1 (env : Env) (h : Hp) (K : Env → Hp → Prop) : Prop :=
  rd Try.prog (Instr.loadAt 30 (env 3)) h fun v7_1 =>
  Ok Try.prog 25 #[(env 0), v7_1] h fun v8_2 h1 =>
  K ((((env.set 6 (env 0)).set 7 v7_1).set 8 v8_2).set 5 v8_2) h1
@[congr] theorem trie_Trie_Take_r1_congr {env : Env} {h : Hp} {K : Env → Hp → Prop} : trie_Trie_Take_r1 env h K = trie_Trie_Take_r1 env h K := rfl

/-- trie.go:86 -/
def trie_Trie_Take_r2 (env : Env) (h : Hp) (K : Env → Hp → Prop) : Prop :=
  rd Try.prog (bop Go.BinOp.eql 57 (Go.Operand.tmp 9) (Go.Operand.const (Go.Value.pointer none)) (env 5) (Go.Value.pointer none)) noHp fun v10_1 =>
  K ((env.set 9 (env 5)).set 10 v10_1) h
@[congr] theorem trie_Trie_Take_r2_congr {env : Env} {h : Hp} {K : Env → Hp → Prop} : trie_Trie_Take_r2 env h K = trie_Trie_Take_r2 env h K := rfl

/-- trie.go:87 -/
def trie_Trie_Take_r3 (env : Env) (h : Hp) (K : Env → Hp → Prop) : Prop :=
  K (env.set 4 (Go.Value.int Go.IntKind.i64 5)) h
@[congr] theorem trie_Trie_Take_r3_congr {env : Env} {h : Hp} {K : Env → Hp → Prop} : trie_Trie_Take_r3 env h K = trie_Trie_Take_r3 env h K := rfl

/-- trie.go:89 -/
def trie_Trie_Take_r4 (env : Env) (h : Hp) (K : Env → Hp → Prop) : Prop :=
  nck (env 5) (
  rd Try.prog (Instr.fieldAt 61 (env 5) 1) noHp fun v14_3 =>
  arun Try.prog (Instr.storeAt 3 v14_3 (Go.Value.int Go.IntKind.i64 0)) h fun _ h1 =>
  nck (env 5) (
  rd Try.prog (Instr.fieldAt 61 (env 5) 2) noHp fun v16_6 =>
  arun Try.prog (Instr.storeAt 4 v16_6 (Go.Value.bool false)) h1 fun _ h2 =>
  K ((((((env.set 11 (env 5)).set 12 (env 5)).set 13 (env 5)).set 14 v14_3).set 15 (env 5)).set 16 v16_6) h2))
@[congr] theorem trie_Trie_Take_r4_congr {env : Env} {h : Hp} {K : Env → Hp → Prop} : trie_Trie_Take_r4 env h K = trie_Trie_Take_r4 env h K := rfl

/-- trie.go:90 -/
def trie_Trie_Take_r5 (env : Env) (h : Hp) (K : Env → Hp → Prop) : Prop :=
  nck (env 0) (
  rd Try.prog (Instr.fieldAt 56 (env 0) 1) noHp fun v19_2 =>
  rd Try.prog (Instr.loadAt 3 v19_2) h fun v20_3 =>
  rd Try.prog (bop Go.BinOp.sub 3 (Go.Operand.tmp 20) (Go.Operand.const (Go.Value.int Go.IntKind.i64 1)) v20_3 (Go.Value.int Go.IntKind.i64 1)) noHp fun v21_4 =>
  nck (env 0) (
  rd Try.prog (Instr.fieldAt 56 (env 0) 1) noHp fun v23_6 =>
  arun Try.prog (Instr.storeAt 3 v23_6 v21_4) h fun _ h1 =>
  K (((((((env.set 17 (env 0)).set 18 (env 0)).set 19 v19_2).set 20 v20_3).set 21 v21_4).set 22 (env 0)).set 23 v23_6) h1))
@[congr] theorem trie_Trie_Take_r5_congr {env : Env} {h : Hp} {K : Env → Hp → Prop} : trie_Trie_Take_r5 env h K = trie_Trie_Take_r5 env h K := rfl

/-- trie.go:91 -/
def trie_Trie_Take_r6 (env : Env) (h : Hp) (K : Env → Hp → Prop) : Prop :=
  K (env.set 4 (Go.Value.int Go.IntKind.i64 0)) h
@[congr] theorem trie_Trie_Take_r6_congr {env : Env} {h : Hp} {K : Env → Hp → Prop} : trie_Trie_Take_r6 env h K = trie_Trie_Take_r6 env h K := rfl

def trie_Trie_Take_D : Den := (sq (rg trie_Trie_Take_r0) (sq (rg trie_Trie_Take_r1) (sq (sq (rg trie_Trie_Take_r2) (cnd (Go.Operand.tmp 10) (sq (rg trie_Trie_Take_r3) (ex .ret)) (ex .normal))) (sq (rg trie_Trie_Take_r4) (sq (rg trie_Trie_Take_r5) (sq (rg trie_Trie_Take_r6) (ex .ret)))))))

theorem trie_Trie_Take_eq : (den Try.prog 24 trie_Trie_Take_code).1 = trie_Trie_Take_D := by kernel_rfl

theorem trie_Trie_Take_ok {args : Array Value} {h : Hp} {Q : Value → Hp → Prop} (hn : args.size ≤ 24) (D : trie_Trie_Take_D (fin Try.prog [(Go.ResultVar.tmp 4)] Q) (env0 args) h) : Ok Try.prog 17 args h Q :=
  ok_of_den progIsOk Try.func17 (c := trie_Trie_Take_code) (by kernel_rfl) hn (by show (den Try.prog 24 trie_Trie_Take_code).1 _ _ _; rw [trie_Trie_Take_eq]; exact D)

/-! ### (*octroi/trie.Trie).Len: function 18 -/
noncomputable def trie_Trie_Len_code : Code := match Try.f18.body with | some c => c | none => .skip

/-- trie.go:137 -/
def trie_Trie_Len_r0 (env : Env) (h : Hp) (K : Env → Hp → Prop) : Prop :=
  K (env.set 2 (Go.Value.int Go.IntKind.i64 0)) h
@[congr] theorem trie_Trie_Len_r0_congr {env : Env} {h : Hp} {K : Env → Hp → Prop} : trie_Trie_Len_r0 env h K = trie_Trie_Len_r0 env h K := rfl

/-- trie.go:137 -/
def trie_Trie_Len_r1 (env : Env) (h : Hp) (K : Env → Hp → Prop) : Prop :=
  nck (env 0) (
  rd Try.prog (Instr.fieldAt 56 (env 0) 1) noHp fun v5_2 =>
  rd Try.prog (Instr.loadAt 3 v5_2) h fun v6_3 =>
  K (((((env.set 3 (env 0)).set 4 (env 0)).set 5 v5_2).set 6 v6_3).set 2 v6_3) h)
@[congr] theorem trie_Trie_Len_r1_congr {env : Env} {h : Hp} {K : Env → Hp → Prop} : trie_Trie_Len_r1 env h K = trie_Trie_Len_r1 env h K := rfl

def trie_Trie_Len_D : Den := (sq (rg trie_Trie_Len_r0) (sq (rg trie_Trie_Len_r1) (ex .ret)))

theorem trie_Trie_Len_eq : (den Try.prog 7 trie_Trie_Len_code).1 = trie_Trie_Len_D := by kernel_rfl

theorem trie_Trie_Len_ok {args : Array Value} {h : Hp} {Q : Value → Hp → Prop} (hn : args.size ≤ 7) (D : trie_Trie_Len_D (fin Try.prog [(Go.ResultVar.tmp 2)] Q) (env0 args) h) : Ok Try.prog 18 args h Q :=
  ok_of_den progIsOk Try.func18 (c := trie_Trie_Len_code) (by kernel_rfl) hn (by show (den Try.prog 7 trie_Trie_Len_code).1 _ _ _; rw [trie_Trie_Len_eq]; exact D)

/-! ### (*octroi/octroiref08.Trie).Put: function 19 -/
noncomputable def octroiref08_Trie_Put_code : Code := match Try.f19.body with | some c => c | none => .skip

/-- ref.go:32 -/
def octroiref08_Trie_Put_r0 (env : Env) (h : Hp) (K : Env → Hp → Prop) : Prop :=
  arun Try.prog (Instr.box 30 (env 1)) h fun v4_0 h1 =>
  K ((env.set 4 v4_0).set 6 (Go.Value.int Go.IntKind.i64 0)) h1
@[congr] theorem octroiref08_Trie_Put_r0_congr {env : Env} {h : Hp} {K : Env → Hp → Prop} : octroiref08_Trie_Put_r0 env h K = octroiref08_Trie_Put_r0 env h K := rfl

/-- ref.go:33 -/
def octroiref08_Trie_Put_r1 (env : Env) (h : Hp) (K : Env → Hp → Prop) : Prop :=
  rd Try.prog (Instr.loadAt 30 (env 4)) h fun v13_0 =>
  Ok Try.prog 30 #[v13_0] h fun v14_1 h1 =>
  K (((env.set 13 v13_0).set 14 v14_1).set 7 v14_1) h1
@[congr] theorem octroiref08_Trie_Put_r1_congr {env : Env} {h : Hp} {K : Env → Hp → Prop} : octroiref08_Trie_Put_r1 env h K = octroiref08_Trie_Put_r1 env h K := rfl

/-- ref.go:34 -/
def octroiref08_Trie_Put_r2 (env : Env) (h : Hp) (K : Env → Hp → Prop) : Prop :=
  rd Try.prog (Op.unary Go.UnOp.not (env 7)) noHp fun v16_1 =>
  K ((env.set 15 (env 7)).set 16 v16_1) h
@[congr] theorem octroiref08_Trie_Put_r2_congr {env : Env} {h : Hp} {K : Env → Hp → Prop} : octroiref08_Trie_Put_r2 env h K = octroiref08_Trie_Put_r2 env h K := rfl

/-- ref.go:35 -/
def octroiref08_Trie_Put_r3 (env : Env) (h : Hp) (K : Env → Hp → Prop) : Prop :=
  K (env.set 6 (Go.Value.int Go.IntKind.i64 1)) h
@[congr] theorem octroiref08_Trie_Put_r3_congr {env : Env} {h : Hp} {K : Env → Hp → Prop} : octroiref08_Trie_Put_r3 env h K = octroiref08_Trie_Put_r3 env h K := rfl

/-- ref.go:37 -/
def octroiref08_Trie_Put_r4 (env : Env) (h : Hp) (K : Env → Hp → Prop) : Prop :=
  rd Try.prog (Instr.loadAt 30 (env 4)) h fun v18_1 =>
  Ok Try.prog 31 #[(env 0), v18_1] h fun v19_2 h1 =>
  K ((((env.set 17 (env 0)).set 18 v18_1).set 19 v19_2).set 8 v19_2) h1
@[congr] theorem octroiref08_Trie_Put_r4_congr {env : Env} {h : Hp} {K : Env → Hp → Prop} : octroiref08_Trie_Put_r4 env h K = octroiref08_Trie_Put_r4 env h K := rfl

/-- ref.go:38 -/
def octroiref08_Trie_Put_r5 (env : Env) (h : Hp) (K : Env → Hp → Prop) : Prop :=
  rd Try.prog (bop Go.BinOp.geq 3 (Go.Operand.tmp 20) (Go.Operand.const (Go.Value.int Go.IntKind.i64 0)) (env 8) (Go.Value.int Go.IntKind.i64 0)) noHp fun v21_1 =>
  K ((env.set 20 (env 8)).set 21 v21_1) h
@[congr] theorem octroiref08_Trie_Put_r5_congr {env : Env} {h : Hp} {K : Env → Hp → Prop} : octroiref08_Trie_Put_r5 env h K = octroiref08_Trie_Put_r5 env h K := rfl

/-- ref.go:39 -/
def octroiref08_Trie_Put_r6 (env : Env) (h : Hp) (K : Env → Hp → Prop) : Prop :=
  nck (env 0) (
  rd Try.prog (Instr.fieldAt 50 (env 0) 1) noHp fun v24_2 =>
  rd Try.prog (Instr.loadAt 48 v24_2) h fun v25_3 =>
  rd Try.prog (Instr.indexAt 48 v25_3 (env 8)) noHp fun v28_6 =>
  rd Try.prog (Instr.fieldAt 68 v28_6 1) noHp fun v29_7 =>
  arun Try.prog (Instr.storeAt 3 v29_7 (env 2)) h fun _ h1 =>
  K ((((((((env.set 22 (env 0)).set 23 (env 0)).set 24 v24_2).set 25 v25_3).set 26 (env 8)).set 27 (env 2)).set 28 v28_6).set 29 v29_7) h1)
@[congr] theorem octroiref08_Trie_Put_r6_congr {env : Env} {h : Hp} {K : Env → Hp → Prop} : octroiref08_Trie_Put_r6 env h K = octroiref08_Trie_Put_r6 env h K := rfl

/-- ref.go:40 -/
def octroiref08_Trie_Put_r7 (env : Env) (h : Hp) (K : Env → Hp → Prop) : Prop :=
  K (env.set 6 (Go.Value.int Go.IntKind.i64 0)) h
@[congr] theorem octroiref08_Trie_Put_r7_congr {env : Env} {h : Hp} {K : Env → Hp → Prop} : octroiref08_Trie_Put_r7 env h K = octroiref08_Trie_Put_r7 env h K := rfl

/-- ref.go:42 (in any order) -/
def octroiref08_Trie_Put_r8 (env : Env) (h : Hp) (K : Env → Hp → Prop) : Prop :=
  nck (env 0) (
  rd Try.prog (Instr.fieldAt 50 (env 0) 1) noHp fun v32_2 =>
  rd Try.prog (Instr.loadAt 48 v32_2) h fun v33_3 =>
  rd Try.prog (Builtin.len_ #[48] 3 #[v33_3]) h fun v34_4 =>
  nck (env 0) (
  rd Try.prog (Instr.fieldAt 50 (env 0) 0) noHp fun v37_7 =>
  rd Try.prog (Instr.loadAt 3 v37_7) h fun v38_8 =>
  rd Try.prog (bop Go.BinOp.geq 3 (Go.Operand.tmp 34) (Go.Operand.tmp 38) v34_4 v38_8) noHp fun v39_9 =>
  K ((((((((((env.set 30 (env 0)).set 31 (env 0)).set 32 v32_2).set 33 v33_3).set 34 v34_4).set 35 (env 0)).set 36 (env 0)).set 37 v37_7).set 38 v38_8).set 39 v39_9) h))
@[congr] theorem octroiref08_Trie_Put_r8_congr {env : Env} {h : Hp} {K : Env → Hp → Prop} : octroiref08_Trie_Put_r8 env h K = octroiref08_Trie_Put_r8 env h K := rfl

/-- ref.go:43 -/
def octroiref08_Trie_Put_r9 (env : Env) (h : Hp) (K : Env → Hp → Prop) : Prop :=
  K (env.set 6 (Go.Value.int Go.IntKind.i64 4)) h
@[congr] theorem octroiref08_Trie_Put_r9_congr {env : Env} {h : Hp} {K : Env → Hp → Prop} : octroiref08_Trie_Put_r9 env h K = octroiref08_Trie_Put_r9 env h K := rfl

/-- ref.go:45 -/
def octroiref08_Trie_Put_r10 (env : Env) (h : Hp) (K : Env → Hp → Prop) : Prop :=
  K (env.set 9 (Go.Value.slice none 0 0)) h
@[congr] theorem octroiref08_Trie_Put_r10_congr {env : Env} {h : Hp} {K : Env → Hp → Prop} : octroiref08_Trie_Put_r10 env h K = octroiref08_Trie_Put_r10 env h K := rfl

/-- ref.go:46 -/
def octroiref08_Trie_Put_r11 (env : Env) (h : Hp) (K : Env → Hp → Prop) : Prop :=
  K (env.set 10 (Go.Value.bool false)) h
@[congr] theorem octroiref08_Trie_Put_r11_congr {env : Env} {h : Hp} {K : Env → Hp → Prop} : octroiref08_Trie_Put_r11 env h K = octroiref08_Trie_Put_r11 env h K := rfl

/-- ref.go:47 -/
def octroiref08_Trie_Put_r12 (env : Env) (h : Hp) (K : Env → Hp → Prop) : Prop :=
  K (env.set 11 (Go.Value.int Go.IntKind.i64 0)) h
@[congr] theorem octroiref08_Trie_Put_r12_congr {env : Env} {h : Hp} {K : Env → Hp → Prop} : octroiref08_Trie_Put_r12 env h K = octroiref08_Trie_Put_r12 env h K := rfl

/-- ref.go:47 -/
def octroiref08_Trie_Put_r13 (env : Env) (h : Hp) (K : Env → Hp → Prop) : Prop :=
  nck (env 0) (
  rd Try.prog (Instr.fieldAt 50 (env 0) 1) noHp fun v43_3 =>
  rd Try.prog (Instr.loadAt 48 v43_3) h fun v44_4 =>
  rd Try.prog (Builtin.len_ #[48] 3 #[v44_4]) h fun v45_5 =>
  rd Try.prog (bop Go.BinOp.lss 3 (Go.Operand.tmp 40) (Go.Operand.tmp 45) (env 11) v45_5) noHp fun v46_6 =>
  K (((((((env.set 40 (env 11)).set 41 (env 0)).set 42 (env 0)).set 43 v43_3).set 44 v44_4).set 45 v45_5).set 46 v46_6) h)
@[congr] theorem octroiref08_Trie_Put_r13_congr {env : Env} {h : Hp} {K : Env → Hp → Prop} : octroiref08_Trie_Put_r13 env h K = octroiref08_Trie_Put_r13 env h K := rfl

/-- ref.go:48 (in any order) -/
def octroiref08_Trie_Put_r14 (env : Env) (h : Hp) (K : Env → Hp → Prop) : Prop :=
  rd Try.prog (Instr.loadAt 30 (env 4)) h fun v49_0 =>
  nck (env 0) (
  rd Try.prog (Instr.fieldAt 50 (env 0) 1) noHp fun v52_3 =>
  rd Try.prog (Instr.loadAt 48 v52_3) h fun v53_4 =>
  rd Try.prog (Instr.indexAt 48 v53_4 (env 11)) noHp fun v55_6 =>
  rd Try.prog (Instr.fieldAt 68 v55_6 0) noHp fun v56_7 =>
  rd Try.prog (Instr.loadAt 30 v56_7) h fun v57_8 =>
  Ok Try.prog 32 #[v49_0, v57_8] h fun v58_9 h1 =>
  (True) ∧
  K (((((((((((env.set 49 v49_0).set 50 (env 0)).set 51 (env 0)).set 52 v52_3).set 53 v53_4).set 54 (env 11)).set 55 v55_6).set 56 v56_7).set 57 v57_8).set 58 v58_9).set 12 v58_9) h1)
@[congr] theorem octroiref08_Trie_Put_r14_congr {env : Env} {h : Hp} {K : Env → Hp → Prop} : octroiref08_Trie_Put_r14 env h K = octroiref08_Trie_Put_r14 env h K := rfl

/-- ref.go:49 -/
def octroiref08_Trie_Put_r15 (env : Env) (h : Hp) (K : Env → Hp → Prop) : Prop :=
  rd Try.prog (Op.unary Go.UnOp.not (env 10)) noHp fun v60_1 =>
  gd (yb v60_1 == some true) (fun h k => k (env 12) h) h fun v62_3 h1 =>
  rd Try.prog (pck v60_1 v62_3 (Go.Value.bool false)) noHp fun v63_4 =>
  K (((((env.set 59 (env 10)).set 60 v60_1).set 61 v60_1).set 62 v62_3).set 63 v63_4) h1
@[congr] theorem octroiref08_Trie_Put_r15_congr {env : Env} {h : Hp} {K : Env → Hp → Prop} : octroiref08_Trie_Put_r15 env h K = octroiref08_Trie_Put_r15 env h K := rfl

/-- ref.go:50 -/
def octroiref08_Trie_Put_r16 (env : Env) (h : Hp) (K : Env → Hp → Prop) : Prop :=
  rd Try.prog (Instr.loadAt 30 (env 4)) h fun v65_1 =>
  rd Try.prog (Instr.build 68 #[(0, v65_1), (1, (env 2))]) noHp fun v67_3 =>
  arun Try.prog (Instr.buildSlice 48 1 #[(0, v67_3)]) h fun v68_4 h1 =>
  arun Try.prog (Builtin.append_ #[48, 48] 48 #[(env 9), v68_4]) h1 fun v69_5 h2 =>
  K (((((((env.set 64 (env 9)).set 65 v65_1).set 66 (env 2)).set 67 v67_3).set 68 v68_4).set 69 v69_5).set 9 v69_5) h2
@[congr] theorem octroiref08_Trie_Put_r16_congr {env : Env} {h : Hp} {K : Env → Hp → Prop} : octroiref08_Trie_Put_r16 env h K = octroiref08_Trie_Put_r16 env h K := rfl

/-- ref.go:51 -/
def octroiref08_Trie_Put_r17 (env : Env) (h : Hp) (K : Env → Hp → Prop) : Prop :=
  K (env.set 10 (Go.Value.bool true)) h
@[congr] theorem octroiref08_Trie_Put_r17_congr {env : Env} {h : Hp} {K : Env → Hp → Prop} : octroiref08_Trie_Put_r17 env h K = octroiref08_Trie_Put_r17 env h K := rfl

/-- ref.go:53 -/
def octroiref08_Trie_Put_r18 (env : Env) (h : Hp) (K : Env → Hp → Prop) : Prop :=
  nck (env 0) (
  rd Try.prog (Instr.fieldAt 50 (env 0) 1) noHp fun v73_3 =>
  rd Try.prog (Instr.loadAt 48 v73_3) h fun v74_4 =>
  rd Try.prog (Instr.indexAt 48 v74_4 (env 11)) noHp fun v76_6 =>
  rd Try.prog (Instr.loadAt 68 v76_6) h fun v77_7 =>
  arun Try.prog (Instr.buildSlice 48 1 #[(0, v77_7)]) h fun v78_8 h1 =>
  arun Try.prog (Builtin.append_ #[48, 48] 48 #[(env 9), v78_8]) h1 fun v79_9 h2 =>
  K (((((((((((env.set 70 (env 9)).set 71 (env 0)).set 72 (env 0)).set 73 v73_3).set 74 v74_4).set 75 (env 11)).set 76 v76_6).set 77 v77_7).set 78 v78_8).set 79 v79_9).set 9 v79_9) h2)
@[congr] theorem octroiref08_Trie_Put_r18_congr {env : Env} {h : Hp} {K : Env → Hp → Prop} : octroiref08_Trie_Put_r18 env h K = octroiref08_Trie_Put_r18 env h K := rfl

/-- ref.go:47 -/
def octroiref08_Trie_Put_r19 (env : Env) (h : Hp) (K : Env → Hp → Prop) : Prop :=
  rd Try.prog (bop Go.BinOp.add 3 (Go.Operand.tmp 47) (Go.Operand.const (Go.Value.int Go.IntKind.i64 1)) (env 11) (Go.Value.int Go.IntKind.i64 1)) noHp fun v48_1 =>
  K (((env.set 47 (env 11)).set 48 v48_1).set 11 v48_1) h
@[congr] theorem octroiref08_Trie_Put_r19_congr {env : Env} {h : Hp} {K : Env → Hp → Prop} : octroiref08_Trie_Put_r19 env h K = octroiref08_Trie_Put_r19 env h K := rfl

def octroiref08_Trie_Put_L0 : Den := (sq (sq (rg octroiref08_Trie_Put_r13) (cnd (Go.Operand.tmp 46) (ex .normal) (ex (.exit 0)))) (sq (blk 1 (sq (rg octroiref08_Trie_Put_r14) (sq (sq (rg octroiref08_Trie_Put_r15) (cnd (Go.Operand.tmp 63) (sq (rg octroiref08_Trie_Put_r16) (rg octroiref08_Trie_Put_r17)) (ex .normal))) (rg octroiref08_Trie_Put_r18)))) (rg octroiref08_Trie_Put_r19)))

/-- ref.go:55 -/
def octroiref08_Trie_Put_r20 (env : Env) (h : Hp) (K : Env → Hp → Prop) : Prop :=
  rd Try.prog (Op.unary Go.UnOp.not (env 10)) noHp fun v81_1 =>
  K ((env.set 80 (env 10)).set 81 v81_1) h
@[congr] theorem octroiref08_Trie_Put_r20_congr {env : Env} {h : Hp} {K : Env → Hp → Prop} : octroiref08_Trie_Put_r20 env h K = octroiref08_Trie_Put_r20 env h K := rfl

/-- ref.go:56 -/
def octroiref08_Trie_Put_r21 (env : Env) (h : Hp) (K : Env → Hp → Prop) : Prop :=
  rd Try.prog (Instr.loadAt 30 (env 4)) h fun v83_1 =>
  rd Try.prog (Instr.build 68 #[(0, v83_1), (1, (env 2))]) noHp fun v85_3 =>
  arun Try.prog (Instr.buildSlice 48 1 #[(0, v85_3)]) h fun v86_4 h1 =>
  arun Try.prog (Builtin.append_ #[48, 48] 48 #[(env 9), v86_4]) h1 fun v87_5 h2 =>
  K (((((((env.set 82 (env 9)).set 83 v83_1).set 84 (env 2)).set 85 v85_3).set 86 v86_4).set 87 v87_5).set 9 v87_5) h2
@[congr] theorem octroiref08_Trie_Put_r21_congr {env : Env} {h : Hp} {K : Env → Hp → Prop} : octroiref08_Trie_Put_r21 env h K = octroiref08_Trie_Put_r21 env h K := rfl

/-- ref.go:58 -/
def octroiref08_Trie_Put_r22 (env : Env) (h : Hp) (K : Env → Hp → Prop) : Prop :=
  nck (env 0) (
  rd Try.prog (Instr.fieldAt 50 (env 0) 1) noHp fun v91_3 =>
  arun Try.prog (Instr.storeAt 48 v91_3 (env 9)) h fun _ h1 =>
  K ((((env.set 88 (env 0)).set 89 (env 9)).set 90 (env 0)).set 91 v91_3) h1)
@[congr] theorem octroiref08_Trie_Put_r22_congr {env : Env} {h : Hp} {K : Env → Hp → Prop} : octroiref08_Trie_Put_r22 env h K = octroiref08_Trie_Put_r22 env h K := rfl

/-- ref.go:59 -/
def octroiref08_Trie_Put_r23 (env : Env) (h : Hp) (K : Env → Hp → Prop) : Prop :=
  K (env.set 6 (Go.Value.int Go.IntKind.i64 0)) h
@[congr] theorem octroiref08_Trie_Put_r23_congr {env : Env} {h : Hp} {K : Env → Hp → Prop} : octroiref08_Trie_Put_r23 env h K = octroiref08_Trie_Put_r23 env h K := rfl

def octroiref08_Trie_Put_D : Den := (sq (rg octroiref08_Trie_Put_r0) (sq (rg octroiref08_Trie_Put_r1) (sq (sq (rg octroiref08_Trie_Put_r2) (cnd (Go.Operand.tmp 16) (sq (rg octroiref08_Trie_Put_r3) (ex .ret)) (ex .normal))) (sq (rg octroiref08_Trie_Put_r4) (sq (sq (rg octroiref08_Trie_Put_r5) (cnd (Go.Operand.tmp 21) (sq (rg octroiref08_Trie_Put_r6) (sq (rg octroiref08_Trie_Put_r7) (ex .ret))) (ex .normal))) (sq (sq (rg octroiref08_Trie_Put_r8) (cnd (Go.Operand.tmp 39) (sq (rg octroiref08_Trie_Put_r9) (ex .ret)) (ex .normal))) (sq (rg octroiref08_Trie_Put_r10) (sq (rg octroiref08_Trie_Put_r11) (sq (sq (rg octroiref08_Trie_Put_r12) (blk 0 (lp octroiref08_Trie_Put_L0))) (sq (sq (rg octroiref08_Trie_Put_r20) (cnd (Go.Operand.tmp 81) (rg octroiref08_Trie_Put_r21) (ex .normal))) (sq (rg octroiref08_Trie_Put_r22) (sq (rg octroiref08_Trie_Put_r23) (ex .ret)))))))))))))

theorem octroiref08_Trie_Put_eq : (den Try.prog 92 octroiref08_Trie_Put_code).1 = octroiref08_Trie_Put_D := by kernel_rfl

theorem octroiref08_Trie_Put_ok {args : Array Value} {h : Hp} {Q : Value → Hp → Prop} (hn : args.size ≤ 92) (D : octroiref08_Trie_Put_D (fin Try.prog [(Go.ResultVar.tmp 6)] Q) (env0 args) h) : Ok Try.prog 19 args h Q :=
  ok_of_den progIsOk Try.func19 (c := octroiref08_Trie_Put_code) (by kernel_rfl) hn (by show (den Try.prog 92 octroiref08_Trie_Put_code).1 _ _ _; rw [octroiref08_Trie_Put_eq]; exact D)

/-! ### (*octroi/octroiref08.Trie).Take: function 20 -/
noncomputable def octroiref08_Trie_Take_code : Code := match Try.f20.body with | some c => c | none => .skip

/-- ref.go:63 -/
def octroiref08_Trie_Take_r0 (env : Env) (h : Hp) (K : Env → Hp → Prop) : Prop :=
  arun Try.prog (Instr.box 30 (env 1)) h fun v3_0 h1 =>
  K ((env.set 3 v3_0).set 4 (Go.Value.int Go.IntKind.i64 0)) h1
@[congr] theorem octroiref08_Trie_Take_r0_congr {env : Env} {h : Hp} {K : Env → Hp → Prop} : octroiref08_Trie_Take_r0 env h K = octroiref08_Trie_Take_r0 env h K := rfl

/-- ref.go:64 -/
def octroiref08_Trie_Take_r1 (env : Env) (h : Hp) (K : Env → Hp → Prop) : Prop :=
  rd Try.prog (Instr.loadAt 30 (env 3)) h fun v8_1 =>
  Ok Try.prog 31 #[(env 0), v8_1] h fun v9_2 h1 =>
  K ((((env.set 7 (env 0)).set 8 v8_1).set 9 v9_2).set 5 v9_2) h1
@[congr] theorem octroiref08_Trie_Take_r1_congr {env : Env} {h : Hp} {K : Env → Hp → Prop} : octroiref08_Trie_Take_r1 env h K = octroiref08_Trie_Take_r1 env h K := rfl

/-- ref.go:65 -/
def octroiref08_Trie_Take_r2 (env : Env) (h : Hp) (K : Env → Hp → Prop) : Prop :=
  rd Try.prog (bop Go.BinOp.lss 3 (Go.Operand.tmp 10) (Go.Operand.const (Go.Value.int Go.IntKind.i64 0)) (env 5) (Go.Value.int Go.IntKind.i64 0)) noHp fun v11_1 =>
  K ((env.set 10 (env 5)).set 11 v11_1) h
@[congr] theorem octroiref08_Trie_Take_r2_congr {env : Env} {h : Hp} {K : Env → Hp → Prop} : octroiref08_Trie_Take_r2 env h K = octroiref08_Trie_Take_r2 env h K := rfl

/-- ref.go:66 -/
def octroiref08_Trie_Take_r3 (env : Env) (h : Hp) (K : Env → Hp → Prop) : Prop :=
  K (env.set 4 (Go.Value.int Go.IntKind.i64 5)) h
@[congr] theorem octroiref08_Trie_Take_r3_congr {env : Env} {h : Hp} {K : Env → Hp → Prop} : octroiref08_Trie_Take_r3 env h K = octroiref08_Trie_Take_r3 env h K := rfl

/-- ref.go:68 -/
def octroiref08_Trie_Take_r4 (env : Env) (h : Hp) (K : Env → Hp → Prop) : Prop :=
  nck (env 0) (
  rd Try.prog (Instr.fieldAt 50 (env 0) 1) noHp fun v14_2 =>
  rd Try.prog (Instr.loadAt 48 v14_2) h fun v15_3 =>
  rd Try.prog (Instr.sliceAt 48 v15_3 none (some (env 5)) none) noHp fun v17_5 =>
  arun Try.prog (Builtin.append_ #[48, 48] 48 #[(Go.Value.slice none 0 0), v17_5]) h fun v18_6 h1 =>
  K ((((((((env.set 12 (env 0)).set 13 (env 0)).set 14 v14_2).set 15 v15_3).set 16 (env 5)).set 17 v17_5).set 18 v18_6).set 6 v18_6) h1)
@[congr] theorem octroiref08_Trie_Take_r4_congr {env : Env} {h : Hp} {K : Env → Hp → Prop} : octroiref08_Trie_Take_r4 env h K = octroiref08_Trie_Take_r4 env h K := rfl

/-- ref.go:69 -/
def octroiref08_Trie_Take_r5 (env : Env) (h : Hp) (K : Env → Hp → Prop) : Prop :=
  nck (env 0) (
  rd Try.prog (Instr.fieldAt 50 (env 0) 1) noHp fun v22_3 =>
  rd Try.prog (Instr.loadAt 48 v22_3) h fun v23_4 =>
  rd Try.prog (bop Go.BinOp.add 3 (Go.Operand.tmp 24) (Go.Operand.const (Go.Value.int Go.IntKind.i64 1)) (env 5) (Go.Value.int Go.IntKind.i64 1)) noHp fun v25_6 =>
  rd Try.prog (Instr.sliceAt 48 v23_4 (some v25_6) none none) noHp fun v26_7 =>
  arun Try.prog (Builtin.append_ #[48, 48] 48 #[(env 6), v26_7]) h fun v27_8 h1 =>
  K ((((((((((env.set 19 (env 6)).set 20 (env 0)).set 21 (env 0)).set 22 v22_3).set 23 v23_4).set 24 (env 5)).set 25 v25_6).set 26 v26_7).set 27 v27_8).set 6 v27_8) h1)
@[congr] theorem octroiref08_Trie_Take_r5_congr {env : Env} {h : Hp} {K : Env → Hp → Prop} : octroiref08_Trie_Take_r5 env h K = octroiref08_Trie_Take_r5 env h K := rfl

/-- ref.go:70 -/
def octroiref08_Trie_Take_r6 (env : Env) (h : Hp) (K : Env → Hp → Prop) : Prop :=
  nck (env 0) (
  rd Try.prog (Instr.fieldAt 50 (env 0) 1) noHp fun v31_3 =>
  arun Try.prog (Instr.storeAt 48 v31_3 (env 6)) h fun _ h1 =>
  K ((((env.set 28 (env 0)).set 29 (env 6)).set 30 (env 0)).set 31 v31_3) h1)
@[congr] theorem octroiref08_Trie_Take_r6_congr {env : Env} {h : Hp} {K : Env → Hp → Prop} : octroiref08_Trie_Take_r6 env h K = octroiref08_Trie_Take_r6 env h K := rfl

/-- ref.go:71 -/
def octroiref08_Trie_Take_r7 (env : Env) (h : Hp) (K : Env → Hp → Prop) : Prop :=
  K (env.set 4 (Go.Value.int Go.IntKind.i64 0)) h
@[congr] theorem octroiref08_Trie_Take_r7_congr {env : Env} {h : Hp} {K : Env → Hp → Prop} : octroiref08_Trie_Take_r7 env h K = octroiref08_Trie_Take_r7 env h K := rfl

def octroiref08_Trie_Take_D : Den := (sq (rg octroiref08_Trie_Take_r0) (sq (rg octroiref08_Trie_Take_r1) (sq (sq (rg octroiref08_Trie_Take_r2) (cnd (Go.Operand.tmp 11) (sq (rg octroiref08_Trie_Take_r3) (ex .ret)) (ex .normal))) (sq (rg octroiref08_Trie_Take_r4) (sq (rg octroiref08_Trie_Take_r5) (sq (rg octroiref08_Trie_Take_r6) (sq (rg octroiref08_Trie_Take_r7) (ex .ret))))))))

theorem octroiref08_Trie_Take_eq : (den Try.prog 32 octroiref08_Trie_Take_code).1 = octroiref08_Trie_Take_D := by kernel_rfl

theorem octroiref08_Trie_Take_ok {args : Array Value} {h : Hp} {Q : Value → Hp → Prop} (hn : args.size ≤ 32) (D : octroiref08_Trie_Take_D (fin Try.prog [(Go.ResultVar.tmp 4)] Q) (env0 args) h) : Ok Try.prog 20 args h Q :=
  ok_of_den progIsOk Try.func20 (c := octroiref08_Trie_Take_code) (by kernel_rfl) hn (by show (den Try.prog 32 octroiref08_Trie_Take_code).1 _ _ _; rw [octroiref08_Trie_Take_eq]; exact D)

/-! ### (*octroi/octroiref08.Trie).Get: function 21 -/
noncomputable def octroiref08_Trie_Get_code : Code := match Try.f21.body with | some c => c | none => .skip

/-- ref.go:75 -/
def octroiref08_Trie_Get_r0 (env : Env) (h : Hp) (K : Env → Hp → Prop) : Prop :=
  arun Try.prog (Instr.box 30 (env 1)) h fun v3_0 h1 =>
  K (((env.set 3 v3_0).set 4 (Go.Value.int Go.IntKind.i64 0)).set 5 (Go.Value.bool false)) h1
@[congr] theorem octroiref08_Trie_Get_r0_congr {env : Env} {h : Hp} {K : Env → Hp → Prop} : octroiref08_Trie_Get_r0 env h K = octroiref08_Trie_Get_r0 env h K := rfl

/-- ref.go:76 -/
def octroiref08_Trie_Get_r1 (env : Env) (h : Hp) (K : Env → Hp → Prop) : Prop :=
  rd Try.prog (Instr.loadAt 30 (env 3)) h fun v8_1 =>
  Ok Try.prog 31 #[(env 0), v8_1] h fun v9_2 h1 =>
  K ((((env.set 7 (env 0)).set 8 v8_1).set 9 v9_2).set 6 v9_2) h1
@[congr] theorem octroiref08_Trie_Get_r1_congr {env : Env} {h : Hp} {K : Env → Hp → Prop} : octroiref08_Trie_Get_r1 env h K = octroiref08_Trie_Get_r1 env h K := rfl

/-- ref.go:77 -/
def octroiref08_Trie_Get_r2 (env : Env) (h : Hp) (K : Env → Hp → Prop) : Prop :=
  rd Try.prog (bop Go.BinOp.lss 3 (Go.Operand.tmp 10) (Go.Operand.const (Go.Value.int Go.IntKind.i64 0)) (env 6) (Go.Value.int Go.IntKind.i64 0)) noHp fun v11_1 =>
  K ((env.set 10 (env 6)).set 11 v11_1) h
@[congr] theorem octroiref08_Trie_Get_r2_congr {env : Env} {h : Hp} {K : Env → Hp → Prop} : octroiref08_Trie_Get_r2 env h K = octroiref08_Trie_Get_r2 env h K := rfl

/-- ref.go:78 -/
def octroiref08_Trie_Get_r3 (env : Env) (h : Hp) (K : Env → Hp → Prop) : Prop :=
  K ((env.set 4 (Go.Value.int Go.IntKind.i64 0)).set 5 (Go.Value.bool false)) h
@[congr] theorem octroiref08_Trie_Get_r3_congr {env : Env} {h : Hp} {K : Env → Hp → Prop} : octroiref08_Trie_Get_r3 env h K = octroiref08_Trie_Get_r3 env h K := rfl

/-- ref.go:80 -/
def octroiref08_Trie_Get_r4 (env : Env) (h : Hp) (K : Env → Hp → Prop) : Prop :=
  nck (env 0) (
  rd Try.prog (Instr.fieldAt 50 (env 0) 1) noHp fun v14_2 =>
  rd Try.prog (Instr.loadAt 48 v14_2) h fun v15_3 =>
  rd Try.prog (Instr.indexAt 48 v15_3 (env 6)) noHp fun v17_5 =>
  rd Try.prog (Instr.fieldAt 68 v17_5 1) noHp fun v18_6 =>
  rd Try.prog (Instr.loadAt 3 v18_6) h fun v19_7 =>
  K ((((((((((env.set 12 (env 0)).set 13 (env 0)).set 14 v14_2).set 15 v15_3).set 16 (env 6)).set 17 v17_5).set 18 v18_6).set 19 v19_7).set 4 v19_7).set 5 (Go.Value.bool true)) h)
@[congr] theorem octroiref08_Trie_Get_r4_congr {env : Env} {h : Hp} {K : Env → Hp → Prop} : octroiref08_Trie_Get_r4 env h K = octroiref08_Trie_Get_r4 env h K := rfl

def octroiref08_Trie_Get_D : Den := (sq (rg octroiref08_Trie_Get_r0) (sq (rg octroiref08_Trie_Get_r1) (sq (sq (rg octroiref08_Trie_Get_r2) (cnd (Go.Operand.tmp 11) (sq (rg octroiref08_Trie_Get_r3) (ex .ret)) (ex .normal))) (sq (rg octroiref08_Trie_Get_r4) (ex .ret)))))

theorem octroiref08_Trie_Get_eq : (den Try.prog 20 octroiref08_Trie_Get_code).1 = octroiref08_Trie_Get_D := by kernel_rfl

theorem octroiref08_Trie_Get_ok {args : Array Value} {h : Hp} {Q : Value → Hp → Prop} (hn : args.size ≤ 20) (D : octroiref08_Trie_Get_D (fin Try.prog [(Go.ResultVar.tmp 4), (Go.ResultVar.tmp 5)] Q) (env0 args) h) : Ok Try.prog 21 args h Q :=
  ok_of_den progIsOk Try.func21 (c := octroiref08_Trie_Get_code) (by kernel_rfl) hn (by show (den Try.prog 20 octroiref08_Trie_Get_code).1 _ _ _; rw [octroiref08_Trie_Get_eq]; exact D)

/-! ### (*octroi/octroiref08.Trie).Find: function 22 -/
noncomputable def octroiref08_Trie_Find_code : Code := match Try.f22.body with | some c => c | none => .skip

/-- ref.go:84 -/
def octroiref08_Trie_Find_r0 (env : Env) (h : Hp) (K : Env → Hp → Prop) : Prop :=
  arun Try.prog (Instr.alloc 30 true (Go.Value.tuple #[])) h fun v4_0 h1 =>
  K (((env.set 4 v4_0).set 5 (Go.Value.int Go.IntKind.i64 0)).set 6 (Go.Value.bool false)) h1
@[congr] theorem octroiref08_Trie_Find_r0_congr {env : Env} {h : Hp} {K : Env → Hp → Prop} : octroiref08_Trie_Find_r0 env h K = octroiref08_Trie_Find_r0 env h K := rfl

/-- ref.go:85 -/
def octroiref08_Trie_Find_r1 (env : Env) (h : Hp) (K : Env → Hp → Prop) : Prop :=
  K (env.set 7 (Go.Value.int Go.IntKind.i64 (-1))) h
@[congr] theorem octroiref08_Trie_Find_r1_congr {env : Env} {h : Hp} {K : Env → Hp → Prop} : octroiref08_Trie_Find_r1 env h K = octroiref08_Trie_Find_r1 env h K := rfl

/-- ref.go:86 -/
def octroiref08_Trie_Find_r2 (env : Env) (h : Hp) (K : Env → Hp → Prop) : Prop :=
  K (env.set 8 (Go.Value.int Go.IntKind.i64 0)) h
@[congr] theorem octroiref08_Trie_Find_r2_congr {env : Env} {h : Hp} {K : Env → Hp → Prop} : octroiref08_Trie_Find_r2 env h K = octroiref08_Trie_Find_r2 env h K := rfl

/-- ref.go:86 -/
def octroiref08_Trie_Find_r3 (env : Env) (h : Hp) (K : Env → Hp → Prop) : Prop :=
  nck (env 0) (
  rd Try.prog (Instr.fieldAt 50 (env 0) 1) noHp fun v13_3 =>
  rd Try.prog (Instr.loadAt 48 v13_3) h fun v14_4 =>
  rd Try.prog (Builtin.len_ #[48] 3 #[v14_4]) h fun v15_5 =>
  rd Try.prog (bop Go.BinOp.lss 3 (Go.Operand.tmp 10) (Go.Operand.tmp 15) (env 8) v15_5) noHp fun v16_6 =>
  K (((((((env.set 10 (env 8)).set 11 (env 0)).set 12 (env 0)).set 13 v13_3).set 14 v14_4).set 15 v15_5).set 16 v16_6) h)
@[congr] theorem octroiref08_Trie_Find_r3_congr {env : Env} {h : Hp} {K : Env → Hp → Prop} : octroiref08_Trie_Find_r3 env h K = octroiref08_Trie_Find_r3 env h K := rfl

/-- ref.go:87 -/
def octroiref08_Trie_Find_r4 (env : Env) (h : Hp) (K : Env → Hp → Prop) : Prop :=
  nck (env 0) (
  rd Try.prog (Instr.fieldAt 50 (env 0) 1) noHp fun v21_2 =>
  rd Try.prog (Instr.loadAt 48 v21_2) h fun v22_3 =>
  rd Try.prog (Instr.indexAt 48 v22_3 (env 8)) noHp fun v24_5 =>
  rd Try.prog (Instr.fieldAt 68 v24_5 0) noHp fun v25_6 =>
  rd Try.prog (Instr.loadAt 30 v25_6) h fun v26_7 =>
  Ok Try.prog 33 #[v26_7, (env 1)] h fun v28_9 h1 =>
  K (((((((((((env.set 19 (env 0)).set 20 (env 0)).set 21 v21_2).set 22 v22_3).set 23 (env 8)).set 24 v24_5).set 25 v25_6).set 26 v26_7).set 27 (env 1)).set 28 v28_9).set 9 v28_9) h1)
@[congr] theorem octroiref08_Trie_Find_r4_congr {env : Env} {h : Hp} {K : Env → Hp → Prop} : octroiref08_Trie_Find_r4 env h K = octroiref08_Trie_Find_r4 env h K := rfl

/-- ref.go:88 (in any order) -/
def octroiref08_Trie_Find_r5 (env : Env) (h : Hp) (K : Env → Hp → Prop) : Prop :=
  gd (yb (env 9) == some true) (fun h k => k (env 7) h) h fun v31_2 h1 =>
  gd (yb (env 9) == some true) (fun h k => rd Try.prog (bop Go.BinOp.lss 3 (Go.Operand.tmp 31) (Go.Operand.const (Go.Value.int Go.IntKind.i64 0)) v31_2 (Go.Value.int Go.IntKind.i64 0)) noHp fun v => k v h) h1 fun v32_3 h2 =>
  gd (yb (env 9) == some true) (fun h k => k v32_3 h) h2 fun v33_4 h3 =>
  gd (yb v33_4 == some false) (fun h k => k (env 0) h) h3 fun v34_5 h4 =>
  gd (yb v33_4 == some false) (fun h k => nck v34_5 (k v34_5 h)) h4 fun v35_6 h5 =>
  gd (yb v33_4 == some false) (fun h k => rd Try.prog (Instr.fieldAt 50 v35_6 1) noHp fun v => k v h) h5 fun v36_7 h6 =>
  gd (yb v33_4 == some false) (fun h k => rd Try.prog (Instr.loadAt 48 v36_7) h fun v => k v h) h6 fun v37_8 h7 =>
  gd (yb v33_4 == some false) (fun h k => k (env 8) h) h7 fun v38_9 h8 =>
  gd (yb v33_4 == some false) (fun h k => rd Try.prog (Instr.indexAt 48 v37_8 v38_9) noHp fun v => k v h) h8 fun v39_10 h9 =>
  gd (yb v33_4 == some false) (fun h k => rd Try.prog (Instr.fieldAt 68 v39_10 0) noHp fun v => k v h) h9 fun v40_11 h10 =>
  gd (yb v33_4 == some false) (fun h k => rd Try.prog (Instr.fieldAt 30 v40_11 1) noHp fun v => k v h) h10 fun v41_12 h11 =>
  gd (yb v33_4 == some false) (fun h k => rd Try.prog (Instr.loadAt 3 v41_12) h fun v => k v h) h11 fun v42_13 h12 =>
  gd (yb v33_4 == some false) (fun h k => k (env 0) h) h12 fun v43_14 h13 =>
  gd (yb v33_4 == some false) (fun h k => nck v43_14 (k v43_14 h)) h13 fun v44_15 h14 =>
  gd (yb v33_4 == some false) (fun h k => rd Try.prog (Instr.fieldAt 50 v44_15 1) noHp fun v => k v h) h14 fun v45_16 h15 =>
  gd (yb v33_4 == some false) (fun h k => rd Try.prog (Instr.loadAt 48 v45_16) h fun v => k v h) h15 fun v46_17 h16 =>
  gd (yb v33_4 == some false) (fun h k => k (env 7) h) h16 fun v47_18 h17 =>
  gd (yb v33_4 == some false) (fun h k => rd Try.prog (Instr.indexAt 48 v46_17 v47_18) noHp fun v => k v h) h17 fun v48_19 h18 =>
  gd (yb v33_4 == some false) (fun h k => rd Try.prog (Instr.fieldAt 68 v48_19 0) noHp fun v => k v h) h18 fun v49_20 h19 =>
  gd (yb v33_4 == some false) (fun h k => rd Try.prog (Instr.fieldAt 30 v49_20 1) noHp fun v => k v h) h19 fun v50_21 h20 =>
  gd (yb v33_4 == some false) (fun h k => rd Try.prog (Instr.loadAt 3 v50_21) h fun v => k v h) h20 fun v51_22 h21 =>
  gd (yb v33_4 == some false) (fun h k => rd Try.prog (bop Go.BinOp.gtr 3 (Go.Operand.tmp 42) (Go.Operand.tmp 51) v42_13 v51_22) noHp fun v => k v h) h21 fun v52_23 h22 =>
  gd (yb (env 9) == some true) (fun h k => rd Try.prog (pck v33_4 (Go.Value.bool true) v52_23) noHp fun v => k v h) h22 fun v53_24 h23 =>
  rd Try.prog (pck (env 9) v53_24 (Go.Value.bool false)) noHp fun v54_25 =>
  K ((((((((((((((((((((((((((env.set 29 (env 9)).set 30 (env 9)).set 31 v31_2).set 32 v32_3).set 33 v33_4).set 34 v34_5).set 35 v35_6).set 36 v36_7).set 37 v37_8).set 38 v38_9).set 39 v39_10).set 40 v40_11).set 41 v41_12).set 42 v42_13).set 43 v43_14).set 44 v44_15).set 45 v45_16).set 46 v46_17).set 47 v47_18).set 48 v48_19).set 49 v49_20).set 50 v50_21).set 51 v51_22).set 52 v52_23).set 53 v53_24).set 54 v54_25) h23
@[congr] theorem octroiref08_Trie_Find_r5_congr {env : Env} {h : Hp} {K : Env → Hp → Prop} : octroiref08_Trie_Find_r5 env h K = octroiref08_Trie_Find_r5 env h K := rfl

/-- ref.go:89 -/
def octroiref08_Trie_Find_r6 (env : Env) (h : Hp) (K : Env → Hp → Prop) : Prop :=
  K ((env.set 55 (env 8)).set 7 (env 8)) h
@[congr] theorem octroiref08_Trie_Find_r6_congr {env : Env} {h : Hp} {K : Env → Hp → Prop} : octroiref08_Trie_Find_r6 env h K = octroiref08_Trie_Find_r6 env h K := rfl

/-- ref.go:86 -/
def octroiref08_Trie_Find_r7 (env : Env) (h : Hp) (K : Env → Hp → Prop) : Prop :=
  rd Try.prog (bop Go.BinOp.add 3 (Go.Operand.tmp 17) (Go.Operand.const (Go.Value.int Go.IntKind.i64 1)) (env 8) (Go.Value.int Go.IntKind.i64 1)) noHp fun v18_1 =>
  K (((env.set 17 (env 8)).set 18 v18_1).set 8 v18_1) h
@[congr] theorem octroiref08_Trie_Find_r7_congr {env : Env} {h : Hp} {K : Env → Hp → Prop} : octroiref08_Trie_Find_r7 env h K = octroiref08_Trie_Find_r7 env h K := rfl

def octroiref08_Trie_Find_L0 : Den := (sq (sq (rg octroiref08_Trie_Find_r3) (cnd (Go.Operand.tmp 16) (ex .normal) (ex (.exit 0)))) (sq (blk 1 (sq (rg octroiref08_Trie_Find_r4) (sq (rg octroiref08_Trie_Find_r5) (cnd (Go.Operand.tmp 54) (rg octroiref08_Trie_Find_r6) (ex .normal))))) (rg octroiref08_Trie_Find_r7)))

/-- ref.go:92 -/
def octroiref08_Trie_Find_r8 (env : Env) (h : Hp) (K : Env → Hp → Prop) : Prop :=
  rd Try.prog (bop Go.BinOp.lss 3 (Go.Operand.tmp 56) (Go.Operand.const (Go.Value.int Go.IntKind.i64 0)) (env 7) (Go.Value.int Go.IntKind.i64 0)) noHp fun v57_1 =>
  K ((env.set 56 (env 7)).set 57 v57_1) h
@[congr] theorem octroiref08_Trie_Find_r8_congr {env : Env} {h : Hp} {K : Env → Hp → Prop} : octroiref08_Trie_Find_r8 env h K = octroiref08_Trie_Find_r8 env h K := rfl

/-- ref.go:93 -/
def octroiref08_Trie_Find_r9 (env : Env) (h : Hp) (K : Env → Hp → Prop) : Prop :=
  rd Try.prog (Instr.build 30 #[]) noHp fun v58_0 =>
  arun Try.prog (Instr.storeAt 30 (env 4) v58_0) h fun _ h1 =>
  K (((env.set 58 v58_0).set 5 (Go.Value.int Go.IntKind.i64 0)).set 6 (Go.Value.bool false)) h1
@[congr] theorem octroiref08_Trie_Find_r9_congr {env : Env} {h : Hp} {K : Env → Hp → Prop} : octroiref08_Trie_Find_r9 env h K = octroiref08_Trie_Find_r9 env h K := rfl

/-- ref.go:95 (in any order) -/
def octroiref08_Trie_Find_r10 (env : Env) (h : Hp) (K : Env → Hp → Prop) : Prop :=
  nck (env 0) (
  rd Try.prog (Instr.fieldAt 50 (env 0) 1) noHp fun v61_2 =>
  rd Try.prog (Instr.loadAt 48 v61_2) h fun v62_3 =>
  rd Try.prog (Instr.indexAt 48 v62_3 (env 7)) noHp fun v64_5 =>
  rd Try.prog (Instr.fieldAt 68 v64_5 0) noHp fun v65_6 =>
  rd Try.prog (Instr.loadAt 30 v65_6) h fun v66_7 =>
  nck (env 0) (
  rd Try.prog (Instr.fieldAt 50 (env 0) 1) noHp fun v69_10 =>
  rd Try.prog (Instr.loadAt 48 v69_10) h fun v70_11 =>
  rd Try.prog (Instr.indexAt 48 v70_11 (env 7)) noHp fun v72_13 =>
  rd Try.prog (Instr.fieldAt 68 v72_13 1) noHp fun v73_14 =>
  rd Try.prog (Instr.loadAt 3 v73_14) h fun v74_15 =>
  arun Try.prog (Instr.storeAt 30 (env 4) v66_7) h fun _ h1 =>
  (rrun Try.prog (Instr.loadAt 3 v73_14) h1 = some v74_15 ∧ rrun Try.prog (Instr.loadAt 48 v69_10) h1 = some v70_11 ∧ True) ∧
  K ((((((((((((((((((env.set 59 (env 0)).set 60 (env 0)).set 61 v61_2).set 62 v62_3).set 63 (env 7)).set 64 v64_5).set 65 v65_6).set 66 v66_7).set 67 (env 0)).set 68 (env 0)).set 69 v69_10).set 70 v70_11).set 71 (env 7)).set 72 v72_13).set 73 v73_14).set 74 v74_15).set 5 v74_15).set 6 (Go.Value.bool true)) h1))
@[congr] theorem octroiref08_Trie_Find_r10_congr {env : Env} {h : Hp} {K : Env → Hp → Prop} : octroiref08_Trie_Find_r10 env h K = octroiref08_Trie_Find_r10 env h K := rfl

def octroiref08_Trie_Find_D : Den := (sq (rg octroiref08_Trie_Find_r0) (sq (rg octroiref08_Trie_Find_r1) (sq (sq (rg octroiref08_Trie_Find_r2) (blk 0 (lp octroiref08_Trie_Find_L0))) (sq (sq (rg octroiref08_Trie_Find_r8) (cnd (Go.Operand.tmp 57) (sq (rg octroiref08_Trie_Find_r9) (ex .ret)) (ex .normal))) (sq (rg octroiref08_Trie_Find_r10) (ex .ret))))))

theorem octroiref08_Trie_Find_eq : (den Try.prog 75 octroiref08_Trie_Find_code).1 = octroiref08_Trie_Find_D := by kernel_rfl

theorem octroiref08_Trie_Find_ok {args : Array Value} {h : Hp} {Q : Value → Hp → Prop} (hn : args.size ≤ 75) (D : octroiref08_Trie_Find_D (fin Try.prog [(Go.ResultVar.cell 4 30), (Go.ResultVar.tmp 5), (Go.ResultVar.tmp 6)] Q) (env0 args) h) : Ok Try.prog 22 args h Q :=
  ok_of_den progIsOk Try.func22 (c := octroiref08_Trie_Find_code) (by kernel_rfl) hn (by show (den Try.prog 75 octroiref08_Trie_Find_code).1 _ _ _; rw [octroiref08_Trie_Find_eq]; exact D)

/-! ### octroi/octroilaw08.all: function 23 -/
noncomputable def octroilaw08_all_code : Code := match Try.f23.body with | some c => c | none => .skip

/-- law.go:33 -/
def octroilaw08_all_r0 (env : Env) (h : Hp) (K : Env → Hp → Prop) : Prop :=
  K (env.set 4 (Go.Value.bool false)) h
@[congr] theorem octroilaw08_all_r0_congr {env : Env} {h : Hp} {K : Env → Hp → Prop} : octroilaw08_all_r0 env h K = octroilaw08_all_r0 env h K := rfl

/-- law.go:34 -/
def octroilaw08_all_r1 (env : Env) (h : Hp) (K : Env → Hp → Prop) : Prop :=
  rd Try.prog (Builtin.len_ #[37] 3 #[(env 0)]) h fun v7_1 =>
  rd Try.prog (Builtin.len_ #[48] 3 #[(env 1)]) h fun v9_3 =>
  rd Try.prog (bop Go.BinOp.neq 3 (Go.Operand.tmp 7) (Go.Operand.tmp 9) v7_1 v9_3) noHp fun v10_4 =>
  K (((((env.set 6 (env 0)).set 7 v7_1).set 8 (env 1)).set 9 v9_3).set 10 v10_4) h
@[congr] theorem octroilaw08_all_r1_congr {env : Env} {h : Hp} {K : Env → Hp → Prop} : octroilaw08_all_r1 env h K = octroilaw08_all_r1 env h K := rfl

/-- law.go:35 -/
def octroilaw08_all_r2 (env : Env) (h : Hp) (K : Env → Hp → Prop) : Prop :=
  K (env.set 4 (Go.Value.bool false)) h
@[congr] theorem octroilaw08_all_r2_congr {env : Env} {h : Hp} {K : Env → Hp → Prop} : octroilaw08_all_r2 env h K = octroilaw08_all_r2 env h K := rfl

/-- law.go:37 -/
def octroilaw08_all_r3 (env : Env) (h : Hp) (K : Env → Hp → Prop) : Prop :=
  K (env.set 5 (Go.Value.int Go.IntKind.i64 0)) h
@[congr] theorem octroilaw08_all_r3_congr {env : Env} {h : Hp} {K : Env → Hp → Prop} : octroilaw08_all_r3 env h K = octroilaw08_all_r3 env h K := rfl

/-- law.go:37 -/
def octroilaw08_all_r4 (env : Env) (h : Hp) (K : Env → Hp → Prop) : Prop :=
  rd Try.prog (Builtin.len_ #[37] 3 #[(env 0)]) h fun v13_2 =>
  rd Try.prog (bop Go.BinOp.lss 3 (Go.Operand.tmp 11) (Go.Operand.tmp 13) (env 5) v13_2) noHp fun v14_3 =>
  K ((((env.set 11 (env 5)).set 12 (env 0)).set 13 v13_2).set 14 v14_3) h
@[congr] theorem octroilaw08_all_r4_congr {env : Env} {h : Hp} {K : Env → Hp → Prop} : octroilaw08_all_r4 env h K = octroilaw08_all_r4 env h K := rfl

/-- law.go:38 (in any order) -/
def octroilaw08_all_r5 (env : Env) (h : Hp) (K : Env → Hp → Prop) : Prop :=
  rd Try.prog (Instr.indexAt 37 (env 0) (env 5)) noHp fun v19_2 =>
  rd Try.prog (Instr.loadAt 30 v19_2) h fun v20_3 =>
  rd Try.prog (Instr.indexAt 48 (env 1) (env 5)) noHp fun v23_6 =>
  rd Try.prog (Instr.fieldAt 68 v23_6 0) noHp fun v24_7 =>
  rd Try.prog (Instr.loadAt 30 v24_7) h fun v25_8 =>
  rd Try.prog (bop Go.BinOp.neq 30 (Go.Operand.tmp 20) (Go.Operand.tmp 25) v20_3 v25_8) noHp fun v26_9 =>
  K ((((((((((env.set 17 (env 0)).set 18 (env 5)).set 19 v19_2).set 20 v20_3).set 21 (env 1)).set 22 (env 5)).set 23 v23_6).set 24 v24_7).set 25 v25_8).set 26 v26_9) h
@[congr] theorem octroilaw08_all_r5_congr {env : Env} {h : Hp} {K : Env → Hp → Prop} : octroilaw08_all_r5 env h K = octroilaw08_all_r5 env h K := rfl

/-- law.go:39 -/
def octroilaw08_all_r6 (env : Env) (h : Hp) (K : Env → Hp → Prop) : Prop :=
  K (env.set 4 (Go.Value.bool false)) h
@[congr] theorem octroilaw08_all_r6_congr {env : Env} {h : Hp} {K : Env → Hp → Prop} : octroilaw08_all_r6 env h K = octroilaw08_all_r6 env h K := rfl

/-- law.go:37 -/
def octroilaw08_all_r7 (env : Env) (h : Hp) (K : Env → Hp → Prop) : Prop :=
  rd Try.prog (bop Go.BinOp.add 3 (Go.Operand.tmp 15) (Go.Operand.const (Go.Value.int Go.IntKind.i64 1)) (env 5) (Go.Value.int Go.IntKind.i64 1)) noHp fun v16_1 =>
  K (((env.set 15 (env 5)).set 16 v16_1).set 5 v16_1) h
@[congr] theorem octroilaw08_all_r7_congr {env : Env} {h : Hp} {K : Env → Hp → Prop} : octroilaw08_all_r7 env h K = octroilaw08_all_r7 env h K := rfl

def octroilaw08_all_L0 : Den := (sq (sq (rg octroilaw08_all_r4) (cnd (Go.Operand.tmp 14) (ex .normal) (ex (.exit 0)))) (sq (blk 1 (sq (rg octroilaw08_all_r5) (cnd (Go.Operand.tmp 26) (sq (rg octroilaw08_all_r6) (ex .ret)) (ex .normal)))) (rg octroilaw08_all_r7)))

/-- law.go:42 -/
def octroilaw08_all_r8 (env : Env) (h : Hp) (K : Env → Hp → Prop) : Prop :=
  K (env.set 4 (Go.Value.bool true)) h
@[congr] theorem octroilaw08_all_r8_congr {env : Env} {h : Hp} {K : Env → Hp → Prop} : octroilaw08_all_r8 env h K = octroilaw08_all_r8 env h K := rfl

def octroilaw08_all_D : Den := (sq (rg octroilaw08_all_r0) (sq (sq (rg octroilaw08_all_r1) (cnd (Go.Operand.tmp 10) (sq (rg octroilaw08_all_r2) (ex .ret)) (ex .normal))) (sq (sq (rg octroilaw08_all_r3) (blk 0 (lp octroilaw08_all_L0))) (sq (rg octroilaw08_all_r8) (ex .ret)))))

theorem octroilaw08_all_eq : (den Try.prog 27 octroilaw08_all_code).1 = octroilaw08_all_D := by kernel_rfl

theorem octroilaw08_all_ok {args : Array Value} {h : Hp} {Q : Value → Hp → Prop} (hn : args.size ≤ 27) (D : octroilaw08_all_D (fin Try.prog [(Go.ResultVar.tmp 4)] Q) (env0 args) h) : Ok Try.prog 23 args h Q :=
  ok_of_den progIsOk Try.func23 (c := octroilaw08_all_code) (by kernel_rfl) hn (by show (den Try.prog 27 octroilaw08_all_code).1 _ _ _; rw [octroilaw08_all_eq]; exact D)

/-! ### octroi/prefix.Less: function 24 -/
noncomputable def prefix_Less_code : Code := match Try.f24.body with | some c => c | none => .skip

/-- prefix.go:48 -/
def prefix_Less_r0 (env : Env) (h : Hp) (K : Env → Hp → Prop) : Prop :=
  arun Try.prog (Instr.box 30 (env 0)) h fun v2_0 h1 =>
  arun Try.prog (Instr.box 30 (env 1)) h1 fun v3_1 h2 =>
  K (((env.set 2 v2_0).set 3 v3_1).set 4 (Go.Value.bool false)) h2
@[congr] theorem prefix_Less_r0_congr {env : Env} {h : Hp} {K : Env → Hp → Prop} : prefix_Less_r0 env h K = prefix_Less_r0 env h K := rfl

/-- prefix.go:49 -/
def prefix_Less_r1 (env : Env) (h : Hp) (K : Env → Hp → Prop) : Prop :=
  rd Try.prog (Instr.fieldAt 30 (env 2) 0) noHp fun v5_0 =>
  rd Try.prog (Instr.loadAt 23 v5_0) h fun v6_1 =>
  rd Try.prog (Instr.fieldAt 30 (env 3) 0) noHp fun v7_2 =>
  rd Try.prog (Instr.loadAt 23 v7_2) h fun v8_3 =>
  rd Try.prog (bop Go.BinOp.neq 23 (Go.Operand.tmp 6) (Go.Operand.tmp 8) v6_1 v8_3) noHp fun v9_4 =>
  K (((((env.set 5 v5_0).set 6 v6_1).set 7 v7_2).set 8 v8_3).set 9 v9_4) h
@[congr] theorem prefix_Less_r1_congr {env : Env} {h : Hp} {K : Env → Hp → Prop} : prefix_Less_r1 env h K = prefix_Less_r1 env h K := rfl

/-- prefix.go:50 -/
def prefix_Less_r2 (env : Env) (h : Hp) (K : Env → Hp → Prop) : Prop :=
  rd Try.prog (Instr.fieldAt 30 (env 2) 0) noHp fun v10_0 =>
  rd Try.prog (Instr.loadAt 23 v10_0) h fun v11_1 =>
  rd Try.prog (Instr.fieldAt 30 (env 3) 0) noHp fun v12_2 =>
  rd Try.prog (Instr.loadAt 23 v12_2) h fun v13_3 =>
  rd Try.prog (bop Go.BinOp.lss 23 (Go.Operand.tmp 11) (Go.Operand.tmp 13) v11_1 v13_3) noHp fun v14_4 =>
  K ((((((env.set 10 v10_0).set 11 v11_1).set 12 v12_2).set 13 v13_3).set 14 v14_4).set 4 v14_4) h
@[congr] theorem prefix_Less_r2_congr {env : Env} {h : Hp} {K : Env → Hp → Prop} : prefix_Less_r2 env h K = prefix_Less_r2 env h K := rfl

/-- prefix.go:52 -/
def prefix_Less_r3 (env : Env) (h : Hp) (K : Env → Hp → Prop) : Prop :=
  rd Try.prog (Instr.fieldAt 30 (env 2) 1) noHp fun v15_0 =>
  rd Try.prog (Instr.loadAt 3 v15_0) h fun v16_1 =>
  rd Try.prog (Instr.fieldAt 30 (env 3) 1) noHp fun v17_2 =>
  rd Try.prog (Instr.loadAt 3 v17_2) h fun v18_3 =>
  rd Try.prog (bop Go.BinOp.lss 3 (Go.Operand.tmp 16) (Go.Operand.tmp 18) v16_1 v18_3) noHp fun v19_4 =>
  K ((((((env.set 15 v15_0).set 16 v16_1).set 17 v17_2).set 18 v18_3).set 19 v19_4).set 4 v19_4) h
@[congr] theorem prefix_Less_r3_congr {env : Env} {h : Hp} {K : Env → Hp → Prop} : prefix_Less_r3 env h K = prefix_Less_r3 env h K := rfl

def prefix_Less_D : Den := (sq (rg prefix_Less_r0) (sq (sq (rg prefix_Less_r1) (cnd (Go.Operand.tmp 9) (sq (rg prefix_Less_r2) (ex .ret)) (ex .normal))) (sq (rg prefix_Less_r3) (ex .ret))))

theorem prefix_Less_eq : (den Try.prog 20 prefix_Less_code).1 = prefix_Less_D := by kernel_rfl

theorem prefix_Less_ok {args : Array Value} {h : Hp} {Q : Value → Hp → Prop} (hn : args.size ≤ 20) (D : prefix_Less_D (fin Try.prog [(Go.ResultVar.tmp 4)] Q) (env0 args) h) : Ok Try.prog 24 args h Q :=
  ok_of_den progIsOk Try.func24 (c := prefix_Less_code) (by kernel_rfl) hn (by show (den Try.prog 20 prefix_Less_code).1 _ _ _; rw [prefix_Less_eq]; exact D)

/-! ### (*octroi/trie.Trie).find: function 25 -/
noncomputable def trie_Trie_find_code : Code := match Try.f25.body with | some c => c | none => .skip

/-- trie.go:54 -/
def trie_Trie_find_r0 (env : Env) (h : Hp) (K : Env → Hp → Prop) : Prop :=
  arun Try.prog (Instr.box 30 (env 1)) h fun v3_0 h1 =>
  K ((env.set 3 v3_0).set 4 (Go.Value.pointer none)) h1
@[congr] theorem trie_Trie_find_r0_congr {env : Env} {h : Hp} {K : Env → Hp → Prop} : trie_Trie_find_r0 env h K = trie_Trie_find_r0 env h K := rfl

/-- trie.go:55 -/
def trie_Trie_find_r1 (env : Env) (h : Hp) (K : Env → Hp → Prop) : Prop :=
  rd Try.prog (Instr.loadAt 30 (env 3)) h fun v7_0 =>
  Ok Try.prog 16 #[v7_0] h fun v8_1 h1 =>
  rd Try.prog (Op.unary Go.UnOp.not v8_1) noHp fun v9_2 =>
  K (((env.set 7 v7_0).set 8 v8_1).set 9 v9_2) h1
@[congr] theorem trie_Trie_find_r1_congr {env : Env} {h : Hp} {K : Env → Hp → Prop} : trie_Trie_find_r1 env h K = trie_Trie_find_r1 env h K := rfl

/-- trie.go:56 -/
def trie_Trie_find_r2 (env : Env) (h : Hp) (K : Env → Hp → Prop) : Prop :=
  K (env.set 4 (Go.Value.pointer none)) h
@[congr] theorem trie_Trie_find_r2_congr {env : Env} {h : Hp} {K : Env → Hp → Prop} : trie_Trie_find_r2 env h K = trie_Trie_find_r2 env h K := rfl

/-- trie.go:58 -/
def trie_Trie_find_r3 (env : Env) (h : Hp) (K : Env → Hp → Prop) : Prop :=
  rd Try.prog (Instr.loadAt 30 (env 3)) h fun v12_1 =>
  Ok Try.prog 26 #[(env 0), v12_1, (Go.Value.bool false)] h fun v13_2 h1 =>
  rd Try.prog (Instr.extract v13_2 0) noHp fun v14_4 =>
  rd Try.prog (Instr.extract v13_2 1) noHp fun v15_5 =>
  K ((((((((env.set 11 (env 0)).set 12 v12_1).set 13 v13_2).set 10 v13_2).set 14 v14_4).set 15 v15_5).set 5 v14_4).set 6 v15_5) h1
@[congr] theorem trie_Trie_find_r3_congr {env : Env} {h : Hp} {K : Env → Hp → Prop} : trie_Trie_find_r3 env h K = trie_Trie_find_r3 env h K := rfl

/-- trie.go:59 -/
def trie_Trie_find_r4 (env : Env) (h : Hp) (K : Env → Hp → Prop) : Prop :=
  rd Try.prog (Op.unary Go.UnOp.not (env 6)) noHp fun v17_1 =>
  gd (yb v17_1 == some false) (fun h k => k (env 0) h) h fun v19_3 h1 =>
  gd (yb v17_1 == some false) (fun h k => nck v19_3 (k v19_3 h)) h1 fun v20_4 h2 =>
  gd (yb v17_1 == some false) (fun h k => rd Try.prog (Instr.fieldAt 56 v20_4 2) noHp fun v => k v h) h2 fun v21_5 h3 =>
  gd (yb v17_1 == some false) (fun h k => rd Try.prog (Instr.loadAt 54 v21_5) h fun v => k v h) h3 fun v22_6 h4 =>
  gd (yb v17_1 == some false) (fun h k => k (env 5) h) h4 fun v23_7 h5 =>
  gd (yb v17_1 == some false) (fun h k => rd Try.prog (Instr.indexAt 54 v22_6 v23_7) noHp fun v => k v h) h5 fun v24_8 h6 =>
  gd (yb v17_1 == some false) (fun h k => rd Try.prog (Instr.fieldAt 61 v24_8 2) noHp fun v => k v h) h6 fun v25_9 h7 =>
  gd (yb v17_1 == some false) (fun h k => rd Try.prog (Instr.loadAt 4 v25_9) h fun v => k v h) h7 fun v26_10 h8 =>
  gd (yb v17_1 == some false) (fun h k => rd Try.prog (Op.unary Go.UnOp.not v26_10) noHp fun v => k v h) h8 fun v27_11 h9 =>
  rd Try.prog (pck v17_1 (Go.Value.bool true) v27_11) noHp fun v28_12 =>
  K (((((((((((((env.set 16 (env 6)).set 17 v17_1).set 18 v17_1).set 19 v19_3).set 20 v20_4).set 21 v21_5).set 22 v22_6).set 23 v23_7).set 24 v24_8).set 25 v25_9).set 26 v26_10).set 27 v27_11).set 28 v28_12) h9
@[congr] theorem trie_Trie_find_r4_congr {env : Env} {h : Hp} {K : Env → Hp → Prop} : trie_Trie_find_r4 env h K = trie_Trie_find_r4 env h K := rfl

/-- trie.go:60 -/
def trie_Trie_find_r5 (env : Env) (h : Hp) (K : Env → Hp → Prop) : Prop :=
  K (env.set 4 (Go.Value.pointer none)) h
@[congr] theorem trie_Trie_find_r5_congr {env : Env} {h : Hp} {K : Env → Hp → Prop} : trie_Trie_find_r5 env h K = trie_Trie_find_r5 env h K := rfl

/-- trie.go:62 -/
def trie_Trie_find_r6 (env : Env) (h : Hp) (K : Env → Hp → Prop) : Prop :=
  nck (env 0) (
  rd Try.prog (Instr.fieldAt 56 (env 0) 2) noHp fun v31_2 =>
  rd Try.prog (Instr.loadAt 54 v31_2) h fun v32_3 =>
  rd Try.prog (Instr.indexAt 54 v32_3 (env 5)) noHp fun v34_5 =>
  K (((((((env.set 29 (env 0)).set 30 (env 0)).set 31 v31_2).set 32 v32_3).set 33 (env 5)).set 34 v34_5).set 4 v34_5) h)
@[congr] theorem trie_Trie_find_r6_congr {env : Env} {h : Hp} {K : Env → Hp → Prop} : trie_Trie_find_r6 env h K = trie_Trie_find_r6 env h K := rfl

def trie_Trie_find_D : Den := (sq (rg trie_Trie_find_r0) (sq (sq (rg trie_Trie_find_r1) (cnd (Go.Operand.tmp 9) (sq (rg trie_Trie_find_r2) (ex .ret)) (ex .normal))) (sq (rg trie_Trie_find_r3) (sq (sq (rg trie_Trie_find_r4) (cnd (Go.Operand.tmp 28) (sq (rg trie_Trie_find_r5) (ex .ret)) (ex .normal))) (sq (rg trie_Trie_find_r6) (ex .ret))))))

theorem trie_Trie_find_eq : (den Try.prog 35 trie_Trie_find_code).1 = trie_Trie_find_D := by kernel_rfl

theorem trie_Trie_find_ok {args : Array Value} {h : Hp} {Q : Value → Hp → Prop} (hn : args.size ≤ 35) (D : trie_Trie_find_D (fin Try.prog [(Go.ResultVar.tmp 4)] Q) (env0 args) h) : Ok Try.prog 25 args h Q :=
  ok_of_den progIsOk Try.func25 (c := trie_Trie_find_code) (by kernel_rfl) hn (by show (den Try.prog 35 trie_Trie_find_code).1 _ _ _; rw [trie_Trie_find_eq]; exact D)

/-! ### (*octroi/trie.Trie).walk: function 26 -/
noncomputable def trie_Trie_walk_code : Code := match Try.f26.body with | some c => c | none => .skip

/-- trie.go:34 -/
def trie_Trie_walk_r0 (env : Env) (h : Hp) (K : Env → Hp → Prop) : Prop :=
  arun Try.prog (Instr.box 30 (env 1)) h fun v4_0 h1 =>
  K (((env.set 4 v4_0).set 6 (Go.Value.int Go.IntKind.i64 0)).set 7 (Go.Value.bool false)) h1
@[congr] theorem trie_Trie_walk_r0_congr {env : Env} {h : Hp} {K : Env → Hp → Prop} : trie_Trie_walk_r0 env h K = trie_Trie_walk_r0 env h K := rfl

/-- trie.go:35 -/
def trie_Trie_walk_r1 (env : Env) (h : Hp) (K : Env → Hp → Prop) : Prop :=
  K ((env.set 8 (Go.Value.int Go.IntKind.i64 0)).set 9 (Go.Value.int Go.IntKind.i64 0)) h
@[congr] theorem trie_Trie_walk_r1_congr {env : Env} {h : Hp} {K : Env → Hp → Prop} : trie_Trie_walk_r1 env h K = trie_Trie_walk_r1 env h K := rfl

/-- trie.go:37 -/
def trie_Trie_walk_r2 (env : Env) (h : Hp) (K : Env → Hp → Prop) : Prop :=
  rd Try.prog (Instr.fieldAt 30 (env 4) 1) noHp fun v12_1 =>
  rd Try.prog (Instr.loadAt 3 v12_1) h fun v13_2 =>
  rd Try.prog (bop Go.BinOp.eql 3 (Go.Operand.tmp 11) (Go.Operand.tmp 13) (env 9) v13_2) noHp fun v14_3 =>
  K ((((env.set 11 (env 9)).set 12 v12_1).set 13 v13_2).set 14 v14_3) h
@[congr] theorem trie_Trie_walk_r2_congr {env : Env} {h : Hp} {K : Env → Hp → Prop} : trie_Trie_walk_r2 env h K = trie_Trie_walk_r2 env h K := rfl

/-- trie.go:38 -/
def trie_Trie_walk_r3 (env : Env) (h : Hp) (K : Env → Hp → Prop) : Prop :=
  K (((env.set 15 (env 8)).set 6 (env 8)).set 7 (Go.Value.bool true)) h
@[congr] theorem trie_Trie_walk_r3_congr {env : Env} {h : Hp} {K : Env → Hp → Prop} : trie_Trie_walk_r3 env h K = trie_Trie_walk_r3 env h K := rfl

/-- trie.go:40 -/
def trie_Trie_walk_r4 (env : Env) (h : Hp) (K : Env → Hp → Prop) : Prop :=
  rd Try.prog (Instr.fieldAt 30 (env 4) 0) noHp fun v16_0 =>
  rd Try.prog (Instr.loadAt 23 v16_0) h fun v17_1 =>
  Ok Try.prog 28 #[v17_1, (env 9)] h fun v19_3 h1 =>
  K (((((env.set 16 v16_0).set 17 v17_1).set 18 (env 9)).set 19 v19_3).set 10 v19_3) h1
@[congr] theorem trie_Trie_walk_r4_congr {env : Env} {h : Hp} {K : Env → Hp → Prop} : trie_Trie_walk_r4 env h K = trie_Trie_walk_r4 env h K := rfl

/-- trie.go:41 -/
def trie_Trie_walk_r5 (env : Env) (h : Hp) (K : Env → Hp → Prop) : Prop :=
  nck (env 0) (
  rd Try.prog (Instr.fieldAt 56 (env 0) 2) noHp fun v22_2 =>
  rd Try.prog (Instr.loadAt 54 v22_2) h fun v23_3 =>
  rd Try.prog (Instr.indexAt 54 v23_3 (env 8)) noHp fun v26_6 =>
  rd Try.prog (Instr.fieldAt 61 v26_6 0) noHp fun v27_7 =>
  rd Try.prog (Instr.indexAt 59 v27_7 (env 10)) noHp fun v28_8 =>
  rd Try.prog (Instr.loadAt 3 v28_8) h fun v29_9 =>
  rd Try.prog (bop Go.BinOp.eql 3 (Go.Operand.tmp 29) (Go.Operand.const (Go.Value.int Go.IntKind.i64 0)) v29_9 (Go.Value.int Go.IntKind.i64 0)) noHp fun v30_10 =>
  K (((((((((((env.set 20 (env 0)).set 21 (env 0)).set 22 v22_2).set 23 v23_3).set 24 (env 8)).set 25 (env 10)).set 26 v26_6).set 27 v27_7).set 28 v28_8).set 29 v29_9).set 30 v30_10) h)
@[congr] theorem trie_Trie_walk_r5_congr {env : Env} {h : Hp} {K : Env → Hp → Prop} : trie_Trie_walk_r5 env h K = trie_Trie_walk_r5 env h K := rfl

/-- trie.go:42 -/
def trie_Trie_walk_r6 (env : Env) (h : Hp) (K : Env → Hp → Prop) : Prop :=
  rd Try.prog (Op.unary Go.UnOp.not (env 2)) noHp fun v32_1 =>
  K ((env.set 31 (env 2)).set 32 v32_1) h
@[congr] theorem trie_Trie_walk_r6_congr {env : Env} {h : Hp} {K : Env → Hp → Prop} : trie_Trie_walk_r6 env h K = trie_Trie_walk_r6 env h K := rfl

/-- trie.go:43 -/
def trie_Trie_walk_r7 (env : Env) (h : Hp) (K : Env → Hp → Prop) : Prop :=
  K ((env.set 6 (Go.Value.int Go.IntKind.i64 0)).set 7 (Go.Value.bool false)) h
@[congr] theorem trie_Trie_walk_r7_congr {env : Env} {h : Hp} {K : Env → Hp → Prop} : trie_Trie_walk_r7 env h K = trie_Trie_walk_r7 env h K := rfl

/-- trie.go:45 -/
def trie_Trie_walk_r8 (env : Env) (h : Hp) (K : Env → Hp → Prop) : Prop :=
  nck (env 0) (
  rd Try.prog (Instr.fieldAt 56 (env 0) 2) noHp fun v36_3 =>
  rd Try.prog (Instr.loadAt 54 v36_3) h fun v37_4 =>
  rd Try.prog (Instr.build 61 #[]) noHp fun v38_5 =>
  arun Try.prog (Instr.buildSlice 54 1 #[(0, v38_5)]) h fun v39_6 h1 =>
  arun Try.prog (Builtin.append_ #[54, 54] 54 #[v37_4, v39_6]) h1 fun v40_7 h2 =>
  nck (env 0) (
  rd Try.prog (Instr.fieldAt 56 (env 0) 2) noHp fun v42_9 =>
  arun Try.prog (Instr.storeAt 54 v42_9 v40_7) h2 fun _ h3 =>
  K ((((((((((env.set 33 (env 0)).set 34 (env 0)).set 35 (env 0)).set 36 v36_3).set 37 v37_4).set 38 v38_5).set 39 v39_6).set 40 v40_7).set 41 (env 0)).set 42 v42_9) h3))
@[congr] theorem trie_Trie_walk_r8_congr {env : Env} {h : Hp} {K : Env → Hp → Prop} : trie_Trie_walk_r8 env h K = trie_Trie_walk_r8 env h K := rfl

/-- trie.go:46 (in any order) -/
def trie_Trie_walk_r9 (env : Env) (h : Hp) (K : Env → Hp → Prop) : Prop :=
  nck (env 0) (
  rd Try.prog (Instr.fieldAt 56 (env 0) 2) noHp fun v45_2 =>
  rd Try.prog (Instr.loadAt 54 v45_2) h fun v46_3 =>
  nck (env 0) (
  rd Try.prog (Instr.fieldAt 56 (env 0) 2) noHp fun v51_8 =>
  rd Try.prog (Instr.loadAt 54 v51_8) h fun v52_9 =>
  rd Try.prog (Builtin.len_ #[54] 3 #[v52_9]) h fun v53_10 =>
  rd Try.prog (bop Go.BinOp.sub 3 (Go.Operand.tmp 53) (Go.Operand.const (Go.Value.int Go.IntKind.i64 1)) v53_10 (Go.Value.int Go.IntKind.i64 1)) noHp fun v54_11 =>
  rd Try.prog (Instr.indexAt 54 v46_3 (env 8)) noHp fun v55_12 =>
  rd Try.prog (Instr.fieldAt 61 v55_12 0) noHp fun v56_13 =>
  rd Try.prog (Instr.indexAt 59 v56_13 (env 10)) noHp fun v57_14 =>
  arun Try.prog (Instr.storeAt 3 v57_14 v54_11) h fun _ h1 =>
  (True) ∧
  K (((((((((((((((env.set 43 (env 0)).set 44 (env 0)).set 45 v45_2).set 46 v46_3).set 47 (env 8)).set 48 (env 10)).set 49 (env 0)).set 50 (env 0)).set 51 v51_8).set 52 v52_9).set 53 v53_10).set 54 v54_11).set 55 v55_12).set 56 v56_13).set 57 v57_14) h1))
@[congr] theorem trie_Trie_walk_r9_congr {env : Env} {h : Hp} {K : Env → Hp → Prop} : trie_Trie_walk_r9 env h K = trie_Trie_walk_r9 env h K := rfl

/-- trie.go:48 -/
def trie_Trie_walk_r10 (env : Env) (h : Hp) (K : Env → Hp → Prop) : Prop :=
  nck (env 0) (
  rd Try.prog (Instr.fieldAt 56 (env 0) 2) noHp fun v60_2 =>
  rd Try.prog (Instr.loadAt 54 v60_2) h fun v61_3 =>
  rd Try.prog (Instr.indexAt 54 v61_3 (env 8)) noHp fun v64_6 =>
  rd Try.prog (Instr.fieldAt 61 v64_6 0) noHp fun v65_7 =>
  rd Try.prog (Instr.indexAt 59 v65_7 (env 10)) noHp fun v66_8 =>
  rd Try.prog (Instr.loadAt 3 v66_8) h fun v67_9 =>
  K (((((((((((env.set 58 (env 0)).set 59 (env 0)).set 60 v60_2).set 61 v61_3).set 62 (env 8)).set 63 (env 10)).set 64 v64_6).set 65 v65_7).set 66 v66_8).set 67 v67_9).set 8 v67_9) h)
@[congr] theorem trie_Trie_walk_r10_congr {env : Env} {h : Hp} {K : Env → Hp → Prop} : trie_Trie_walk_r10 env h K = trie_Trie_walk_r10 env h K := rfl

/-- trie.go:49 -/
def trie_Trie_walk_r11 (env : Env) (h : Hp) (K : Env → Hp → Prop) : Prop :=
  rd Try.prog (bop Go.BinOp.add 3 (Go.Operand.tmp 68) (Go.Operand.const (Go.Value.int Go.IntKind.i64 1)) (env 9) (Go.Value.int Go.IntKind.i64 1)) noHp fun v69_1 =>
  K (((env.set 68 (env 9)).set 69 v69_1).set 9 v69_1) h
@[congr] theorem trie_Trie_walk_r11_congr {env : Env} {h : Hp} {K : Env → Hp → Prop} : trie_Trie_walk_r11 env h K = trie_Trie_walk_r11 env h K := rfl

def trie_Trie_walk_S0 : Den := (sq (rg trie_Trie_walk_r1) (sq (ex .normal) (sq (sq (rg trie_Trie_walk_r2) (cnd (Go.Operand.tmp 14) (sq (rg trie_Trie_walk_r3) (ex .ret)) (ex .normal))) (sq (rg trie_Trie_walk_r4) (sq (sq (rg trie_Trie_walk_r5) (cnd (Go.Operand.tmp 30) (sq (sq (rg trie_Trie_walk_r6) (cnd (Go.Operand.tmp 32) (sq (rg trie_Trie_walk_r7) (ex .ret)) (ex .normal))) (sq (rg trie_Trie_walk_r8) (rg trie_Trie_walk_r9))) (ex .normal))) (sq (rg trie_Trie_walk_r10) (sq (rg trie_Trie_walk_r11) (ex (.goto 0)))))))))

noncomputable def trie_Trie_walk_S0_code : Code := subCode [1, 0] trie_Trie_walk_code

def trie_Trie_walk_S0_at0 : Den := (sq (ex .normal) (sq (sq (rg trie_Trie_walk_r2) (cnd (Go.Operand.tmp 14) (sq (rg trie_Trie_walk_r3) (ex .ret)) (ex .normal))) (sq (rg trie_Trie_walk_r4) (sq (sq (rg trie_Trie_walk_r5) (cnd (Go.Operand.tmp 30) (sq (sq (rg trie_Trie_walk_r6) (cnd (Go.Operand.tmp 32) (sq (rg trie_Trie_walk_r7) (ex .ret)) (ex .normal))) (sq (rg trie_Trie_walk_r8) (rg trie_Trie_walk_r9))) (ex .normal))) (sq (rg trie_Trie_walk_r10) (sq (rg trie_Trie_walk_r11) (ex (.goto 0))))))))

theorem trie_Trie_walk_S0_lab0 : (den Try.prog 70 trie_Trie_walk_S0_code).2 0 = some trie_Trie_walk_S0_at0 := by kernel_rfl

def trie_Trie_walk_D : Den := (sq (rg trie_Trie_walk_r0) (scp trie_Trie_walk_S0 (den Try.prog 70 trie_Trie_walk_S0_code).2))

theorem trie_Trie_walk_eq : (den Try.prog 70 trie_Trie_walk_code).1 = trie_Trie_walk_D := by kernel_rfl

theorem trie_Trie_walk_ok {args : Array Value} {h : Hp} {Q : Value → Hp → Prop} (hn : args.size ≤ 70) (D : trie_Trie_walk_D (fin Try.prog [(Go.ResultVar.tmp 6), (Go.ResultVar.tmp 7)] Q) (env0 args) h) : Ok Try.prog 26 args h Q :=
  ok_of_den progIsOk Try.func26 (c := trie_Trie_walk_code) (by kernel_rfl) hn (by show (den Try.prog 70 trie_Trie_walk_code).1 _ _ _; rw [trie_Trie_walk_eq]; exact D)

/-! ### octroi/prefix.Mask: function 27 -/
noncomputable def prefix_Mask_code : Code := match Try.f27.body with | some c => c | none => .skip

/-- prefix.go:19 -/
def prefix_Mask_r0 (env : Env) (h : Hp) (K : Env → Hp → Prop) : Prop :=
  K (env.set 2 (Go.Value.int Go.IntKind.u32 0)) h
@[congr] theorem prefix_Mask_r0_congr {env : Env} {h : Hp} {K : Env → Hp → Prop} : prefix_Mask_r0 env h K = prefix_Mask_r0 env h K := rfl

/-- prefix.go:19 -/
def prefix_Mask_r1 (env : Env) (h : Hp) (K : Env → Hp → Prop) : Prop :=
  rd Try.prog (Builtin.min_ #[3, 3] 3 #[(env 0), (Go.Value.int Go.IntKind.i64 32)]) h fun v4_1 =>
  rd Try.prog (Builtin.max_ #[3, 3] 3 #[(Go.Value.int Go.IntKind.i64 0), v4_1]) h fun v5_2 =>
  rd Try.prog (bop Go.BinOp.sub 3 (Go.Operand.const (Go.Value.int Go.IntKind.i64 32)) (Go.Operand.tmp 5) (Go.Value.int Go.IntKind.i64 32) v5_2) noHp fun v6_3 =>
  rd Try.prog (bop Go.BinOp.shl 23 (Go.Operand.const (Go.Value.int Go.IntKind.u32 4294967295)) (Go.Operand.tmp 6) (Go.Value.int Go.IntKind.u32 4294967295) v6_3) noHp fun v7_4 =>
  K ((((((env.set 3 (env 0)).set 4 v4_1).set 5 v5_2).set 6 v6_3).set 7 v7_4).set 2 v7_4) h
@[congr] theorem prefix_Mask_r1_congr {env : Env} {h : Hp} {K : Env → Hp → Prop} : prefix_Mask_r1 env h K = prefix_Mask_r1 env h K := rfl

def prefix_Mask_D : Den := (sq (rg prefix_Mask_r0) (sq (rg prefix_Mask_r1) (ex .ret)))

theorem prefix_Mask_eq : (den Try.prog 8 prefix_Mask_code).1 = prefix_Mask_D := by kernel_rfl

theorem prefix_Mask_ok {args : Array Value} {h : Hp} {Q : Value → Hp → Prop} (hn : args.size ≤ 8) (D : prefix_Mask_D (fin Try.prog [(Go.ResultVar.tmp 2)] Q) (env0 args) h) : Ok Try.prog 27 args h Q :=
  ok_of_den progIsOk Try.func27 (c := prefix_Mask_code) (by kernel_rfl) hn (by show (den Try.prog 8 prefix_Mask_code).1 _ _ _; rw [prefix_Mask_eq]; exact D)

/-! ### octroi/trie.bit: function 28 -/
noncomputable def trie_bit_code : Code := match Try.f28.body with | some c => c | none => .skip

/-- trie.go:31 -/
def trie_bit_r0 (env : Env) (h : Hp) (K : Env → Hp → Prop) : Prop :=
  K (env.set 4 (Go.Value.int Go.IntKind.i64 0)) h
@[congr] theorem trie_bit_r0_congr {env : Env} {h : Hp} {K : Env → Hp → Prop} : trie_bit_r0 env h K = trie_bit_r0 env h K := rfl

/-- trie.go:31 -/
def trie_bit_r1 (env : Env) (h : Hp) (K : Env → Hp → Prop) : Prop :=
  rd Try.prog (bop Go.BinOp.sub 3 (Go.Operand.const (Go.Value.int Go.IntKind.i64 31)) (Go.Operand.tmp 6) (Go.Value.int Go.IntKind.i64 31) (env 1)) noHp fun v7_2 =>
  rd Try.prog (bop Go.BinOp.shr 23 (Go.Operand.tmp 5) (Go.Operand.tmp 7) (env 0) v7_2) noHp fun v8_3 =>
  rd Try.prog (bop Go.BinOp.and 23 (Go.Operand.tmp 8) (Go.Operand.const (Go.Value.int Go.IntKind.u32 1)) v8_3 (Go.Value.int Go.IntKind.u32 1)) noHp fun v9_4 =>
  rd Try.prog (convert 23 3 v9_4) noHp fun v10_5 =>
  K (((((((env.set 5 (env 0)).set 6 (env 1)).set 7 v7_2).set 8 v8_3).set 9 v9_4).set 10 v10_5).set 4 v10_5) h
@[congr] theorem trie_bit_r1_congr {env : Env} {h : Hp} {K : Env → Hp → Prop} : trie_bit_r1 env h K = trie_bit_r1 env h K := rfl

def trie_bit_D : Den := (sq (rg trie_bit_r0) (sq (rg trie_bit_r1) (ex .ret)))

theorem trie_bit_eq : (den Try.prog 11 trie_bit_code).1 = trie_bit_D := by kernel_rfl

theorem trie_bit_ok {args : Array Value} {h : Hp} {Q : Value → Hp → Prop} (hn : args.size ≤ 11) (D : trie_bit_D (fin Try.prog [(Go.ResultVar.tmp 4)] Q) (env0 args) h) : Ok Try.prog 28 args h Q :=
  ok_of_den progIsOk Try.func28 (c := trie_bit_code) (by kernel_rfl) hn (by show (den Try.prog 11 trie_bit_code).1 _ _ _; rw [trie_bit_eq]; exact D)

/-! ### (*octroi/trie.Trie).gather: function 29 -/
noncomputable def trie_Trie_gather_code : Code := match Try.f29.body with | some c => c | none => .skip

/-- trie.go:120 -/
def trie_Trie_gather_r0 (env : Env) (h : Hp) (K : Env → Hp → Prop) : Prop :=
  arun Try.prog (Instr.box 30 (env 3)) h fun v7_0 h1 =>
  K ((env.set 7 v7_0).set 8 (Go.Value.slice none 0 0)) h1
@[congr] theorem trie_Trie_gather_r0_congr {env : Env} {h : Hp} {K : Env → Hp → Prop} : trie_Trie_gather_r0 env h K = trie_Trie_gather_r0 env h K := rfl

/-- trie.go:121 -/
def trie_Trie_gather_r1 (env : Env) (h : Hp) (K : Env → Hp → Prop) : Prop :=
  nck (env 0) (
  rd Try.prog (Instr.fieldAt 56 (env 0) 2) noHp fun v14_2 =>
  rd Try.prog (Instr.loadAt 54 v14_2) h fun v15_3 =>
  rd Try.prog (Instr.indexAt 54 v15_3 (env 2)) noHp fun v17_5 =>
  rd Try.prog (Instr.loadAt 61 v17_5) h fun v18_6 =>
  arun Try.prog (Instr.alloc 61 true (Go.Value.tuple #[])) h fun v9_7 h1 =>
  arun Try.prog (Instr.storeAt 61 v9_7 v18_6) h1 fun _ h2 =>
  K ((((((((env.set 12 (env 0)).set 13 (env 0)).set 14 v14_2).set 15 v15_3).set 16 (env 2)).set 17 v17_5).set 18 v18_6).set 9 v9_7) h2)
@[congr] theorem trie_Trie_gather_r1_congr {env : Env} {h : Hp} {K : Env → Hp → Prop} : trie_Trie_gather_r1 env h K = trie_Trie_gather_r1 env h K := rfl

/-- trie.go:122 -/
def trie_Trie_gather_r2 (env : Env) (h : Hp) (K : Env → Hp → Prop) : Prop :=
  rd Try.prog (Instr.fieldAt 61 (env 9) 2) noHp fun v19_0 =>
  rd Try.prog (Instr.loadAt 4 v19_0) h fun v20_1 =>
  K ((env.set 19 v19_0).set 20 v20_1) h
@[congr] theorem trie_Trie_gather_r2_congr {env : Env} {h : Hp} {K : Env → Hp → Prop} : trie_Trie_gather_r2 env h K = trie_Trie_gather_r2 env h K := rfl

/-- trie.go:123 -/
def trie_Trie_gather_r3 (env : Env) (h : Hp) (K : Env → Hp → Prop) : Prop :=
  rd Try.prog (Instr.loadAt 30 (env 7)) h fun v22_1 =>
  arun Try.prog (Instr.buildSlice 37 1 #[(0, v22_1)]) h fun v23_2 h1 =>
  arun Try.prog (Builtin.append_ #[37, 37] 37 #[(env 1), v23_2]) h1 fun v24_3 h2 =>
  K (((((env.set 21 (env 1)).set 22 v22_1).set 23 v23_2).set 24 v24_3).set 1 v24_3) h2
@[congr] theorem trie_Trie_gather_r3_congr {env : Env} {h : Hp} {K : Env → Hp → Prop} : trie_Trie_gather_r3 env h K = trie_Trie_gather_r3 env h K := rfl

/-- trie.go:125 -/
def trie_Trie_gather_r4 (env : Env) (h : Hp) (K : Env → Hp → Prop) : Prop :=
  rd Try.prog (Instr.fieldAt 61 (env 9) 0) noHp fun v25_0 =>
  rd Try.prog (Instr.loadAt 59 v25_0) h fun v26_1 =>
  K (((env.set 25 v25_0).set 26 v26_1).set 27 (Go.Value.int Go.IntKind.i64 0)) h
@[congr] theorem trie_Trie_gather_r4_congr {env : Env} {h : Hp} {K : Env → Hp → Prop} : trie_Trie_gather_r4 env h K = trie_Trie_gather_r4 env h K := rfl

/-- trie.go:125 -/
def trie_Trie_gather_r5 (env : Env) (h : Hp) (K : Env → Hp → Prop) : Prop :=
  rd Try.prog (bop Go.BinOp.lss 3 (Go.Operand.tmp 27) (Go.Operand.const (Go.Value.int Go.IntKind.i64 2)) (env 27) (Go.Value.int Go.IntKind.i64 2)) noHp fun v28_0 =>
  K (env.set 28 v28_0) h
@[congr] theorem trie_Trie_gather_r5_congr {env : Env} {h : Hp} {K : Env → Hp → Prop} : trie_Trie_gather_r5 env h K = trie_Trie_gather_r5 env h K := rfl

/-- trie.go:125 -/
def trie_Trie_gather_r6 (env : Env) (h : Hp) (K : Env → Hp → Prop) : Prop :=
  rd Try.prog (Instr.index 59 (env 26) (env 27)) noHp fun v30_1 =>
  K ((((env.set 29 (env 27)).set 30 v30_1).set 10 (env 27)).set 11 v30_1) h
@[congr] theorem trie_Trie_gather_r6_congr {env : Env} {h : Hp} {K : Env → Hp → Prop} : trie_Trie_gather_r6 env h K = trie_Trie_gather_r6 env h K := rfl

/-- trie.go:126 -/
def trie_Trie_gather_r7 (env : Env) (h : Hp) (K : Env → Hp → Prop) : Prop :=
  rd Try.prog (bop Go.BinOp.neq 3 (Go.Operand.tmp 31) (Go.Operand.const (Go.Value.int Go.IntKind.i64 0)) (env 11) (Go.Value.int Go.IntKind.i64 0)) noHp fun v32_1 =>
  K ((env.set 31 (env 11)).set 32 v32_1) h
@[congr] theorem trie_Trie_gather_r7_congr {env : Env} {h : Hp} {K : Env → Hp → Prop} : trie_Trie_gather_r7 env h K = trie_Trie_gather_r7 env h K := rfl

/-- trie.go:127 (in any order) -/
def trie_Trie_gather_r8 (env : Env) (h : Hp) (K : Env → Hp → Prop) : Prop :=
  rd Try.prog (Instr.fieldAt 30 (env 7) 0) noHp fun v36_3 =>
  rd Try.prog (Instr.loadAt 23 v36_3) h fun v37_4 =>
  rd Try.prog (convert 3 23 (env 10)) noHp fun v39_6 =>
  rd Try.prog (Instr.fieldAt 30 (env 7) 1) noHp fun v40_7 =>
  rd Try.prog (Instr.loadAt 3 v40_7) h fun v41_8 =>
  rd Try.prog (bop Go.BinOp.sub 3 (Go.Operand.const (Go.Value.int Go.IntKind.i64 31)) (Go.Operand.tmp 41) (Go.Value.int Go.IntKind.i64 31) v41_8) noHp fun v42_9 =>
  rd Try.prog (bop Go.BinOp.shl 23 (Go.Operand.tmp 39) (Go.Operand.tmp 42) v39_6 v42_9) noHp fun v43_10 =>
  rd Try.prog (bop Go.BinOp.or 23 (Go.Operand.tmp 37) (Go.Operand.tmp 43) v37_4 v43_10) noHp fun v44_11 =>
  rd Try.prog (Instr.fieldAt 30 (env 7) 1) noHp fun v45_12 =>
  rd Try.prog (Instr.loadAt 3 v45_12) h fun v46_13 =>
  rd Try.prog (bop Go.BinOp.add 3 (Go.Operand.tmp 46) (Go.Operand.const (Go.Value.int Go.IntKind.i64 1)) v46_13 (Go.Value.int Go.IntKind.i64 1)) noHp fun v47_14 =>
  rd Try.prog (Instr.build 30 #[(0, v44_11), (1, v47_14)]) noHp fun v48_15 =>
  Ok Try.prog 29 #[(env 0), (env 1), (env 11), v48_15] h fun v49_16 h1 =>
  (True) ∧
  K ((((((((((((((((((env.set 33 (env 0)).set 34 (env 1)).set 35 (env 11)).set 36 v36_3).set 37 v37_4).set 38 (env 10)).set 39 v39_6).set 40 v40_7).set 41 v41_8).set 42 v42_9).set 43 v43_10).set 44 v44_11).set 45 v45_12).set 46 v46_13).set 47 v47_14).set 48 v48_15).set 49 v49_16).set 1 v49_16) h1
@[congr] theorem trie_Trie_gather_r8_congr {env : Env} {h : Hp} {K : Env → Hp → Prop} : trie_Trie_gather_r8 env h K = trie_Trie_gather_r8 env h K := rfl

/-- trie.go:125 -/
def trie_Trie_gather_r9 (env : Env) (h : Hp) (K : Env → Hp → Prop) : Prop :=
  rd Try.prog (bop Go.BinOp.add 3 (Go.Operand.tmp 27) (Go.Operand.const (Go.Value.int Go.IntKind.i64 1)) (env 27) (Go.Value.int Go.IntKind.i64 1)) noHp fun v50_0 =>
  K ((env.set 50 v50_0).set 27 v50_0) h
@[congr] theorem trie_Trie_gather_r9_congr {env : Env} {h : Hp} {K : Env → Hp → Prop} : trie_Trie_gather_r9 env h K = trie_Trie_gather_r9 env h K := rfl

def trie_Trie_gather_L0 : Den := (sq (rg trie_Trie_gather_r5) (sq (cnd (Go.Operand.tmp 28) (ex .normal) (ex (.exit 0))) (sq (blk 1 (sq (rg trie_Trie_gather_r6) (sq (rg trie_Trie_gather_r7) (cnd (Go.Operand.tmp 32) (rg trie_Trie_gather_r8) (ex .normal))))) (rg trie_Trie_gather_r9))))

/-- trie.go:130 -/
def trie_Trie_gather_r10 (env : Env) (h : Hp) (K : Env → Hp → Prop) : Prop :=
  K ((env.set 51 (env 1)).set 8 (env 1)) h
@[congr] theorem trie_Trie_gather_r10_congr {env : Env} {h : Hp} {K : Env → Hp → Prop} : trie_Trie_gather_r10 env h K = trie_Trie_gather_r10 env h K := rfl

def trie_Trie_gather_D : Den := (sq (rg trie_Trie_gather_r0) (sq (rg trie_Trie_gather_r1) (sq (sq (rg trie_Trie_gather_r2) (cnd (Go.Operand.tmp 20) (rg trie_Trie_gather_r3) (ex .normal))) (sq (sq (rg trie_Trie_gather_r4) (blk 0 (lp trie_Trie_gather_L0))) (sq (rg trie_Trie_gather_r10) (ex .ret))))))

theorem trie_Trie_gather_eq : (den Try.prog 52 trie_Trie_gather_code).1 = trie_Trie_gather_D := by kernel_rfl

theorem trie_Trie_gather_ok {args : Array Value} {h : Hp} {Q : Value → Hp → Prop} (hn : args.size ≤ 52) (D : trie_Trie_gather_D (fin Try.prog [(Go.ResultVar.tmp 8)] Q) (env0 args) h) : Ok Try.prog 29 args h Q :=
  ok_of_den progIsOk Try.func29 (c := trie_Trie_gather_code) (by kernel_rfl) hn (by show (den Try.prog 52 trie_Trie_gather_code).1 _ _ _; rw [trie_Trie_gather_eq]; exact D)

/-! ### octroi/octroiref02.May: function 30 -/
noncomputable def octroiref02_May_code : Code := match Try.f30.body with | some c => c | none => .skip

/-- ref.go:36 -/
def octroiref02_May_r0 (env : Env) (h : Hp) (K : Env → Hp → Prop) : Prop :=
  arun Try.prog (Instr.box 30 (env 0)) h fun v1_0 h1 =>
  K ((env.set 1 v1_0).set 2 (Go.Value.bool false)) h1
@[congr] theorem octroiref02_May_r0_congr {env : Env} {h : Hp} {K : Env → Hp → Prop} : octroiref02_May_r0 env h K = octroiref02_May_r0 env h K := rfl

/-- ref.go:37 (in any order) -/
def octroiref02_May_r1 (env : Env) (h : Hp) (K : Env → Hp → Prop) : Prop :=
  rd Try.prog (Instr.fieldAt 30 (env 1) 1) noHp fun v3_0 =>
  rd Try.prog (Instr.loadAt 3 v3_0) h fun v4_1 =>
  rd Try.prog (bop Go.BinOp.geq 3 (Go.Operand.tmp 4) (Go.Operand.const (Go.Value.int Go.IntKind.i64 0)) v4_1 (Go.Value.int Go.IntKind.i64 0)) noHp fun v5_2 =>
  gd (yb v5_2 == some true) (fun h k => rd Try.prog (Instr.fieldAt 30 (env 1) 1) noHp fun v => k v h) h fun v7_4 h1 =>
  gd (yb v5_2 == some true) (fun h k => rd Try.prog (Instr.loadAt 3 v7_4) h fun v => k v h) h1 fun v8_5 h2 =>
  gd (yb v5_2 == some true) (fun h k => rd Try.prog (bop Go.BinOp.leq 3 (Go.Operand.tmp 8) (Go.Operand.const (Go.Value.int Go.IntKind.i64 32)) v8_5 (Go.Value.int Go.IntKind.i64 32)) noHp fun v => k v h) h2 fun v9_6 h3 =>
  rd Try.prog (pck v5_2 v9_6 (Go.Value.bool false)) noHp fun v10_7 =>
  gd (yb v10_7 == some true) (fun h k => rd Try.prog (Instr.fieldAt 30 (env 1) 0) noHp fun v => k v h) h3 fun v12_9 h4 =>
  gd (yb v10_7 == some true) (fun h k => rd Try.prog (Instr.loadAt 23 v12_9) h fun v => k v h) h4 fun v13_10 h5 =>
  gd (yb v10_7 == some true) (fun h k => rd Try.prog (Instr.fieldAt 30 (env 1) 1) noHp fun v => k v h) h5 fun v14_11 h6 =>
  gd (yb v10_7 == some true) (fun h k => rd Try.prog (Instr.loadAt 3 v14_11) h fun v => k v h) h6 fun v15_12 h7 =>
  gd (yb v10_7 == some true) (fun h k => rd Try.prog (Instr.fieldAt 30 (env 1) 0) noHp fun v => k v h) h7 fun v18_13 h8 =>
  gd (yb v10_7 == some true) (fun h k => rd Try.prog (Instr.loadAt 23 v18_13) h fun v => k v h) h8 fun v19_14 h9 =>
  gd (yb v10_7 == some true) (fun h k => Ok Try.prog 34 #[v15_12] h k) h9 fun v16_15 h10 =>
  (((yb v10_7 == some true) = true → rrun Try.prog (Instr.loadAt 23 v18_13) h10 = some v19_14) ∧ ((yb v10_7 == some true) = true → rrun Try.prog (Instr.loadAt 23 v12_9) h10 = some v13_10) ∧ True) ∧
  gd (yb v10_7 == some true) (fun h k => rd Try.prog (bop Go.BinOp.and 23 (Go.Operand.tmp 13) (Go.Operand.tmp 16) v13_10 v16_15) noHp fun v => k v h) h10 fun v17_16 h11 =>
  gd (yb v10_7 == some true) (fun h k => rd Try.prog (bop Go.BinOp.eql 23 (Go.Operand.tmp 17) (Go.Operand.tmp 19) v17_16 v19_14) noHp fun v => k v h) h11 fun v20_17 h12 =>
  rd Try.prog (pck v10_7 v20_17 (Go.Value.bool false)) noHp fun v21_18 =>
  K ((((((((((((((((((((env.set 3 v3_0).set 4 v4_1).set 5 v5_2).set 6 v5_2).set 7 v7_4).set 8 v8_5).set 9 v9_6).set 10 v10_7).set 11 v10_7).set 12 v12_9).set 13 v13_10).set 14 v14_11).set 15 v15_12).set 18 v18_13).set 19 v19_14).set 16 v16_15).set 17 v17_16).set 20 v20_17).set 21 v21_18).set 2 v21_18) h12
@[congr] theorem octroiref02_May_r1_congr {env : Env} {h : Hp} {K : Env → Hp → Prop} : octroiref02_May_r1 env h K = octroiref02_May_r1 env h K := rfl

def octroiref02_May_D : Den := (sq (rg octroiref02_May_r0) (sq (rg octroiref02_May_r1) (ex .ret)))

theorem octroiref02_May_eq : (den Try.prog 22 octroiref02_May_code).1 = octroiref02_May_D := by kernel_rfl

theorem octroiref02_May_ok {args : Array Value} {h : Hp} {Q : Value → Hp → Prop} (hn : args.size ≤ 22) (D : octroiref02_May_D (fin Try.prog [(Go.ResultVar.tmp 2)] Q) (env0 args) h) : Ok Try.prog 30 args h Q :=
  ok_of_den progIsOk Try.func30 (c := octroiref02_May_code) (by kernel_rfl) hn (by show (den Try.prog 22 octroiref02_May_code).1 _ _ _; rw [octroiref02_May_eq]; exact D)

/-! ### (*octroi/octroiref08.Trie).at: function 31 -/
noncomputable def octroiref08_Trie_at_code : Code := match Try.f31.body with | some c => c | none => .skip

/-- ref.go:22 -/
def octroiref08_Trie_at_r0 (env : Env) (h : Hp) (K : Env → Hp → Prop) : Prop :=
  arun Try.prog (Instr.box 30 (env 1)) h fun v3_0 h1 =>
  K ((env.set 3 v3_0).set 4 (Go.Value.int Go.IntKind.i64 0)) h1
@[congr] theorem octroiref08_Trie_at_r0_congr {env : Env} {h : Hp} {K : Env → Hp → Prop} : octroiref08_Trie_at_r0 env h K = octroiref08_Trie_at_r0 env h K := rfl

/-- ref.go:23 -/
def octroiref08_Trie_at_r1 (env : Env) (h : Hp) (K : Env → Hp → Prop) : Prop :=
  K (env.set 5 (Go.Value.int Go.IntKind.i64 0)) h
@[congr] theorem octroiref08_Trie_at_r1_congr {env : Env} {h : Hp} {K : Env → Hp → Prop} : octroiref08_Trie_at_r1 env h K = octroiref08_Trie_at_r1 env h K := rfl

/-- ref.go:23 -/
def octroiref08_Trie_at_r2 (env : Env) (h : Hp) (K : Env → Hp → Prop) : Prop :=
  nck (env 0) (
  rd Try.prog (Instr.fieldAt 50 (env 0) 1) noHp fun v9_3 =>
  rd Try.prog (Instr.loadAt 48 v9_3) h fun v10_4 =>
  rd Try.prog (Builtin.len_ #[48] 3 #[v10_4]) h fun v11_5 =>
  rd Try.prog (bop Go.BinOp.lss 3 (Go.Operand.tmp 6) (Go.Operand.tmp 11) (env 5) v11_5) noHp fun v12_6 =>
  K (((((((env.set 6 (env 5)).set 7 (env 0)).set 8 (env 0)).set 9 v9_3).set 10 v10_4).set 11 v11_5).set 12 v12_6) h)
@[congr] theorem octroiref08_Trie_at_r2_congr {env : Env} {h : Hp} {K : Env → Hp → Prop} : octroiref08_Trie_at_r2 env h K = octroiref08_Trie_at_r2 env h K := rfl

/-- ref.go:24 (in any order) -/
def octroiref08_Trie_at_r3 (env : Env) (h : Hp) (K : Env → Hp → Prop) : Prop :=
  nck (env 0) (
  rd Try.prog (Instr.fieldAt 50 (env 0) 1) noHp fun v17_2 =>
  rd Try.prog (Instr.loadAt 48 v17_2) h fun v18_3 =>
  rd Try.prog (Instr.indexAt 48 v18_3 (env 5)) noHp fun v20_5 =>
  rd Try.prog (Instr.fieldAt 68 v20_5 0) noHp fun v21_6 =>
  rd Try.prog (Instr.loadAt 30 v21_6) h fun v22_7 =>
  rd Try.prog (Instr.loadAt 30 (env 3)) h fun v23_8 =>
  rd Try.prog (bop Go.BinOp.eql 30 (Go.Operand.tmp 22) (Go.Operand.tmp 23) v22_7 v23_8) noHp fun v24_9 =>
  K ((((((((((env.set 15 (env 0)).set 16 (env 0)).set 17 v17_2).set 18 v18_3).set 19 (env 5)).set 20 v20_5).set 21 v21_6).set 22 v22_7).set 23 v23_8).set 24 v24_9) h)
@[congr] theorem octroiref08_Trie_at_r3_congr {env : Env} {h : Hp} {K : Env → Hp → Prop} : octroiref08_Trie_at_r3 env h K = octroiref08_Trie_at_r3 env h K := rfl

/-- ref.go:25 -/
def octroiref08_Trie_at_r4 (env : Env) (h : Hp) (K : Env → Hp → Prop) : Prop :=
  K ((env.set 25 (env 5)).set 4 (env 5)) h
@[congr] theorem octroiref08_Trie_at_r4_congr {env : Env} {h : Hp} {K : Env → Hp → Prop} : octroiref08_Trie_at_r4 env h K = octroiref08_Trie_at_r4 env h K := rfl

/-- ref.go:23 -/
def octroiref08_Trie_at_r5 (env : Env) (h : Hp) (K : Env → Hp → Prop) : Prop :=
  rd Try.prog (bop Go.BinOp.add 3 (Go.Operand.tmp 13) (Go.Operand.const (Go.Value.int Go.IntKind.i64 1)) (env 5) (Go.Value.int Go.IntKind.i64 1)) noHp fun v14_1 =>
  K (((env.set 13 (env 5)).set 14 v14_1).set 5 v14_1) h
@[congr] theorem octroiref08_Trie_at_r5_congr {env : Env} {h : Hp} {K : Env → Hp → Prop} : octroiref08_Trie_at_r5 env h K = octroiref08_Trie_at_r5 env h K := rfl

def octroiref08_Trie_at_L0 : Den := (sq (sq (rg octroiref08_Trie_at_r2) (cnd (Go.Operand.tmp 12) (ex .normal) (ex (.exit 0)))) (sq (blk 1 (sq (rg octroiref08_Trie_at_r3) (cnd (Go.Operand.tmp 24) (sq (rg octroiref08_Trie_at_r4) (ex .ret)) (ex .normal)))) (rg octroiref08_Trie_at_r5)))

/-- ref.go:28 -/
def octroiref08_Trie_at_r6 (env : Env) (h : Hp) (K : Env → Hp → Prop) : Prop :=
  K (env.set 4 (Go.Value.int Go.IntKind.i64 (-1))) h
@[congr] theorem octroiref08_Trie_at_r6_congr {env : Env} {h : Hp} {K : Env → Hp → Prop} : octroiref08_Trie_at_r6 env h K = octroiref08_Trie_at_r6 env h K := rfl

def octroiref08_Trie_at_D : Den := (sq (rg octroiref08_Trie_at_r0) (sq (sq (rg octroiref08_Trie_at_r1) (blk 0 (lp octroiref08_Trie_at_L0))) (sq (rg octroiref08_Trie_at_r6) (ex .ret))))

theorem octroiref08_Trie_at_eq : (den Try.prog 26 octroiref08_Trie_at_code).1 = octroiref08_Trie_at_D := by kernel_rfl

theorem octroiref08_Trie_at_ok {args : Array Value} {h : Hp} {Q : Value → Hp → Prop} (hn : args.size ≤ 26) (D : octroiref08_Trie_at_D (fin Try.prog [(Go.ResultVar.tmp 4)] Q) (env0 args) h) : Ok Try.prog 31 args h Q :=
  ok_of_den progIsOk Try.func31 (c := octroiref08_Trie_at_code) (by kernel_rfl) hn (by show (den Try.prog 26 octroiref08_Trie_at_code).1 _ _ _; rw [octroiref08_Trie_at_eq]; exact D)

/-! ### octroi/octroiref02.Less: function 32 -/
noncomputable def octroiref02_Less_code : Code := match Try.f32.body with | some c => c | none => .skip

/-- ref.go:54 -/
def octroiref02_Less_r0 (env : Env) (h : Hp) (K : Env → Hp → Prop) : Prop :=
  arun Try.prog (Instr.box 30 (env 0)) h fun v2_0 h1 =>
  arun Try.prog (Instr.box 30 (env 1)) h1 fun v3_1 h2 =>
  K (((env.set 2 v2_0).set 3 v3_1).set 4 (Go.Value.bool false)) h2
@[congr] theorem octroiref02_Less_r0_congr {env : Env} {h : Hp} {K : Env → Hp → Prop} : octroiref02_Less_r0 env h K = octroiref02_Less_r0 env h K := rfl

/-- ref.go:55 -/
def octroiref02_Less_r1 (env : Env) (h : Hp) (K : Env → Hp → Prop) : Prop :=
  rd Try.prog (Instr.fieldAt 30 (env 2) 0) noHp fun v5_0 =>
  rd Try.prog (Instr.loadAt 23 v5_0) h fun v6_1 =>
  rd Try.prog (Instr.fieldAt 30 (env 3) 0) noHp fun v7_2 =>
  rd Try.prog (Instr.loadAt 23 v7_2) h fun v8_3 =>
  rd Try.prog (bop Go.BinOp.lss 23 (Go.Operand.tmp 6) (Go.Operand.tmp 8) v6_1 v8_3) noHp fun v9_4 =>
  gd (yb v9_4 == some false) (fun h k => rd Try.prog (Instr.fieldAt 30 (env 2) 0) noHp fun v => k v h) h fun v11_6 h1 =>
  gd (yb v9_4 == some false) (fun h k => rd Try.prog (Instr.loadAt 23 v11_6) h fun v => k v h) h1 fun v12_7 h2 =>
  gd (yb v9_4 == some false) (fun h k => rd Try.prog (Instr.fieldAt 30 (env 3) 0) noHp fun v => k v h) h2 fun v13_8 h3 =>
  gd (yb v9_4 == some false) (fun h k => rd Try.prog (Instr.loadAt 23 v13_8) h fun v => k v h) h3 fun v14_9 h4 =>
  gd (yb v9_4 == some false) (fun h k => rd Try.prog (bop Go.BinOp.eql 23 (Go.Operand.tmp 12) (Go.Operand.tmp 14) v12_7 v14_9) noHp fun v => k v h) h4 fun v15_10 h5 =>
  gd (yb v9_4 == some false) (fun h k => k v15_10 h) h5 fun v16_11 h6 =>
  gd (yb v16_11 == some true) (fun h k => rd Try.prog (Instr.fieldAt 30 (env 2) 1) noHp fun v => k v h) h6 fun v17_12 h7 =>
  gd (yb v16_11 == some true) (fun h k => rd Try.prog (Instr.loadAt 3 v17_12) h fun v => k v h) h7 fun v18_13 h8 =>
  gd (yb v16_11 == some true) (fun h k => rd Try.prog (Instr.fieldAt 30 (env 3) 1) noHp fun v => k v h) h8 fun v19_14 h9 =>
  gd (yb v16_11 == some true) (fun h k => rd Try.prog (Instr.loadAt 3 v19_14) h fun v => k v h) h9 fun v20_15 h10 =>
  gd (yb v16_11 == some true) (fun h k => rd Try.prog (bop Go.BinOp.lss 3 (Go.Operand.tmp 18) (Go.Operand.tmp 20) v18_13 v20_15) noHp fun v => k v h) h10 fun v21_16 h11 =>
  gd (yb v9_4 == some false) (fun h k => rd Try.prog (pck v16_11 v21_16 (Go.Value.bool false)) noHp fun v => k v h) h11 fun v22_17 h12 =>
  rd Try.prog (pck v9_4 (Go.Value.bool true) v22_17) noHp fun v23_18 =>
  K ((((((((((((((((((((env.set 5 v5_0).set 6 v6_1).set 7 v7_2).set 8 v8_3).set 9 v9_4).set 10 v9_4).set 11 v11_6).set 12 v12_7).set 13 v13_8).set 14 v14_9).set 15 v15_10).set 16 v16_11).set 17 v17_12).set 18 v18_13).set 19 v19_14).set 20 v20_15).set 21 v21_16).set 22 v22_17).set 23 v23_18).set 4 v23_18) h12
@[congr] theorem octroiref02_Less_r1_congr {env : Env} {h : Hp} {K : Env → Hp → Prop} : octroiref02_Less_r1 env h K = octroiref02_Less_r1 env h K := rfl

def octroiref02_Less_D : Den := (sq (rg octroiref02_Less_r0) (sq (rg octroiref02_Less_r1) (ex .ret)))

theorem octroiref02_Less_eq : (den Try.prog 24 octroiref02_Less_code).1 = octroiref02_Less_D := by kernel_rfl

theorem octroiref02_Less_ok {args : Array Value} {h : Hp} {Q : Value → Hp → Prop} (hn : args.size ≤ 24) (D : octroiref02_Less_D (fin Try.prog [(Go.ResultVar.tmp 4)] Q) (env0 args) h) : Ok Try.prog 32 args h Q :=
  ok_of_den progIsOk Try.func32 (c := octroiref02_Less_code) (by kernel_rfl) hn (by show (den Try.prog 24 octroiref02_Less_code).1 _ _ _; rw [octroiref02_Less_eq]; exact D)

/-! ### octroi/octroiref02.Has: function 33 -/
noncomputable def octroiref02_Has_code : Code := match Try.f33.body with | some c => c | none => .skip

/-- ref.go:41 -/
def octroiref02_Has_r0 (env : Env) (h : Hp) (K : Env → Hp → Prop) : Prop :=
  arun Try.prog (Instr.box 30 (env 0)) h fun v2_0 h1 =>
  K ((env.set 2 v2_0).set 4 (Go.Value.bool false)) h1
@[congr] theorem octroiref02_Has_r0_congr {env : Env} {h : Hp} {K : Env → Hp → Prop} : octroiref02_Has_r0 env h K = octroiref02_Has_r0 env h K := rfl

/-- ref.go:42 -/
def octroiref02_Has_r1 (env : Env) (h : Hp) (K : Env → Hp → Prop) : Prop :=
  rd Try.prog (Instr.loadAt 30 (env 2)) h fun v6_0 =>
  Ok Try.prog 30 #[v6_0] h fun v7_1 h1 =>
  K (((env.set 6 v6_0).set 7 v7_1).set 5 v7_1) h1
@[congr] theorem octroiref02_Has_r1_congr {env : Env} {h : Hp} {K : Env → Hp → Prop} : octroiref02_Has_r1 env h K = octroiref02_Has_r1 env h K := rfl

/-- ref.go:43 (in any order) -/
def octroiref02_Has_r2 (env : Env) (h : Hp) (K : Env → Hp → Prop) : Prop :=
  gd (yb (env 5) == some true) (fun h k => k (env 1) h) h fun v10_2 h1 =>
  gd (yb (env 5) == some true) (fun h k => rd Try.prog (Instr.fieldAt 30 (env 2) 1) noHp fun v => k v h) h1 fun v11_3 h2 =>
  gd (yb (env 5) == some true) (fun h k => rd Try.prog (Instr.loadAt 3 v11_3) h fun v => k v h) h2 fun v12_4 h3 =>
  gd (yb (env 5) == some true) (fun h k => rd Try.prog (Instr.fieldAt 30 (env 2) 0) noHp fun v => k v h) h3 fun v15_5 h4 =>
  gd (yb (env 5) == some true) (fun h k => rd Try.prog (Instr.loadAt 23 v15_5) h fun v => k v h) h4 fun v16_6 h5 =>
  gd (yb (env 5) == some true) (fun h k => Ok Try.prog 34 #[v12_4] h k) h5 fun v13_7 h6 =>
  (((yb (env 5) == some true) = true → rrun Try.prog (Instr.loadAt 23 v15_5) h6 = some v16_6) ∧ True) ∧
  gd (yb (env 5) == some true) (fun h k => rd Try.prog (bop Go.BinOp.and 23 (Go.Operand.tmp 10) (Go.Operand.tmp 13) v10_2 v13_7) noHp fun v => k v h) h6 fun v14_8 h7 =>
  gd (yb (env 5) == some true) (fun h k => rd Try.prog (bop Go.BinOp.eql 23 (Go.Operand.tmp 14) (Go.Operand.tmp 16) v14_8 v16_6) noHp fun v => k v h) h7 fun v17_9 h8 =>
  rd Try.prog (pck (env 5) v17_9 (Go.Value.bool false)) noHp fun v18_10 =>
  K ((((((((((((env.set 8 (env 5)).set 9 (env 5)).set 10 v10_2).set 11 v11_3).set 12 v12_4).set 15 v15_5).set 16 v16_6).set 13 v13_7).set 14 v14_8).set 17 v17_9).set 18 v18_10).set 4 v18_10) h8
@[congr] theorem octroiref02_Has_r2_congr {env : Env} {h : Hp} {K : Env → Hp → Prop} : octroiref02_Has_r2 env h K = octroiref02_Has_r2 env h K := rfl

def octroiref02_Has_D : Den := (sq (rg octroiref02_Has_r0) (sq (rg octroiref02_Has_r1) (sq (rg octroiref02_Has_r2) (ex .ret))))

theorem octroiref02_Has_eq : (den Try.prog 19 octroiref02_Has_code).1 = octroiref02_Has_D := by kernel_rfl

theorem octroiref02_Has_ok {args : Array Value} {h : Hp} {Q : Value → Hp → Prop} (hn : args.size ≤ 19) (D : octroiref02_Has_D (fin Try.prog [(Go.ResultVar.tmp 4)] Q) (env0 args) h) : Ok Try.prog 33 args h Q :=
  ok_of_den progIsOk Try.func33 (c := octroiref02_Has_code) (by kernel_rfl) hn (by show (den Try.prog 19 octroiref02_Has_code).1 _ _ _; rw [octroiref02_Has_eq]; exact D)

/-! ### octroi/octroiref02.Mask: function 34 -/
noncomputable def octroiref02_Mask_code : Code := match Try.f34.body with | some c => c | none => .skip

/-- ref.go:7 -/
def octroiref02_Mask_r0 (env : Env) (h : Hp) (K : Env → Hp → Prop) : Prop :=
  K (env.set 2 (Go.Value.int Go.IntKind.u32 0)) h
@[congr] theorem octroiref02_Mask_r0_congr {env : Env} {h : Hp} {K : Env → Hp → Prop} : octroiref02_Mask_r0 env h K = octroiref02_Mask_r0 env h K := rfl

/-- ref.go:8 -/
def octroiref02_Mask_r1 (env : Env) (h : Hp) (K : Env → Hp → Prop) : Prop :=
  K (env.set 3 (Go.Value.int Go.IntKind.u32 0)) h
@[congr] theorem octroiref02_Mask_r1_congr {env : Env} {h : Hp} {K : Env → Hp → Prop} : octroiref02_Mask_r1 env h K = octroiref02_Mask_r1 env h K := rfl

/-- ref.go:9 -/
def octroiref02_Mask_r2 (env : Env) (h : Hp) (K : Env → Hp → Prop) : Prop :=
  K (env.set 4 (Go.Value.int Go.IntKind.u32 2147483648)) h
@[congr] theorem octroiref02_Mask_r2_congr {env : Env} {h : Hp} {K : Env → Hp → Prop} : octroiref02_Mask_r2 env h K = octroiref02_Mask_r2 env h K := rfl

/-- ref.go:10 -/
def octroiref02_Mask_r3 (env : Env) (h : Hp) (K : Env → Hp → Prop) : Prop :=
  K (env.set 5 (Go.Value.int Go.IntKind.i64 0)) h
@[congr] theorem octroiref02_Mask_r3_congr {env : Env} {h : Hp} {K : Env → Hp → Prop} : octroiref02_Mask_r3 env h K = octroiref02_Mask_r3 env h K := rfl

/-- ref.go:10 -/
def octroiref02_Mask_r4 (env : Env) (h : Hp) (K : Env → Hp → Prop) : Prop :=
  rd Try.prog (bop Go.BinOp.lss 3 (Go.Operand.tmp 6) (Go.Operand.tmp 7) (env 5) (env 0)) noHp fun v8_2 =>
  gd (yb v8_2 == some true) (fun h k => k (env 5) h) h fun v10_4 h1 =>
  gd (yb v8_2 == some true) (fun h k => rd Try.prog (bop Go.BinOp.lss 3 (Go.Operand.tmp 10) (Go.Operand.const (Go.Value.int Go.IntKind.i64 32)) v10_4 (Go.Value.int Go.IntKind.i64 32)) noHp fun v => k v h) h1 fun v11_5 h2 =>
  rd Try.prog (pck v8_2 v11_5 (Go.Value.bool false)) noHp fun v12_6 =>
  K (((((((env.set 6 (env 5)).set 7 (env 0)).set 8 v8_2).set 9 v8_2).set 10 v10_4).set 11 v11_5).set 12 v12_6) h2
@[congr] theorem octroiref02_Mask_r4_congr {env : Env} {h : Hp} {K : Env → Hp → Prop} : octroiref02_Mask_r4 env h K = octroiref02_Mask_r4 env h K := rfl

/-- ref.go:11 -/
def octroiref02_Mask_r5 (env : Env) (h : Hp) (K : Env → Hp → Prop) : Prop :=
  rd Try.prog (bop Go.BinOp.add 23 (Go.Operand.tmp 15) (Go.Operand.tmp 16) (env 3) (env 4)) noHp fun v17_2 =>
  K ((((env.set 15 (env 3)).set 16 (env 4)).set 17 v17_2).set 3 v17_2) h
@[congr] theorem octroiref02_Mask_r5_congr {env : Env} {h : Hp} {K : Env → Hp → Prop} : octroiref02_Mask_r5 env h K = octroiref02_Mask_r5 env h K := rfl

/-- ref.go:12 -/
def octroiref02_Mask_r6 (env : Env) (h : Hp) (K : Env → Hp → Prop) : Prop :=
  rd Try.prog (bop Go.BinOp.quo 23 (Go.Operand.tmp 18) (Go.Operand.const (Go.Value.int Go.IntKind.u32 2)) (env 4) (Go.Value.int Go.IntKind.u32 2)) noHp fun v19_1 =>
  K (((env.set 18 (env 4)).set 19 v19_1).set 4 v19_1) h
@[congr] theorem octroiref02_Mask_r6_congr {env : Env} {h : Hp} {K : Env → Hp → Prop} : octroiref02_Mask_r6 env h K = octroiref02_Mask_r6 env h K := rfl

/-- ref.go:10 -/
def octroiref02_Mask_r7 (env : Env) (h : Hp) (K : Env → Hp → Prop) : Prop :=
  rd Try.prog (bop Go.BinOp.add 3 (Go.Operand.tmp 13) (Go.Operand.const (Go.Value.int Go.IntKind.i64 1)) (env 5) (Go.Value.int Go.IntKind.i64 1)) noHp fun v14_1 =>
  K (((env.set 13 (env 5)).set 14 v14_1).set 5 v14_1) h
@[congr] theorem octroiref02_Mask_r7_congr {env : Env} {h : Hp} {K : Env → Hp → Prop} : octroiref02_Mask_r7 env h K = octroiref02_Mask_r7 env h K := rfl

def octroiref02_Mask_L0 : Den := (sq (sq (rg octroiref02_Mask_r4) (cnd (Go.Operand.tmp 12) (ex .normal) (ex (.exit 0)))) (sq (blk 1 (sq (rg octroiref02_Mask_r5) (rg octroiref02_Mask_r6))) (rg octroiref02_Mask_r7)))

/-- ref.go:14 -/
def octroiref02_Mask_r8 (env : Env) (h : Hp) (K : Env → Hp → Prop) : Prop :=
  K ((env.set 20 (env 3)).set 2 (env 3)) h
@[congr] theorem octroiref02_Mask_r8_congr {env : Env} {h : Hp} {K : Env → Hp → Prop} : octroiref02_Mask_r8 env h K = octroiref02_Mask_r8 env h K := rfl

def octroiref02_Mask_D : Den := (sq (rg octroiref02_Mask_r0) (sq (rg octroiref02_Mask_r1) (sq (rg octroiref02_Mask_r2) (sq (sq (rg octroiref02_Mask_r3) (blk 0 (lp octroiref02_Mask_L0))) (sq (rg octroiref02_Mask_r8) (ex .ret))))))

theorem octroiref02_Mask_eq : (den Try.prog 21 octroiref02_Mask_code).1 = octroiref02_Mask_D := by kernel_rfl

theorem octroiref02_Mask_ok {args : Array Value} {h : Hp} {Q : Value → Hp → Prop} (hn : args.size ≤ 21) (D : octroiref02_Mask_D (fin Try.prog [(Go.ResultVar.tmp 2)] Q) (env0 args) h) : Ok Try.prog 34 args h Q :=
  ok_of_den progIsOk Try.func34 (c := octroiref02_Mask_code) (by kernel_rfl) hn (by show (den Try.prog 21 octroiref02_Mask_code).1 _ _ _; rw [octroiref02_Mask_eq]; exact D)

end Go.Proofs.Yteadogmjojeleaa
