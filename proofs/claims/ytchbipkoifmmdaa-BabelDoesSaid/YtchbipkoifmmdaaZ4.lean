/- Printed by wip/kit/gen.py out of the translation: formulas of Go functions, and that they are these functions'. -/
import Derived.Test.YtchbipkoifmmdaaZ3

set_option linter.unusedSimpArgs false
set_option linter.unusedVariables false

namespace Go.Proofs.Ytchbipkoifmmdaa
open Go

set_option maxRecDepth 100000
set_option linter.unusedVariables false

/-! ### octroi/octroilaw17.awake: function 10 -/
noncomputable def octroilaw17_awake_code : Code := match Try.f10.body with | some c => c | none => .skip

/-- law.go:21 -/
def octroilaw17_awake_r0 (env : Env) (h : Hp) (K : Env → Hp → Prop) : Prop :=
  K (env.set 0 (Go.Value.bool false)) h
@[congr] theorem octroilaw17_awake_r0_congr {env : Env} {h : Hp} {K : Env → Hp → Prop} : octroilaw17_awake_r0 env h K = octroilaw17_awake_r0 env h K := rfl

/-- law.go:22 -/
def octroilaw17_awake_r1 (env : Env) (h : Hp) (K : Env → Hp → Prop) : Prop :=
  Ok Try.prog 11 #[(Go.Value.int Go.IntKind.u64 1), (Go.Value.int Go.IntKind.i64 0), (Go.Value.int Go.IntKind.i64 10)] h fun v11_0 h1 =>
  K ((env.set 11 v11_0).set 1 v11_0) h1
@[congr] theorem octroilaw17_awake_r1_congr {env : Env} {h : Hp} {K : Env → Hp → Prop} : octroilaw17_awake_r1 env h K = octroilaw17_awake_r1 env h K := rfl

/-- law.go:23 -/
def octroilaw17_awake_r2 (env : Env) (h : Hp) (K : Env → Hp → Prop) : Prop :=
  rd Try.prog (bop Go.BinOp.eql 26 (Go.Operand.tmp 12) (Go.Operand.const (Go.Value.pointer none)) (env 1) (Go.Value.pointer none)) noHp fun v13_1 =>
  K ((env.set 12 (env 1)).set 13 v13_1) h
@[congr] theorem octroilaw17_awake_r2_congr {env : Env} {h : Hp} {K : Env → Hp → Prop} : octroilaw17_awake_r2 env h K = octroilaw17_awake_r2 env h K := rfl

/-- law.go:24 -/
def octroilaw17_awake_r3 (env : Env) (h : Hp) (K : Env → Hp → Prop) : Prop :=
  K (env.set 0 (Go.Value.bool false)) h
@[congr] theorem octroilaw17_awake_r3_congr {env : Env} {h : Hp} {K : Env → Hp → Prop} : octroilaw17_awake_r3 env h K = octroilaw17_awake_r3 env h K := rfl

/-- law.go:26 -/
def octroilaw17_awake_r4 (env : Env) (h : Hp) (K : Env → Hp → Prop) : Prop :=
  rd Try.prog (Instr.build 31 #[(0, (Go.Value.int Go.IntKind.i64 2)), (1, (Go.Value.int Go.IntKind.u16 1)), (3, (Go.Value.int Go.IntKind.i64 10)), (5, (Go.Value.int Go.IntKind.u64 7))]) noHp fun v14_0 =>
  arun Try.prog (Instr.alloc 31 true (Go.Value.tuple #[])) h fun v2_1 h1 =>
  arun Try.prog (Instr.storeAt 31 v2_1 v14_0) h1 fun _ h2 =>
  K ((env.set 14 v14_0).set 2 v2_1) h2
@[congr] theorem octroilaw17_awake_r4_congr {env : Env} {h : Hp} {K : Env → Hp → Prop} : octroilaw17_awake_r4 env h K = octroilaw17_awake_r4 env h K := rfl

/-- law.go:27 -/
def octroilaw17_awake_r5 (env : Env) (h : Hp) (K : Env → Hp → Prop) : Prop :=
  rd Try.prog (Instr.loadAt 31 (env 2)) h fun v17_1 =>
  Ok Try.prog 12 #[(env 1), (Go.Value.int Go.IntKind.i64 2), (Go.Value.int Go.IntKind.i64 96), v17_1] h fun v18_2 h1 =>
  rd Try.prog (Instr.extract v18_2 0) noHp fun v19_4 =>
  rd Try.prog (Instr.extract v18_2 1) noHp fun v20_5 =>
  K ((((((((env.set 16 (env 1)).set 17 v17_1).set 18 v18_2).set 15 v18_2).set 19 v19_4).set 20 v20_5).set 3 v19_4).set 4 v20_5) h1
@[congr] theorem octroilaw17_awake_r5_congr {env : Env} {h : Hp} {K : Env → Hp → Prop} : octroilaw17_awake_r5 env h K = octroilaw17_awake_r5 env h K := rfl

/-- law.go:28 -/
def octroilaw17_awake_r6 (env : Env) (h : Hp) (K : Env → Hp → Prop) : Prop :=
  Ok Try.prog 13 #[(env 1)] h fun v22_1 h1 =>
  K (((env.set 21 (env 1)).set 22 v22_1).set 5 v22_1) h1
@[congr] theorem octroilaw17_awake_r6_congr {env : Env} {h : Hp} {K : Env → Hp → Prop} : octroilaw17_awake_r6 env h K = octroilaw17_awake_r6 env h K := rfl

/-- law.go:29 -/
def octroilaw17_awake_r7 (env : Env) (h : Hp) (K : Env → Hp → Prop) : Prop :=
  Ok Try.prog 14 #[(env 1)] h fun v24_1 h1 =>
  K (((env.set 23 (env 1)).set 24 v24_1).set 6 v24_1) h1
@[congr] theorem octroilaw17_awake_r7_congr {env : Env} {h : Hp} {K : Env → Hp → Prop} : octroilaw17_awake_r7 env h K = octroilaw17_awake_r7 env h K := rfl

/-- law.go:30 -/
def octroilaw17_awake_r8 (env : Env) (h : Hp) (K : Env → Hp → Prop) : Prop :=
  rd Try.prog (Instr.fieldAt 31 (env 2) 3) noHp fun v25_0 =>
  arun Try.prog (Instr.storeAt 3 v25_0 (Go.Value.int Go.IntKind.i64 106)) h fun _ h1 =>
  K (env.set 25 v25_0) h1
@[congr] theorem octroilaw17_awake_r8_congr {env : Env} {h : Hp} {K : Env → Hp → Prop} : octroilaw17_awake_r8 env h K = octroilaw17_awake_r8 env h K := rfl

/-- law.go:31 -/
def octroilaw17_awake_r9 (env : Env) (h : Hp) (K : Env → Hp → Prop) : Prop :=
  rd Try.prog (Instr.loadAt 31 (env 2)) h fun v28_1 =>
  Ok Try.prog 12 #[(env 1), (Go.Value.int Go.IntKind.i64 3), (Go.Value.int Go.IntKind.i64 1), v28_1] h fun v29_2 h1 =>
  rd Try.prog (Instr.extract v29_2 0) noHp fun v30_4 =>
  rd Try.prog (Instr.extract v29_2 1) noHp fun v31_5 =>
  K ((((((((env.set 27 (env 1)).set 28 v28_1).set 29 v29_2).set 26 v29_2).set 30 v30_4).set 31 v31_5).set 7 v30_4).set 8 v31_5) h1
@[congr] theorem octroilaw17_awake_r9_congr {env : Env} {h : Hp} {K : Env → Hp → Prop} : octroilaw17_awake_r9 env h K = octroilaw17_awake_r9 env h K := rfl

/-- law.go:32 -/
def octroilaw17_awake_r10 (env : Env) (h : Hp) (K : Env → Hp → Prop) : Prop :=
  rd Try.prog (Instr.fieldAt 31 (env 2) 3) noHp fun v32_0 =>
  arun Try.prog (Instr.storeAt 3 v32_0 (Go.Value.int Go.IntKind.i64 105)) h fun _ h1 =>
  K (env.set 32 v32_0) h1
@[congr] theorem octroilaw17_awake_r10_congr {env : Env} {h : Hp} {K : Env → Hp → Prop} : octroilaw17_awake_r10 env h K = octroilaw17_awake_r10 env h K := rfl

/-- law.go:33 -/
def octroilaw17_awake_r11 (env : Env) (h : Hp) (K : Env → Hp → Prop) : Prop :=
  rd Try.prog (Instr.loadAt 31 (env 2)) h fun v35_1 =>
  Ok Try.prog 12 #[(env 1), (Go.Value.int Go.IntKind.i64 3), (Go.Value.int Go.IntKind.i64 1), v35_1] h fun v36_2 h1 =>
  rd Try.prog (Instr.extract v36_2 0) noHp fun v37_4 =>
  rd Try.prog (Instr.extract v36_2 1) noHp fun v38_5 =>
  K ((((((((env.set 34 (env 1)).set 35 v35_1).set 36 v36_2).set 33 v36_2).set 37 v37_4).set 38 v38_5).set 9 v37_4).set 10 v38_5) h1
@[congr] theorem octroilaw17_awake_r11_congr {env : Env} {h : Hp} {K : Env → Hp → Prop} : octroilaw17_awake_r11 env h K = octroilaw17_awake_r11 env h K := rfl

/-- law.go:34 -/
def octroilaw17_awake_r12 (env : Env) (h : Hp) (K : Env → Hp → Prop) : Prop :=
  gd (yb (env 3) == some true) (fun h k => k (env 4) h) h fun v41_2 h1 =>
  gd (yb (env 3) == some true) (fun h k => rd Try.prog (bop Go.BinOp.eql 32 (Go.Operand.tmp 41) (Go.Operand.const (Go.Value.int Go.IntKind.i64 0)) v41_2 (Go.Value.int Go.IntKind.i64 0)) noHp fun v => k v h) h1 fun v42_3 h2 =>
  rd Try.prog (pck (env 3) v42_3 (Go.Value.bool false)) noHp fun v43_4 =>
  gd (yb v43_4 == some true) (fun h k => k (env 7) h) h2 fun v45_6 h3 =>
  gd (yb v43_4 == some true) (fun h k => rd Try.prog (Op.unary Go.UnOp.not v45_6) noHp fun v => k v h) h3 fun v46_7 h4 =>
  rd Try.prog (pck v43_4 v46_7 (Go.Value.bool false)) noHp fun v47_8 =>
  gd (yb v47_8 == some true) (fun h k => k (env 8) h) h4 fun v49_10 h5 =>
  gd (yb v47_8 == some true) (fun h k => rd Try.prog (bop Go.BinOp.eql 32 (Go.Operand.tmp 49) (Go.Operand.const (Go.Value.int Go.IntKind.i64 0)) v49_10 (Go.Value.int Go.IntKind.i64 0)) noHp fun v => k v h) h5 fun v50_11 h6 =>
  rd Try.prog (pck v47_8 v50_11 (Go.Value.bool false)) noHp fun v51_12 =>
  gd (yb v51_12 == some true) (fun h k => k (env 9) h) h6 fun v53_14 h7 =>
  rd Try.prog (pck v51_12 v53_14 (Go.Value.bool false)) noHp fun v54_15 =>
  gd (yb v54_15 == some true) (fun h k => k (env 10) h) h7 fun v56_17 h8 =>
  gd (yb v54_15 == some true) (fun h k => rd Try.prog (bop Go.BinOp.eql 32 (Go.Operand.tmp 56) (Go.Operand.const (Go.Value.int Go.IntKind.i64 0)) v56_17 (Go.Value.int Go.IntKind.i64 0)) noHp fun v => k v h) h8 fun v57_18 h9 =>
  rd Try.prog (pck v54_15 v57_18 (Go.Value.bool false)) noHp fun v58_19 =>
  gd (yb v58_19 == some true) (fun h k => k (env 5) h) h9 fun v60_21 h10 =>
  gd (yb v58_19 == some true) (fun h k => rd Try.prog (Builtin.len_ #[35] 3 #[v60_21]) h fun v => k v h) h10 fun v61_22 h11 =>
  gd (yb v58_19 == some true) (fun h k => rd Try.prog (bop Go.BinOp.eql 3 (Go.Operand.tmp 61) (Go.Operand.const (Go.Value.int Go.IntKind.i64 1)) v61_22 (Go.Value.int Go.IntKind.i64 1)) noHp fun v => k v h) h11 fun v62_23 h12 =>
  rd Try.prog (pck v58_19 v62_23 (Go.Value.bool false)) noHp fun v63_24 =>
  gd (yb v63_24 == some true) (fun h k => k (env 6) h) h12 fun v65_26 h13 =>
  gd (yb v63_24 == some true) (fun h k => rd Try.prog (Builtin.len_ #[40] 3 #[v65_26]) h fun v => k v h) h13 fun v66_27 h14 =>
  gd (yb v63_24 == some true) (fun h k => rd Try.prog (bop Go.BinOp.eql 3 (Go.Operand.tmp 66) (Go.Operand.const (Go.Value.int Go.IntKind.i64 1)) v66_27 (Go.Value.int Go.IntKind.i64 1)) noHp fun v => k v h) h14 fun v67_28 h15 =>
  rd Try.prog (pck v63_24 v67_28 (Go.Value.bool false)) noHp fun v68_29 =>
  gd (yb v68_29 == some true) (fun h k => k (env 5) h) h15 fun v70_31 h16 =>
  gd (yb v68_29 == some true) (fun h k => rd Try.prog (Instr.indexAt 35 v70_31 (Go.Value.int Go.IntKind.i64 0)) noHp fun v => k v h) h16 fun v71_32 h17 =>
  gd (yb v68_29 == some true) (fun h k => rd Try.prog (Instr.fieldAt 38 v71_32 3) noHp fun v => k v h) h17 fun v72_33 h18 =>
  gd (yb v68_29 == some true) (fun h k => rd Try.prog (Instr.loadAt 3 v72_33) h fun v => k v h) h18 fun v73_34 h19 =>
  gd (yb v68_29 == some true) (fun h k => rd Try.prog (bop Go.BinOp.eql 3 (Go.Operand.tmp 73) (Go.Operand.const (Go.Value.int Go.IntKind.i64 106)) v73_34 (Go.Value.int Go.IntKind.i64 106)) noHp fun v => k v h) h19 fun v74_35 h20 =>
  rd Try.prog (pck v68_29 v74_35 (Go.Value.bool false)) noHp fun v75_36 =>
  gd (yb v75_36 == some true) (fun h k => k (env 6) h) h20 fun v77_38 h21 =>
  gd (yb v75_36 == some true) (fun h k => rd Try.prog (Instr.indexAt 40 v77_38 (Go.Value.int Go.IntKind.i64 0)) noHp fun v => k v h) h21 fun v78_39 h22 =>
  gd (yb v75_36 == some true) (fun h k => rd Try.prog (Instr.fieldAt 31 v78_39 3) noHp fun v => k v h) h22 fun v79_40 h23 =>
  gd (yb v75_36 == some true) (fun h k => rd Try.prog (Instr.loadAt 3 v79_40) h fun v => k v h) h23 fun v80_41 h24 =>
  gd (yb v75_36 == some true) (fun h k => rd Try.prog (bop Go.BinOp.eql 3 (Go.Operand.tmp 80) (Go.Operand.const (Go.Value.int Go.IntKind.i64 106)) v80_41 (Go.Value.int Go.IntKind.i64 106)) noHp fun v => k v h) h24 fun v81_42 h25 =>
  rd Try.prog (pck v75_36 v81_42 (Go.Value.bool false)) noHp fun v82_43 =>
  K (((((((((((((((((((((((((((((((((((((((((((((env.set 39 (env 3)).set 40 (env 3)).set 41 v41_2).set 42 v42_3).set 43 v43_4).set 44 v43_4).set 45 v45_6).set 46 v46_7).set 47 v47_8).set 48 v47_8).set 49 v49_10).set 50 v50_11).set 51 v51_12).set 52 v51_12).set 53 v53_14).set 54 v54_15).set 55 v54_15).set 56 v56_17).set 57 v57_18).set 58 v58_19).set 59 v58_19).set 60 v60_21).set 61 v61_22).set 62 v62_23).set 63 v63_24).set 64 v63_24).set 65 v65_26).set 66 v66_27).set 67 v67_28).set 68 v68_29).set 69 v68_29).set 70 v70_31).set 71 v71_32).set 72 v72_33).set 73 v73_34).set 74 v74_35).set 75 v75_36).set 76 v75_36).set 77 v77_38).set 78 v78_39).set 79 v79_40).set 80 v80_41).set 81 v81_42).set 82 v82_43).set 0 v82_43) h25
@[congr] theorem octroilaw17_awake_r12_congr {env : Env} {h : Hp} {K : Env → Hp → Prop} : octroilaw17_awake_r12 env h K = octroilaw17_awake_r12 env h K := rfl

def octroilaw17_awake_D : Den := (sq (rg octroilaw17_awake_r0) (sq (rg octroilaw17_awake_r1) (sq (sq (rg octroilaw17_awake_r2) (cnd (Go.Operand.tmp 13) (sq (rg octroilaw17_awake_r3) (ex .ret)) (ex .normal))) (sq (rg octroilaw17_awake_r4) (sq (rg octroilaw17_awake_r5) (sq (rg octroilaw17_awake_r6) (sq (rg octroilaw17_awake_r7) (sq (rg octroilaw17_awake_r8) (sq (rg octroilaw17_awake_r9) (sq (rg octroilaw17_awake_r10) (sq (rg octroilaw17_awake_r11) (sq (rg octroilaw17_awake_r12) (ex .ret)))))))))))))

theorem octroilaw17_awake_eq : (den Try.prog 83 octroilaw17_awake_code).1 = octroilaw17_awake_D := by kernel_rfl

theorem octroilaw17_awake_ok {args : Array Value} {h : Hp} {Q : Value → Hp → Prop} (hn : args.size ≤ 83) (D : octroilaw17_awake_D (fin Try.prog [(Go.ResultVar.tmp 0)] Q) (env0 args) h) : Ok Try.prog 10 args h Q :=
  ok_of_den progIsOk Try.func10 (c := octroilaw17_awake_code) (by kernel_rfl) hn (by show (den Try.prog 83 octroilaw17_awake_code).1 _ _ _; rw [octroilaw17_awake_eq]; exact D)

/-! ### octroi/babel.New: function 11 -/
noncomputable def babel_New_code : Code := match Try.f11.body with | some c => c | none => .skip

/-- babel.go:56 -/
def babel_New_r0 (env : Env) (h : Hp) (K : Env → Hp → Prop) : Prop :=
  K (env.set 6 (Go.Value.pointer none)) h
@[congr] theorem babel_New_r0_congr {env : Env} {h : Hp} {K : Env → Hp → Prop} : babel_New_r0 env h K = babel_New_r0 env h K := rfl

/-- babel.go:57 -/
def babel_New_r1 (env : Env) (h : Hp) (K : Env → Hp → Prop) : Prop :=
  rd Try.prog (Builtin.min_ #[3, 3] 3 #[(env 2), (Go.Value.int Go.IntKind.i64 64)]) h fun v10_3 =>
  arun Try.prog (Instr.makeMap 70 none) h fun v11_4 h1 =>
  arun Try.prog (Instr.makeMap 71 none) h1 fun v12_5 h2 =>
  arun Try.prog (Instr.makeMap 72 none) h2 fun v13_6 h3 =>
  arun Try.prog (Instr.makeMap 70 none) h3 fun v14_7 h4 =>
  rd Try.prog (Instr.build 74 #[(0, (env 0)), (1, (env 1)), (2, v10_3), (4, v11_4), (5, v12_5), (6, v13_6), (7, v14_7)]) noHp fun v15_8 =>
  arun Try.prog (Instr.box 74 v15_8) h4 fun v16_9 h5 =>
  K (((((((((((env.set 7 (env 0)).set 8 (env 1)).set 9 (env 2)).set 10 v10_3).set 11 v11_4).set 12 v12_5).set 13 v13_6).set 14 v14_7).set 15 v15_8).set 16 v16_9).set 6 v16_9) h5
@[congr] theorem babel_New_r1_congr {env : Env} {h : Hp} {K : Env → Hp → Prop} : babel_New_r1 env h K = babel_New_r1 env h K := rfl

def babel_New_D : Den := (sq (rg babel_New_r0) (sq (rg babel_New_r1) (ex .ret)))

theorem babel_New_eq : (den Try.prog 17 babel_New_code).1 = babel_New_D := by kernel_rfl

theorem babel_New_ok {args : Array Value} {h : Hp} {Q : Value → Hp → Prop} (hn : args.size ≤ 17) (D : babel_New_D (fin Try.prog [(Go.ResultVar.tmp 6)] Q) (env0 args) h) : Ok Try.prog 11 args h Q :=
  ok_of_den progIsOk Try.func11 (c := babel_New_code) (by kernel_rfl) hn (by show (den Try.prog 17 babel_New_code).1 _ _ _; rw [babel_New_eq]; exact D)

/-! ### (*octroi/babel.Babel).Hear: function 12 -/
noncomputable def babel_Babel_Hear_code : Code := match Try.f12.body with | some c => c | none => .skip

/-- babel.go:100 -/
def babel_Babel_Hear_r0 (env : Env) (h : Hp) (K : Env → Hp → Prop) : Prop :=
  arun Try.prog (Instr.box 31 (env 3)) h fun v7_0 h1 =>
  K (((env.set 7 v7_0).set 8 (Go.Value.bool false)).set 9 (Go.Value.int Go.IntKind.i64 0)) h1
@[congr] theorem babel_Babel_Hear_r0_congr {env : Env} {h : Hp} {K : Env → Hp → Prop} : babel_Babel_Hear_r0 env h K = babel_Babel_Hear_r0 env h K := rfl

/-- babel.go:102 -/
def babel_Babel_Hear_r1 (env : Env) (h : Hp) (K : Env → Hp → Prop) : Prop :=
  rd Try.prog (bop Go.BinOp.lss 3 (Go.Operand.tmp 14) (Go.Operand.const (Go.Value.int Go.IntKind.i64 1)) (env 1) (Go.Value.int Go.IntKind.i64 1)) noHp fun v15_1 =>
  gd (yb v15_1 == some false) (fun h k => k (env 1) h) h fun v17_3 h1 =>
  gd (yb v15_1 == some false) (fun h k => rd Try.prog (bop Go.BinOp.gtr 3 (Go.Operand.tmp 17) (Go.Operand.const (Go.Value.int Go.IntKind.i64 32)) v17_3 (Go.Value.int Go.IntKind.i64 32)) noHp fun v => k v h) h1 fun v18_4 h2 =>
  rd Try.prog (pck v15_1 (Go.Value.bool true) v18_4) noHp fun v19_5 =>
  gd (yb v19_5 == some false) (fun h k => k (env 2) h) h2 fun v21_7 h3 =>
  gd (yb v19_5 == some false) (fun h k => rd Try.prog (bop Go.BinOp.lss 3 (Go.Operand.tmp 21) (Go.Operand.const (Go.Value.int Go.IntKind.i64 1)) v21_7 (Go.Value.int Go.IntKind.i64 1)) noHp fun v => k v h) h3 fun v22_8 h4 =>
  rd Try.prog (pck v19_5 (Go.Value.bool true) v22_8) noHp fun v23_9 =>
  gd (yb v23_9 == some false) (fun h k => k (env 2) h) h4 fun v25_11 h5 =>
  gd (yb v23_9 == some false) (fun h k => rd Try.prog (bop Go.BinOp.gtr 3 (Go.Operand.tmp 25) (Go.Operand.const (Go.Value.int Go.IntKind.i64 65535)) v25_11 (Go.Value.int Go.IntKind.i64 65535)) noHp fun v => k v h) h5 fun v26_12 h6 =>
  rd Try.prog (pck v23_9 (Go.Value.bool true) v26_12) noHp fun v27_13 =>
  gd (yb v27_13 == some false) (fun h k => rd Try.prog (Instr.fieldAt 31 (env 7) 0) noHp fun v => k v h) h6 fun v29_15 h7 =>
  gd (yb v27_13 == some false) (fun h k => rd Try.prog (Instr.loadAt 3 v29_15) h fun v => k v h) h7 fun v30_16 h8 =>
  gd (yb v27_13 == some false) (fun h k => rd Try.prog (bop Go.BinOp.neq 3 (Go.Operand.tmp 30) (Go.Operand.const (Go.Value.int Go.IntKind.i64 2)) v30_16 (Go.Value.int Go.IntKind.i64 2)) noHp fun v => k v h) h8 fun v31_17 h9 =>
  rd Try.prog (pck v27_13 (Go.Value.bool true) v31_17) noHp fun v32_18 =>
  gd (yb v32_18 == some false) (fun h k => rd Try.prog (Instr.fieldAt 31 (env 7) 4) noHp fun v => k v h) h9 fun v34_20 h10 =>
  gd (yb v32_18 == some false) (fun h k => rd Try.prog (Instr.loadAt 24 v34_20) h fun v => k v h) h10 fun v35_21 h11 =>
  gd (yb v32_18 == some false) (fun h k => Ok Try.prog 31 #[v35_21] h k) h11 fun v36_22 h12 =>
  gd (yb v32_18 == some false) (fun h k => rd Try.prog (Op.unary Go.UnOp.not v36_22) noHp fun v => k v h) h12 fun v37_23 h13 =>
  rd Try.prog (pck v32_18 (Go.Value.bool true) v37_23) noHp fun v38_24 =>
  gd (yb v38_24 == some false) (fun h k => rd Try.prog (Instr.fieldAt 31 (env 7) 3) noHp fun v => k v h) h13 fun v40_26 h14 =>
  gd (yb v38_24 == some false) (fun h k => rd Try.prog (Instr.loadAt 3 v40_26) h fun v => k v h) h14 fun v41_27 h15 =>
  gd (yb v38_24 == some false) (fun h k => rd Try.prog (bop Go.BinOp.lss 3 (Go.Operand.tmp 41) (Go.Operand.const (Go.Value.int Go.IntKind.i64 0)) v41_27 (Go.Value.int Go.IntKind.i64 0)) noHp fun v => k v h) h15 fun v42_28 h16 =>
  rd Try.prog (pck v38_24 (Go.Value.bool true) v42_28) noHp fun v43_29 =>
  gd (yb v43_29 == some false) (fun h k => rd Try.prog (Instr.fieldAt 31 (env 7) 3) noHp fun v => k v h) h16 fun v45_31 h17 =>
  gd (yb v43_29 == some false) (fun h k => rd Try.prog (Instr.loadAt 3 v45_31) h fun v => k v h) h17 fun v46_32 h18 =>
  gd (yb v43_29 == some false) (fun h k => rd Try.prog (bop Go.BinOp.gtr 3 (Go.Operand.tmp 46) (Go.Operand.const (Go.Value.int Go.IntKind.i64 65535)) v46_32 (Go.Value.int Go.IntKind.i64 65535)) noHp fun v => k v h) h18 fun v47_33 h19 =>
  rd Try.prog (pck v43_29 (Go.Value.bool true) v47_33) noHp fun v48_34 =>
  K ((((((((((((((((((((((((((((((((((((env.set 14 (env 1)).set 15 v15_1).set 16 v15_1).set 17 v17_3).set 18 v18_4).set 19 v19_5).set 20 v19_5).set 21 v21_7).set 22 v22_8).set 23 v23_9).set 24 v23_9).set 25 v25_11).set 26 v26_12).set 27 v27_13).set 28 v27_13).set 29 v29_15).set 30 v30_16).set 31 v31_17).set 32 v32_18).set 33 v32_18).set 34 v34_20).set 35 v35_21).set 36 v36_22).set 37 v37_23).set 38 v38_24).set 39 v38_24).set 40 v40_26).set 41 v41_27).set 42 v42_28).set 43 v43_29).set 44 v43_29).set 45 v45_31).set 46 v46_32).set 47 v47_33).set 48 v48_34).set 13 v48_34) h19
@[congr] theorem babel_Babel_Hear_r1_congr {env : Env} {h : Hp} {K : Env → Hp → Prop} : babel_Babel_Hear_r1 env h K = babel_Babel_Hear_r1 env h K := rfl

/-- babel.go:103 -/
def babel_Babel_Hear_r2 (env : Env) (h : Hp) (K : Env → Hp → Prop) : Prop :=
  K ((env.set 8 (Go.Value.bool false)).set 9 (Go.Value.int Go.IntKind.i64 1)) h
@[congr] theorem babel_Babel_Hear_r2_congr {env : Env} {h : Hp} {K : Env → Hp → Prop} : babel_Babel_Hear_r2 env h K = babel_Babel_Hear_r2 env h K := rfl

/-- babel.go:104 (in any order) -/
def babel_Babel_Hear_r3 (env : Env) (h : Hp) (K : Env → Hp → Prop) : Prop :=
  rd Try.prog (Instr.fieldAt 31 (env 7) 6) noHp fun v50_0 =>
  rd Try.prog (Instr.loadAt 29 v50_0) h fun v51_1 =>
  nck (env 0) (
  rd Try.prog (Instr.fieldAt 74 (env 0) 1) noHp fun v54_4 =>
  rd Try.prog (Instr.loadAt 3 v54_4) h fun v55_5 =>
  Ok Try.prog 17 #[v51_1, v55_5] h fun v56_6 h1 =>
  (True) ∧
  K ((((((((env.set 50 v50_0).set 51 v51_1).set 52 (env 0)).set 53 (env 0)).set 54 v54_4).set 55 v55_5).set 56 v56_6).set 49 v56_6) h1)
@[congr] theorem babel_Babel_Hear_r3_congr {env : Env} {h : Hp} {K : Env → Hp → Prop} : babel_Babel_Hear_r3 env h K = babel_Babel_Hear_r3 env h K := rfl

/-- babel.go:105 -/
def babel_Babel_Hear_r4 (env : Env) (h : Hp) (K : Env → Hp → Prop) : Prop :=
  K ((env.set 8 (Go.Value.bool false)).set 9 (Go.Value.int Go.IntKind.i64 6)) h
@[congr] theorem babel_Babel_Hear_r4_congr {env : Env} {h : Hp} {K : Env → Hp → Prop} : babel_Babel_Hear_r4 env h K = babel_Babel_Hear_r4 env h K := rfl

/-- babel.go:106 (in any order) -/
def babel_Babel_Hear_r5 (env : Env) (h : Hp) (K : Env → Hp → Prop) : Prop :=
  rd Try.prog (Instr.fieldAt 31 (env 7) 5) noHp fun v58_0 =>
  rd Try.prog (Instr.loadAt 28 v58_0) h fun v59_1 =>
  nck (env 0) (
  rd Try.prog (Instr.fieldAt 74 (env 0) 0) noHp fun v62_4 =>
  rd Try.prog (Instr.loadAt 28 v62_4) h fun v63_5 =>
  rd Try.prog (bop Go.BinOp.eql 28 (Go.Operand.tmp 59) (Go.Operand.tmp 63) v59_1 v63_5) noHp fun v64_6 =>
  K ((((((((env.set 58 v58_0).set 59 v59_1).set 60 (env 0)).set 61 (env 0)).set 62 v62_4).set 63 v63_5).set 64 v64_6).set 57 v64_6) h)
@[congr] theorem babel_Babel_Hear_r5_congr {env : Env} {h : Hp} {K : Env → Hp → Prop} : babel_Babel_Hear_r5 env h K = babel_Babel_Hear_r5 env h K := rfl

/-- babel.go:107 -/
def babel_Babel_Hear_r6 (env : Env) (h : Hp) (K : Env → Hp → Prop) : Prop :=
  K ((env.set 8 (Go.Value.bool false)).set 9 (Go.Value.int Go.IntKind.i64 0)) h
@[congr] theorem babel_Babel_Hear_r6_congr {env : Env} {h : Hp} {K : Env → Hp → Prop} : babel_Babel_Hear_r6 env h K = babel_Babel_Hear_r6 env h K := rfl

/-- babel.go:109 -/
def babel_Babel_Hear_r7 (env : Env) (h : Hp) (K : Env → Hp → Prop) : Prop :=
  rd Try.prog (Instr.fieldAt 31 (env 7) 4) noHp fun v65_0 =>
  rd Try.prog (Instr.loadAt 24 v65_0) h fun v66_1 =>
  rd Try.prog (Instr.build 77 #[(0, v66_1), (1, (env 1))]) noHp fun v68_3 =>
  arun Try.prog (Instr.alloc 77 true (Go.Value.tuple #[])) h fun v10_4 h1 =>
  arun Try.prog (Instr.storeAt 77 v10_4 v68_3) h1 fun _ h2 =>
  K (((((env.set 65 v65_0).set 66 v66_1).set 67 (env 1)).set 68 v68_3).set 10 v10_4) h2
@[congr] theorem babel_Babel_Hear_r7_congr {env : Env} {h : Hp} {K : Env → Hp → Prop} : babel_Babel_Hear_r7 env h K = babel_Babel_Hear_r7 env h K := rfl

/-- babel.go:110 (in any order) -/
def babel_Babel_Hear_r8 (env : Env) (h : Hp) (K : Env → Hp → Prop) : Prop :=
  nck (env 0) (
  rd Try.prog (Instr.fieldAt 74 (env 0) 5) noHp fun v72_2 =>
  rd Try.prog (Instr.loadAt 71 v72_2) h fun v73_3 =>
  rd Try.prog (Instr.loadAt 77 (env 10)) h fun v74_4 =>
  rd Try.prog (Instr.lookup 71 v73_3 v74_4 true) h fun v75_5 =>
  rd Try.prog (Instr.extract v75_5 0) noHp fun v76_7 =>
  rd Try.prog (Instr.extract v75_5 1) noHp fun v77_8 =>
  arun Try.prog (Instr.alloc 79 true (Go.Value.tuple #[])) h fun v11_9 h1 =>
  (rrun Try.prog (Instr.lookup 71 v73_3 v74_4 true) h1 = some v75_5 ∧ rrun Try.prog (Instr.loadAt 77 (env 10)) h1 = some v74_4 ∧ rrun Try.prog (Instr.loadAt 71 v72_2) h1 = some v73_3 ∧ True) ∧
  arun Try.prog (Instr.storeAt 79 v11_9 v76_7) h1 fun _ h2 =>
  (True) ∧
  K (((((((((((env.set 70 (env 0)).set 71 (env 0)).set 72 v72_2).set 73 v73_3).set 74 v74_4).set 75 v75_5).set 69 v75_5).set 76 v76_7).set 77 v77_8).set 11 v11_9).set 12 v77_8) h2)
@[congr] theorem babel_Babel_Hear_r8_congr {env : Env} {h : Hp} {K : Env → Hp → Prop} : babel_Babel_Hear_r8 env h K = babel_Babel_Hear_r8 env h K := rfl

/-- babel.go:112 -/
def babel_Babel_Hear_r9 (env : Env) (h : Hp) (K : Env → Hp → Prop) : Prop :=
  rd Try.prog (Instr.fieldAt 31 (env 7) 3) noHp fun v79_0 =>
  rd Try.prog (Instr.loadAt 3 v79_0) h fun v80_1 =>
  rd Try.prog (bop Go.BinOp.eql 3 (Go.Operand.tmp 80) (Go.Operand.const (Go.Value.int Go.IntKind.i64 65535)) v80_1 (Go.Value.int Go.IntKind.i64 65535)) noHp fun v81_2 =>
  gd (yb v81_2 == some false) (fun h k => k (env 0) h) h fun v83_4 h1 =>
  gd (yb v81_2 == some false) (fun h k => rd Try.prog (Instr.loadAt 31 (env 7)) h fun v => k v h) h1 fun v84_5 h2 =>
  gd (yb v81_2 == some false) (fun h k => Ok Try.prog 33 #[v84_5] h k) h2 fun v85_6 h3 =>
  gd (yb v81_2 == some false) (fun h k => rd Try.prog (Instr.extract v85_6 0) noHp fun v => k v h) h3 fun v86_7 h4 =>
  gd (yb v81_2 == some false) (fun h k => rd Try.prog (Instr.extract v85_6 1) noHp fun v => k v h) h4 fun v87_8 h5 =>
  gd (yb v81_2 == some false) (fun h k => Ok Try.prog 32 #[v83_4, v86_7, v87_8] h k) h5 fun v88_9 h6 =>
  gd (yb v81_2 == some false) (fun h k => rd Try.prog (Op.unary Go.UnOp.not v88_9) noHp fun v => k v h) h6 fun v89_10 h7 =>
  rd Try.prog (pck v81_2 (Go.Value.bool true) v89_10) noHp fun v90_11 =>
  K (((((((((((((env.set 79 v79_0).set 80 v80_1).set 81 v81_2).set 82 v81_2).set 83 v83_4).set 84 v84_5).set 85 v85_6).set 86 v86_7).set 87 v87_8).set 88 v88_9).set 89 v89_10).set 90 v90_11).set 78 v90_11) h7
@[congr] theorem babel_Babel_Hear_r9_congr {env : Env} {h : Hp} {K : Env → Hp → Prop} : babel_Babel_Hear_r9 env h K = babel_Babel_Hear_r9 env h K := rfl

/-- babel.go:113 (in any order) -/
def babel_Babel_Hear_r10 (env : Env) (h : Hp) (K : Env → Hp → Prop) : Prop :=
  nck (env 0) (
  rd Try.prog (Instr.fieldAt 74 (env 0) 5) noHp fun v93_2 =>
  rd Try.prog (Instr.loadAt 71 v93_2) h fun v94_3 =>
  rd Try.prog (Instr.loadAt 77 (env 10)) h fun v95_4 =>
  arun Try.prog (Builtin.delete_ #[71, 77] 0 #[v94_3, v95_4]) h fun _ h1 =>
  (True) ∧
  K (((((env.set 91 (env 0)).set 92 (env 0)).set 93 v93_2).set 94 v94_3).set 95 v95_4) h1)
@[congr] theorem babel_Babel_Hear_r10_congr {env : Env} {h : Hp} {K : Env → Hp → Prop} : babel_Babel_Hear_r10 env h K = babel_Babel_Hear_r10 env h K := rfl

/-- babel.go:114 -/
def babel_Babel_Hear_r11 (env : Env) (h : Hp) (K : Env → Hp → Prop) : Prop :=
  K (((env.set 96 (env 12)).set 8 (env 12)).set 9 (Go.Value.int Go.IntKind.i64 0)) h
@[congr] theorem babel_Babel_Hear_r11_congr {env : Env} {h : Hp} {K : Env → Hp → Prop} : babel_Babel_Hear_r11 env h K = babel_Babel_Hear_r11 env h K := rfl

/-- babel.go:115 (in any order) -/
def babel_Babel_Hear_r12 (env : Env) (h : Hp) (K : Env → Hp → Prop) : Prop :=
  rd Try.prog (Op.unary Go.UnOp.not (env 12)) noHp fun v99_1 =>
  gd (yb v99_1 == some true) (fun h k => k (env 0) h) h fun v101_3 h1 =>
  gd (yb v99_1 == some true) (fun h k => nck v101_3 (k v101_3 h)) h1 fun v102_4 h2 =>
  gd (yb v99_1 == some true) (fun h k => rd Try.prog (Instr.fieldAt 74 v102_4 5) noHp fun v => k v h) h2 fun v103_5 h3 =>
  gd (yb v99_1 == some true) (fun h k => rd Try.prog (Instr.loadAt 71 v103_5) h fun v => k v h) h3 fun v104_6 h4 =>
  gd (yb v99_1 == some true) (fun h k => rd Try.prog (Builtin.len_ #[71] 3 #[v104_6]) h fun v => k v h) h4 fun v105_7 h5 =>
  gd (yb v99_1 == some true) (fun h k => k (env 0) h) h5 fun v106_8 h6 =>
  gd (yb v99_1 == some true) (fun h k => nck v106_8 (k v106_8 h)) h6 fun v107_9 h7 =>
  gd (yb v99_1 == some true) (fun h k => rd Try.prog (Instr.fieldAt 74 v107_9 2) noHp fun v => k v h) h7 fun v108_10 h8 =>
  gd (yb v99_1 == some true) (fun h k => rd Try.prog (Instr.loadAt 3 v108_10) h fun v => k v h) h8 fun v109_11 h9 =>
  gd (yb v99_1 == some true) (fun h k => rd Try.prog (bop Go.BinOp.geq 3 (Go.Operand.tmp 105) (Go.Operand.tmp 109) v105_7 v109_11) noHp fun v => k v h) h9 fun v110_12 h10 =>
  rd Try.prog (pck v99_1 v110_12 (Go.Value.bool false)) noHp fun v111_13 =>
  K (((((((((((((((env.set 98 (env 12)).set 99 v99_1).set 100 v99_1).set 101 v101_3).set 102 v102_4).set 103 v103_5).set 104 v104_6).set 105 v105_7).set 106 v106_8).set 107 v107_9).set 108 v108_10).set 109 v109_11).set 110 v110_12).set 111 v111_13).set 97 v111_13) h10
@[congr] theorem babel_Babel_Hear_r12_congr {env : Env} {h : Hp} {K : Env → Hp → Prop} : babel_Babel_Hear_r12 env h K = babel_Babel_Hear_r12 env h K := rfl

/-- babel.go:116 -/
def babel_Babel_Hear_r13 (env : Env) (h : Hp) (K : Env → Hp → Prop) : Prop :=
  K ((env.set 8 (Go.Value.bool false)).set 9 (Go.Value.int Go.IntKind.i64 4)) h
@[congr] theorem babel_Babel_Hear_r13_congr {env : Env} {h : Hp} {K : Env → Hp → Prop} : babel_Babel_Hear_r13 env h K = babel_Babel_Hear_r13 env h K := rfl

/-- babel.go:118 (in any order) -/
def babel_Babel_Hear_r14 (env : Env) (h : Hp) (K : Env → Hp → Prop) : Prop :=
  nck (env 0) (
  rd Try.prog (Instr.fieldAt 74 (env 0) 5) noHp fun v114_2 =>
  rd Try.prog (Instr.loadAt 71 v114_2) h fun v115_3 =>
  rd Try.prog (Instr.loadAt 77 (env 10)) h fun v116_4 =>
  rd Try.prog (Instr.loadAt 31 (env 7)) h fun v118_6 =>
  rd Try.prog (Instr.build 79 #[(0, (env 2)), (1, v118_6)]) noHp fun v119_7 =>
  arun Try.prog (Instr.mapUpdate 71 v115_3 v116_4 v119_7) h fun _ h1 =>
  (True) ∧
  K ((((((((env.set 112 (env 0)).set 113 (env 0)).set 114 v114_2).set 115 v115_3).set 116 v116_4).set 117 (env 2)).set 118 v118_6).set 119 v119_7) h1)
@[congr] theorem babel_Babel_Hear_r14_congr {env : Env} {h : Hp} {K : Env → Hp → Prop} : babel_Babel_Hear_r14 env h K = babel_Babel_Hear_r14 env h K := rfl

/-- babel.go:119 -/
def babel_Babel_Hear_r15 (env : Env) (h : Hp) (K : Env → Hp → Prop) : Prop :=
  K ((env.set 8 (Go.Value.bool true)).set 9 (Go.Value.int Go.IntKind.i64 0)) h
@[congr] theorem babel_Babel_Hear_r15_congr {env : Env} {h : Hp} {K : Env → Hp → Prop} : babel_Babel_Hear_r15 env h K = babel_Babel_Hear_r15 env h K := rfl

def babel_Babel_Hear_D : Den := (sq (rg babel_Babel_Hear_r0) (sq (blk 0 (sq (rg babel_Babel_Hear_r1) (cnd (Go.Operand.tmp 13) (sq (rg babel_Babel_Hear_r2) (ex .ret)) (sq (rg babel_Babel_Hear_r3) (cnd (Go.Operand.tmp 49) (sq (rg babel_Babel_Hear_r4) (ex .ret)) (sq (rg babel_Babel_Hear_r5) (cnd (Go.Operand.tmp 57) (sq (rg babel_Babel_Hear_r6) (ex .ret)) (ex .normal)))))))) (sq (rg babel_Babel_Hear_r7) (sq (rg babel_Babel_Hear_r8) (sq (blk 1 (sq (rg babel_Babel_Hear_r9) (cnd (Go.Operand.tmp 78) (sq (rg babel_Babel_Hear_r10) (sq (rg babel_Babel_Hear_r11) (ex .ret))) (sq (rg babel_Babel_Hear_r12) (cnd (Go.Operand.tmp 97) (sq (rg babel_Babel_Hear_r13) (ex .ret)) (ex .normal)))))) (sq (rg babel_Babel_Hear_r14) (sq (rg babel_Babel_Hear_r15) (ex .ret))))))))

theorem babel_Babel_Hear_eq : (den Try.prog 120 babel_Babel_Hear_code).1 = babel_Babel_Hear_D := by kernel_rfl

theorem babel_Babel_Hear_ok {args : Array Value} {h : Hp} {Q : Value → Hp → Prop} (hn : args.size ≤ 120) (D : babel_Babel_Hear_D (fin Try.prog [(Go.ResultVar.tmp 8), (Go.ResultVar.tmp 9)] Q) (env0 args) h) : Ok Try.prog 12 args h Q :=
  ok_of_den progIsOk Try.func12 (c := babel_Babel_Hear_code) (by kernel_rfl) hn (by show (den Try.prog 120 babel_Babel_Hear_code).1 _ _ _; rw [babel_Babel_Hear_eq]; exact D)

/-! ### (*octroi/babel.Babel).All: function 13 -/
noncomputable def babel_Babel_All_code : Code := match Try.f13.body with | some c => c | none => .skip

/-- babel.go:177 -/
def babel_Babel_All_r0 (env : Env) (h : Hp) (K : Env → Hp → Prop) : Prop :=
  K (env.set 2 (Go.Value.slice none 0 0)) h
@[congr] theorem babel_Babel_All_r0_congr {env : Env} {h : Hp} {K : Env → Hp → Prop} : babel_Babel_All_r0 env h K = babel_Babel_All_r0 env h K := rfl

/-- babel.go:178 -/
def babel_Babel_All_r1 (env : Env) (h : Hp) (K : Env → Hp → Prop) : Prop :=
  K (env.set 3 (Go.Value.slice none 0 0)) h
@[congr] theorem babel_Babel_All_r1_congr {env : Env} {h : Hp} {K : Env → Hp → Prop} : babel_Babel_All_r1 env h K = babel_Babel_All_r1 env h K := rfl

/-- babel.go:179 -/
def babel_Babel_All_r2 (env : Env) (h : Hp) (K : Env → Hp → Prop) : Prop :=
  Ok Try.prog 34 #[(env 0)] h fun v10_1 h1 =>
  rd Try.prog (Builtin.len_ #[88] 3 #[v10_1]) h1 fun v11_2 =>
  K ((((env.set 9 (env 0)).set 10 v10_1).set 11 v11_2).set 12 (Go.Value.int Go.IntKind.i64 0)) h1
@[congr] theorem babel_Babel_All_r2_congr {env : Env} {h : Hp} {K : Env → Hp → Prop} : babel_Babel_All_r2 env h K = babel_Babel_All_r2 env h K := rfl

/-- babel.go:179 -/
def babel_Babel_All_r3 (env : Env) (h : Hp) (K : Env → Hp → Prop) : Prop :=
  rd Try.prog (bop Go.BinOp.lss 3 (Go.Operand.tmp 12) (Go.Operand.tmp 11) (env 12) (env 11)) noHp fun v13_0 =>
  K (env.set 13 v13_0) h
@[congr] theorem babel_Babel_All_r3_congr {env : Env} {h : Hp} {K : Env → Hp → Prop} : babel_Babel_All_r3 env h K = babel_Babel_All_r3 env h K := rfl

/-- babel.go:179 -/
def babel_Babel_All_r4 (env : Env) (h : Hp) (K : Env → Hp → Prop) : Prop :=
  rd Try.prog (Instr.indexAt 88 (env 10) (env 12)) noHp fun v14_0 =>
  rd Try.prog (Instr.loadAt 24 v14_0) h fun v15_1 =>
  arun Try.prog (Instr.alloc 24 true (Go.Value.tuple #[])) h fun v5_2 h1 =>
  arun Try.prog (Instr.storeAt 24 v5_2 v15_1) h1 fun _ h2 =>
  K (((env.set 14 v14_0).set 15 v15_1).set 5 v5_2) h2
@[congr] theorem babel_Babel_All_r4_congr {env : Env} {h : Hp} {K : Env → Hp → Prop} : babel_Babel_All_r4 env h K = babel_Babel_All_r4 env h K := rfl

/-- babel.go:180 -/
def babel_Babel_All_r5 (env : Env) (h : Hp) (K : Env → Hp → Prop) : Prop :=
  rd Try.prog (Instr.loadAt 24 (env 5)) h fun v18_1 =>
  Ok Try.prog 35 #[(env 0), v18_1] h fun v19_2 h1 =>
  rd Try.prog (Instr.extract v19_2 0) noHp fun v20_4 =>
  rd Try.prog (Instr.extract v19_2 1) noHp fun v21_5 =>
  rd Try.prog (Instr.extract v19_2 2) noHp fun v22_6 =>
  arun Try.prog (Instr.alloc 31 true (Go.Value.tuple #[])) h1 fun v6_7 h2 =>
  arun Try.prog (Instr.storeAt 31 v6_7 v20_4) h2 fun _ h3 =>
  K ((((((((((env.set 17 (env 0)).set 18 v18_1).set 19 v19_2).set 16 v19_2).set 20 v20_4).set 21 v21_5).set 22 v22_6).set 6 v6_7).set 7 v21_5).set 8 v22_6) h3
@[congr] theorem babel_Babel_All_r5_congr {env : Env} {h : Hp} {K : Env → Hp → Prop} : babel_Babel_All_r5 env h K = babel_Babel_All_r5 env h K := rfl

/-- babel.go:180 -/
def babel_Babel_All_r6 (env : Env) (h : Hp) (K : Env → Hp → Prop) : Prop :=
  K (env.set 23 (env 8)) h
@[congr] theorem babel_Babel_All_r6_congr {env : Env} {h : Hp} {K : Env → Hp → Prop} : babel_Babel_All_r6 env h K = babel_Babel_All_r6 env h K := rfl

/-- babel.go:181 (in any order) -/
def babel_Babel_All_r7 (env : Env) (h : Hp) (K : Env → Hp → Prop) : Prop :=
  rd Try.prog (Instr.loadAt 24 (env 5)) h fun v25_1 =>
  nck (env 0) (
  rd Try.prog (Instr.fieldAt 74 (env 0) 1) noHp fun v28_4 =>
  rd Try.prog (Instr.loadAt 3 v28_4) h fun v29_5 =>
  rd Try.prog (Instr.fieldAt 31 (env 6) 3) noHp fun v30_6 =>
  rd Try.prog (Instr.loadAt 3 v30_6) h fun v31_7 =>
  rd Try.prog (Instr.fieldAt 31 (env 6) 6) noHp fun v33_9 =>
  rd Try.prog (Instr.loadAt 29 v33_9) h fun v34_10 =>
  rd Try.prog (Instr.build 38 #[(0, v25_1), (1, v29_5), (2, (Go.Value.int Go.IntKind.i64 115)), (3, v31_7), (4, (env 7)), (5, v34_10)]) noHp fun v35_11 =>
  arun Try.prog (Instr.buildSlice 35 1 #[(0, v35_11)]) h fun v36_12 h1 =>
  (True) ∧
  arun Try.prog (Builtin.append_ #[35, 35] 35 #[(env 3), v36_12]) h1 fun v37_13 h2 =>
  (True) ∧
  K (((((((((((((((env.set 24 (env 3)).set 25 v25_1).set 26 (env 0)).set 27 (env 0)).set 28 v28_4).set 29 v29_5).set 30 v30_6).set 31 v31_7).set 32 (env 7)).set 33 v33_9).set 34 v34_10).set 35 v35_11).set 36 v36_12).set 37 v37_13).set 3 v37_13) h2)
@[congr] theorem babel_Babel_All_r7_congr {env : Env} {h : Hp} {K : Env → Hp → Prop} : babel_Babel_All_r7 env h K = babel_Babel_All_r7 env h K := rfl

/-- babel.go:179 -/
def babel_Babel_All_r8 (env : Env) (h : Hp) (K : Env → Hp → Prop) : Prop :=
  rd Try.prog (bop Go.BinOp.add 3 (Go.Operand.tmp 12) (Go.Operand.const (Go.Value.int Go.IntKind.i64 1)) (env 12) (Go.Value.int Go.IntKind.i64 1)) noHp fun v38_0 =>
  K ((env.set 38 v38_0).set 12 v38_0) h
@[congr] theorem babel_Babel_All_r8_congr {env : Env} {h : Hp} {K : Env → Hp → Prop} : babel_Babel_All_r8 env h K = babel_Babel_All_r8 env h K := rfl

def babel_Babel_All_L0 : Den := (sq (rg babel_Babel_All_r3) (sq (cnd (Go.Operand.tmp 13) (ex .normal) (ex (.exit 0))) (sq (blk 1 (sq (rg babel_Babel_All_r4) (sq (rg babel_Babel_All_r5) (sq (rg babel_Babel_All_r6) (cnd (Go.Operand.tmp 23) (rg babel_Babel_All_r7) (ex .normal)))))) (rg babel_Babel_All_r8))))

/-- babel.go:184 -/
def babel_Babel_All_r9 (env : Env) (h : Hp) (K : Env → Hp → Prop) : Prop :=
  K ((env.set 39 (env 3)).set 2 (env 3)) h
@[congr] theorem babel_Babel_All_r9_congr {env : Env} {h : Hp} {K : Env → Hp → Prop} : babel_Babel_All_r9 env h K = babel_Babel_All_r9 env h K := rfl

def babel_Babel_All_D : Den := (sq (rg babel_Babel_All_r0) (sq (rg babel_Babel_All_r1) (sq (sq (rg babel_Babel_All_r2) (blk 0 (lp babel_Babel_All_L0))) (sq (rg babel_Babel_All_r9) (ex .ret)))))

theorem babel_Babel_All_eq : (den Try.prog 40 babel_Babel_All_code).1 = babel_Babel_All_D := by kernel_rfl

theorem babel_Babel_All_ok {args : Array Value} {h : Hp} {Q : Value → Hp → Prop} (hn : args.size ≤ 40) (D : babel_Babel_All_D (fin Try.prog [(Go.ResultVar.tmp 2)] Q) (env0 args) h) : Ok Try.prog 13 args h Q :=
  ok_of_den progIsOk Try.func13 (c := babel_Babel_All_code) (by kernel_rfl) hn (by show (den Try.prog 40 babel_Babel_All_code).1 _ _ _; rw [babel_Babel_All_eq]; exact D)

/-! ### (*octroi/babel.Babel).Tell: function 14 -/
noncomputable def babel_Babel_Tell_code : Code := match Try.f14.body with | some c => c | none => .skip

/-- babel.go:197 -/
def babel_Babel_Tell_r0 (env : Env) (h : Hp) (K : Env → Hp → Prop) : Prop :=
  K (env.set 2 (Go.Value.slice none 0 0)) h
@[congr] theorem babel_Babel_Tell_r0_congr {env : Env} {h : Hp} {K : Env → Hp → Prop} : babel_Babel_Tell_r0 env h K = babel_Babel_Tell_r0 env h K := rfl

/-- babel.go:198 -/
def babel_Babel_Tell_r1 (env : Env) (h : Hp) (K : Env → Hp → Prop) : Prop :=
  K ((env.set 3 (Go.Value.slice none 0 0)).set 4 (Go.Value.slice none 0 0)) h
@[congr] theorem babel_Babel_Tell_r1_congr {env : Env} {h : Hp} {K : Env → Hp → Prop} : babel_Babel_Tell_r1 env h K = babel_Babel_Tell_r1 env h K := rfl

/-- babel.go:199 -/
def babel_Babel_Tell_r2 (env : Env) (h : Hp) (K : Env → Hp → Prop) : Prop :=
  Ok Try.prog 34 #[(env 0)] h fun v15_1 h1 =>
  rd Try.prog (Builtin.len_ #[88] 3 #[v15_1]) h1 fun v16_2 =>
  K ((((env.set 14 (env 0)).set 15 v15_1).set 16 v16_2).set 17 (Go.Value.int Go.IntKind.i64 0)) h1
@[congr] theorem babel_Babel_Tell_r2_congr {env : Env} {h : Hp} {K : Env → Hp → Prop} : babel_Babel_Tell_r2 env h K = babel_Babel_Tell_r2 env h K := rfl

/-- babel.go:199 -/
def babel_Babel_Tell_r3 (env : Env) (h : Hp) (K : Env → Hp → Prop) : Prop :=
  rd Try.prog (bop Go.BinOp.lss 3 (Go.Operand.tmp 17) (Go.Operand.tmp 16) (env 17) (env 16)) noHp fun v18_0 =>
  K (env.set 18 v18_0) h
@[congr] theorem babel_Babel_Tell_r3_congr {env : Env} {h : Hp} {K : Env → Hp → Prop} : babel_Babel_Tell_r3 env h K = babel_Babel_Tell_r3 env h K := rfl

/-- babel.go:199 -/
def babel_Babel_Tell_r4 (env : Env) (h : Hp) (K : Env → Hp → Prop) : Prop :=
  rd Try.prog (Instr.indexAt 88 (env 15) (env 17)) noHp fun v19_0 =>
  rd Try.prog (Instr.loadAt 24 v19_0) h fun v20_1 =>
  arun Try.prog (Instr.alloc 24 true (Go.Value.tuple #[])) h fun v6_2 h1 =>
  arun Try.prog (Instr.storeAt 24 v6_2 v20_1) h1 fun _ h2 =>
  K (((env.set 19 v19_0).set 20 v20_1).set 6 v6_2) h2
@[congr] theorem babel_Babel_Tell_r4_congr {env : Env} {h : Hp} {K : Env → Hp → Prop} : babel_Babel_Tell_r4 env h K = babel_Babel_Tell_r4 env h K := rfl

/-- babel.go:200 -/
def babel_Babel_Tell_r5 (env : Env) (h : Hp) (K : Env → Hp → Prop) : Prop :=
  rd Try.prog (Instr.loadAt 24 (env 6)) h fun v23_1 =>
  Ok Try.prog 35 #[(env 0), v23_1] h fun v24_2 h1 =>
  rd Try.prog (Instr.extract v24_2 0) noHp fun v25_4 =>
  rd Try.prog (Instr.extract v24_2 1) noHp fun v26_5 =>
  rd Try.prog (Instr.extract v24_2 2) noHp fun v27_6 =>
  arun Try.prog (Instr.alloc 31 true (Go.Value.tuple #[])) h1 fun v7_7 h2 =>
  arun Try.prog (Instr.storeAt 31 v7_7 v25_4) h2 fun _ h3 =>
  K ((((((((((env.set 22 (env 0)).set 23 v23_1).set 24 v24_2).set 21 v24_2).set 25 v25_4).set 26 v26_5).set 27 v27_6).set 7 v7_7).set 8 v26_5).set 9 v27_6) h3
@[congr] theorem babel_Babel_Tell_r5_congr {env : Env} {h : Hp} {K : Env → Hp → Prop} : babel_Babel_Tell_r5 env h K = babel_Babel_Tell_r5 env h K := rfl

/-- babel.go:200 -/
def babel_Babel_Tell_r6 (env : Env) (h : Hp) (K : Env → Hp → Prop) : Prop :=
  K (env.set 28 (env 9)) h
@[congr] theorem babel_Babel_Tell_r6_congr {env : Env} {h : Hp} {K : Env → Hp → Prop} : babel_Babel_Tell_r6 env h K = babel_Babel_Tell_r6 env h K := rfl

/-- babel.go:201 -/
def babel_Babel_Tell_r7 (env : Env) (h : Hp) (K : Env → Hp → Prop) : Prop :=
  rd Try.prog (Instr.loadAt 31 (env 7)) h fun v30_1 =>
  arun Try.prog (Instr.buildSlice 40 1 #[(0, v30_1)]) h fun v31_2 h1 =>
  arun Try.prog (Builtin.append_ #[40, 40] 40 #[(env 3), v31_2]) h1 fun v32_3 h2 =>
  K (((((env.set 29 (env 3)).set 30 v30_1).set 31 v31_2).set 32 v32_3).set 3 v32_3) h2
@[congr] theorem babel_Babel_Tell_r7_congr {env : Env} {h : Hp} {K : Env → Hp → Prop} : babel_Babel_Tell_r7 env h K = babel_Babel_Tell_r7 env h K := rfl

/-- babel.go:202 (in any order) -/
def babel_Babel_Tell_r8 (env : Env) (h : Hp) (K : Env → Hp → Prop) : Prop :=
  nck (env 0) (
  rd Try.prog (Instr.fieldAt 74 (env 0) 7) noHp fun v36_2 =>
  rd Try.prog (Instr.loadAt 70 v36_2) h fun v37_3 =>
  rd Try.prog (Instr.loadAt 24 (env 6)) h fun v38_4 =>
  rd Try.prog (Instr.lookup 70 v37_3 v38_4 true) h fun v39_5 =>
  rd Try.prog (Instr.extract v39_5 0) noHp fun v40_7 =>
  rd Try.prog (Instr.extract v39_5 1) noHp fun v41_8 =>
  arun Try.prog (Instr.alloc 31 true (Go.Value.tuple #[])) h fun v10_9 h1 =>
  (rrun Try.prog (Instr.lookup 70 v37_3 v38_4 true) h1 = some v39_5 ∧ rrun Try.prog (Instr.loadAt 24 (env 6)) h1 = some v38_4 ∧ rrun Try.prog (Instr.loadAt 70 v36_2) h1 = some v37_3 ∧ True) ∧
  arun Try.prog (Instr.storeAt 31 v10_9 v40_7) h1 fun _ h2 =>
  (True) ∧
  K (((((((((((env.set 34 (env 0)).set 35 (env 0)).set 36 v36_2).set 37 v37_3).set 38 v38_4).set 39 v39_5).set 33 v39_5).set 40 v40_7).set 41 v41_8).set 10 v10_9).set 11 v41_8) h2)
@[congr] theorem babel_Babel_Tell_r8_congr {env : Env} {h : Hp} {K : Env → Hp → Prop} : babel_Babel_Tell_r8 env h K = babel_Babel_Tell_r8 env h K := rfl

/-- babel.go:202 -/
def babel_Babel_Tell_r9 (env : Env) (h : Hp) (K : Env → Hp → Prop) : Prop :=
  K (env.set 42 (env 11)) h
@[congr] theorem babel_Babel_Tell_r9_congr {env : Env} {h : Hp} {K : Env → Hp → Prop} : babel_Babel_Tell_r9 env h K = babel_Babel_Tell_r9 env h K := rfl

/-- babel.go:203 -/
def babel_Babel_Tell_r10 (env : Env) (h : Hp) (K : Env → Hp → Prop) : Prop :=
  rd Try.prog (Instr.fieldAt 31 (env 10) 3) noHp fun v43_0 =>
  arun Try.prog (Instr.storeAt 3 v43_0 (Go.Value.int Go.IntKind.i64 65535)) h fun _ h1 =>
  rd Try.prog (Instr.fieldAt 31 (env 10) 6) noHp fun v44_2 =>
  arun Try.prog (Instr.storeAt 29 v44_2 (Go.Value.int Go.IntKind.u16 0)) h1 fun _ h2 =>
  K ((env.set 43 v43_0).set 44 v44_2) h2
@[congr] theorem babel_Babel_Tell_r10_congr {env : Env} {h : Hp} {K : Env → Hp → Prop} : babel_Babel_Tell_r10 env h K = babel_Babel_Tell_r10 env h K := rfl

/-- babel.go:204 -/
def babel_Babel_Tell_r11 (env : Env) (h : Hp) (K : Env → Hp → Prop) : Prop :=
  rd Try.prog (Instr.loadAt 31 (env 10)) h fun v46_1 =>
  arun Try.prog (Instr.buildSlice 40 1 #[(0, v46_1)]) h fun v47_2 h1 =>
  arun Try.prog (Builtin.append_ #[40, 40] 40 #[(env 4), v47_2]) h1 fun v48_3 h2 =>
  K (((((env.set 45 (env 4)).set 46 v46_1).set 47 v47_2).set 48 v48_3).set 4 v48_3) h2
@[congr] theorem babel_Babel_Tell_r11_congr {env : Env} {h : Hp} {K : Env → Hp → Prop} : babel_Babel_Tell_r11 env h K = babel_Babel_Tell_r11 env h K := rfl

/-- babel.go:199 -/
def babel_Babel_Tell_r12 (env : Env) (h : Hp) (K : Env → Hp → Prop) : Prop :=
  rd Try.prog (bop Go.BinOp.add 3 (Go.Operand.tmp 17) (Go.Operand.const (Go.Value.int Go.IntKind.i64 1)) (env 17) (Go.Value.int Go.IntKind.i64 1)) noHp fun v49_0 =>
  K ((env.set 49 v49_0).set 17 v49_0) h
@[congr] theorem babel_Babel_Tell_r12_congr {env : Env} {h : Hp} {K : Env → Hp → Prop} : babel_Babel_Tell_r12 env h K = babel_Babel_Tell_r12 env h K := rfl

def babel_Babel_Tell_L0 : Den := (sq (rg babel_Babel_Tell_r3) (sq (cnd (Go.Operand.tmp 18) (ex .normal) (ex (.exit 0))) (sq (blk 1 (sq (rg babel_Babel_Tell_r4) (sq (rg babel_Babel_Tell_r5) (sq (rg babel_Babel_Tell_r6) (cnd (Go.Operand.tmp 28) (rg babel_Babel_Tell_r7) (sq (rg babel_Babel_Tell_r8) (sq (rg babel_Babel_Tell_r9) (cnd (Go.Operand.tmp 42) (sq (rg babel_Babel_Tell_r10) (rg babel_Babel_Tell_r11)) (ex .normal))))))))) (rg babel_Babel_Tell_r12))))

/-- babel.go:207 -/
def babel_Babel_Tell_r13 (env : Env) (h : Hp) (K : Env → Hp → Prop) : Prop :=
  nck (env 0) (
  rd Try.prog (Instr.fieldAt 74 (env 0) 7) noHp fun v52_2 =>
  rd Try.prog (Instr.loadAt 70 v52_2) h fun v53_3 =>
  arun Try.prog (Builtin.clear_ #[70] 0 #[v53_3]) h fun _ h1 =>
  K ((((env.set 50 (env 0)).set 51 (env 0)).set 52 v52_2).set 53 v53_3) h1)
@[congr] theorem babel_Babel_Tell_r13_congr {env : Env} {h : Hp} {K : Env → Hp → Prop} : babel_Babel_Tell_r13 env h K = babel_Babel_Tell_r13 env h K := rfl

/-- babel.go:208 -/
def babel_Babel_Tell_r14 (env : Env) (h : Hp) (K : Env → Hp → Prop) : Prop :=
  rd Try.prog (Builtin.len_ #[40] 3 #[(env 3)]) h fun v55_1 =>
  K (((env.set 54 (env 3)).set 55 v55_1).set 56 (Go.Value.int Go.IntKind.i64 0)) h
@[congr] theorem babel_Babel_Tell_r14_congr {env : Env} {h : Hp} {K : Env → Hp → Prop} : babel_Babel_Tell_r14 env h K = babel_Babel_Tell_r14 env h K := rfl

/-- babel.go:208 -/
def babel_Babel_Tell_r15 (env : Env) (h : Hp) (K : Env → Hp → Prop) : Prop :=
  rd Try.prog (bop Go.BinOp.lss 3 (Go.Operand.tmp 56) (Go.Operand.tmp 55) (env 56) (env 55)) noHp fun v57_0 =>
  K (env.set 57 v57_0) h
@[congr] theorem babel_Babel_Tell_r15_congr {env : Env} {h : Hp} {K : Env → Hp → Prop} : babel_Babel_Tell_r15 env h K = babel_Babel_Tell_r15 env h K := rfl

/-- babel.go:208 -/
def babel_Babel_Tell_r16 (env : Env) (h : Hp) (K : Env → Hp → Prop) : Prop :=
  rd Try.prog (Instr.indexAt 40 (env 54) (env 56)) noHp fun v58_0 =>
  rd Try.prog (Instr.loadAt 31 v58_0) h fun v59_1 =>
  arun Try.prog (Instr.alloc 31 true (Go.Value.tuple #[])) h fun v13_2 h1 =>
  arun Try.prog (Instr.storeAt 31 v13_2 v59_1) h1 fun _ h2 =>
  K (((env.set 58 v58_0).set 59 v59_1).set 13 v13_2) h2
@[congr] theorem babel_Babel_Tell_r16_congr {env : Env} {h : Hp} {K : Env → Hp → Prop} : babel_Babel_Tell_r16 env h K = babel_Babel_Tell_r16 env h K := rfl

/-- babel.go:209 (in any order) -/
def babel_Babel_Tell_r17 (env : Env) (h : Hp) (K : Env → Hp → Prop) : Prop :=
  nck (env 0) (
  rd Try.prog (Instr.fieldAt 74 (env 0) 7) noHp fun v62_2 =>
  rd Try.prog (Instr.loadAt 70 v62_2) h fun v63_3 =>
  rd Try.prog (Instr.fieldAt 31 (env 13) 4) noHp fun v64_4 =>
  rd Try.prog (Instr.loadAt 24 v64_4) h fun v65_5 =>
  rd Try.prog (Instr.loadAt 31 (env 13)) h fun v66_6 =>
  arun Try.prog (Instr.mapUpdate 70 v63_3 v65_5 v66_6) h fun _ h1 =>
  (True) ∧
  K (((((((env.set 60 (env 0)).set 61 (env 0)).set 62 v62_2).set 63 v63_3).set 64 v64_4).set 65 v65_5).set 66 v66_6) h1)
@[congr] theorem babel_Babel_Tell_r17_congr {env : Env} {h : Hp} {K : Env → Hp → Prop} : babel_Babel_Tell_r17 env h K = babel_Babel_Tell_r17 env h K := rfl

/-- babel.go:210 -/
def babel_Babel_Tell_r18 (env : Env) (h : Hp) (K : Env → Hp → Prop) : Prop :=
  rd Try.prog (Instr.fieldAt 31 (env 13) 4) noHp fun v68_1 =>
  rd Try.prog (Instr.loadAt 24 v68_1) h fun v69_2 =>
  rd Try.prog (Instr.fieldAt 31 (env 13) 5) noHp fun v70_3 =>
  rd Try.prog (Instr.loadAt 28 v70_3) h fun v71_4 =>
  rd Try.prog (Instr.fieldAt 31 (env 13) 1) noHp fun v72_5 =>
  rd Try.prog (Instr.loadAt 29 v72_5) h fun v73_6 =>
  rd Try.prog (Instr.fieldAt 31 (env 13) 3) noHp fun v74_7 =>
  rd Try.prog (Instr.loadAt 3 v74_7) h fun v75_8 =>
  Ok Try.prog 36 #[(env 0), v69_2, v71_4, v73_6, v75_8] h fun v76_9 h1 =>
  K ((((((((((env.set 67 (env 0)).set 68 v68_1).set 69 v69_2).set 70 v70_3).set 71 v71_4).set 72 v72_5).set 73 v73_6).set 74 v74_7).set 75 v75_8).set 76 v76_9) h1
@[congr] theorem babel_Babel_Tell_r18_congr {env : Env} {h : Hp} {K : Env → Hp → Prop} : babel_Babel_Tell_r18 env h K = babel_Babel_Tell_r18 env h K := rfl

/-- babel.go:208 -/
def babel_Babel_Tell_r19 (env : Env) (h : Hp) (K : Env → Hp → Prop) : Prop :=
  rd Try.prog (bop Go.BinOp.add 3 (Go.Operand.tmp 56) (Go.Operand.const (Go.Value.int Go.IntKind.i64 1)) (env 56) (Go.Value.int Go.IntKind.i64 1)) noHp fun v77_0 =>
  K ((env.set 77 v77_0).set 56 v77_0) h
@[congr] theorem babel_Babel_Tell_r19_congr {env : Env} {h : Hp} {K : Env → Hp → Prop} : babel_Babel_Tell_r19 env h K = babel_Babel_Tell_r19 env h K := rfl

def babel_Babel_Tell_L1 : Den := (sq (rg babel_Babel_Tell_r15) (sq (cnd (Go.Operand.tmp 57) (ex .normal) (ex (.exit 2))) (sq (blk 3 (sq (rg babel_Babel_Tell_r16) (sq (rg babel_Babel_Tell_r17) (rg babel_Babel_Tell_r18)))) (rg babel_Babel_Tell_r19))))

/-- babel.go:212 -/
def babel_Babel_Tell_r20 (env : Env) (h : Hp) (K : Env → Hp → Prop) : Prop :=
  arun Try.prog (Builtin.append_ #[40, 40] 40 #[(env 3), (env 4)]) h fun v80_2 h1 =>
  K ((((env.set 78 (env 3)).set 79 (env 4)).set 80 v80_2).set 2 v80_2) h1
@[congr] theorem babel_Babel_Tell_r20_congr {env : Env} {h : Hp} {K : Env → Hp → Prop} : babel_Babel_Tell_r20 env h K = babel_Babel_Tell_r20 env h K := rfl

def babel_Babel_Tell_D : Den := (sq (rg babel_Babel_Tell_r0) (sq (rg babel_Babel_Tell_r1) (sq (sq (rg babel_Babel_Tell_r2) (blk 0 (lp babel_Babel_Tell_L0))) (sq (rg babel_Babel_Tell_r13) (sq (sq (rg babel_Babel_Tell_r14) (blk 2 (lp babel_Babel_Tell_L1))) (sq (rg babel_Babel_Tell_r20) (ex .ret)))))))

theorem babel_Babel_Tell_eq : (den Try.prog 81 babel_Babel_Tell_code).1 = babel_Babel_Tell_D := by kernel_rfl

theorem babel_Babel_Tell_ok {args : Array Value} {h : Hp} {Q : Value → Hp → Prop} (hn : args.size ≤ 81) (D : babel_Babel_Tell_D (fin Try.prog [(Go.ResultVar.tmp 2)] Q) (env0 args) h) : Ok Try.prog 14 args h Q :=
  ok_of_den progIsOk Try.func14 (c := babel_Babel_Tell_code) (by kernel_rfl) hn (by show (den Try.prog 81 babel_Babel_Tell_code).1 _ _ _; rw [babel_Babel_Tell_eq]; exact D)

/-! ### (*octroi/babel.Babel).Lose: function 15 -/
noncomputable def babel_Babel_Lose_code : Code := match Try.f15.body with | some c => c | none => .skip

/-- babel.go:124 -/
def babel_Babel_Lose_r0 (env : Env) (h : Hp) (K : Env → Hp → Prop) : Prop :=
  nck (env 0) (
  rd Try.prog (Instr.fieldAt 74 (env 0) 5) noHp fun v7_2 =>
  rd Try.prog (Instr.loadAt 71 v7_2) h fun v8_3 =>
  arun Try.prog (Instr.range 71 v8_3) h fun v9_4 h1 =>
  K (((((env.set 5 (env 0)).set 6 (env 0)).set 7 v7_2).set 8 v8_3).set 9 v9_4) h1)
@[congr] theorem babel_Babel_Lose_r0_congr {env : Env} {h : Hp} {K : Env → Hp → Prop} : babel_Babel_Lose_r0 env h K = babel_Babel_Lose_r0 env h K := rfl

/-- babel.go:124 -/
def babel_Babel_Lose_r1 (env : Env) (h : Hp) (K : Env → Hp → Prop) : Prop :=
  arun Try.prog (Instr.next (env 9) false 0) h fun v10_0 h1 =>
  rd Try.prog (Instr.extract v10_0 0) noHp fun v11_1 =>
  K ((env.set 10 v10_0).set 11 v11_1) h1
@[congr] theorem babel_Babel_Lose_r1_congr {env : Env} {h : Hp} {K : Env → Hp → Prop} : babel_Babel_Lose_r1 env h K = babel_Babel_Lose_r1 env h K := rfl

/-- babel.go:124 -/
def babel_Babel_Lose_r2 (env : Env) (h : Hp) (K : Env → Hp → Prop) : Prop :=
  arun Try.prog (Instr.entry (env 9)) h fun v12_0 h1 =>
  rd Try.prog (Instr.extract v12_0 0) noHp fun v13_1 =>
  arun Try.prog (Instr.alloc 77 true (Go.Value.tuple #[])) h1 fun v4_2 h2 =>
  arun Try.prog (Instr.storeAt 77 v4_2 v13_1) h2 fun _ h3 =>
  K (((env.set 12 v12_0).set 13 v13_1).set 4 v4_2) h3
@[congr] theorem babel_Babel_Lose_r2_congr {env : Env} {h : Hp} {K : Env → Hp → Prop} : babel_Babel_Lose_r2 env h K = babel_Babel_Lose_r2 env h K := rfl

/-- babel.go:125 -/
def babel_Babel_Lose_r3 (env : Env) (h : Hp) (K : Env → Hp → Prop) : Prop :=
  rd Try.prog (Instr.fieldAt 77 (env 4) 1) noHp fun v14_0 =>
  rd Try.prog (Instr.loadAt 3 v14_0) h fun v15_1 =>
  rd Try.prog (bop Go.BinOp.eql 3 (Go.Operand.tmp 15) (Go.Operand.tmp 16) v15_1 (env 1)) noHp fun v17_3 =>
  K ((((env.set 14 v14_0).set 15 v15_1).set 16 (env 1)).set 17 v17_3) h
@[congr] theorem babel_Babel_Lose_r3_congr {env : Env} {h : Hp} {K : Env → Hp → Prop} : babel_Babel_Lose_r3 env h K = babel_Babel_Lose_r3 env h K := rfl

/-- babel.go:126 (in any order) -/
def babel_Babel_Lose_r4 (env : Env) (h : Hp) (K : Env → Hp → Prop) : Prop :=
  nck (env 0) (
  rd Try.prog (Instr.fieldAt 74 (env 0) 5) noHp fun v20_2 =>
  rd Try.prog (Instr.loadAt 71 v20_2) h fun v21_3 =>
  rd Try.prog (Instr.loadAt 77 (env 4)) h fun v22_4 =>
  arun Try.prog (Builtin.delete_ #[71, 77] 0 #[v21_3, v22_4]) h fun _ h1 =>
  (True) ∧
  K (((((env.set 18 (env 0)).set 19 (env 0)).set 20 v20_2).set 21 v21_3).set 22 v22_4) h1)
@[congr] theorem babel_Babel_Lose_r4_congr {env : Env} {h : Hp} {K : Env → Hp → Prop} : babel_Babel_Lose_r4 env h K = babel_Babel_Lose_r4 env h K := rfl

def babel_Babel_Lose_L0 : Den := (sq (rg babel_Babel_Lose_r1) (sq (cnd (Go.Operand.tmp 11) (ex .normal) (ex (.exit 0))) (blk 1 (sq (rg babel_Babel_Lose_r2) (sq (rg babel_Babel_Lose_r3) (cnd (Go.Operand.tmp 17) (rg babel_Babel_Lose_r4) (ex .normal)))))))

def babel_Babel_Lose_D : Den := (sq (rg babel_Babel_Lose_r0) (blk 0 (lp babel_Babel_Lose_L0)))

theorem babel_Babel_Lose_eq : (den Try.prog 23 babel_Babel_Lose_code).1 = babel_Babel_Lose_D := by kernel_rfl

theorem babel_Babel_Lose_ok {args : Array Value} {h : Hp} {Q : Value → Hp → Prop} (hn : args.size ≤ 23) (D : babel_Babel_Lose_D (fin Try.prog [] Q) (env0 args) h) : Ok Try.prog 15 args h Q :=
  ok_of_den progIsOk Try.func15 (c := babel_Babel_Lose_code) (by kernel_rfl) hn (by show (den Try.prog 23 babel_Babel_Lose_code).1 _ _ _; rw [babel_Babel_Lose_eq]; exact D)

/-! ### octroi/octroilaw17.call: function 16 -/
noncomputable def octroilaw17_call_code : Code := match Try.f16.body with | some c => c | none => .skip

/-- law.go:86 -/
def octroilaw17_call_r0 (env : Env) (h : Hp) (K : Env → Hp → Prop) : Prop :=
  arun Try.prog (Instr.box 47 (env 1)) h fun v3_0 h1 =>
  K ((env.set 3 v3_0).set 4 (Go.Value.slice none 0 0)) h1
@[congr] theorem octroilaw17_call_r0_congr {env : Env} {h : Hp} {K : Env → Hp → Prop} : octroilaw17_call_r0 env h K = octroilaw17_call_r0 env h K := rfl

/-- law.go:87 -/
def octroilaw17_call_r1 (env : Env) (h : Hp) (K : Env → Hp → Prop) : Prop :=
  rd Try.prog (Instr.fieldAt 47 (env 3) 0) noHp fun v5_0 =>
  rd Try.prog (Instr.loadAt 3 v5_0) h fun v6_1 =>
  K ((env.set 5 v5_0).set 6 v6_1) h
@[congr] theorem octroilaw17_call_r1_congr {env : Env} {h : Hp} {K : Env → Hp → Prop} : octroilaw17_call_r1 env h K = octroilaw17_call_r1 env h K := rfl

/-- law.go:88 -/
def octroilaw17_call_r2 (env : Env) (h : Hp) (K : Env → Hp → Prop) : Prop :=
  rd Try.prog (bop Go.BinOp.eql 3 (Go.Operand.tmp 6) (Go.Operand.const (Go.Value.int Go.IntKind.i64 0)) (env 6) (Go.Value.int Go.IntKind.i64 0)) noHp fun v8_0 =>
  K ((env.set 8 v8_0).set 7 v8_0) h
@[congr] theorem octroilaw17_call_r2_congr {env : Env} {h : Hp} {K : Env → Hp → Prop} : octroilaw17_call_r2 env h K = octroilaw17_call_r2 env h K := rfl

/-- law.go:89 -/
def octroilaw17_call_r3 (env : Env) (h : Hp) (K : Env → Hp → Prop) : Prop :=
  rd Try.prog (Instr.fieldAt 47 (env 3) 3) noHp fun v10_1 =>
  rd Try.prog (Instr.fieldAt 31 v10_1 4) noHp fun v11_2 =>
  rd Try.prog (Instr.loadAt 24 v11_2) h fun v12_3 =>
  rd Try.prog (Instr.fieldAt 47 (env 3) 2) noHp fun v13_4 =>
  rd Try.prog (Instr.loadAt 3 v13_4) h fun v14_5 =>
  rd Try.prog (Instr.fieldAt 47 (env 3) 3) noHp fun v15_6 =>
  rd Try.prog (Instr.fieldAt 31 v15_6 6) noHp fun v16_7 =>
  rd Try.prog (Instr.loadAt 29 v16_7) h fun v17_8 =>
  Ok Try.prog 37 #[(env 0), v12_3, v14_5, v17_8] h fun v18_9 h1 =>
  K ((((((((((env.set 9 (env 0)).set 10 v10_1).set 11 v11_2).set 12 v12_3).set 13 v13_4).set 14 v14_5).set 15 v15_6).set 16 v16_7).set 17 v17_8).set 18 v18_9) h1
@[congr] theorem octroilaw17_call_r3_congr {env : Env} {h : Hp} {K : Env → Hp → Prop} : octroilaw17_call_r3 env h K = octroilaw17_call_r3 env h K := rfl

/-- law.go:90 -/
def octroilaw17_call_r4 (env : Env) (h : Hp) (K : Env → Hp → Prop) : Prop :=
  rd Try.prog (bop Go.BinOp.eql 3 (Go.Operand.tmp 6) (Go.Operand.const (Go.Value.int Go.IntKind.i64 1)) (env 6) (Go.Value.int Go.IntKind.i64 1)) noHp fun v20_0 =>
  K ((env.set 20 v20_0).set 19 v20_0) h
@[congr] theorem octroilaw17_call_r4_congr {env : Env} {h : Hp} {K : Env → Hp → Prop} : octroilaw17_call_r4 env h K = octroilaw17_call_r4 env h K := rfl

/-- law.go:91 -/
def octroilaw17_call_r5 (env : Env) (h : Hp) (K : Env → Hp → Prop) : Prop :=
  rd Try.prog (Instr.fieldAt 47 (env 3) 3) noHp fun v22_1 =>
  rd Try.prog (Instr.fieldAt 31 v22_1 4) noHp fun v23_2 =>
  rd Try.prog (Instr.loadAt 24 v23_2) h fun v24_3 =>
  Ok Try.prog 19 #[(env 0), v24_3] h fun v25_4 h1 =>
  K (((((env.set 21 (env 0)).set 22 v22_1).set 23 v23_2).set 24 v24_3).set 25 v25_4) h1
@[congr] theorem octroilaw17_call_r5_congr {env : Env} {h : Hp} {K : Env → Hp → Prop} : octroilaw17_call_r5 env h K = octroilaw17_call_r5 env h K := rfl

/-- law.go:92 -/
def octroilaw17_call_r6 (env : Env) (h : Hp) (K : Env → Hp → Prop) : Prop :=
  rd Try.prog (bop Go.BinOp.eql 3 (Go.Operand.tmp 6) (Go.Operand.const (Go.Value.int Go.IntKind.i64 2)) (env 6) (Go.Value.int Go.IntKind.i64 2)) noHp fun v27_0 =>
  K ((env.set 27 v27_0).set 26 v27_0) h
@[congr] theorem octroilaw17_call_r6_congr {env : Env} {h : Hp} {K : Env → Hp → Prop} : octroilaw17_call_r6 env h K = octroilaw17_call_r6 env h K := rfl

/-- law.go:93 -/
def octroilaw17_call_r7 (env : Env) (h : Hp) (K : Env → Hp → Prop) : Prop :=
  Ok Try.prog 38 #[(env 0)] h fun v29_1 h1 =>
  K ((env.set 28 (env 0)).set 29 v29_1) h1
@[congr] theorem octroilaw17_call_r7_congr {env : Env} {h : Hp} {K : Env → Hp → Prop} : octroilaw17_call_r7 env h K = octroilaw17_call_r7 env h K := rfl

/-- law.go:94 -/
def octroilaw17_call_r8 (env : Env) (h : Hp) (K : Env → Hp → Prop) : Prop :=
  rd Try.prog (bop Go.BinOp.eql 3 (Go.Operand.tmp 6) (Go.Operand.const (Go.Value.int Go.IntKind.i64 3)) (env 6) (Go.Value.int Go.IntKind.i64 3)) noHp fun v31_0 =>
  K ((env.set 31 v31_0).set 30 v31_0) h
@[congr] theorem octroilaw17_call_r8_congr {env : Env} {h : Hp} {K : Env → Hp → Prop} : octroilaw17_call_r8 env h K = octroilaw17_call_r8 env h K := rfl

/-- law.go:95 -/
def octroilaw17_call_r9 (env : Env) (h : Hp) (K : Env → Hp → Prop) : Prop :=
  rd Try.prog (Instr.fieldAt 47 (env 3) 1) noHp fun v33_1 =>
  rd Try.prog (Instr.loadAt 3 v33_1) h fun v34_2 =>
  rd Try.prog (Instr.fieldAt 47 (env 3) 2) noHp fun v35_3 =>
  rd Try.prog (Instr.loadAt 3 v35_3) h fun v36_4 =>
  rd Try.prog (Instr.fieldAt 47 (env 3) 3) noHp fun v37_5 =>
  rd Try.prog (Instr.loadAt 31 v37_5) h fun v38_6 =>
  Ok Try.prog 12 #[(env 0), v34_2, v36_4, v38_6] h fun v39_7 h1 =>
  K ((((((((env.set 32 (env 0)).set 33 v33_1).set 34 v34_2).set 35 v35_3).set 36 v36_4).set 37 v37_5).set 38 v38_6).set 39 v39_7) h1
@[congr] theorem octroilaw17_call_r9_congr {env : Env} {h : Hp} {K : Env → Hp → Prop} : octroilaw17_call_r9 env h K = octroilaw17_call_r9 env h K := rfl

/-- law.go:96 -/
def octroilaw17_call_r10 (env : Env) (h : Hp) (K : Env → Hp → Prop) : Prop :=
  rd Try.prog (bop Go.BinOp.eql 3 (Go.Operand.tmp 6) (Go.Operand.const (Go.Value.int Go.IntKind.i64 4)) (env 6) (Go.Value.int Go.IntKind.i64 4)) noHp fun v41_0 =>
  K ((env.set 41 v41_0).set 40 v41_0) h
@[congr] theorem octroilaw17_call_r10_congr {env : Env} {h : Hp} {K : Env → Hp → Prop} : octroilaw17_call_r10 env h K = octroilaw17_call_r10 env h K := rfl

/-- law.go:97 -/
def octroilaw17_call_r11 (env : Env) (h : Hp) (K : Env → Hp → Prop) : Prop :=
  rd Try.prog (Instr.fieldAt 47 (env 3) 1) noHp fun v43_1 =>
  rd Try.prog (Instr.loadAt 3 v43_1) h fun v44_2 =>
  Ok Try.prog 15 #[(env 0), v44_2] h fun v45_3 h1 =>
  K ((((env.set 42 (env 0)).set 43 v43_1).set 44 v44_2).set 45 v45_3) h1
@[congr] theorem octroilaw17_call_r11_congr {env : Env} {h : Hp} {K : Env → Hp → Prop} : octroilaw17_call_r11 env h K = octroilaw17_call_r11 env h K := rfl

/-- law.go:98 -/
def octroilaw17_call_r12 (env : Env) (h : Hp) (K : Env → Hp → Prop) : Prop :=
  rd Try.prog (bop Go.BinOp.eql 3 (Go.Operand.tmp 6) (Go.Operand.const (Go.Value.int Go.IntKind.i64 5)) (env 6) (Go.Value.int Go.IntKind.i64 5)) noHp fun v47_0 =>
  K ((env.set 47 v47_0).set 46 v47_0) h
@[congr] theorem octroilaw17_call_r12_congr {env : Env} {h : Hp} {K : Env → Hp → Prop} : octroilaw17_call_r12 env h K = octroilaw17_call_r12 env h K := rfl

/-- law.go:99 -/
def octroilaw17_call_r13 (env : Env) (h : Hp) (K : Env → Hp → Prop) : Prop :=
  Ok Try.prog 14 #[(env 0)] h fun v49_1 h1 =>
  K (((env.set 48 (env 0)).set 49 v49_1).set 4 v49_1) h1
@[congr] theorem octroilaw17_call_r13_congr {env : Env} {h : Hp} {K : Env → Hp → Prop} : octroilaw17_call_r13 env h K = octroilaw17_call_r13 env h K := rfl

/-- law.go:100 -/
def octroilaw17_call_r14 (env : Env) (h : Hp) (K : Env → Hp → Prop) : Prop :=
  rd Try.prog (bop Go.BinOp.eql 3 (Go.Operand.tmp 6) (Go.Operand.const (Go.Value.int Go.IntKind.i64 6)) (env 6) (Go.Value.int Go.IntKind.i64 6)) noHp fun v51_0 =>
  K ((env.set 51 v51_0).set 50 v51_0) h
@[congr] theorem octroilaw17_call_r14_congr {env : Env} {h : Hp} {K : Env → Hp → Prop} : octroilaw17_call_r14 env h K = octroilaw17_call_r14 env h K := rfl

/-- law.go:101 -/
def octroilaw17_call_r15 (env : Env) (h : Hp) (K : Env → Hp → Prop) : Prop :=
  rd Try.prog (Instr.fieldAt 47 (env 3) 3) noHp fun v53_1 =>
  rd Try.prog (Instr.fieldAt 31 v53_1 4) noHp fun v54_2 =>
  rd Try.prog (Instr.loadAt 24 v54_2) h fun v55_3 =>
  rd Try.prog (Instr.fieldAt 47 (env 3) 3) noHp fun v56_4 =>
  rd Try.prog (Instr.fieldAt 31 v56_4 5) noHp fun v57_5 =>
  rd Try.prog (Instr.loadAt 28 v57_5) h fun v58_6 =>
  rd Try.prog (Instr.fieldAt 47 (env 3) 3) noHp fun v59_7 =>
  rd Try.prog (Instr.fieldAt 31 v59_7 1) noHp fun v60_8 =>
  rd Try.prog (Instr.loadAt 29 v60_8) h fun v61_9 =>
  rd Try.prog (Instr.fieldAt 47 (env 3) 2) noHp fun v62_10 =>
  rd Try.prog (Instr.loadAt 3 v62_10) h fun v63_11 =>
  Ok Try.prog 36 #[(env 0), v55_3, v58_6, v61_9, v63_11] h fun v64_12 h1 =>
  K (((((((((((((env.set 52 (env 0)).set 53 v53_1).set 54 v54_2).set 55 v55_3).set 56 v56_4).set 57 v57_5).set 58 v58_6).set 59 v59_7).set 60 v60_8).set 61 v61_9).set 62 v62_10).set 63 v63_11).set 64 v64_12) h1
@[congr] theorem octroilaw17_call_r15_congr {env : Env} {h : Hp} {K : Env → Hp → Prop} : octroilaw17_call_r15 env h K = octroilaw17_call_r15 env h K := rfl

/-- law.go:103 -/
def octroilaw17_call_r16 (env : Env) (h : Hp) (K : Env → Hp → Prop) : Prop :=
  K (env.set 4 (Go.Value.slice none 0 0)) h
@[congr] theorem octroilaw17_call_r16_congr {env : Env} {h : Hp} {K : Env → Hp → Prop} : octroilaw17_call_r16 env h K = octroilaw17_call_r16 env h K := rfl

def octroilaw17_call_D : Den := (sq (rg octroilaw17_call_r0) (sq (sq (rg octroilaw17_call_r1) (blk 0 (sq (rg octroilaw17_call_r2) (cnd (Go.Operand.tmp 7) (rg octroilaw17_call_r3) (sq (rg octroilaw17_call_r4) (cnd (Go.Operand.tmp 19) (rg octroilaw17_call_r5) (sq (rg octroilaw17_call_r6) (cnd (Go.Operand.tmp 26) (rg octroilaw17_call_r7) (sq (rg octroilaw17_call_r8) (cnd (Go.Operand.tmp 30) (rg octroilaw17_call_r9) (sq (rg octroilaw17_call_r10) (cnd (Go.Operand.tmp 40) (rg octroilaw17_call_r11) (sq (rg octroilaw17_call_r12) (cnd (Go.Operand.tmp 46) (sq (rg octroilaw17_call_r13) (ex .ret)) (sq (rg octroilaw17_call_r14) (cnd (Go.Operand.tmp 50) (rg octroilaw17_call_r15) (ex .normal))))))))))))))))) (sq (rg octroilaw17_call_r16) (ex .ret))))

theorem octroilaw17_call_eq : (den Try.prog 65 octroilaw17_call_code).1 = octroilaw17_call_D := by kernel_rfl

theorem octroilaw17_call_ok {args : Array Value} {h : Hp} {Q : Value → Hp → Prop} (hn : args.size ≤ 65) (D : octroilaw17_call_D (fin Try.prog [(Go.ResultVar.tmp 4)] Q) (env0 args) h) : Ok Try.prog 16 args h Q :=
  ok_of_den progIsOk Try.func16 (c := octroilaw17_call_code) (by kernel_rfl) hn (by show (den Try.prog 65 octroilaw17_call_code).1 _ _ _; rw [octroilaw17_call_eq]; exact D)

/-! ### octroi/tags.Has: function 17 -/
noncomputable def tags_Has_code : Code := match Try.f17.body with | some c => c | none => .skip

/-- tags.go:10 -/
def tags_Has_r0 (env : Env) (h : Hp) (K : Env → Hp → Prop) : Prop :=
  K (env.set 4 (Go.Value.bool false)) h
@[congr] theorem tags_Has_r0_congr {env : Env} {h : Hp} {K : Env → Hp → Prop} : tags_Has_r0 env h K = tags_Has_r0 env h K := rfl

/-- tags.go:10 -/
def tags_Has_r1 (env : Env) (h : Hp) (K : Env → Hp → Prop) : Prop :=
  Ok Try.prog 39 #[(env 1)] h fun v6_1 h1 =>
  gd (yb v6_1 == some true) (fun h k => k (env 0) h) h1 fun v8_3 h2 =>
  gd (yb v6_1 == some true) (fun h k => k (env 1) h) h2 fun v9_4 h3 =>
  gd (yb v6_1 == some true) (fun h k => rd Try.prog (bop Go.BinOp.shr 29 (Go.Operand.tmp 8) (Go.Operand.tmp 9) v8_3 v9_4) noHp fun v => k v h) h3 fun v10_5 h4 =>
  gd (yb v6_1 == some true) (fun h k => rd Try.prog (bop Go.BinOp.and 29 (Go.Operand.tmp 10) (Go.Operand.const (Go.Value.int Go.IntKind.u16 1)) v10_5 (Go.Value.int Go.IntKind.u16 1)) noHp fun v => k v h) h4 fun v11_6 h5 =>
  gd (yb v6_1 == some true) (fun h k => rd Try.prog (bop Go.BinOp.eql 29 (Go.Operand.tmp 11) (Go.Operand.const (Go.Value.int Go.IntKind.u16 1)) v11_6 (Go.Value.int Go.IntKind.u16 1)) noHp fun v => k v h) h5 fun v12_7 h6 =>
  rd Try.prog (pck v6_1 v12_7 (Go.Value.bool false)) noHp fun v13_8 =>
  K ((((((((((env.set 5 (env 1)).set 6 v6_1).set 7 v6_1).set 8 v8_3).set 9 v9_4).set 10 v10_5).set 11 v11_6).set 12 v12_7).set 13 v13_8).set 4 v13_8) h6
@[congr] theorem tags_Has_r1_congr {env : Env} {h : Hp} {K : Env → Hp → Prop} : tags_Has_r1 env h K = tags_Has_r1 env h K := rfl

def tags_Has_D : Den := (sq (rg tags_Has_r0) (sq (rg tags_Has_r1) (ex .ret)))

theorem tags_Has_eq : (den Try.prog 14 tags_Has_code).1 = tags_Has_D := by kernel_rfl

theorem tags_Has_ok {args : Array Value} {h : Hp} {Q : Value → Hp → Prop} (hn : args.size ≤ 14) (D : tags_Has_D (fin Try.prog [(Go.ResultVar.tmp 4)] Q) (env0 args) h) : Ok Try.prog 17 args h Q :=
  ok_of_den progIsOk Try.func17 (c := tags_Has_code) (by kernel_rfl) hn (by show (den Try.prog 14 tags_Has_code).1 _ _ _; rw [tags_Has_eq]; exact D)

/-! ### (*octroi/babel.Babel).Len: function 18 -/
noncomputable def babel_Babel_Len_code : Code := match Try.f18.body with | some c => c | none => .skip

/-- babel.go:230 -/
def babel_Babel_Len_r0 (env : Env) (h : Hp) (K : Env → Hp → Prop) : Prop :=
  K (env.set 2 (Go.Value.int Go.IntKind.i64 0)) h
@[congr] theorem babel_Babel_Len_r0_congr {env : Env} {h : Hp} {K : Env → Hp → Prop} : babel_Babel_Len_r0 env h K = babel_Babel_Len_r0 env h K := rfl

/-- babel.go:230 -/
def babel_Babel_Len_r1 (env : Env) (h : Hp) (K : Env → Hp → Prop) : Prop :=
  nck (env 0) (
  rd Try.prog (Instr.fieldAt 74 (env 0) 5) noHp fun v5_2 =>
  rd Try.prog (Instr.loadAt 71 v5_2) h fun v6_3 =>
  rd Try.prog (Builtin.len_ #[71] 3 #[v6_3]) h fun v7_4 =>
  K ((((((env.set 3 (env 0)).set 4 (env 0)).set 5 v5_2).set 6 v6_3).set 7 v7_4).set 2 v7_4) h)
@[congr] theorem babel_Babel_Len_r1_congr {env : Env} {h : Hp} {K : Env → Hp → Prop} : babel_Babel_Len_r1 env h K = babel_Babel_Len_r1 env h K := rfl

def babel_Babel_Len_D : Den := (sq (rg babel_Babel_Len_r0) (sq (rg babel_Babel_Len_r1) (ex .ret)))

theorem babel_Babel_Len_eq : (den Try.prog 8 babel_Babel_Len_code).1 = babel_Babel_Len_D := by kernel_rfl

theorem babel_Babel_Len_ok {args : Array Value} {h : Hp} {Q : Value → Hp → Prop} (hn : args.size ≤ 8) (D : babel_Babel_Len_D (fin Try.prog [(Go.ResultVar.tmp 2)] Q) (env0 args) h) : Ok Try.prog 18 args h Q :=
  ok_of_den progIsOk Try.func18 (c := babel_Babel_Len_code) (by kernel_rfl) hn (by show (den Try.prog 8 babel_Babel_Len_code).1 _ _ _; rw [babel_Babel_Len_eq]; exact D)

/-! ### (*octroi/babel.Babel).Drop: function 19 -/
noncomputable def babel_Babel_Drop_code : Code := match Try.f19.body with | some c => c | none => .skip

/-- babel.go:76 -/
def babel_Babel_Drop_r0 (env : Env) (h : Hp) (K : Env → Hp → Prop) : Prop :=
  arun Try.prog (Instr.box 24 (env 1)) h fun v3_0 h1 =>
  K ((env.set 3 v3_0).set 4 (Go.Value.int Go.IntKind.i64 0)) h1
@[congr] theorem babel_Babel_Drop_r0_congr {env : Env} {h : Hp} {K : Env → Hp → Prop} : babel_Babel_Drop_r0 env h K = babel_Babel_Drop_r0 env h K := rfl

/-- babel.go:77 (in any order) -/
def babel_Babel_Drop_r1 (env : Env) (h : Hp) (K : Env → Hp → Prop) : Prop :=
  nck (env 0) (
  rd Try.prog (Instr.fieldAt 74 (env 0) 4) noHp fun v10_2 =>
  rd Try.prog (Instr.loadAt 70 v10_2) h fun v11_3 =>
  rd Try.prog (Instr.loadAt 24 (env 3)) h fun v12_4 =>
  rd Try.prog (Instr.lookup 70 v11_3 v12_4 true) h fun v13_5 =>
  rd Try.prog (Instr.extract v13_5 0) noHp fun v14_7 =>
  rd Try.prog (Instr.extract v13_5 1) noHp fun v15_8 =>
  arun Try.prog (Instr.alloc 31 true (Go.Value.tuple #[])) h fun v5_9 h1 =>
  (rrun Try.prog (Instr.lookup 70 v11_3 v12_4 true) h1 = some v13_5 ∧ rrun Try.prog (Instr.loadAt 24 (env 3)) h1 = some v12_4 ∧ rrun Try.prog (Instr.loadAt 70 v10_2) h1 = some v11_3 ∧ True) ∧
  arun Try.prog (Instr.storeAt 31 v5_9 v14_7) h1 fun _ h2 =>
  (True) ∧
  K (((((((((((env.set 8 (env 0)).set 9 (env 0)).set 10 v10_2).set 11 v11_3).set 12 v12_4).set 13 v13_5).set 7 v13_5).set 14 v14_7).set 15 v15_8).set 5 v5_9).set 6 v15_8) h2)
@[congr] theorem babel_Babel_Drop_r1_congr {env : Env} {h : Hp} {K : Env → Hp → Prop} : babel_Babel_Drop_r1 env h K = babel_Babel_Drop_r1 env h K := rfl

/-- babel.go:77 -/
def babel_Babel_Drop_r2 (env : Env) (h : Hp) (K : Env → Hp → Prop) : Prop :=
  rd Try.prog (Op.unary Go.UnOp.not (env 6)) noHp fun v17_1 =>
  K ((env.set 16 (env 6)).set 17 v17_1) h
@[congr] theorem babel_Babel_Drop_r2_congr {env : Env} {h : Hp} {K : Env → Hp → Prop} : babel_Babel_Drop_r2 env h K = babel_Babel_Drop_r2 env h K := rfl

/-- babel.go:78 -/
def babel_Babel_Drop_r3 (env : Env) (h : Hp) (K : Env → Hp → Prop) : Prop :=
  K (env.set 4 (Go.Value.int Go.IntKind.i64 5)) h
@[congr] theorem babel_Babel_Drop_r3_congr {env : Env} {h : Hp} {K : Env → Hp → Prop} : babel_Babel_Drop_r3 env h K = babel_Babel_Drop_r3 env h K := rfl

/-- babel.go:80 (in any order) -/
def babel_Babel_Drop_r4 (env : Env) (h : Hp) (K : Env → Hp → Prop) : Prop :=
  nck (env 0) (
  rd Try.prog (Instr.fieldAt 74 (env 0) 4) noHp fun v20_2 =>
  rd Try.prog (Instr.loadAt 70 v20_2) h fun v21_3 =>
  rd Try.prog (Instr.loadAt 24 (env 3)) h fun v22_4 =>
  arun Try.prog (Builtin.delete_ #[70, 24] 0 #[v21_3, v22_4]) h fun _ h1 =>
  (True) ∧
  K (((((env.set 18 (env 0)).set 19 (env 0)).set 20 v20_2).set 21 v21_3).set 22 v22_4) h1)
@[congr] theorem babel_Babel_Drop_r4_congr {env : Env} {h : Hp} {K : Env → Hp → Prop} : babel_Babel_Drop_r4 env h K = babel_Babel_Drop_r4 env h K := rfl

/-- babel.go:81 -/
def babel_Babel_Drop_r5 (env : Env) (h : Hp) (K : Env → Hp → Prop) : Prop :=
  K (env.set 4 (Go.Value.int Go.IntKind.i64 0)) h
@[congr] theorem babel_Babel_Drop_r5_congr {env : Env} {h : Hp} {K : Env → Hp → Prop} : babel_Babel_Drop_r5 env h K = babel_Babel_Drop_r5 env h K := rfl

def babel_Babel_Drop_D : Den := (sq (rg babel_Babel_Drop_r0) (sq (sq (rg babel_Babel_Drop_r1) (sq (rg babel_Babel_Drop_r2) (cnd (Go.Operand.tmp 17) (sq (rg babel_Babel_Drop_r3) (ex .ret)) (ex .normal)))) (sq (rg babel_Babel_Drop_r4) (sq (rg babel_Babel_Drop_r5) (ex .ret)))))

theorem babel_Babel_Drop_eq : (den Try.prog 23 babel_Babel_Drop_code).1 = babel_Babel_Drop_D := by kernel_rfl

theorem babel_Babel_Drop_ok {args : Array Value} {h : Hp} {Q : Value → Hp → Prop} (hn : args.size ≤ 23) (D : babel_Babel_Drop_D (fin Try.prog [(Go.ResultVar.tmp 4)] Q) (env0 args) h) : Ok Try.prog 19 args h Q :=
  ok_of_den progIsOk Try.func19 (c := babel_Babel_Drop_code) (by kernel_rfl) hn (by show (den Try.prog 23 babel_Babel_Drop_code).1 _ _ _; rw [babel_Babel_Drop_eq]; exact D)

/-! ### (*octroi/babel.Babel).Least: function 20 -/
noncomputable def babel_Babel_Least_code : Code := match Try.f20.body with | some c => c | none => .skip

/-- babel.go:216 -/
def babel_Babel_Least_r0 (env : Env) (h : Hp) (K : Env → Hp → Prop) : Prop :=
  arun Try.prog (Instr.box 24 (env 1)) h fun v4_0 h1 =>
  K ((((env.set 4 v4_0).set 6 (Go.Value.int Go.IntKind.u16 0)).set 7 (Go.Value.int Go.IntKind.i64 0)).set 8 (Go.Value.bool false)) h1
@[congr] theorem babel_Babel_Least_r0_congr {env : Env} {h : Hp} {K : Env → Hp → Prop} : babel_Babel_Least_r0 env h K = babel_Babel_Least_r0 env h K := rfl

/-- babel.go:217 (in any order) -/
def babel_Babel_Least_r1 (env : Env) (h : Hp) (K : Env → Hp → Prop) : Prop :=
  nck (env 0) (
  rd Try.prog (Instr.fieldAt 74 (env 0) 6) noHp fun v14_2 =>
  rd Try.prog (Instr.loadAt 72 v14_2) h fun v15_3 =>
  rd Try.prog (Instr.loadAt 24 (env 4)) h fun v16_4 =>
  rd Try.prog (Instr.build 83 #[(0, v16_4), (1, (env 2))]) noHp fun v18_6 =>
  rd Try.prog (Instr.lookup 72 v15_3 v18_6 true) h fun v19_7 =>
  rd Try.prog (Instr.extract v19_7 0) noHp fun v20_9 =>
  rd Try.prog (Instr.extract v19_7 1) noHp fun v21_10 =>
  arun Try.prog (Instr.alloc 85 true (Go.Value.tuple #[])) h fun v9_11 h1 =>
  (rrun Try.prog (Instr.lookup 72 v15_3 v18_6 true) h1 = some v19_7 ∧ rrun Try.prog (Instr.loadAt 24 (env 4)) h1 = some v16_4 ∧ rrun Try.prog (Instr.loadAt 72 v14_2) h1 = some v15_3 ∧ True) ∧
  arun Try.prog (Instr.storeAt 85 v9_11 v20_9) h1 fun _ h2 =>
  (True) ∧
  K (((((((((((((env.set 12 (env 0)).set 13 (env 0)).set 14 v14_2).set 15 v15_3).set 16 v16_4).set 17 (env 2)).set 18 v18_6).set 19 v19_7).set 11 v19_7).set 20 v20_9).set 21 v21_10).set 9 v9_11).set 10 v21_10) h2)
@[congr] theorem babel_Babel_Least_r1_congr {env : Env} {h : Hp} {K : Env → Hp → Prop} : babel_Babel_Least_r1 env h K = babel_Babel_Least_r1 env h K := rfl

/-- babel.go:218 (in any order) -/
def babel_Babel_Least_r2 (env : Env) (h : Hp) (K : Env → Hp → Prop) : Prop :=
  rd Try.prog (Instr.fieldAt 85 (env 9) 0) noHp fun v22_0 =>
  rd Try.prog (Instr.loadAt 29 v22_0) h fun v23_1 =>
  rd Try.prog (Instr.fieldAt 85 (env 9) 1) noHp fun v24_2 =>
  rd Try.prog (Instr.loadAt 3 v24_2) h fun v25_3 =>
  K ((((((((env.set 22 v22_0).set 23 v23_1).set 24 v24_2).set 25 v25_3).set 26 (env 10)).set 6 v23_1).set 7 v25_3).set 8 (env 10)) h
@[congr] theorem babel_Babel_Least_r2_congr {env : Env} {h : Hp} {K : Env → Hp → Prop} : babel_Babel_Least_r2 env h K = babel_Babel_Least_r2 env h K := rfl

def babel_Babel_Least_D : Den := (sq (rg babel_Babel_Least_r0) (sq (rg babel_Babel_Least_r1) (sq (rg babel_Babel_Least_r2) (ex .ret))))

theorem babel_Babel_Least_eq : (den Try.prog 27 babel_Babel_Least_code).1 = babel_Babel_Least_D := by kernel_rfl

theorem babel_Babel_Least_ok {args : Array Value} {h : Hp} {Q : Value → Hp → Prop} (hn : args.size ≤ 27) (D : babel_Babel_Least_D (fin Try.prog [(Go.ResultVar.tmp 6), (Go.ResultVar.tmp 7), (Go.ResultVar.tmp 8)] Q) (env0 args) h) : Ok Try.prog 20 args h Q :=
  ok_of_den progIsOk Try.func20 (c := babel_Babel_Least_code) (by kernel_rfl) hn (by show (den Try.prog 27 babel_Babel_Least_code).1 _ _ _; rw [babel_Babel_Least_eq]; exact D)

/-! ### octroi/num.Newer: function 21 -/
noncomputable def num_Newer_code : Code := match Try.f21.body with | some c => c | none => .skip

/-- num.go:52 -/
def num_Newer_r0 (env : Env) (h : Hp) (K : Env → Hp → Prop) : Prop :=
  K (env.set 4 (Go.Value.bool false)) h
@[congr] theorem num_Newer_r0_congr {env : Env} {h : Hp} {K : Env → Hp → Prop} : num_Newer_r0 env h K = num_Newer_r0 env h K := rfl

/-- num.go:52 -/
def num_Newer_r1 (env : Env) (h : Hp) (K : Env → Hp → Prop) : Prop :=
  rd Try.prog (bop Go.BinOp.neq 29 (Go.Operand.tmp 5) (Go.Operand.tmp 6) (env 0) (env 1)) noHp fun v7_2 =>
  gd (yb v7_2 == some true) (fun h k => k (env 0) h) h fun v9_4 h1 =>
  gd (yb v7_2 == some true) (fun h k => k (env 1) h) h1 fun v10_5 h2 =>
  gd (yb v7_2 == some true) (fun h k => rd Try.prog (bop Go.BinOp.sub 29 (Go.Operand.tmp 9) (Go.Operand.tmp 10) v9_4 v10_5) noHp fun v => k v h) h2 fun v11_6 h3 =>
  gd (yb v7_2 == some true) (fun h k => rd Try.prog (bop Go.BinOp.lss 29 (Go.Operand.tmp 11) (Go.Operand.const (Go.Value.int Go.IntKind.u16 32768)) v11_6 (Go.Value.int Go.IntKind.u16 32768)) noHp fun v => k v h) h3 fun v12_7 h4 =>
  rd Try.prog (pck v7_2 v12_7 (Go.Value.bool false)) noHp fun v13_8 =>
  K ((((((((((env.set 5 (env 0)).set 6 (env 1)).set 7 v7_2).set 8 v7_2).set 9 v9_4).set 10 v10_5).set 11 v11_6).set 12 v12_7).set 13 v13_8).set 4 v13_8) h4
@[congr] theorem num_Newer_r1_congr {env : Env} {h : Hp} {K : Env → Hp → Prop} : num_Newer_r1 env h K = num_Newer_r1 env h K := rfl

def num_Newer_D : Den := (sq (rg num_Newer_r0) (sq (rg num_Newer_r1) (ex .ret)))

theorem num_Newer_eq : (den Try.prog 14 num_Newer_code).1 = num_Newer_D := by kernel_rfl

theorem num_Newer_ok {args : Array Value} {h : Hp} {Q : Value → Hp → Prop} (hn : args.size ≤ 14) (D : num_Newer_D (fin Try.prog [(Go.ResultVar.tmp 4)] Q) (env0 args) h) : Ok Try.prog 21 args h Q :=
  ok_of_den progIsOk Try.func21 (c := num_Newer_code) (by kernel_rfl) hn (by show (den Try.prog 14 num_Newer_code).1 _ _ _; rw [num_Newer_eq]; exact D)

/-! ### (*octroi/babel.Babel).Source: function 22 -/
noncomputable def babel_Babel_Source_code : Code := match Try.f22.body with | some c => c | none => .skip

/-- babel.go:188 -/
def babel_Babel_Source_r0 (env : Env) (h : Hp) (K : Env → Hp → Prop) : Prop :=
  arun Try.prog (Instr.box 24 (env 1)) h fun v3_0 h1 =>
  K (((env.set 3 v3_0).set 4 (Go.Value.int Go.IntKind.u64 0)).set 5 (Go.Value.bool false)) h1
@[congr] theorem babel_Babel_Source_r0_congr {env : Env} {h : Hp} {K : Env → Hp → Prop} : babel_Babel_Source_r0 env h K = babel_Babel_Source_r0 env h K := rfl

/-- babel.go:189 -/
def babel_Babel_Source_r1 (env : Env) (h : Hp) (K : Env → Hp → Prop) : Prop :=
  rd Try.prog (Instr.loadAt 24 (env 3)) h fun v11_1 =>
  Ok Try.prog 35 #[(env 0), v11_1] h fun v12_2 h1 =>
  rd Try.prog (Instr.extract v12_2 0) noHp fun v13_4 =>
  rd Try.prog (Instr.extract v12_2 1) noHp fun v14_5 =>
  rd Try.prog (Instr.extract v12_2 2) noHp fun v15_6 =>
  arun Try.prog (Instr.alloc 31 true (Go.Value.tuple #[])) h1 fun v6_7 h2 =>
  arun Try.prog (Instr.storeAt 31 v6_7 v13_4) h2 fun _ h3 =>
  K ((((((((((env.set 10 (env 0)).set 11 v11_1).set 12 v12_2).set 9 v12_2).set 13 v13_4).set 14 v14_5).set 15 v15_6).set 6 v6_7).set 7 v14_5).set 8 v15_6) h3
@[congr] theorem babel_Babel_Source_r1_congr {env : Env} {h : Hp} {K : Env → Hp → Prop} : babel_Babel_Source_r1 env h K = babel_Babel_Source_r1 env h K := rfl

/-- babel.go:190 -/
def babel_Babel_Source_r2 (env : Env) (h : Hp) (K : Env → Hp → Prop) : Prop :=
  rd Try.prog (Op.unary Go.UnOp.not (env 8)) noHp fun v17_1 =>
  K ((env.set 16 (env 8)).set 17 v17_1) h
@[congr] theorem babel_Babel_Source_r2_congr {env : Env} {h : Hp} {K : Env → Hp → Prop} : babel_Babel_Source_r2 env h K = babel_Babel_Source_r2 env h K := rfl

/-- babel.go:191 -/
def babel_Babel_Source_r3 (env : Env) (h : Hp) (K : Env → Hp → Prop) : Prop :=
  K ((env.set 4 (Go.Value.int Go.IntKind.u64 0)).set 5 (Go.Value.bool false)) h
@[congr] theorem babel_Babel_Source_r3_congr {env : Env} {h : Hp} {K : Env → Hp → Prop} : babel_Babel_Source_r3 env h K = babel_Babel_Source_r3 env h K := rfl

/-- babel.go:193 -/
def babel_Babel_Source_r4 (env : Env) (h : Hp) (K : Env → Hp → Prop) : Prop :=
  rd Try.prog (Instr.fieldAt 31 (env 6) 5) noHp fun v18_0 =>
  rd Try.prog (Instr.loadAt 28 v18_0) h fun v19_1 =>
  K ((((env.set 18 v18_0).set 19 v19_1).set 4 v19_1).set 5 (Go.Value.bool true)) h
@[congr] theorem babel_Babel_Source_r4_congr {env : Env} {h : Hp} {K : Env → Hp → Prop} : babel_Babel_Source_r4 env h K = babel_Babel_Source_r4 env h K := rfl

def babel_Babel_Source_D : Den := (sq (rg babel_Babel_Source_r0) (sq (rg babel_Babel_Source_r1) (sq (sq (rg babel_Babel_Source_r2) (cnd (Go.Operand.tmp 17) (sq (rg babel_Babel_Source_r3) (ex .ret)) (ex .normal))) (sq (rg babel_Babel_Source_r4) (ex .ret)))))

theorem babel_Babel_Source_eq : (den Try.prog 20 babel_Babel_Source_code).1 = babel_Babel_Source_D := by kernel_rfl

theorem babel_Babel_Source_ok {args : Array Value} {h : Hp} {Q : Value → Hp → Prop} (hn : args.size ≤ 20) (D : babel_Babel_Source_D (fin Try.prog [(Go.ResultVar.tmp 4), (Go.ResultVar.tmp 5)] Q) (env0 args) h) : Ok Try.prog 22 args h Q :=
  ok_of_den progIsOk Try.func22 (c := babel_Babel_Source_code) (by kernel_rfl) hn (by show (den Try.prog 20 babel_Babel_Source_code).1 _ _ _; rw [babel_Babel_Source_eq]; exact D)

/-! ### octroi/octroiref17.New: function 23 -/
noncomputable def octroiref17_New_code : Code := match Try.f23.body with | some c => c | none => .skip

/-- ref.go:47 -/
def octroiref17_New_r0 (env : Env) (h : Hp) (K : Env → Hp → Prop) : Prop :=
  K (env.set 6 (Go.Value.pointer none)) h
@[congr] theorem octroiref17_New_r0_congr {env : Env} {h : Hp} {K : Env → Hp → Prop} : octroiref17_New_r0 env h K = octroiref17_New_r0 env h K := rfl

/-- ref.go:48 -/
def octroiref17_New_r1 (env : Env) (h : Hp) (K : Env → Hp → Prop) : Prop :=
  rd Try.prog (bop Go.BinOp.gtr 3 (Go.Operand.tmp 7) (Go.Operand.const (Go.Value.int Go.IntKind.i64 64)) (env 2) (Go.Value.int Go.IntKind.i64 64)) noHp fun v8_1 =>
  K ((env.set 7 (env 2)).set 8 v8_1) h
@[congr] theorem octroiref17_New_r1_congr {env : Env} {h : Hp} {K : Env → Hp → Prop} : octroiref17_New_r1 env h K = octroiref17_New_r1 env h K := rfl

/-- ref.go:49 -/
def octroiref17_New_r2 (env : Env) (h : Hp) (K : Env → Hp → Prop) : Prop :=
  K (env.set 2 (Go.Value.int Go.IntKind.i64 64)) h
@[congr] theorem octroiref17_New_r2_congr {env : Env} {h : Hp} {K : Env → Hp → Prop} : octroiref17_New_r2 env h K = octroiref17_New_r2 env h K := rfl

/-- ref.go:51 -/
def octroiref17_New_r3 (env : Env) (h : Hp) (K : Env → Hp → Prop) : Prop :=
  rd Try.prog (Instr.build 67 #[(0, (env 0)), (1, (env 1)), (2, (env 2))]) noHp fun v12_3 =>
  arun Try.prog (Instr.box 67 v12_3) h fun v13_4 h1 =>
  K ((((((env.set 9 (env 0)).set 10 (env 1)).set 11 (env 2)).set 12 v12_3).set 13 v13_4).set 6 v13_4) h1
@[congr] theorem octroiref17_New_r3_congr {env : Env} {h : Hp} {K : Env → Hp → Prop} : octroiref17_New_r3 env h K = octroiref17_New_r3 env h K := rfl

def octroiref17_New_D : Den := (sq (rg octroiref17_New_r0) (sq (sq (rg octroiref17_New_r1) (cnd (Go.Operand.tmp 8) (rg octroiref17_New_r2) (ex .normal))) (sq (rg octroiref17_New_r3) (ex .ret))))

theorem octroiref17_New_eq : (den Try.prog 14 octroiref17_New_code).1 = octroiref17_New_D := by kernel_rfl

theorem octroiref17_New_ok {args : Array Value} {h : Hp} {Q : Value → Hp → Prop} (hn : args.size ≤ 14) (D : octroiref17_New_D (fin Try.prog [(Go.ResultVar.tmp 6)] Q) (env0 args) h) : Ok Try.prog 23 args h Q :=
  ok_of_den progIsOk Try.func23 (c := octroiref17_New_code) (by kernel_rfl) hn (by show (den Try.prog 14 octroiref17_New_code).1 _ _ _; rw [octroiref17_New_eq]; exact D)

/-! ### octroi/octroilaw17.does: function 24 -/
noncomputable def octroilaw17_does_code : Code := match Try.f24.body with | some c => c | none => .skip

/-- law.go:38 -/
def octroilaw17_does_r0 (env : Env) (h : Hp) (K : Env → Hp → Prop) : Prop :=
  arun Try.prog (Instr.box 47 (env 2)) h fun v5_0 h1 =>
  K ((env.set 5 v5_0).set 6 (Go.Value.bool false)) h1
@[congr] theorem octroilaw17_does_r0_congr {env : Env} {h : Hp} {K : Env → Hp → Prop} : octroilaw17_does_r0 env h K = octroilaw17_does_r0 env h K := rfl

/-- law.go:39 -/
def octroilaw17_does_r1 (env : Env) (h : Hp) (K : Env → Hp → Prop) : Prop :=
  rd Try.prog (Instr.fieldAt 47 (env 5) 0) noHp fun v11_0 =>
  rd Try.prog (Instr.loadAt 3 v11_0) h fun v12_1 =>
  K ((env.set 11 v11_0).set 12 v12_1) h
@[congr] theorem octroilaw17_does_r1_congr {env : Env} {h : Hp} {K : Env → Hp → Prop} : octroilaw17_does_r1 env h K = octroilaw17_does_r1 env h K := rfl

/-- law.go:40 -/
def octroilaw17_does_r2 (env : Env) (h : Hp) (K : Env → Hp → Prop) : Prop :=
  rd Try.prog (bop Go.BinOp.eql 3 (Go.Operand.tmp 12) (Go.Operand.const (Go.Value.int Go.IntKind.i64 0)) (env 12) (Go.Value.int Go.IntKind.i64 0)) noHp fun v14_0 =>
  K ((env.set 14 v14_0).set 13 v14_0) h
@[congr] theorem octroilaw17_does_r2_congr {env : Env} {h : Hp} {K : Env → Hp → Prop} : octroilaw17_does_r2 env h K = octroilaw17_does_r2 env h K := rfl

/-- law.go:41 (in any order) -/
def octroilaw17_does_r3 (env : Env) (h : Hp) (K : Env → Hp → Prop) : Prop :=
  rd Try.prog (Instr.fieldAt 47 (env 5) 3) noHp fun v16_1 =>
  rd Try.prog (Instr.fieldAt 31 v16_1 4) noHp fun v17_2 =>
  rd Try.prog (Instr.loadAt 24 v17_2) h fun v18_3 =>
  rd Try.prog (Instr.fieldAt 47 (env 5) 2) noHp fun v19_4 =>
  rd Try.prog (Instr.loadAt 3 v19_4) h fun v20_5 =>
  rd Try.prog (Instr.fieldAt 47 (env 5) 3) noHp fun v21_6 =>
  rd Try.prog (Instr.fieldAt 31 v21_6 6) noHp fun v22_7 =>
  rd Try.prog (Instr.loadAt 29 v22_7) h fun v23_8 =>
  rd Try.prog (Instr.fieldAt 47 (env 5) 3) noHp fun v26_10 =>
  rd Try.prog (Instr.fieldAt 31 v26_10 4) noHp fun v27_11 =>
  rd Try.prog (Instr.loadAt 24 v27_11) h fun v28_12 =>
  rd Try.prog (Instr.fieldAt 47 (env 5) 2) noHp fun v29_13 =>
  rd Try.prog (Instr.loadAt 3 v29_13) h fun v30_14 =>
  rd Try.prog (Instr.fieldAt 47 (env 5) 3) noHp fun v31_15 =>
  rd Try.prog (Instr.fieldAt 31 v31_15 6) noHp fun v32_16 =>
  rd Try.prog (Instr.loadAt 29 v32_16) h fun v33_17 =>
  Ok Try.prog 37 #[(env 0), v18_3, v20_5, v23_8] h fun v24_18 h1 =>
  (rrun Try.prog (Instr.loadAt 29 v32_16) h1 = some v33_17 ∧ rrun Try.prog (Instr.loadAt 3 v29_13) h1 = some v30_14 ∧ rrun Try.prog (Instr.loadAt 24 v27_11) h1 = some v28_12 ∧ True) ∧
  Ok Try.prog 40 #[(env 1), v28_12, v30_14, v33_17] h1 fun v34_19 h2 =>
  (True) ∧
  rd Try.prog (bop Go.BinOp.eql 32 (Go.Operand.tmp 24) (Go.Operand.tmp 34) v24_18 v34_19) noHp fun v35_20 =>
  K ((((((((((((((((((((((env.set 15 (env 0)).set 16 v16_1).set 17 v17_2).set 18 v18_3).set 19 v19_4).set 20 v20_5).set 21 v21_6).set 22 v22_7).set 23 v23_8).set 25 (env 1)).set 26 v26_10).set 27 v27_11).set 28 v28_12).set 29 v29_13).set 30 v30_14).set 31 v31_15).set 32 v32_16).set 33 v33_17).set 24 v24_18).set 34 v34_19).set 35 v35_20).set 6 v35_20) h2
@[congr] theorem octroilaw17_does_r3_congr {env : Env} {h : Hp} {K : Env → Hp → Prop} : octroilaw17_does_r3 env h K = octroilaw17_does_r3 env h K := rfl

/-- law.go:42 -/
def octroilaw17_does_r4 (env : Env) (h : Hp) (K : Env → Hp → Prop) : Prop :=
  rd Try.prog (bop Go.BinOp.eql 3 (Go.Operand.tmp 12) (Go.Operand.const (Go.Value.int Go.IntKind.i64 1)) (env 12) (Go.Value.int Go.IntKind.i64 1)) noHp fun v37_0 =>
  K ((env.set 37 v37_0).set 36 v37_0) h
@[congr] theorem octroilaw17_does_r4_congr {env : Env} {h : Hp} {K : Env → Hp → Prop} : octroilaw17_does_r4 env h K = octroilaw17_does_r4 env h K := rfl

/-- law.go:43 (in any order) -/
def octroilaw17_does_r5 (env : Env) (h : Hp) (K : Env → Hp → Prop) : Prop :=
  rd Try.prog (Instr.fieldAt 47 (env 5) 3) noHp fun v39_1 =>
  rd Try.prog (Instr.fieldAt 31 v39_1 4) noHp fun v40_2 =>
  rd Try.prog (Instr.loadAt 24 v40_2) h fun v41_3 =>
  rd Try.prog (Instr.fieldAt 47 (env 5) 3) noHp fun v44_5 =>
  rd Try.prog (Instr.fieldAt 31 v44_5 4) noHp fun v45_6 =>
  rd Try.prog (Instr.loadAt 24 v45_6) h fun v46_7 =>
  Ok Try.prog 19 #[(env 0), v41_3] h fun v42_8 h1 =>
  (rrun Try.prog (Instr.loadAt 24 v45_6) h1 = some v46_7 ∧ True) ∧
  Ok Try.prog 41 #[(env 1), v46_7] h1 fun v47_9 h2 =>
  (True) ∧
  rd Try.prog (bop Go.BinOp.eql 32 (Go.Operand.tmp 42) (Go.Operand.tmp 47) v42_8 v47_9) noHp fun v48_10 =>
  K ((((((((((((env.set 38 (env 0)).set 39 v39_1).set 40 v40_2).set 41 v41_3).set 43 (env 1)).set 44 v44_5).set 45 v45_6).set 46 v46_7).set 42 v42_8).set 47 v47_9).set 48 v48_10).set 6 v48_10) h2
@[congr] theorem octroilaw17_does_r5_congr {env : Env} {h : Hp} {K : Env → Hp → Prop} : octroilaw17_does_r5 env h K = octroilaw17_does_r5 env h K := rfl

/-- law.go:44 -/
def octroilaw17_does_r6 (env : Env) (h : Hp) (K : Env → Hp → Prop) : Prop :=
  rd Try.prog (bop Go.BinOp.eql 3 (Go.Operand.tmp 12) (Go.Operand.const (Go.Value.int Go.IntKind.i64 2)) (env 12) (Go.Value.int Go.IntKind.i64 2)) noHp fun v50_0 =>
  K ((env.set 50 v50_0).set 49 v50_0) h
@[congr] theorem octroilaw17_does_r6_congr {env : Env} {h : Hp} {K : Env → Hp → Prop} : octroilaw17_does_r6 env h K = octroilaw17_does_r6 env h K := rfl

/-- law.go:45 -/
def octroilaw17_does_r7 (env : Env) (h : Hp) (K : Env → Hp → Prop) : Prop :=
  Ok Try.prog 38 #[(env 0)] h fun v52_1 h1 =>
  Ok Try.prog 42 #[(env 1)] h1 fun v54_3 h2 =>
  rd Try.prog (bop Go.BinOp.eql 29 (Go.Operand.tmp 52) (Go.Operand.tmp 54) v52_1 v54_3) noHp fun v55_4 =>
  K ((((((env.set 51 (env 0)).set 52 v52_1).set 53 (env 1)).set 54 v54_3).set 55 v55_4).set 6 v55_4) h2
@[congr] theorem octroilaw17_does_r7_congr {env : Env} {h : Hp} {K : Env → Hp → Prop} : octroilaw17_does_r7 env h K = octroilaw17_does_r7 env h K := rfl

/-- law.go:46 -/
def octroilaw17_does_r8 (env : Env) (h : Hp) (K : Env → Hp → Prop) : Prop :=
  rd Try.prog (bop Go.BinOp.eql 3 (Go.Operand.tmp 12) (Go.Operand.const (Go.Value.int Go.IntKind.i64 3)) (env 12) (Go.Value.int Go.IntKind.i64 3)) noHp fun v57_0 =>
  K ((env.set 57 v57_0).set 56 v57_0) h
@[congr] theorem octroilaw17_does_r8_congr {env : Env} {h : Hp} {K : Env → Hp → Prop} : octroilaw17_does_r8 env h K = octroilaw17_does_r8 env h K := rfl

/-- law.go:47 -/
def octroilaw17_does_r9 (env : Env) (h : Hp) (K : Env → Hp → Prop) : Prop :=
  rd Try.prog (Instr.fieldAt 47 (env 5) 1) noHp fun v60_1 =>
  rd Try.prog (Instr.loadAt 3 v60_1) h fun v61_2 =>
  rd Try.prog (Instr.fieldAt 47 (env 5) 2) noHp fun v62_3 =>
  rd Try.prog (Instr.loadAt 3 v62_3) h fun v63_4 =>
  rd Try.prog (Instr.fieldAt 47 (env 5) 3) noHp fun v64_5 =>
  rd Try.prog (Instr.loadAt 31 v64_5) h fun v65_6 =>
  Ok Try.prog 12 #[(env 0), v61_2, v63_4, v65_6] h fun v66_7 h1 =>
  rd Try.prog (Instr.extract v66_7 0) noHp fun v67_9 =>
  rd Try.prog (Instr.extract v66_7 1) noHp fun v68_10 =>
  K (((((((((((((env.set 59 (env 0)).set 60 v60_1).set 61 v61_2).set 62 v62_3).set 63 v63_4).set 64 v64_5).set 65 v65_6).set 66 v66_7).set 58 v66_7).set 67 v67_9).set 68 v68_10).set 7 v67_9).set 8 v68_10) h1
@[congr] theorem octroilaw17_does_r9_congr {env : Env} {h : Hp} {K : Env → Hp → Prop} : octroilaw17_does_r9 env h K = octroilaw17_does_r9 env h K := rfl

/-- law.go:48 -/
def octroilaw17_does_r10 (env : Env) (h : Hp) (K : Env → Hp → Prop) : Prop :=
  rd Try.prog (Instr.fieldAt 47 (env 5) 1) noHp fun v71_1 =>
  rd Try.prog (Instr.loadAt 3 v71_1) h fun v72_2 =>
  rd Try.prog (Instr.fieldAt 47 (env 5) 2) noHp fun v73_3 =>
  rd Try.prog (Instr.loadAt 3 v73_3) h fun v74_4 =>
  rd Try.prog (Instr.fieldAt 47 (env 5) 3) noHp fun v75_5 =>
  rd Try.prog (Instr.loadAt 31 v75_5) h fun v76_6 =>
  Ok Try.prog 43 #[(env 1), v72_2, v74_4, v76_6] h fun v77_7 h1 =>
  rd Try.prog (Instr.extract v77_7 0) noHp fun v78_9 =>
  rd Try.prog (Instr.extract v77_7 1) noHp fun v79_10 =>
  K (((((((((((((env.set 70 (env 1)).set 71 v71_1).set 72 v72_2).set 73 v73_3).set 74 v74_4).set 75 v75_5).set 76 v76_6).set 77 v77_7).set 69 v77_7).set 78 v78_9).set 79 v79_10).set 9 v78_9).set 10 v79_10) h1
@[congr] theorem octroilaw17_does_r10_congr {env : Env} {h : Hp} {K : Env → Hp → Prop} : octroilaw17_does_r10 env h K = octroilaw17_does_r10 env h K := rfl

/-- law.go:49 -/
def octroilaw17_does_r11 (env : Env) (h : Hp) (K : Env → Hp → Prop) : Prop :=
  rd Try.prog (bop Go.BinOp.eql 4 (Go.Operand.tmp 80) (Go.Operand.tmp 81) (env 7) (env 9)) noHp fun v82_2 =>
  gd (yb v82_2 == some true) (fun h k => k (env 8) h) h fun v84_4 h1 =>
  gd (yb v82_2 == some true) (fun h k => k (env 10) h) h1 fun v85_5 h2 =>
  gd (yb v82_2 == some true) (fun h k => rd Try.prog (bop Go.BinOp.eql 32 (Go.Operand.tmp 84) (Go.Operand.tmp 85) v84_4 v85_5) noHp fun v => k v h) h2 fun v86_6 h3 =>
  rd Try.prog (pck v82_2 v86_6 (Go.Value.bool false)) noHp fun v87_7 =>
  K (((((((((env.set 80 (env 7)).set 81 (env 9)).set 82 v82_2).set 83 v82_2).set 84 v84_4).set 85 v85_5).set 86 v86_6).set 87 v87_7).set 6 v87_7) h3
@[congr] theorem octroilaw17_does_r11_congr {env : Env} {h : Hp} {K : Env → Hp → Prop} : octroilaw17_does_r11 env h K = octroilaw17_does_r11 env h K := rfl

/-- law.go:50 -/
def octroilaw17_does_r12 (env : Env) (h : Hp) (K : Env → Hp → Prop) : Prop :=
  rd Try.prog (bop Go.BinOp.eql 3 (Go.Operand.tmp 12) (Go.Operand.const (Go.Value.int Go.IntKind.i64 4)) (env 12) (Go.Value.int Go.IntKind.i64 4)) noHp fun v89_0 =>
  K ((env.set 89 v89_0).set 88 v89_0) h
@[congr] theorem octroilaw17_does_r12_congr {env : Env} {h : Hp} {K : Env → Hp → Prop} : octroilaw17_does_r12 env h K = octroilaw17_does_r12 env h K := rfl

/-- law.go:51 -/
def octroilaw17_does_r13 (env : Env) (h : Hp) (K : Env → Hp → Prop) : Prop :=
  rd Try.prog (Instr.fieldAt 47 (env 5) 1) noHp fun v91_1 =>
  rd Try.prog (Instr.loadAt 3 v91_1) h fun v92_2 =>
  Ok Try.prog 15 #[(env 0), v92_2] h fun v93_3 h1 =>
  K ((((env.set 90 (env 0)).set 91 v91_1).set 92 v92_2).set 93 v93_3) h1
@[congr] theorem octroilaw17_does_r13_congr {env : Env} {h : Hp} {K : Env → Hp → Prop} : octroilaw17_does_r13 env h K = octroilaw17_does_r13 env h K := rfl

/-- law.go:52 -/
def octroilaw17_does_r14 (env : Env) (h : Hp) (K : Env → Hp → Prop) : Prop :=
  rd Try.prog (Instr.fieldAt 47 (env 5) 1) noHp fun v95_1 =>
  rd Try.prog (Instr.loadAt 3 v95_1) h fun v96_2 =>
  Ok Try.prog 44 #[(env 1), v96_2] h fun v97_3 h1 =>
  K ((((env.set 94 (env 1)).set 95 v95_1).set 96 v96_2).set 97 v97_3) h1
@[congr] theorem octroilaw17_does_r14_congr {env : Env} {h : Hp} {K : Env → Hp → Prop} : octroilaw17_does_r14 env h K = octroilaw17_does_r14 env h K := rfl

/-- law.go:53 -/
def octroilaw17_does_r15 (env : Env) (h : Hp) (K : Env → Hp → Prop) : Prop :=
  rd Try.prog (bop Go.BinOp.eql 3 (Go.Operand.tmp 12) (Go.Operand.const (Go.Value.int Go.IntKind.i64 5)) (env 12) (Go.Value.int Go.IntKind.i64 5)) noHp fun v99_0 =>
  K ((env.set 99 v99_0).set 98 v99_0) h
@[congr] theorem octroilaw17_does_r15_congr {env : Env} {h : Hp} {K : Env → Hp → Prop} : octroilaw17_does_r15 env h K = octroilaw17_does_r15 env h K := rfl

/-- law.go:54 -/
def octroilaw17_does_r16 (env : Env) (h : Hp) (K : Env → Hp → Prop) : Prop :=
  Ok Try.prog 14 #[(env 0)] h fun v101_1 h1 =>
  Ok Try.prog 30 #[(env 1)] h1 fun v103_3 h2 =>
  Ok Try.prog 29 #[v101_1, v103_3] h2 fun v104_4 h3 =>
  K ((((((env.set 100 (env 0)).set 101 v101_1).set 102 (env 1)).set 103 v103_3).set 104 v104_4).set 6 v104_4) h3
@[congr] theorem octroilaw17_does_r16_congr {env : Env} {h : Hp} {K : Env → Hp → Prop} : octroilaw17_does_r16 env h K = octroilaw17_does_r16 env h K := rfl

/-- law.go:55 -/
def octroilaw17_does_r17 (env : Env) (h : Hp) (K : Env → Hp → Prop) : Prop :=
  rd Try.prog (bop Go.BinOp.eql 3 (Go.Operand.tmp 12) (Go.Operand.const (Go.Value.int Go.IntKind.i64 6)) (env 12) (Go.Value.int Go.IntKind.i64 6)) noHp fun v106_0 =>
  K ((env.set 106 v106_0).set 105 v106_0) h
@[congr] theorem octroilaw17_does_r17_congr {env : Env} {h : Hp} {K : Env → Hp → Prop} : octroilaw17_does_r17 env h K = octroilaw17_does_r17 env h K := rfl

/-- law.go:56 -/
def octroilaw17_does_r18 (env : Env) (h : Hp) (K : Env → Hp → Prop) : Prop :=
  rd Try.prog (Instr.fieldAt 47 (env 5) 3) noHp fun v108_1 =>
  rd Try.prog (Instr.fieldAt 31 v108_1 4) noHp fun v109_2 =>
  rd Try.prog (Instr.loadAt 24 v109_2) h fun v110_3 =>
  rd Try.prog (Instr.fieldAt 47 (env 5) 3) noHp fun v111_4 =>
  rd Try.prog (Instr.fieldAt 31 v111_4 5) noHp fun v112_5 =>
  rd Try.prog (Instr.loadAt 28 v112_5) h fun v113_6 =>
  rd Try.prog (Instr.fieldAt 47 (env 5) 3) noHp fun v114_7 =>
  rd Try.prog (Instr.fieldAt 31 v114_7 1) noHp fun v115_8 =>
  rd Try.prog (Instr.loadAt 29 v115_8) h fun v116_9 =>
  rd Try.prog (Instr.fieldAt 47 (env 5) 2) noHp fun v117_10 =>
  rd Try.prog (Instr.loadAt 3 v117_10) h fun v118_11 =>
  Ok Try.prog 36 #[(env 0), v110_3, v113_6, v116_9, v118_11] h fun v119_12 h1 =>
  K (((((((((((((env.set 107 (env 0)).set 108 v108_1).set 109 v109_2).set 110 v110_3).set 111 v111_4).set 112 v112_5).set 113 v113_6).set 114 v114_7).set 115 v115_8).set 116 v116_9).set 117 v117_10).set 118 v118_11).set 119 v119_12) h1
@[congr] theorem octroilaw17_does_r18_congr {env : Env} {h : Hp} {K : Env → Hp → Prop} : octroilaw17_does_r18 env h K = octroilaw17_does_r18 env h K := rfl

/-- law.go:57 -/
def octroilaw17_does_r19 (env : Env) (h : Hp) (K : Env → Hp → Prop) : Prop :=
  rd Try.prog (Instr.fieldAt 47 (env 5) 3) noHp fun v121_1 =>
  rd Try.prog (Instr.fieldAt 31 v121_1 4) noHp fun v122_2 =>
  rd Try.prog (Instr.loadAt 24 v122_2) h fun v123_3 =>
  rd Try.prog (Instr.fieldAt 47 (env 5) 3) noHp fun v124_4 =>
  rd Try.prog (Instr.fieldAt 31 v124_4 5) noHp fun v125_5 =>
  rd Try.prog (Instr.loadAt 28 v125_5) h fun v126_6 =>
  rd Try.prog (Instr.fieldAt 47 (env 5) 3) noHp fun v127_7 =>
  rd Try.prog (Instr.fieldAt 31 v127_7 1) noHp fun v128_8 =>
  rd Try.prog (Instr.loadAt 29 v128_8) h fun v129_9 =>
  rd Try.prog (Instr.fieldAt 47 (env 5) 2) noHp fun v130_10 =>
  rd Try.prog (Instr.loadAt 3 v130_10) h fun v131_11 =>
  Ok Try.prog 45 #[(env 1), v123_3, v126_6, v129_9, v131_11] h fun v132_12 h1 =>
  K (((((((((((((env.set 120 (env 1)).set 121 v121_1).set 122 v122_2).set 123 v123_3).set 124 v124_4).set 125 v125_5).set 126 v126_6).set 127 v127_7).set 128 v128_8).set 129 v129_9).set 130 v130_10).set 131 v131_11).set 132 v132_12) h1
@[congr] theorem octroilaw17_does_r19_congr {env : Env} {h : Hp} {K : Env → Hp → Prop} : octroilaw17_does_r19 env h K = octroilaw17_does_r19 env h K := rfl

/-- law.go:59 -/
def octroilaw17_does_r20 (env : Env) (h : Hp) (K : Env → Hp → Prop) : Prop :=
  K (env.set 6 (Go.Value.bool true)) h
@[congr] theorem octroilaw17_does_r20_congr {env : Env} {h : Hp} {K : Env → Hp → Prop} : octroilaw17_does_r20 env h K = octroilaw17_does_r20 env h K := rfl

def octroilaw17_does_D : Den := (sq (rg octroilaw17_does_r0) (sq (sq (rg octroilaw17_does_r1) (blk 0 (sq (rg octroilaw17_does_r2) (cnd (Go.Operand.tmp 13) (sq (rg octroilaw17_does_r3) (ex .ret)) (sq (rg octroilaw17_does_r4) (cnd (Go.Operand.tmp 36) (sq (rg octroilaw17_does_r5) (ex .ret)) (sq (rg octroilaw17_does_r6) (cnd (Go.Operand.tmp 49) (sq (rg octroilaw17_does_r7) (ex .ret)) (sq (rg octroilaw17_does_r8) (cnd (Go.Operand.tmp 56) (sq (rg octroilaw17_does_r9) (sq (rg octroilaw17_does_r10) (sq (rg octroilaw17_does_r11) (ex .ret)))) (sq (rg octroilaw17_does_r12) (cnd (Go.Operand.tmp 88) (sq (rg octroilaw17_does_r13) (rg octroilaw17_does_r14)) (sq (rg octroilaw17_does_r15) (cnd (Go.Operand.tmp 98) (sq (rg octroilaw17_does_r16) (ex .ret)) (sq (rg octroilaw17_does_r17) (cnd (Go.Operand.tmp 105) (sq (rg octroilaw17_does_r18) (rg octroilaw17_does_r19)) (ex .normal))))))))))))))))) (sq (rg octroilaw17_does_r20) (ex .ret))))

theorem octroilaw17_does_eq : (den Try.prog 133 octroilaw17_does_code).1 = octroilaw17_does_D := by kernel_rfl

theorem octroilaw17_does_ok {args : Array Value} {h : Hp} {Q : Value → Hp → Prop} (hn : args.size ≤ 133) (D : octroilaw17_does_D (fin Try.prog [(Go.ResultVar.tmp 6)] Q) (env0 args) h) : Ok Try.prog 24 args h Q :=
  ok_of_den progIsOk Try.func24 (c := octroilaw17_does_code) (by kernel_rfl) hn (by show (den Try.prog 133 octroilaw17_does_code).1 _ _ _; rw [octroilaw17_does_eq]; exact D)

/-! ### octroi/octroiref09.Same: function 25 -/
noncomputable def octroiref09_Same_code : Code := match Try.f25.body with | some c => c | none => .skip

/-- ref.go:151 -/
def octroiref09_Same_r0 (env : Env) (h : Hp) (K : Env → Hp → Prop) : Prop :=
  K (env.set 4 (Go.Value.bool false)) h
@[congr] theorem octroiref09_Same_r0_congr {env : Env} {h : Hp} {K : Env → Hp → Prop} : octroiref09_Same_r0 env h K = octroiref09_Same_r0 env h K := rfl

/-- ref.go:152 -/
def octroiref09_Same_r1 (env : Env) (h : Hp) (K : Env → Hp → Prop) : Prop :=
  rd Try.prog (Builtin.len_ #[35] 3 #[(env 0)]) h fun v7_1 =>
  rd Try.prog (Builtin.len_ #[35] 3 #[(env 1)]) h fun v9_3 =>
  rd Try.prog (bop Go.BinOp.neq 3 (Go.Operand.tmp 7) (Go.Operand.tmp 9) v7_1 v9_3) noHp fun v10_4 =>
  K (((((env.set 6 (env 0)).set 7 v7_1).set 8 (env 1)).set 9 v9_3).set 10 v10_4) h
@[congr] theorem octroiref09_Same_r1_congr {env : Env} {h : Hp} {K : Env → Hp → Prop} : octroiref09_Same_r1 env h K = octroiref09_Same_r1 env h K := rfl

/-- ref.go:153 -/
def octroiref09_Same_r2 (env : Env) (h : Hp) (K : Env → Hp → Prop) : Prop :=
  K (env.set 4 (Go.Value.bool false)) h
@[congr] theorem octroiref09_Same_r2_congr {env : Env} {h : Hp} {K : Env → Hp → Prop} : octroiref09_Same_r2 env h K = octroiref09_Same_r2 env h K := rfl

/-- ref.go:155 -/
def octroiref09_Same_r3 (env : Env) (h : Hp) (K : Env → Hp → Prop) : Prop :=
  K (env.set 5 (Go.Value.int Go.IntKind.i64 0)) h
@[congr] theorem octroiref09_Same_r3_congr {env : Env} {h : Hp} {K : Env → Hp → Prop} : octroiref09_Same_r3 env h K = octroiref09_Same_r3 env h K := rfl

/-- ref.go:155 -/
def octroiref09_Same_r4 (env : Env) (h : Hp) (K : Env → Hp → Prop) : Prop :=
  rd Try.prog (Builtin.len_ #[35] 3 #[(env 0)]) h fun v13_2 =>
  rd Try.prog (bop Go.BinOp.lss 3 (Go.Operand.tmp 11) (Go.Operand.tmp 13) (env 5) v13_2) noHp fun v14_3 =>
  K ((((env.set 11 (env 5)).set 12 (env 0)).set 13 v13_2).set 14 v14_3) h
@[congr] theorem octroiref09_Same_r4_congr {env : Env} {h : Hp} {K : Env → Hp → Prop} : octroiref09_Same_r4 env h K = octroiref09_Same_r4 env h K := rfl

/-- ref.go:156 (in any order) -/
def octroiref09_Same_r5 (env : Env) (h : Hp) (K : Env → Hp → Prop) : Prop :=
  rd Try.prog (Instr.indexAt 35 (env 0) (env 5)) noHp fun v19_2 =>
  rd Try.prog (Instr.loadAt 38 v19_2) h fun v20_3 =>
  rd Try.prog (Instr.indexAt 35 (env 1) (env 5)) noHp fun v23_6 =>
  rd Try.prog (Instr.loadAt 38 v23_6) h fun v24_7 =>
  rd Try.prog (bop Go.BinOp.neq 38 (Go.Operand.tmp 20) (Go.Operand.tmp 24) v20_3 v24_7) noHp fun v25_8 =>
  K (((((((((env.set 17 (env 0)).set 18 (env 5)).set 19 v19_2).set 20 v20_3).set 21 (env 1)).set 22 (env 5)).set 23 v23_6).set 24 v24_7).set 25 v25_8) h
@[congr] theorem octroiref09_Same_r5_congr {env : Env} {h : Hp} {K : Env → Hp → Prop} : octroiref09_Same_r5 env h K = octroiref09_Same_r5 env h K := rfl

/-- ref.go:157 -/
def octroiref09_Same_r6 (env : Env) (h : Hp) (K : Env → Hp → Prop) : Prop :=
  K (env.set 4 (Go.Value.bool false)) h
@[congr] theorem octroiref09_Same_r6_congr {env : Env} {h : Hp} {K : Env → Hp → Prop} : octroiref09_Same_r6 env h K = octroiref09_Same_r6 env h K := rfl

/-- ref.go:155 -/
def octroiref09_Same_r7 (env : Env) (h : Hp) (K : Env → Hp → Prop) : Prop :=
  rd Try.prog (bop Go.BinOp.add 3 (Go.Operand.tmp 15) (Go.Operand.const (Go.Value.int Go.IntKind.i64 1)) (env 5) (Go.Value.int Go.IntKind.i64 1)) noHp fun v16_1 =>
  K (((env.set 15 (env 5)).set 16 v16_1).set 5 v16_1) h
@[congr] theorem octroiref09_Same_r7_congr {env : Env} {h : Hp} {K : Env → Hp → Prop} : octroiref09_Same_r7 env h K = octroiref09_Same_r7 env h K := rfl

def octroiref09_Same_L0 : Den := (sq (sq (rg octroiref09_Same_r4) (cnd (Go.Operand.tmp 14) (ex .normal) (ex (.exit 0)))) (sq (blk 1 (sq (rg octroiref09_Same_r5) (cnd (Go.Operand.tmp 25) (sq (rg octroiref09_Same_r6) (ex .ret)) (ex .normal)))) (rg octroiref09_Same_r7)))

/-- ref.go:160 -/
def octroiref09_Same_r8 (env : Env) (h : Hp) (K : Env → Hp → Prop) : Prop :=
  K (env.set 4 (Go.Value.bool true)) h
@[congr] theorem octroiref09_Same_r8_congr {env : Env} {h : Hp} {K : Env → Hp → Prop} : octroiref09_Same_r8 env h K = octroiref09_Same_r8 env h K := rfl

def octroiref09_Same_D : Den := (sq (rg octroiref09_Same_r0) (sq (sq (rg octroiref09_Same_r1) (cnd (Go.Operand.tmp 10) (sq (rg octroiref09_Same_r2) (ex .ret)) (ex .normal))) (sq (sq (rg octroiref09_Same_r3) (blk 0 (lp octroiref09_Same_L0))) (sq (rg octroiref09_Same_r8) (ex .ret)))))

theorem octroiref09_Same_eq : (den Try.prog 26 octroiref09_Same_code).1 = octroiref09_Same_D := by kernel_rfl

theorem octroiref09_Same_ok {args : Array Value} {h : Hp} {Q : Value → Hp → Prop} (hn : args.size ≤ 26) (D : octroiref09_Same_D (fin Try.prog [(Go.ResultVar.tmp 4)] Q) (env0 args) h) : Ok Try.prog 25 args h Q :=
  ok_of_den progIsOk Try.func25 (c := octroiref09_Same_code) (by kernel_rfl) hn (by show (den Try.prog 26 octroiref09_Same_code).1 _ _ _; rw [octroiref09_Same_eq]; exact D)

/-! ### (*octroi/octroiref17.Babel).All: function 26 -/
noncomputable def octroiref17_Babel_All_code : Code := match Try.f26.body with | some c => c | none => .skip

/-- ref.go:254 -/
def octroiref17_Babel_All_r0 (env : Env) (h : Hp) (K : Env → Hp → Prop) : Prop :=
  K (env.set 2 (Go.Value.slice none 0 0)) h
@[congr] theorem octroiref17_Babel_All_r0_congr {env : Env} {h : Hp} {K : Env → Hp → Prop} : octroiref17_Babel_All_r0 env h K = octroiref17_Babel_All_r0 env h K := rfl

/-- ref.go:255 -/
def octroiref17_Babel_All_r1 (env : Env) (h : Hp) (K : Env → Hp → Prop) : Prop :=
  K (env.set 3 (Go.Value.slice none 0 0)) h
@[congr] theorem octroiref17_Babel_All_r1_congr {env : Env} {h : Hp} {K : Env → Hp → Prop} : octroiref17_Babel_All_r1 env h K = octroiref17_Babel_All_r1 env h K := rfl

/-- ref.go:256 -/
def octroiref17_Babel_All_r2 (env : Env) (h : Hp) (K : Env → Hp → Prop) : Prop :=
  Ok Try.prog 46 #[(env 0)] h fun v10_1 h1 =>
  K (((env.set 9 (env 0)).set 10 v10_1).set 4 v10_1) h1
@[congr] theorem octroiref17_Babel_All_r2_congr {env : Env} {h : Hp} {K : Env → Hp → Prop} : octroiref17_Babel_All_r2 env h K = octroiref17_Babel_All_r2 env h K := rfl

/-- ref.go:257 -/
def octroiref17_Babel_All_r3 (env : Env) (h : Hp) (K : Env → Hp → Prop) : Prop :=
  K (env.set 5 (Go.Value.int Go.IntKind.i64 0)) h
@[congr] theorem octroiref17_Babel_All_r3_congr {env : Env} {h : Hp} {K : Env → Hp → Prop} : octroiref17_Babel_All_r3 env h K = octroiref17_Babel_All_r3 env h K := rfl

/-- ref.go:257 -/
def octroiref17_Babel_All_r4 (env : Env) (h : Hp) (K : Env → Hp → Prop) : Prop :=
  rd Try.prog (Builtin.len_ #[88] 3 #[(env 4)]) h fun v13_2 =>
  rd Try.prog (bop Go.BinOp.lss 3 (Go.Operand.tmp 11) (Go.Operand.tmp 13) (env 5) v13_2) noHp fun v14_3 =>
  K ((((env.set 11 (env 5)).set 12 (env 4)).set 13 v13_2).set 14 v14_3) h
@[congr] theorem octroiref17_Babel_All_r4_congr {env : Env} {h : Hp} {K : Env → Hp → Prop} : octroiref17_Babel_All_r4 env h K = octroiref17_Babel_All_r4 env h K := rfl

/-- ref.go:258 -/
def octroiref17_Babel_All_r5 (env : Env) (h : Hp) (K : Env → Hp → Prop) : Prop :=
  rd Try.prog (Instr.indexAt 88 (env 4) (env 5)) noHp fun v21_3 =>
  rd Try.prog (Instr.loadAt 24 v21_3) h fun v22_4 =>
  Ok Try.prog 47 #[(env 0), v22_4] h fun v23_5 h1 =>
  rd Try.prog (Instr.extract v23_5 0) noHp fun v24_7 =>
  rd Try.prog (Instr.extract v23_5 1) noHp fun v25_8 =>
  rd Try.prog (Instr.extract v23_5 2) noHp fun v26_9 =>
  arun Try.prog (Instr.alloc 31 true (Go.Value.tuple #[])) h1 fun v6_10 h2 =>
  arun Try.prog (Instr.storeAt 31 v6_10 v24_7) h2 fun _ h3 =>
  K (((((((((((((env.set 18 (env 0)).set 19 (env 4)).set 20 (env 5)).set 21 v21_3).set 22 v22_4).set 23 v23_5).set 17 v23_5).set 24 v24_7).set 25 v25_8).set 26 v26_9).set 6 v6_10).set 7 v25_8).set 8 v26_9) h3
@[congr] theorem octroiref17_Babel_All_r5_congr {env : Env} {h : Hp} {K : Env → Hp → Prop} : octroiref17_Babel_All_r5 env h K = octroiref17_Babel_All_r5 env h K := rfl

/-- ref.go:259 -/
def octroiref17_Babel_All_r6 (env : Env) (h : Hp) (K : Env → Hp → Prop) : Prop :=
  K (env.set 27 (env 8)) h
@[congr] theorem octroiref17_Babel_All_r6_congr {env : Env} {h : Hp} {K : Env → Hp → Prop} : octroiref17_Babel_All_r6 env h K = octroiref17_Babel_All_r6 env h K := rfl

/-- ref.go:260 (in any order) -/
def octroiref17_Babel_All_r7 (env : Env) (h : Hp) (K : Env → Hp → Prop) : Prop :=
  rd Try.prog (Instr.indexAt 88 (env 4) (env 5)) noHp fun v31_3 =>
  rd Try.prog (Instr.loadAt 24 v31_3) h fun v32_4 =>
  nck (env 0) (
  rd Try.prog (Instr.fieldAt 67 (env 0) 1) noHp fun v35_7 =>
  rd Try.prog (Instr.loadAt 3 v35_7) h fun v36_8 =>
  rd Try.prog (Instr.fieldAt 31 (env 6) 3) noHp fun v37_9 =>
  rd Try.prog (Instr.loadAt 3 v37_9) h fun v38_10 =>
  rd Try.prog (Instr.fieldAt 31 (env 6) 6) noHp fun v40_12 =>
  rd Try.prog (Instr.loadAt 29 v40_12) h fun v41_13 =>
  rd Try.prog (Instr.build 38 #[(0, v32_4), (1, v36_8), (2, (Go.Value.int Go.IntKind.i64 115)), (3, v38_10), (4, (env 7)), (5, v41_13)]) noHp fun v42_14 =>
  arun Try.prog (Instr.buildSlice 35 1 #[(0, v42_14)]) h fun v43_15 h1 =>
  (True) ∧
  arun Try.prog (Builtin.append_ #[35, 35] 35 #[(env 3), v43_15]) h1 fun v44_16 h2 =>
  (True) ∧
  K ((((((((((((((((((env.set 28 (env 3)).set 29 (env 4)).set 30 (env 5)).set 31 v31_3).set 32 v32_4).set 33 (env 0)).set 34 (env 0)).set 35 v35_7).set 36 v36_8).set 37 v37_9).set 38 v38_10).set 39 (env 7)).set 40 v40_12).set 41 v41_13).set 42 v42_14).set 43 v43_15).set 44 v44_16).set 3 v44_16) h2)
@[congr] theorem octroiref17_Babel_All_r7_congr {env : Env} {h : Hp} {K : Env → Hp → Prop} : octroiref17_Babel_All_r7 env h K = octroiref17_Babel_All_r7 env h K := rfl

/-- ref.go:257 -/
def octroiref17_Babel_All_r8 (env : Env) (h : Hp) (K : Env → Hp → Prop) : Prop :=
  rd Try.prog (bop Go.BinOp.add 3 (Go.Operand.tmp 15) (Go.Operand.const (Go.Value.int Go.IntKind.i64 1)) (env 5) (Go.Value.int Go.IntKind.i64 1)) noHp fun v16_1 =>
  K (((env.set 15 (env 5)).set 16 v16_1).set 5 v16_1) h
@[congr] theorem octroiref17_Babel_All_r8_congr {env : Env} {h : Hp} {K : Env → Hp → Prop} : octroiref17_Babel_All_r8 env h K = octroiref17_Babel_All_r8 env h K := rfl

def octroiref17_Babel_All_L0 : Den := (sq (sq (rg octroiref17_Babel_All_r4) (cnd (Go.Operand.tmp 14) (ex .normal) (ex (.exit 0)))) (sq (blk 1 (sq (rg octroiref17_Babel_All_r5) (sq (rg octroiref17_Babel_All_r6) (cnd (Go.Operand.tmp 27) (rg octroiref17_Babel_All_r7) (ex .normal))))) (rg octroiref17_Babel_All_r8)))

/-- ref.go:263 -/
def octroiref17_Babel_All_r9 (env : Env) (h : Hp) (K : Env → Hp → Prop) : Prop :=
  K ((env.set 45 (env 3)).set 2 (env 3)) h
@[congr] theorem octroiref17_Babel_All_r9_congr {env : Env} {h : Hp} {K : Env → Hp → Prop} : octroiref17_Babel_All_r9 env h K = octroiref17_Babel_All_r9 env h K := rfl

def octroiref17_Babel_All_D : Den := (sq (rg octroiref17_Babel_All_r0) (sq (rg octroiref17_Babel_All_r1) (sq (rg octroiref17_Babel_All_r2) (sq (sq (rg octroiref17_Babel_All_r3) (blk 0 (lp octroiref17_Babel_All_L0))) (sq (rg octroiref17_Babel_All_r9) (ex .ret))))))

theorem octroiref17_Babel_All_eq : (den Try.prog 46 octroiref17_Babel_All_code).1 = octroiref17_Babel_All_D := by kernel_rfl

theorem octroiref17_Babel_All_ok {args : Array Value} {h : Hp} {Q : Value → Hp → Prop} (hn : args.size ≤ 46) (D : octroiref17_Babel_All_D (fin Try.prog [(Go.ResultVar.tmp 2)] Q) (env0 args) h) : Ok Try.prog 26 args h Q :=
  ok_of_den progIsOk Try.func26 (c := octroiref17_Babel_All_code) (by kernel_rfl) hn (by show (den Try.prog 46 octroiref17_Babel_All_code).1 _ _ _; rw [octroiref17_Babel_All_eq]; exact D)

/-! ### (*octroi/octroiref17.Babel).Source: function 27 -/
noncomputable def octroiref17_Babel_Source_code : Code := match Try.f27.body with | some c => c | none => .skip

/-- ref.go:267 -/
def octroiref17_Babel_Source_r0 (env : Env) (h : Hp) (K : Env → Hp → Prop) : Prop :=
  arun Try.prog (Instr.box 24 (env 1)) h fun v3_0 h1 =>
  K (((env.set 3 v3_0).set 4 (Go.Value.int Go.IntKind.u64 0)).set 5 (Go.Value.bool false)) h1
@[congr] theorem octroiref17_Babel_Source_r0_congr {env : Env} {h : Hp} {K : Env → Hp → Prop} : octroiref17_Babel_Source_r0 env h K = octroiref17_Babel_Source_r0 env h K := rfl

/-- ref.go:268 -/
def octroiref17_Babel_Source_r1 (env : Env) (h : Hp) (K : Env → Hp → Prop) : Prop :=
  rd Try.prog (Instr.loadAt 24 (env 3)) h fun v11_1 =>
  Ok Try.prog 47 #[(env 0), v11_1] h fun v12_2 h1 =>
  rd Try.prog (Instr.extract v12_2 0) noHp fun v13_4 =>
  rd Try.prog (Instr.extract v12_2 1) noHp fun v14_5 =>
  rd Try.prog (Instr.extract v12_2 2) noHp fun v15_6 =>
  arun Try.prog (Instr.alloc 31 true (Go.Value.tuple #[])) h1 fun v6_7 h2 =>
  arun Try.prog (Instr.storeAt 31 v6_7 v13_4) h2 fun _ h3 =>
  K ((((((((((env.set 10 (env 0)).set 11 v11_1).set 12 v12_2).set 9 v12_2).set 13 v13_4).set 14 v14_5).set 15 v15_6).set 6 v6_7).set 7 v14_5).set 8 v15_6) h3
@[congr] theorem octroiref17_Babel_Source_r1_congr {env : Env} {h : Hp} {K : Env → Hp → Prop} : octroiref17_Babel_Source_r1 env h K = octroiref17_Babel_Source_r1 env h K := rfl

/-- ref.go:269 -/
def octroiref17_Babel_Source_r2 (env : Env) (h : Hp) (K : Env → Hp → Prop) : Prop :=
  rd Try.prog (Op.unary Go.UnOp.not (env 8)) noHp fun v17_1 =>
  K ((env.set 16 (env 8)).set 17 v17_1) h
@[congr] theorem octroiref17_Babel_Source_r2_congr {env : Env} {h : Hp} {K : Env → Hp → Prop} : octroiref17_Babel_Source_r2 env h K = octroiref17_Babel_Source_r2 env h K := rfl

/-- ref.go:270 -/
def octroiref17_Babel_Source_r3 (env : Env) (h : Hp) (K : Env → Hp → Prop) : Prop :=
  K ((env.set 4 (Go.Value.int Go.IntKind.u64 0)).set 5 (Go.Value.bool false)) h
@[congr] theorem octroiref17_Babel_Source_r3_congr {env : Env} {h : Hp} {K : Env → Hp → Prop} : octroiref17_Babel_Source_r3 env h K = octroiref17_Babel_Source_r3 env h K := rfl

/-- ref.go:272 -/
def octroiref17_Babel_Source_r4 (env : Env) (h : Hp) (K : Env → Hp → Prop) : Prop :=
  rd Try.prog (Instr.fieldAt 31 (env 6) 5) noHp fun v18_0 =>
  rd Try.prog (Instr.loadAt 28 v18_0) h fun v19_1 =>
  K ((((env.set 18 v18_0).set 19 v19_1).set 4 v19_1).set 5 (Go.Value.bool true)) h
@[congr] theorem octroiref17_Babel_Source_r4_congr {env : Env} {h : Hp} {K : Env → Hp → Prop} : octroiref17_Babel_Source_r4 env h K = octroiref17_Babel_Source_r4 env h K := rfl

def octroiref17_Babel_Source_D : Den := (sq (rg octroiref17_Babel_Source_r0) (sq (rg octroiref17_Babel_Source_r1) (sq (sq (rg octroiref17_Babel_Source_r2) (cnd (Go.Operand.tmp 17) (sq (rg octroiref17_Babel_Source_r3) (ex .ret)) (ex .normal))) (sq (rg octroiref17_Babel_Source_r4) (ex .ret)))))

theorem octroiref17_Babel_Source_eq : (den Try.prog 20 octroiref17_Babel_Source_code).1 = octroiref17_Babel_Source_D := by kernel_rfl

theorem octroiref17_Babel_Source_ok {args : Array Value} {h : Hp} {Q : Value → Hp → Prop} (hn : args.size ≤ 20) (D : octroiref17_Babel_Source_D (fin Try.prog [(Go.ResultVar.tmp 4), (Go.ResultVar.tmp 5)] Q) (env0 args) h) : Ok Try.prog 27 args h Q :=
  ok_of_den progIsOk Try.func27 (c := octroiref17_Babel_Source_code) (by kernel_rfl) hn (by show (den Try.prog 20 octroiref17_Babel_Source_code).1 _ _ _; rw [octroiref17_Babel_Source_eq]; exact D)

/-! ### (*octroi/octroiref17.Babel).Least: function 28 -/
noncomputable def octroiref17_Babel_Least_code : Code := match Try.f28.body with | some c => c | none => .skip

/-- ref.go:105 -/
def octroiref17_Babel_Least_r0 (env : Env) (h : Hp) (K : Env → Hp → Prop) : Prop :=
  arun Try.prog (Instr.box 24 (env 1)) h fun v4_0 h1 =>
  K ((((env.set 4 v4_0).set 6 (Go.Value.int Go.IntKind.u16 0)).set 7 (Go.Value.int Go.IntKind.i64 0)).set 8 (Go.Value.bool false)) h1
@[congr] theorem octroiref17_Babel_Least_r0_congr {env : Env} {h : Hp} {K : Env → Hp → Prop} : octroiref17_Babel_Least_r0 env h K = octroiref17_Babel_Least_r0 env h K := rfl

/-- ref.go:106 -/
def octroiref17_Babel_Least_r1 (env : Env) (h : Hp) (K : Env → Hp → Prop) : Prop :=
  K (env.set 9 (Go.Value.int Go.IntKind.i64 0)) h
@[congr] theorem octroiref17_Babel_Least_r1_congr {env : Env} {h : Hp} {K : Env → Hp → Prop} : octroiref17_Babel_Least_r1 env h K = octroiref17_Babel_Least_r1 env h K := rfl

/-- ref.go:106 -/
def octroiref17_Babel_Least_r2 (env : Env) (h : Hp) (K : Env → Hp → Prop) : Prop :=
  nck (env 0) (
  rd Try.prog (Instr.fieldAt 67 (env 0) 6) noHp fun v13_3 =>
  rd Try.prog (Instr.loadAt 65 v13_3) h fun v14_4 =>
  rd Try.prog (Builtin.len_ #[65] 3 #[v14_4]) h fun v15_5 =>
  rd Try.prog (bop Go.BinOp.lss 3 (Go.Operand.tmp 10) (Go.Operand.tmp 15) (env 9) v15_5) noHp fun v16_6 =>
  K (((((((env.set 10 (env 9)).set 11 (env 0)).set 12 (env 0)).set 13 v13_3).set 14 v14_4).set 15 v15_5).set 16 v16_6) h)
@[congr] theorem octroiref17_Babel_Least_r2_congr {env : Env} {h : Hp} {K : Env → Hp → Prop} : octroiref17_Babel_Least_r2 env h K = octroiref17_Babel_Least_r2 env h K := rfl

/-- ref.go:107 (in any order) -/
def octroiref17_Babel_Least_r3 (env : Env) (h : Hp) (K : Env → Hp → Prop) : Prop :=
  nck (env 0) (
  rd Try.prog (Instr.fieldAt 67 (env 0) 6) noHp fun v21_2 =>
  rd Try.prog (Instr.loadAt 65 v21_2) h fun v22_3 =>
  rd Try.prog (Instr.indexAt 65 v22_3 (env 9)) noHp fun v24_5 =>
  rd Try.prog (Instr.fieldAt 99 v24_5 0) noHp fun v25_6 =>
  rd Try.prog (Instr.loadAt 24 v25_6) h fun v26_7 =>
  rd Try.prog (Instr.loadAt 24 (env 4)) h fun v27_8 =>
  rd Try.prog (bop Go.BinOp.eql 24 (Go.Operand.tmp 26) (Go.Operand.tmp 27) v26_7 v27_8) noHp fun v28_9 =>
  gd (yb v28_9 == some true) (fun h k => k (env 0) h) h fun v30_11 h1 =>
  gd (yb v28_9 == some true) (fun h k => nck v30_11 (k v30_11 h)) h1 fun v31_12 h2 =>
  gd (yb v28_9 == some true) (fun h k => rd Try.prog (Instr.fieldAt 67 v31_12 6) noHp fun v => k v h) h2 fun v32_13 h3 =>
  gd (yb v28_9 == some true) (fun h k => rd Try.prog (Instr.loadAt 65 v32_13) h fun v => k v h) h3 fun v33_14 h4 =>
  gd (yb v28_9 == some true) (fun h k => k (env 9) h) h4 fun v34_15 h5 =>
  gd (yb v28_9 == some true) (fun h k => rd Try.prog (Instr.indexAt 65 v33_14 v34_15) noHp fun v => k v h) h5 fun v35_16 h6 =>
  gd (yb v28_9 == some true) (fun h k => rd Try.prog (Instr.fieldAt 99 v35_16 1) noHp fun v => k v h) h6 fun v36_17 h7 =>
  gd (yb v28_9 == some true) (fun h k => rd Try.prog (Instr.loadAt 28 v36_17) h fun v => k v h) h7 fun v37_18 h8 =>
  gd (yb v28_9 == some true) (fun h k => k (env 2) h) h8 fun v38_19 h9 =>
  gd (yb v28_9 == some true) (fun h k => rd Try.prog (bop Go.BinOp.eql 28 (Go.Operand.tmp 37) (Go.Operand.tmp 38) v37_18 v38_19) noHp fun v => k v h) h9 fun v39_20 h10 =>
  rd Try.prog (pck v28_9 v39_20 (Go.Value.bool false)) noHp fun v40_21 =>
  K ((((((((((((((((((((((env.set 19 (env 0)).set 20 (env 0)).set 21 v21_2).set 22 v22_3).set 23 (env 9)).set 24 v24_5).set 25 v25_6).set 26 v26_7).set 27 v27_8).set 28 v28_9).set 29 v28_9).set 30 v30_11).set 31 v31_12).set 32 v32_13).set 33 v33_14).set 34 v34_15).set 35 v35_16).set 36 v36_17).set 37 v37_18).set 38 v38_19).set 39 v39_20).set 40 v40_21) h10)
@[congr] theorem octroiref17_Babel_Least_r3_congr {env : Env} {h : Hp} {K : Env → Hp → Prop} : octroiref17_Babel_Least_r3 env h K = octroiref17_Babel_Least_r3 env h K := rfl

/-- ref.go:108 (in any order) -/
def octroiref17_Babel_Least_r4 (env : Env) (h : Hp) (K : Env → Hp → Prop) : Prop :=
  nck (env 0) (
  rd Try.prog (Instr.fieldAt 67 (env 0) 6) noHp fun v43_2 =>
  rd Try.prog (Instr.loadAt 65 v43_2) h fun v44_3 =>
  rd Try.prog (Instr.indexAt 65 v44_3 (env 9)) noHp fun v46_5 =>
  rd Try.prog (Instr.fieldAt 99 v46_5 2) noHp fun v47_6 =>
  rd Try.prog (Instr.loadAt 29 v47_6) h fun v48_7 =>
  nck (env 0) (
  rd Try.prog (Instr.fieldAt 67 (env 0) 6) noHp fun v51_10 =>
  rd Try.prog (Instr.loadAt 65 v51_10) h fun v52_11 =>
  rd Try.prog (Instr.indexAt 65 v52_11 (env 9)) noHp fun v54_13 =>
  rd Try.prog (Instr.fieldAt 99 v54_13 3) noHp fun v55_14 =>
  rd Try.prog (Instr.loadAt 3 v55_14) h fun v56_15 =>
  K (((((((((((((((((((env.set 41 (env 0)).set 42 (env 0)).set 43 v43_2).set 44 v44_3).set 45 (env 9)).set 46 v46_5).set 47 v47_6).set 48 v48_7).set 49 (env 0)).set 50 (env 0)).set 51 v51_10).set 52 v52_11).set 53 (env 9)).set 54 v54_13).set 55 v55_14).set 56 v56_15).set 6 v48_7).set 7 v56_15).set 8 (Go.Value.bool true)) h))
@[congr] theorem octroiref17_Babel_Least_r4_congr {env : Env} {h : Hp} {K : Env → Hp → Prop} : octroiref17_Babel_Least_r4 env h K = octroiref17_Babel_Least_r4 env h K := rfl

/-- ref.go:106 -/
def octroiref17_Babel_Least_r5 (env : Env) (h : Hp) (K : Env → Hp → Prop) : Prop :=
  rd Try.prog (bop Go.BinOp.add 3 (Go.Operand.tmp 17) (Go.Operand.const (Go.Value.int Go.IntKind.i64 1)) (env 9) (Go.Value.int Go.IntKind.i64 1)) noHp fun v18_1 =>
  K (((env.set 17 (env 9)).set 18 v18_1).set 9 v18_1) h
@[congr] theorem octroiref17_Babel_Least_r5_congr {env : Env} {h : Hp} {K : Env → Hp → Prop} : octroiref17_Babel_Least_r5 env h K = octroiref17_Babel_Least_r5 env h K := rfl

def octroiref17_Babel_Least_L0 : Den := (sq (sq (rg octroiref17_Babel_Least_r2) (cnd (Go.Operand.tmp 16) (ex .normal) (ex (.exit 0)))) (sq (blk 1 (sq (rg octroiref17_Babel_Least_r3) (cnd (Go.Operand.tmp 40) (sq (rg octroiref17_Babel_Least_r4) (ex .ret)) (ex .normal)))) (rg octroiref17_Babel_Least_r5)))

/-- ref.go:111 -/
def octroiref17_Babel_Least_r6 (env : Env) (h : Hp) (K : Env → Hp → Prop) : Prop :=
  K (((env.set 6 (Go.Value.int Go.IntKind.u16 0)).set 7 (Go.Value.int Go.IntKind.i64 0)).set 8 (Go.Value.bool false)) h
@[congr] theorem octroiref17_Babel_Least_r6_congr {env : Env} {h : Hp} {K : Env → Hp → Prop} : octroiref17_Babel_Least_r6 env h K = octroiref17_Babel_Least_r6 env h K := rfl

def octroiref17_Babel_Least_D : Den := (sq (rg octroiref17_Babel_Least_r0) (sq (sq (rg octroiref17_Babel_Least_r1) (blk 0 (lp octroiref17_Babel_Least_L0))) (sq (rg octroiref17_Babel_Least_r6) (ex .ret))))

theorem octroiref17_Babel_Least_eq : (den Try.prog 57 octroiref17_Babel_Least_code).1 = octroiref17_Babel_Least_D := by kernel_rfl

theorem octroiref17_Babel_Least_ok {args : Array Value} {h : Hp} {Q : Value → Hp → Prop} (hn : args.size ≤ 57) (D : octroiref17_Babel_Least_D (fin Try.prog [(Go.ResultVar.tmp 6), (Go.ResultVar.tmp 7), (Go.ResultVar.tmp 8)] Q) (env0 args) h) : Ok Try.prog 28 args h Q :=
  ok_of_den progIsOk Try.func28 (c := octroiref17_Babel_Least_code) (by kernel_rfl) hn (by show (den Try.prog 57 octroiref17_Babel_Least_code).1 _ _ _; rw [octroiref17_Babel_Least_eq]; exact D)

/-! ### octroi/octroiref06.Same: function 29 -/
noncomputable def octroiref06_Same_code : Code := match Try.f29.body with | some c => c | none => .skip

/-- ref.go:293 -/
def octroiref06_Same_r0 (env : Env) (h : Hp) (K : Env → Hp → Prop) : Prop :=
  K (env.set 4 (Go.Value.bool false)) h
@[congr] theorem octroiref06_Same_r0_congr {env : Env} {h : Hp} {K : Env → Hp → Prop} : octroiref06_Same_r0 env h K = octroiref06_Same_r0 env h K := rfl

/-- ref.go:294 -/
def octroiref06_Same_r1 (env : Env) (h : Hp) (K : Env → Hp → Prop) : Prop :=
  rd Try.prog (Builtin.len_ #[40] 3 #[(env 0)]) h fun v7_1 =>
  rd Try.prog (Builtin.len_ #[40] 3 #[(env 1)]) h fun v9_3 =>
  rd Try.prog (bop Go.BinOp.neq 3 (Go.Operand.tmp 7) (Go.Operand.tmp 9) v7_1 v9_3) noHp fun v10_4 =>
  K (((((env.set 6 (env 0)).set 7 v7_1).set 8 (env 1)).set 9 v9_3).set 10 v10_4) h
@[congr] theorem octroiref06_Same_r1_congr {env : Env} {h : Hp} {K : Env → Hp → Prop} : octroiref06_Same_r1 env h K = octroiref06_Same_r1 env h K := rfl

/-- ref.go:295 -/
def octroiref06_Same_r2 (env : Env) (h : Hp) (K : Env → Hp → Prop) : Prop :=
  K (env.set 4 (Go.Value.bool false)) h
@[congr] theorem octroiref06_Same_r2_congr {env : Env} {h : Hp} {K : Env → Hp → Prop} : octroiref06_Same_r2 env h K = octroiref06_Same_r2 env h K := rfl

/-- ref.go:297 -/
def octroiref06_Same_r3 (env : Env) (h : Hp) (K : Env → Hp → Prop) : Prop :=
  K (env.set 5 (Go.Value.int Go.IntKind.i64 0)) h
@[congr] theorem octroiref06_Same_r3_congr {env : Env} {h : Hp} {K : Env → Hp → Prop} : octroiref06_Same_r3 env h K = octroiref06_Same_r3 env h K := rfl

/-- ref.go:297 -/
def octroiref06_Same_r4 (env : Env) (h : Hp) (K : Env → Hp → Prop) : Prop :=
  rd Try.prog (Builtin.len_ #[40] 3 #[(env 0)]) h fun v13_2 =>
  rd Try.prog (bop Go.BinOp.lss 3 (Go.Operand.tmp 11) (Go.Operand.tmp 13) (env 5) v13_2) noHp fun v14_3 =>
  K ((((env.set 11 (env 5)).set 12 (env 0)).set 13 v13_2).set 14 v14_3) h
@[congr] theorem octroiref06_Same_r4_congr {env : Env} {h : Hp} {K : Env → Hp → Prop} : octroiref06_Same_r4 env h K = octroiref06_Same_r4 env h K := rfl

/-- ref.go:298 (in any order) -/
def octroiref06_Same_r5 (env : Env) (h : Hp) (K : Env → Hp → Prop) : Prop :=
  rd Try.prog (Instr.indexAt 40 (env 0) (env 5)) noHp fun v19_2 =>
  rd Try.prog (Instr.loadAt 31 v19_2) h fun v20_3 =>
  rd Try.prog (Instr.indexAt 40 (env 1) (env 5)) noHp fun v23_6 =>
  rd Try.prog (Instr.loadAt 31 v23_6) h fun v24_7 =>
  rd Try.prog (bop Go.BinOp.neq 31 (Go.Operand.tmp 20) (Go.Operand.tmp 24) v20_3 v24_7) noHp fun v25_8 =>
  K (((((((((env.set 17 (env 0)).set 18 (env 5)).set 19 v19_2).set 20 v20_3).set 21 (env 1)).set 22 (env 5)).set 23 v23_6).set 24 v24_7).set 25 v25_8) h
@[congr] theorem octroiref06_Same_r5_congr {env : Env} {h : Hp} {K : Env → Hp → Prop} : octroiref06_Same_r5 env h K = octroiref06_Same_r5 env h K := rfl

/-- ref.go:299 -/
def octroiref06_Same_r6 (env : Env) (h : Hp) (K : Env → Hp → Prop) : Prop :=
  K (env.set 4 (Go.Value.bool false)) h
@[congr] theorem octroiref06_Same_r6_congr {env : Env} {h : Hp} {K : Env → Hp → Prop} : octroiref06_Same_r6 env h K = octroiref06_Same_r6 env h K := rfl

/-- ref.go:297 -/
def octroiref06_Same_r7 (env : Env) (h : Hp) (K : Env → Hp → Prop) : Prop :=
  rd Try.prog (bop Go.BinOp.add 3 (Go.Operand.tmp 15) (Go.Operand.const (Go.Value.int Go.IntKind.i64 1)) (env 5) (Go.Value.int Go.IntKind.i64 1)) noHp fun v16_1 =>
  K (((env.set 15 (env 5)).set 16 v16_1).set 5 v16_1) h
@[congr] theorem octroiref06_Same_r7_congr {env : Env} {h : Hp} {K : Env → Hp → Prop} : octroiref06_Same_r7 env h K = octroiref06_Same_r7 env h K := rfl

def octroiref06_Same_L0 : Den := (sq (sq (rg octroiref06_Same_r4) (cnd (Go.Operand.tmp 14) (ex .normal) (ex (.exit 0)))) (sq (blk 1 (sq (rg octroiref06_Same_r5) (cnd (Go.Operand.tmp 25) (sq (rg octroiref06_Same_r6) (ex .ret)) (ex .normal)))) (rg octroiref06_Same_r7)))

/-- ref.go:302 -/
def octroiref06_Same_r8 (env : Env) (h : Hp) (K : Env → Hp → Prop) : Prop :=
  K (env.set 4 (Go.Value.bool true)) h
@[congr] theorem octroiref06_Same_r8_congr {env : Env} {h : Hp} {K : Env → Hp → Prop} : octroiref06_Same_r8 env h K = octroiref06_Same_r8 env h K := rfl

def octroiref06_Same_D : Den := (sq (rg octroiref06_Same_r0) (sq (sq (rg octroiref06_Same_r1) (cnd (Go.Operand.tmp 10) (sq (rg octroiref06_Same_r2) (ex .ret)) (ex .normal))) (sq (sq (rg octroiref06_Same_r3) (blk 0 (lp octroiref06_Same_L0))) (sq (rg octroiref06_Same_r8) (ex .ret)))))

theorem octroiref06_Same_eq : (den Try.prog 26 octroiref06_Same_code).1 = octroiref06_Same_D := by kernel_rfl

theorem octroiref06_Same_ok {args : Array Value} {h : Hp} {Q : Value → Hp → Prop} (hn : args.size ≤ 26) (D : octroiref06_Same_D (fin Try.prog [(Go.ResultVar.tmp 4)] Q) (env0 args) h) : Ok Try.prog 29 args h Q :=
  ok_of_den progIsOk Try.func29 (c := octroiref06_Same_code) (by kernel_rfl) hn (by show (den Try.prog 26 octroiref06_Same_code).1 _ _ _; rw [octroiref06_Same_eq]; exact D)

end Go.Proofs.Ytchbipkoifmmdaa
