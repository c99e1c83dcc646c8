/- Rules by which the printed formulas are worked off. -/
import Derived.ProofKit
import Derived.OpenShut
import Derived.ChangeOld
import Derived.Carry
import Derived.SizedLaws
import Derived.WideShapes
import Derived.Deep.Slices
import Derived.Test.YtpeoholnlokdcaaZ0

set_option linter.unusedSimpArgs false
set_option linter.unusedVariables false

namespace Go.Proofs.Ytpeoholnlokdcaa
open Go
set_option linter.unusedSimpArgs false

/-! ### Control -/
section
variable {A B : Den} {Q : Post} {env : Env} {h : Hp}

@[congr] theorem sq_congr : sq A B Q env h = sq A B Q env h := rfl
@[simp ↓] theorem sq_def : sq A B Q env h = A (thenK B Q) env h := Eq.trans rfl (Eq.symm (Eq.trans rfl rfl))
@[congr] theorem rg_congr {r : Env → Hp → (Env → Hp → Prop) → Prop} : rg r Q env h = rg r Q env h := rfl
@[simp ↓] theorem rg_def {r : Env → Hp → (Env → Hp → Prop) → Prop} : rg r Q env h = r env h (Q .normal) := Eq.trans rfl (Eq.symm (Eq.trans rfl rfl))
@[congr] theorem thenK_congr {e : Exit} : thenK B Q e env h = thenK B Q e env h := rfl
@[simp ↓] theorem thenK_normal : thenK B Q .normal env h = B Q env h := rfl
@[simp ↓] theorem thenK_ret : thenK B Q .ret env h = Q .ret env h := rfl
@[simp ↓] theorem thenK_exit {i : Nat} : thenK B Q (.exit i) env h = Q (.exit i) env h := rfl
@[simp ↓] theorem thenK_goto {i : Nat} : thenK B Q (.goto i) env h = Q (.goto i) env h := rfl
@[congr] theorem ex_congr {e : Exit} : ex e Q env h = ex e Q env h := rfl
@[simp ↓] theorem ex_def {e : Exit} : ex e Q env h = Q e env h := Eq.trans rfl (Eq.symm (Eq.trans rfl rfl))
@[congr] theorem blk_congr {i : Nat} : blk i A Q env h = blk i A Q env h := rfl
@[simp ↓] theorem blk_def {i : Nat} : blk i A Q env h = A (inBlk i Q) env h := Eq.trans rfl (Eq.symm (Eq.trans rfl rfl))
@[congr] theorem inBlk_congr {i : Nat} {e : Exit} : inBlk i Q e env h = inBlk i Q e env h := rfl
@[simp ↓] theorem inBlk_normal {i : Nat} : inBlk i Q .normal env h = Q .normal env h := rfl
@[simp ↓] theorem inBlk_ret {i : Nat} : inBlk i Q .ret env h = Q .ret env h := rfl
@[simp ↓] theorem inBlk_goto {i l : Nat} : inBlk i Q (.goto l) env h = Q (.goto l) env h := rfl
@[simp ↓] theorem inBlk_exit {i j : Nat} : inBlk i Q (.exit j) env h = if j = i then Q .normal env h else Q (.exit j) env h := rfl
@[congr] theorem roundK_congr {I : Nat → Env → Hp → Prop} {n : Nat} {e : Exit} : roundK I n Q e env h = roundK I n Q e env h := rfl
@[simp ↓] theorem roundK_normal {I : Nat → Env → Hp → Prop} {n : Nat} : roundK I n Q .normal env h = ∃ m, m < n ∧ I m env h := rfl
@[simp ↓] theorem roundK_ret {I : Nat → Env → Hp → Prop} {n : Nat} : roundK I n Q .ret env h = Q .ret env h := rfl
@[simp ↓] theorem roundK_exit {I : Nat → Env → Hp → Prop} {n i : Nat} : roundK I n Q (.exit i) env h = Q (.exit i) env h := rfl
@[simp ↓] theorem roundK_goto {I : Nat → Env → Hp → Prop} {n i : Nat} : roundK I n Q (.goto i) env h = Q (.goto i) env h := rfl
@[congr] theorem jumpK_congr {I : Nat → Env → Hp → Prop} {e : Exit} : jumpK I Q e env h = jumpK I Q e env h := rfl
@[simp ↓] theorem jumpK_normal {I : Nat → Env → Hp → Prop} : jumpK I Q .normal env h = Q .normal env h := rfl
@[simp ↓] theorem jumpK_ret {I : Nat → Env → Hp → Prop} : jumpK I Q .ret env h = Q .ret env h := rfl
@[simp ↓] theorem jumpK_goto {I : Nat → Env → Hp → Prop} {l : Nat} : jumpK I Q (.goto l) env h = I l env h := rfl
@[simp ↓] theorem jumpK_exit {I : Nat → Env → Hp → Prop} {i : Nat} : jumpK I Q (.exit i) env h = Q (.exit i) env h := rfl
@[congr] theorem lp_congr : lp A Q env h = lp A Q env h := rfl
@[congr] theorem scp_congr {lab : Nat → Option Den} : scp A lab Q env h = scp A lab Q env h := rfl

/-- A branch at a value. -/
def brv (v : Value) (x y : Prop) : Prop := ∃ b, v = .bool b ∧ (match b with | true => x | false => y)
@[congr] theorem brv_congr {v v' : Value} {x y : Prop} (e : v = v') : brv v x y = brv v' x y := by rw [e]
@[simp ↓] theorem brv_true {x y : Prop} : brv (.bool true) x y = x := by unfold brv; simp
@[simp ↓] theorem brv_false {x y : Prop} : brv (.bool false) x y = y := by unfold brv; simp
@[congr] theorem cnd_congr {x : Operand} : cnd x A B Q env h = cnd x A B Q env h := rfl
@[simp ↓] theorem cnd_def {x : Operand} : cnd x A B Q env h = brv (ev env x) (A Q env h) (B Q env h) := Eq.trans rfl (Eq.symm (Eq.trans rfl rfl))
theorem brv_of {b : Bool} {x y : Prop} (h1 : b = true → x) (h2 : b = false → y) : brv (.bool b) x y := by
  cases b
  · exact ⟨false, rfl, h2 rfl⟩
  · exact ⟨true, rfl, h1 rfl⟩
@[simp ↓] theorem ev_tmp {t : Nat} : ev env (.tmp t) = env t := rfl
@[simp ↓] theorem ev_const {v : Value} : ev env (.const v) = v := rfl
end

@[congr] theorem callV_congr {P : Program} {v v' : Value} {args args' : Array Value} {h : Hp} {k : Value → Hp → Prop} (e : v = v') (e2 : args = args') : callV P v args h k = callV P v' args' h k := by rw [e, e2]
@[simp] theorem callV_func {P : Program} {f : FuncId} {first captured args : Array Value} {h : Hp} {k : Value → Hp → Prop} : callV P (.func (.func f) first captured) args h k = Ok P f (first ++ args ++ captured) h k := by unfold callV; rfl

@[simp] theorem callV_yield {P : Program} {l : Nat} {first captured args : Array Value} {h : Hp} {k : Value → Hp → Prop} : callV P (.func (.yield l) first captured) args h k = YOk P l (first ++ args) h k := by unfold callV; rfl
@[congr] theorem rnd_congr {l : Nat} {o o' : Obj} {A B : Den} {Q : Post} {env : Env} {h : Hp} : rnd l o o' A B Q env h = rnd l o o' A B Q env h := rfl
@[congr] theorem rndK_congr {l n : Nat} {env0 : Env} {ps : Array Tmp} {ac bc : Code} {fn D : Nat} {k : Value → Hp → Prop} {e : Exit} {env : Env} {h : Hp} : rndK l n env0 ps ac bc fn D k e env h = rndK l n env0 ps ac bc fn D k e env h := rfl
@[congr] theorem rfn_congr {P : Program} {n : Nat} {g : Operand} {ps : Array Tmp} {ac bc : Code} {Q : Post} {env : Env} {h : Hp} : rfn P n g ps ac bc Q env h = rfn P n g ps ac bc Q env h := rfl
@[simp] theorem rr_makeFunc {P : Program} {h : Hp} {f : Fn} {first captured : Array Value} : rrun P (Instr.makeFunc f first captured) h = some (.func f first captured) := rfl
@[simp] theorem put_some {n d : Nat} {env : Env} {v : Value} (hd : d < n) : put n env (some d) v = env.set d v := by simp [put, hd]
@[simp ↓] theorem envPs_1 {n : Nat} {env : Env} {t : Tmp} {v : Value} : envPs n env [(t, v)] = put n env (some t) v := rfl
@[simp ↓] theorem envPs_2 {n : Nat} {env : Env} {t t2 : Tmp} {v v2 : Value} : envPs n env [(t, v), (t2, v2)] = put n (put n env (some t) v) (some t2) v2 := rfl

@[simp ↓] theorem Env.set_get {env : Env} {d i : Nat} {v : Value} : env.set d v i = if i = d then v else env i := rfl
@[simp ↓] theorem env0_0 {a0 : Value} {l : List Value} : env0 (List.toArray (a0 :: l)) 0 = a0 := rfl
@[simp ↓] theorem env0_1 {a0 a1 : Value} {l : List Value} : env0 (List.toArray (a0 :: a1 :: l)) 1 = a1 := rfl
@[simp ↓] theorem env0_2 {a0 a1 a2 : Value} {l : List Value} : env0 (List.toArray (a0 :: a1 :: a2 :: l)) 2 = a2 := rfl
@[simp ↓] theorem env0_3 {a0 a1 a2 a3 : Value} {l : List Value} : env0 (List.toArray (a0 :: a1 :: a2 :: a3 :: l)) 3 = a3 := rfl
@[simp ↓] theorem env0_4 {a0 a1 a2 a3 a4 : Value} {l : List Value} : env0 (List.toArray (a0 :: a1 :: a2 :: a3 :: a4 :: l)) 4 = a4 := rfl
@[simp ↓] theorem env0_5 {a0 a1 a2 a3 a4 a5 : Value} {l : List Value} : env0 (List.toArray (a0 :: a1 :: a2 :: a3 :: a4 :: a5 :: l)) 5 = a5 := rfl
@[simp ↓] theorem env0_6 {a0 a1 a2 a3 a4 a5 a6 : Value} {l : List Value} : env0 (List.toArray (a0 :: a1 :: a2 :: a3 :: a4 :: a5 :: a6 :: l)) 6 = a6 := rfl
@[simp ↓] theorem env0_7 {a0 a1 a2 a3 a4 a5 a6 a7 : Value} {l : List Value} : env0 (List.toArray (a0 :: a1 :: a2 :: a3 :: a4 :: a5 :: a6 :: a7 :: l)) 7 = a7 := rfl
@[simp ↓] theorem env0_8 {a0 a1 a2 a3 a4 a5 a6 a7 a8 : Value} {l : List Value} : env0 (List.toArray (a0 :: a1 :: a2 :: a3 :: a4 :: a5 :: a6 :: a7 :: a8 :: l)) 8 = a8 := rfl
@[simp ↓] theorem env0_9 {a0 a1 a2 a3 a4 a5 a6 a7 a8 a9 : Value} {l : List Value} : env0 (List.toArray (a0 :: a1 :: a2 :: a3 :: a4 :: a5 :: a6 :: a7 :: a8 :: a9 :: l)) 9 = a9 := rfl

/-! ### Ends -/
def Le (h h' : Hp) : Prop := ∀ b o, h b = some o → h' b = some o
theorem Le.refl (h : Hp) : Le h h := fun _ _ e => e
theorem Le.trans {a b c : Hp} (x : Le a b) (y : Le b c) : Le a c := fun i o e => y i o (x i o e)
theorem Le.upd {a b : Hp} (x : Le a b) {i : Nat} {o : Obj} (hi : b i = none) : Le a (b.upd i o) := by
  intro j u e
  have := x j u e
  unfold Hp.upd
  by_cases hj : j = i
  · subst hj; rw [this] at hi; cases hi
  · rw [if_neg hj]; exact this
theorem Le.new {h : Hp} {i : Nat} {o : Obj} (hi : h i = none) : Le h (h.upd i o) := (Le.refl h).upd hi
theorem Le.put {a b : Hp} (x : Le a b) {i : Nat} {o : Obj} (hi : a i = none) : Le a (b.upd i o) := by
  intro j u e
  have := x j u e
  unfold Hp.upd
  by_cases hj : j = i
  · subst hj; rw [e] at hi; cases hi
  · rw [if_neg hj]; exact this
theorem ne_new {h : Hp} {x b : Nat} {o : Obj} (hx : h x = some o) (hb : h b = none) : x ≠ b := by
  rintro rfl; rw [hx] at hb; cases hb

/-- The end of a function: what nobody needs any more may be let go. -/
def drp (Q : Value → Hp → Prop) (v : Value) (h : Hp) : Prop := ∃ h', Le h' h ∧ Q v h'
@[congr] theorem drp_congr {Q : Value → Hp → Prop} {v v' : Value} {h : Hp} (e : v = v') : drp Q v h = drp Q v' h := by rw [e]
theorem drp.to {Q : Value → Hp → Prop} {v : Value} {h : Hp} (h' : Hp) (l : Le h' h) (q : Q v h') : drp Q v h := ⟨h', l, q⟩
def finr (o : Option (List Value)) (h : Hp) (Q : Value → Hp → Prop) : Prop := ∃ vs, o = some vs ∧ drp Q (retv vs) h
@[congr] theorem finr_congr {o o' : Option (List Value)} {h : Hp} {Q : Value → Hp → Prop} (e : o = o') : finr o h Q = finr o' h Q := by rw [e]
@[simp ↓] theorem finr_some {vs : List Value} {h : Hp} {Q : Value → Hp → Prop} : finr (some vs) h Q = drp Q (retv vs) h := by unfold finr; simp
@[simp ↓] theorem retv_1 {a : Value} : retv [a] = a := rfl
@[simp ↓] theorem retv_0 : retv [] = .tuple #[] := rfl
@[simp ↓] theorem retv_2 {a b : Value} {l : List Value} : retv (a :: b :: l) = .tuple (List.toArray (a :: b :: l)) := rfl
section
variable {P : Program} {rs : List ResultVar} {Q : Value → Hp → Prop} {env : Env} {h : Hp}
@[congr] theorem fin_congr {e : Exit} : fin P rs Q e env h = fin P rs Q e env h := rfl
@[simp ↓] theorem fin_ret : fin P rs Q .ret env h = finr (resv P env h rs) h Q := rfl
@[simp ↓] theorem fin_normal : fin P rs Q .normal env h = finr (resv P env h rs) h Q := rfl
@[simp ↓] theorem resv_nil : resv P env h [] = some [] := rfl
@[simp ↓] theorem resv_tmp {t : Nat} : resv P env h (.tmp t :: rs) = (resv P env h rs).map (env t :: ·) := rfl
def loadV (P : Program) (t : TypeId) (v : Value) (h : Hp) : Option Value := match v with | .pointer (some a) => rrun P (Instr.loadAt t (.pointer (some a))) h | _ => none
@[simp] theorem resv_cell {t a : Nat} : resv P env h (.cell a t :: rs) = (loadV P t (env a) h).bind fun v => (resv P env h rs).map (v :: ·) := by
  simp only [resv, loadV]
  cases env a <;> try rfl
  rename_i p
  cases p with
  | none => rfl
  | some ad =>
    simp only
    have : rrun P (Instr.loadAt t (.pointer (some ad))) h = rrun P (loadVar t ad) h := rfl
    rw [this]
    cases rrun P (loadVar t ad) h <;> rfl
@[simp ↓] theorem loadV_ptr {t : TypeId} {a : Addr} : loadV P t (.pointer (some a)) h = rrun P (Instr.loadAt t (.pointer (some a))) h := rfl
end

/-! ### Short arrays -/
@[simp ↓] theorem aget_0 {α : Type} {a0 : α} {l : List α} : (List.toArray (a0 :: l))[0]? = some a0 := rfl
@[simp ↓] theorem lget_0 {α : Type} {a0 : α} {l : List α} : (a0 :: l)[0]? = some a0 := rfl
@[simp ↓] theorem aset_0 {α : Type} {a0 v : α} {l : List α} : (List.toArray (a0 :: l)).setIfInBounds 0 v = List.toArray (v :: l) := by simp
@[simp ↓] theorem aget_1 {α : Type} {a0 a1 : α} {l : List α} : (List.toArray (a0 :: a1 :: l))[1]? = some a1 := rfl
@[simp ↓] theorem lget_1 {α : Type} {a0 a1 : α} {l : List α} : (a0 :: a1 :: l)[1]? = some a1 := rfl
@[simp ↓] theorem aset_1 {α : Type} {a0 a1 v : α} {l : List α} : (List.toArray (a0 :: a1 :: l)).setIfInBounds 1 v = List.toArray (a0 :: v :: l) := by simp
@[simp ↓] theorem aget_2 {α : Type} {a0 a1 a2 : α} {l : List α} : (List.toArray (a0 :: a1 :: a2 :: l))[2]? = some a2 := rfl
@[simp ↓] theorem lget_2 {α : Type} {a0 a1 a2 : α} {l : List α} : (a0 :: a1 :: a2 :: l)[2]? = some a2 := rfl
@[simp ↓] theorem aset_2 {α : Type} {a0 a1 a2 v : α} {l : List α} : (List.toArray (a0 :: a1 :: a2 :: l)).setIfInBounds 2 v = List.toArray (a0 :: a1 :: v :: l) := by simp
@[simp ↓] theorem aget_3 {α : Type} {a0 a1 a2 a3 : α} {l : List α} : (List.toArray (a0 :: a1 :: a2 :: a3 :: l))[3]? = some a3 := rfl
@[simp ↓] theorem lget_3 {α : Type} {a0 a1 a2 a3 : α} {l : List α} : (a0 :: a1 :: a2 :: a3 :: l)[3]? = some a3 := rfl
@[simp ↓] theorem aset_3 {α : Type} {a0 a1 a2 a3 v : α} {l : List α} : (List.toArray (a0 :: a1 :: a2 :: a3 :: l)).setIfInBounds 3 v = List.toArray (a0 :: a1 :: a2 :: v :: l) := by simp
@[simp ↓] theorem aget_4 {α : Type} {a0 a1 a2 a3 a4 : α} {l : List α} : (List.toArray (a0 :: a1 :: a2 :: a3 :: a4 :: l))[4]? = some a4 := rfl
@[simp ↓] theorem lget_4 {α : Type} {a0 a1 a2 a3 a4 : α} {l : List α} : (a0 :: a1 :: a2 :: a3 :: a4 :: l)[4]? = some a4 := rfl
@[simp ↓] theorem aset_4 {α : Type} {a0 a1 a2 a3 a4 v : α} {l : List α} : (List.toArray (a0 :: a1 :: a2 :: a3 :: a4 :: l)).setIfInBounds 4 v = List.toArray (a0 :: a1 :: a2 :: a3 :: v :: l) := by simp
@[simp ↓] theorem aget_5 {α : Type} {a0 a1 a2 a3 a4 a5 : α} {l : List α} : (List.toArray (a0 :: a1 :: a2 :: a3 :: a4 :: a5 :: l))[5]? = some a5 := rfl
@[simp ↓] theorem lget_5 {α : Type} {a0 a1 a2 a3 a4 a5 : α} {l : List α} : (a0 :: a1 :: a2 :: a3 :: a4 :: a5 :: l)[5]? = some a5 := rfl
@[simp ↓] theorem aset_5 {α : Type} {a0 a1 a2 a3 a4 a5 v : α} {l : List α} : (List.toArray (a0 :: a1 :: a2 :: a3 :: a4 :: a5 :: l)).setIfInBounds 5 v = List.toArray (a0 :: a1 :: a2 :: a3 :: a4 :: v :: l) := by simp
@[simp ↓] theorem aget_6 {α : Type} {a0 a1 a2 a3 a4 a5 a6 : α} {l : List α} : (List.toArray (a0 :: a1 :: a2 :: a3 :: a4 :: a5 :: a6 :: l))[6]? = some a6 := rfl
@[simp ↓] theorem lget_6 {α : Type} {a0 a1 a2 a3 a4 a5 a6 : α} {l : List α} : (a0 :: a1 :: a2 :: a3 :: a4 :: a5 :: a6 :: l)[6]? = some a6 := rfl
@[simp ↓] theorem aset_6 {α : Type} {a0 a1 a2 a3 a4 a5 a6 v : α} {l : List α} : (List.toArray (a0 :: a1 :: a2 :: a3 :: a4 :: a5 :: a6 :: l)).setIfInBounds 6 v = List.toArray (a0 :: a1 :: a2 :: a3 :: a4 :: a5 :: v :: l) := by simp
@[simp ↓] theorem aget_7 {α : Type} {a0 a1 a2 a3 a4 a5 a6 a7 : α} {l : List α} : (List.toArray (a0 :: a1 :: a2 :: a3 :: a4 :: a5 :: a6 :: a7 :: l))[7]? = some a7 := rfl
@[simp ↓] theorem lget_7 {α : Type} {a0 a1 a2 a3 a4 a5 a6 a7 : α} {l : List α} : (a0 :: a1 :: a2 :: a3 :: a4 :: a5 :: a6 :: a7 :: l)[7]? = some a7 := rfl
@[simp ↓] theorem aset_7 {α : Type} {a0 a1 a2 a3 a4 a5 a6 a7 v : α} {l : List α} : (List.toArray (a0 :: a1 :: a2 :: a3 :: a4 :: a5 :: a6 :: a7 :: l)).setIfInBounds 7 v = List.toArray (a0 :: a1 :: a2 :: a3 :: a4 :: a5 :: a6 :: v :: l) := by simp
@[simp ↓] theorem aget_8 {α : Type} {a0 a1 a2 a3 a4 a5 a6 a7 a8 : α} {l : List α} : (List.toArray (a0 :: a1 :: a2 :: a3 :: a4 :: a5 :: a6 :: a7 :: a8 :: l))[8]? = some a8 := rfl
@[simp ↓] theorem lget_8 {α : Type} {a0 a1 a2 a3 a4 a5 a6 a7 a8 : α} {l : List α} : (a0 :: a1 :: a2 :: a3 :: a4 :: a5 :: a6 :: a7 :: a8 :: l)[8]? = some a8 := rfl
@[simp ↓] theorem aset_8 {α : Type} {a0 a1 a2 a3 a4 a5 a6 a7 a8 v : α} {l : List α} : (List.toArray (a0 :: a1 :: a2 :: a3 :: a4 :: a5 :: a6 :: a7 :: a8 :: l)).setIfInBounds 8 v = List.toArray (a0 :: a1 :: a2 :: a3 :: a4 :: a5 :: a6 :: a7 :: v :: l) := by simp
@[simp ↓] theorem aget_9 {α : Type} {a0 a1 a2 a3 a4 a5 a6 a7 a8 a9 : α} {l : List α} : (List.toArray (a0 :: a1 :: a2 :: a3 :: a4 :: a5 :: a6 :: a7 :: a8 :: a9 :: l))[9]? = some a9 := rfl
@[simp ↓] theorem lget_9 {α : Type} {a0 a1 a2 a3 a4 a5 a6 a7 a8 a9 : α} {l : List α} : (a0 :: a1 :: a2 :: a3 :: a4 :: a5 :: a6 :: a7 :: a8 :: a9 :: l)[9]? = some a9 := rfl
@[simp ↓] theorem aset_9 {α : Type} {a0 a1 a2 a3 a4 a5 a6 a7 a8 a9 v : α} {l : List α} : (List.toArray (a0 :: a1 :: a2 :: a3 :: a4 :: a5 :: a6 :: a7 :: a8 :: a9 :: l)).setIfInBounds 9 v = List.toArray (a0 :: a1 :: a2 :: a3 :: a4 :: a5 :: a6 :: a7 :: a8 :: v :: l) := by simp
@[simp ↓] theorem aget_10 {α : Type} {a0 a1 a2 a3 a4 a5 a6 a7 a8 a9 a10 : α} {l : List α} : (List.toArray (a0 :: a1 :: a2 :: a3 :: a4 :: a5 :: a6 :: a7 :: a8 :: a9 :: a10 :: l))[10]? = some a10 := rfl
@[simp ↓] theorem lget_10 {α : Type} {a0 a1 a2 a3 a4 a5 a6 a7 a8 a9 a10 : α} {l : List α} : (a0 :: a1 :: a2 :: a3 :: a4 :: a5 :: a6 :: a7 :: a8 :: a9 :: a10 :: l)[10]? = some a10 := rfl
@[simp ↓] theorem aset_10 {α : Type} {a0 a1 a2 a3 a4 a5 a6 a7 a8 a9 a10 v : α} {l : List α} : (List.toArray (a0 :: a1 :: a2 :: a3 :: a4 :: a5 :: a6 :: a7 :: a8 :: a9 :: a10 :: l)).setIfInBounds 10 v = List.toArray (a0 :: a1 :: a2 :: a3 :: a4 :: a5 :: a6 :: a7 :: a8 :: a9 :: v :: l) := by simp
@[simp ↓] theorem aget_11 {α : Type} {a0 a1 a2 a3 a4 a5 a6 a7 a8 a9 a10 a11 : α} {l : List α} : (List.toArray (a0 :: a1 :: a2 :: a3 :: a4 :: a5 :: a6 :: a7 :: a8 :: a9 :: a10 :: a11 :: l))[11]? = some a11 := rfl
@[simp ↓] theorem lget_11 {α : Type} {a0 a1 a2 a3 a4 a5 a6 a7 a8 a9 a10 a11 : α} {l : List α} : (a0 :: a1 :: a2 :: a3 :: a4 :: a5 :: a6 :: a7 :: a8 :: a9 :: a10 :: a11 :: l)[11]? = some a11 := rfl
@[simp ↓] theorem aset_11 {α : Type} {a0 a1 a2 a3 a4 a5 a6 a7 a8 a9 a10 a11 v : α} {l : List α} : (List.toArray (a0 :: a1 :: a2 :: a3 :: a4 :: a5 :: a6 :: a7 :: a8 :: a9 :: a10 :: a11 :: l)).setIfInBounds 11 v = List.toArray (a0 :: a1 :: a2 :: a3 :: a4 :: a5 :: a6 :: a7 :: a8 :: a9 :: a10 :: v :: l) := by simp

/-! ### Operations -/
def bits_and (k : IntKind) (a b : Int) : Int := k.wrap (BitVec.ofInt k.bits a &&& BitVec.ofInt k.bits b : BitVec k.bits).toNat
def bits_or (k : IntKind) (a b : Int) : Int := k.wrap (BitVec.ofInt k.bits a ||| BitVec.ofInt k.bits b : BitVec k.bits).toNat
def bits_xor (k : IntKind) (a b : Int) : Int := k.wrap (BitVec.ofInt k.bits a ^^^ BitVec.ofInt k.bits b : BitVec k.bits).toNat
def bits_andNot (k : IntKind) (a b : Int) : Int := k.wrap (BitVec.ofInt k.bits a &&& ~~~(BitVec.ofInt k.bits b) : BitVec k.bits).toNat
section
variable {P : Program} {h : Hp}

@[congr] theorem rdv_congr {o o' : Option Value} {k : Value → Prop} (e : o = o') : rdv o k = rdv o' k := by rw [e]
@[simp ↓] theorem rdv_some {v : Value} {k : Value → Prop} : rdv (some v) k = k v := by unfold rdv; simp
@[congr] theorem rd_congr {s s' : Sem Value} {k : Value → Prop} (e : s = s') : rd P s h k = rd P s' h k := by rw [e]
@[simp] theorem rd_def {s : Sem Value} {k : Value → Prop} : rd P s h k = rdv (rrun P s h) k := rfl
@[congr] theorem arun_congr {α : Type} {s s' : Sem α} {k : α → Hp → Prop} (e : s = s') : arun P s h k = arun P s' h k := by rw [e]
@[congr] theorem Ok_congr {f : Nat} {a a' : Array Value} {k : Value → Hp → Prop} (e : a = a') : Ok P f a h k = Ok P f a' h k := by rw [e]
@[congr] theorem nck_congr {x x' : Value} {q : Prop} (e : x = x') : nck x q = nck x' q := by rw [e]
@[simp ↓] theorem nck_ptr {a : Addr} {q : Prop} : nck (.pointer (some a)) q = q := by simp [nck, nilOk]
@[simp ↓] theorem nck_map {a : Option Nat} {q : Prop} : nck (.map a) q = q := by simp [nck, nilOk]
@[simp ↓] theorem nck_iface {t : TypeId} {v : Value} {q : Prop} : nck (.iface t v) q = q := by simp [nck, nilOk]
@[congr] theorem gd_congr {c c' : Bool} {ex : Hp → (Value → Hp → Prop) → Prop} {k : Value → Hp → Prop} (e : c = c') : gd c ex h k = gd c' ex h k := by rw [e]
attribute [simp ↓] gd_true gd_false
@[simp] theorem yb_bool {b : Bool} : yb (.bool b) = some b := rfl
@[simp] theorem yb_undef : yb undef = none := rfl

/-- A new block. -/
def nw (h : Hp) (o : Obj) (k : Nat → Hp → Prop) : Prop := ∀ b, h b = none → k b (h.upd b o)
@[congr] theorem nw_congr {o o' : Obj} {k : Nat → Hp → Prop} (e : o = o') : nw h o k = nw h o' k := by rw [e]

/-- A store. -/
def stw (c : Option Value) (f : Bool) (q : Prop) : Prop := (∃ u, c = some u) ∧ f = false ∧ q
@[congr] theorem stw_congr {c c' : Option Value} {f f' : Bool} {q : Prop} (e : c = c') (e2 : f = f') : stw c f q = stw c' f' q := by rw [e, e2]
@[simp ↓] theorem stw_ok {u : Value} {q : Prop} : stw (some u) false q = q := by unfold stw; simp

@[simp ↓] theorem arun_box {t : TypeId} {v : Value} {k : Value → Hp → Prop} : arun P (Instr.box t v) h k = nw h (.cells v.cells t) fun b h => k (.pointer (some ⟨b, 0, none⟩)) h := rfl
@[simp] theorem cells_agg {c : Array Value} : Value.cells (.agg c) = c := rfl
@[simp] theorem cells_int {k : IntKind} {n : Int} : Value.cells (.int k n) = #[.int k n] := rfl
@[simp] theorem cells_bool {n : Bool} : Value.cells (.bool n) = #[.bool n] := rfl
@[simp] theorem cells_slice {a : Option Addr} {n c : Nat} : Value.cells (.slice a n c) = #[.slice a n c] := rfl
@[simp] theorem cells_ptr {a : Option Addr} : Value.cells (.pointer a) = #[.pointer a] := rfl
@[simp] theorem cells_map {a : Option Nat} : Value.cells (.map a) = #[.map a] := rfl

@[simp] theorem rr_extract {vs : Array Value} {i : Nat} : rrun P (Instr.extract (.tuple vs) i) h = vs[i]? := by
  cases h' : vs[i]? <;> simp only [Instr.extract, h'] <;> rfl
@[simp] theorem rr_not {b : Bool} : rrun P (Op.unary .not (.bool b)) h = some (.bool !b) := rfl
@[simp] theorem rr_pck {b : Bool} {x y : Value} : rrun P (pck (.bool b) x y) h = some (if b then x else y) := rfl

@[simp] theorem rr_add_i64 {t : TypeId} {x y : Operand} {a b : Int} : rrun P (bop .add t x y (.int .i64 a) (.int .i64 b)) h = some (.int .i64 (IntKind.i64.wrap (a + b))) := rfl
@[simp] theorem rr_sub_i64 {t : TypeId} {x y : Operand} {a b : Int} : rrun P (bop .sub t x y (.int .i64 a) (.int .i64 b)) h = some (.int .i64 (IntKind.i64.wrap (a - b))) := rfl
@[simp] theorem rr_mul_i64 {t : TypeId} {x y : Operand} {a b : Int} : rrun P (bop .mul t x y (.int .i64 a) (.int .i64 b)) h = some (.int .i64 (IntKind.i64.wrap (a * b))) := rfl
@[simp] theorem rr_eql_i64 {t : TypeId} {x y : Operand} {a b : Int} : rrun P (bop .eql t x y (.int .i64 a) (.int .i64 b)) h = some (.bool (decide (a = b))) := rfl
@[simp] theorem rr_neq_i64 {t : TypeId} {x y : Operand} {a b : Int} : rrun P (bop .neq t x y (.int .i64 a) (.int .i64 b)) h = some (.bool (!decide (a = b))) := rfl
@[simp] theorem rr_lss_i64 {t : TypeId} {x y : Operand} {a b : Int} : rrun P (bop .lss t x y (.int .i64 a) (.int .i64 b)) h = some (.bool (decide (a < b))) := rfl
@[simp] theorem rr_leq_i64 {t : TypeId} {x y : Operand} {a b : Int} : rrun P (bop .leq t x y (.int .i64 a) (.int .i64 b)) h = some (.bool (decide (a ≤ b))) := rfl
@[simp] theorem rr_gtr_i64 {t : TypeId} {x y : Operand} {a b : Int} : rrun P (bop .gtr t x y (.int .i64 a) (.int .i64 b)) h = some (.bool (decide (a > b))) := rfl
@[simp] theorem rr_geq_i64 {t : TypeId} {x y : Operand} {a b : Int} : rrun P (bop .geq t x y (.int .i64 a) (.int .i64 b)) h = some (.bool (decide (a ≥ b))) := rfl
@[simp] theorem rr_and_i64 {t : TypeId} {x y : Operand} {a b : Int} : rrun P (bop .and t x y (.int .i64 a) (.int .i64 b)) h = some (.int .i64 (bits_and .i64 a b)) := rfl
@[simp] theorem rr_or_i64 {t : TypeId} {x y : Operand} {a b : Int} : rrun P (bop .or t x y (.int .i64 a) (.int .i64 b)) h = some (.int .i64 (bits_or .i64 a b)) := rfl
@[simp] theorem rr_xor_i64 {t : TypeId} {x y : Operand} {a b : Int} : rrun P (bop .xor t x y (.int .i64 a) (.int .i64 b)) h = some (.int .i64 (bits_xor .i64 a b)) := rfl
@[simp] theorem rr_andNot_i64 {t : TypeId} {x y : Operand} {a b : Int} : rrun P (bop .andNot t x y (.int .i64 a) (.int .i64 b)) h = some (.int .i64 (bits_andNot .i64 a b)) := rfl
@[simp] theorem rr_quo_i64 {t : TypeId} {x y : Operand} {a b : Int} (hb : b ≠ 0) : rrun P (bop .quo t x y (.int .i64 a) (.int .i64 b)) h = some (.int .i64 (IntKind.i64.wrap (a.tdiv b))) := by
  show rrun P (Op.intDiv .quo .i64 a b) h = _
  simp only [Op.intDiv, if_neg hb]; rfl
@[simp] theorem rr_rem_i64 {t : TypeId} {x y : Operand} {a b : Int} (hb : b ≠ 0) : rrun P (bop .rem t x y (.int .i64 a) (.int .i64 b)) h = some (.int .i64 (a.tmod b)) := by
  show rrun P (Op.intDiv .rem .i64 a b) h = _
  simp only [Op.intDiv, if_neg hb]; rfl
@[simp] theorem rr_shl_i64_i64 {t : TypeId} {x y : Operand} {a b : Int} (hb : 0 ≤ b) : rrun P (bop .shl t x y (.int .i64 a) (.int .i64 b)) h = some (.int .i64 (IntKind.i64.wrap (a * 2 ^ (min b.toNat 64)))) := by
  show rrun P (Op.shift .shl .i64 a .i64 b) h = _
  simp only [Op.shift, if_neg (Int.not_lt.2 hb)]; rfl
@[simp] theorem rr_shr_i64_i64 {t : TypeId} {x y : Operand} {a b : Int} (hb : 0 ≤ b) : rrun P (bop .shr t x y (.int .i64 a) (.int .i64 b)) h = some (.int .i64 (a.fdiv (2 ^ (min b.toNat 64)))) := by
  show rrun P (Op.shift .shr .i64 a .i64 b) h = _
  simp only [Op.shift, if_neg (Int.not_lt.2 hb)]; rfl
@[simp] theorem rr_shl_i64_u32 {t : TypeId} {x y : Operand} {a b : Int} (hb : 0 ≤ b) : rrun P (bop .shl t x y (.int .i64 a) (.int .u32 b)) h = some (.int .i64 (IntKind.i64.wrap (a * 2 ^ (min b.toNat 64)))) := by
  show rrun P (Op.shift .shl .i64 a .u32 b) h = _
  simp only [Op.shift, if_neg (Int.not_lt.2 hb)]; rfl
@[simp] theorem rr_shr_i64_u32 {t : TypeId} {x y : Operand} {a b : Int} (hb : 0 ≤ b) : rrun P (bop .shr t x y (.int .i64 a) (.int .u32 b)) h = some (.int .i64 (a.fdiv (2 ^ (min b.toNat 64)))) := by
  show rrun P (Op.shift .shr .i64 a .u32 b) h = _
  simp only [Op.shift, if_neg (Int.not_lt.2 hb)]; rfl
@[simp] theorem rr_shl_i64_u64 {t : TypeId} {x y : Operand} {a b : Int} (hb : 0 ≤ b) : rrun P (bop .shl t x y (.int .i64 a) (.int .u64 b)) h = some (.int .i64 (IntKind.i64.wrap (a * 2 ^ (min b.toNat 64)))) := by
  show rrun P (Op.shift .shl .i64 a .u64 b) h = _
  simp only [Op.shift, if_neg (Int.not_lt.2 hb)]; rfl
@[simp] theorem rr_shr_i64_u64 {t : TypeId} {x y : Operand} {a b : Int} (hb : 0 ≤ b) : rrun P (bop .shr t x y (.int .i64 a) (.int .u64 b)) h = some (.int .i64 (a.fdiv (2 ^ (min b.toNat 64)))) := by
  show rrun P (Op.shift .shr .i64 a .u64 b) h = _
  simp only [Op.shift, if_neg (Int.not_lt.2 hb)]; rfl
@[simp] theorem rr_min_i64 {ts : Array TypeId} {t : TypeId} {a b : Int} : rrun P (Builtin.min_ ts t #[.int .i64 a, .int .i64 b]) h = some (.int .i64 (min a b)) := by
  show some (Value.int .i64 (if b < a then b else a)) = _
  congr 2; split <;> omega
@[simp] theorem rr_max_i64 {ts : Array TypeId} {t : TypeId} {a b : Int} : rrun P (Builtin.max_ ts t #[.int .i64 a, .int .i64 b]) h = some (.int .i64 (max a b)) := by
  show some (Value.int .i64 (if b > a then b else a)) = _
  congr 2; split <;> omega
@[simp] theorem rr_add_u32 {t : TypeId} {x y : Operand} {a b : Int} : rrun P (bop .add t x y (.int .u32 a) (.int .u32 b)) h = some (.int .u32 (IntKind.u32.wrap (a + b))) := rfl
@[simp] theorem rr_sub_u32 {t : TypeId} {x y : Operand} {a b : Int} : rrun P (bop .sub t x y (.int .u32 a) (.int .u32 b)) h = some (.int .u32 (IntKind.u32.wrap (a - b))) := rfl
@[simp] theorem rr_mul_u32 {t : TypeId} {x y : Operand} {a b : Int} : rrun P (bop .mul t x y (.int .u32 a) (.int .u32 b)) h = some (.int .u32 (IntKind.u32.wrap (a * b))) := rfl
@[simp] theorem rr_eql_u32 {t : TypeId} {x y : Operand} {a b : Int} : rrun P (bop .eql t x y (.int .u32 a) (.int .u32 b)) h = some (.bool (decide (a = b))) := rfl
@[simp] theorem rr_neq_u32 {t : TypeId} {x y : Operand} {a b : Int} : rrun P (bop .neq t x y (.int .u32 a) (.int .u32 b)) h = some (.bool (!decide (a = b))) := rfl
@[simp] theorem rr_lss_u32 {t : TypeId} {x y : Operand} {a b : Int} : rrun P (bop .lss t x y (.int .u32 a) (.int .u32 b)) h = some (.bool (decide (a < b))) := rfl
@[simp] theorem rr_leq_u32 {t : TypeId} {x y : Operand} {a b : Int} : rrun P (bop .leq t x y (.int .u32 a) (.int .u32 b)) h = some (.bool (decide (a ≤ b))) := rfl
@[simp] theorem rr_gtr_u32 {t : TypeId} {x y : Operand} {a b : Int} : rrun P (bop .gtr t x y (.int .u32 a) (.int .u32 b)) h = some (.bool (decide (a > b))) := rfl
@[simp] theorem rr_geq_u32 {t : TypeId} {x y : Operand} {a b : Int} : rrun P (bop .geq t x y (.int .u32 a) (.int .u32 b)) h = some (.bool (decide (a ≥ b))) := rfl
@[simp] theorem rr_and_u32 {t : TypeId} {x y : Operand} {a b : Int} : rrun P (bop .and t x y (.int .u32 a) (.int .u32 b)) h = some (.int .u32 (bits_and .u32 a b)) := rfl
@[simp] theorem rr_or_u32 {t : TypeId} {x y : Operand} {a b : Int} : rrun P (bop .or t x y (.int .u32 a) (.int .u32 b)) h = some (.int .u32 (bits_or .u32 a b)) := rfl
@[simp] theorem rr_xor_u32 {t : TypeId} {x y : Operand} {a b : Int} : rrun P (bop .xor t x y (.int .u32 a) (.int .u32 b)) h = some (.int .u32 (bits_xor .u32 a b)) := rfl
@[simp] theorem rr_andNot_u32 {t : TypeId} {x y : Operand} {a b : Int} : rrun P (bop .andNot t x y (.int .u32 a) (.int .u32 b)) h = some (.int .u32 (bits_andNot .u32 a b)) := rfl
@[simp] theorem rr_quo_u32 {t : TypeId} {x y : Operand} {a b : Int} (hb : b ≠ 0) : rrun P (bop .quo t x y (.int .u32 a) (.int .u32 b)) h = some (.int .u32 (IntKind.u32.wrap (a.tdiv b))) := by
  show rrun P (Op.intDiv .quo .u32 a b) h = _
  simp only [Op.intDiv, if_neg hb]; rfl
@[simp] theorem rr_rem_u32 {t : TypeId} {x y : Operand} {a b : Int} (hb : b ≠ 0) : rrun P (bop .rem t x y (.int .u32 a) (.int .u32 b)) h = some (.int .u32 (a.tmod b)) := by
  show rrun P (Op.intDiv .rem .u32 a b) h = _
  simp only [Op.intDiv, if_neg hb]; rfl
@[simp] theorem rr_shl_u32_i64 {t : TypeId} {x y : Operand} {a b : Int} (hb : 0 ≤ b) : rrun P (bop .shl t x y (.int .u32 a) (.int .i64 b)) h = some (.int .u32 (IntKind.u32.wrap (a * 2 ^ (min b.toNat 32)))) := by
  show rrun P (Op.shift .shl .u32 a .i64 b) h = _
  simp only [Op.shift, if_neg (Int.not_lt.2 hb)]; rfl
@[simp] theorem rr_shr_u32_i64 {t : TypeId} {x y : Operand} {a b : Int} (hb : 0 ≤ b) : rrun P (bop .shr t x y (.int .u32 a) (.int .i64 b)) h = some (.int .u32 (a.fdiv (2 ^ (min b.toNat 32)))) := by
  show rrun P (Op.shift .shr .u32 a .i64 b) h = _
  simp only [Op.shift, if_neg (Int.not_lt.2 hb)]; rfl
@[simp] theorem rr_shl_u32_u32 {t : TypeId} {x y : Operand} {a b : Int} (hb : 0 ≤ b) : rrun P (bop .shl t x y (.int .u32 a) (.int .u32 b)) h = some (.int .u32 (IntKind.u32.wrap (a * 2 ^ (min b.toNat 32)))) := by
  show rrun P (Op.shift .shl .u32 a .u32 b) h = _
  simp only [Op.shift, if_neg (Int.not_lt.2 hb)]; rfl
@[simp] theorem rr_shr_u32_u32 {t : TypeId} {x y : Operand} {a b : Int} (hb : 0 ≤ b) : rrun P (bop .shr t x y (.int .u32 a) (.int .u32 b)) h = some (.int .u32 (a.fdiv (2 ^ (min b.toNat 32)))) := by
  show rrun P (Op.shift .shr .u32 a .u32 b) h = _
  simp only [Op.shift, if_neg (Int.not_lt.2 hb)]; rfl
@[simp] theorem rr_shl_u32_u64 {t : TypeId} {x y : Operand} {a b : Int} (hb : 0 ≤ b) : rrun P (bop .shl t x y (.int .u32 a) (.int .u64 b)) h = some (.int .u32 (IntKind.u32.wrap (a * 2 ^ (min b.toNat 32)))) := by
  show rrun P (Op.shift .shl .u32 a .u64 b) h = _
  simp only [Op.shift, if_neg (Int.not_lt.2 hb)]; rfl
@[simp] theorem rr_shr_u32_u64 {t : TypeId} {x y : Operand} {a b : Int} (hb : 0 ≤ b) : rrun P (bop .shr t x y (.int .u32 a) (.int .u64 b)) h = some (.int .u32 (a.fdiv (2 ^ (min b.toNat 32)))) := by
  show rrun P (Op.shift .shr .u32 a .u64 b) h = _
  simp only [Op.shift, if_neg (Int.not_lt.2 hb)]; rfl
@[simp] theorem rr_min_u32 {ts : Array TypeId} {t : TypeId} {a b : Int} : rrun P (Builtin.min_ ts t #[.int .u32 a, .int .u32 b]) h = some (.int .u32 (min a b)) := by
  show some (Value.int .u32 (if b < a then b else a)) = _
  congr 2; split <;> omega
@[simp] theorem rr_max_u32 {ts : Array TypeId} {t : TypeId} {a b : Int} : rrun P (Builtin.max_ ts t #[.int .u32 a, .int .u32 b]) h = some (.int .u32 (max a b)) := by
  show some (Value.int .u32 (if b > a then b else a)) = _
  congr 2; split <;> omega
@[simp] theorem rr_add_u16 {t : TypeId} {x y : Operand} {a b : Int} : rrun P (bop .add t x y (.int .u16 a) (.int .u16 b)) h = some (.int .u16 (IntKind.u16.wrap (a + b))) := rfl
@[simp] theorem rr_sub_u16 {t : TypeId} {x y : Operand} {a b : Int} : rrun P (bop .sub t x y (.int .u16 a) (.int .u16 b)) h = some (.int .u16 (IntKind.u16.wrap (a - b))) := rfl
@[simp] theorem rr_mul_u16 {t : TypeId} {x y : Operand} {a b : Int} : rrun P (bop .mul t x y (.int .u16 a) (.int .u16 b)) h = some (.int .u16 (IntKind.u16.wrap (a * b))) := rfl
@[simp] theorem rr_eql_u16 {t : TypeId} {x y : Operand} {a b : Int} : rrun P (bop .eql t x y (.int .u16 a) (.int .u16 b)) h = some (.bool (decide (a = b))) := rfl
@[simp] theorem rr_neq_u16 {t : TypeId} {x y : Operand} {a b : Int} : rrun P (bop .neq t x y (.int .u16 a) (.int .u16 b)) h = some (.bool (!decide (a = b))) := rfl
@[simp] theorem rr_lss_u16 {t : TypeId} {x y : Operand} {a b : Int} : rrun P (bop .lss t x y (.int .u16 a) (.int .u16 b)) h = some (.bool (decide (a < b))) := rfl
@[simp] theorem rr_leq_u16 {t : TypeId} {x y : Operand} {a b : Int} : rrun P (bop .leq t x y (.int .u16 a) (.int .u16 b)) h = some (.bool (decide (a ≤ b))) := rfl
@[simp] theorem rr_gtr_u16 {t : TypeId} {x y : Operand} {a b : Int} : rrun P (bop .gtr t x y (.int .u16 a) (.int .u16 b)) h = some (.bool (decide (a > b))) := rfl
@[simp] theorem rr_geq_u16 {t : TypeId} {x y : Operand} {a b : Int} : rrun P (bop .geq t x y (.int .u16 a) (.int .u16 b)) h = some (.bool (decide (a ≥ b))) := rfl
@[simp] theorem rr_and_u16 {t : TypeId} {x y : Operand} {a b : Int} : rrun P (bop .and t x y (.int .u16 a) (.int .u16 b)) h = some (.int .u16 (bits_and .u16 a b)) := rfl
@[simp] theorem rr_or_u16 {t : TypeId} {x y : Operand} {a b : Int} : rrun P (bop .or t x y (.int .u16 a) (.int .u16 b)) h = some (.int .u16 (bits_or .u16 a b)) := rfl
@[simp] theorem rr_xor_u16 {t : TypeId} {x y : Operand} {a b : Int} : rrun P (bop .xor t x y (.int .u16 a) (.int .u16 b)) h = some (.int .u16 (bits_xor .u16 a b)) := rfl
@[simp] theorem rr_andNot_u16 {t : TypeId} {x y : Operand} {a b : Int} : rrun P (bop .andNot t x y (.int .u16 a) (.int .u16 b)) h = some (.int .u16 (bits_andNot .u16 a b)) := rfl
@[simp] theorem rr_quo_u16 {t : TypeId} {x y : Operand} {a b : Int} (hb : b ≠ 0) : rrun P (bop .quo t x y (.int .u16 a) (.int .u16 b)) h = some (.int .u16 (IntKind.u16.wrap (a.tdiv b))) := by
  show rrun P (Op.intDiv .quo .u16 a b) h = _
  simp only [Op.intDiv, if_neg hb]; rfl
@[simp] theorem rr_rem_u16 {t : TypeId} {x y : Operand} {a b : Int} (hb : b ≠ 0) : rrun P (bop .rem t x y (.int .u16 a) (.int .u16 b)) h = some (.int .u16 (a.tmod b)) := by
  show rrun P (Op.intDiv .rem .u16 a b) h = _
  simp only [Op.intDiv, if_neg hb]; rfl
@[simp] theorem rr_shl_u16_i64 {t : TypeId} {x y : Operand} {a b : Int} (hb : 0 ≤ b) : rrun P (bop .shl t x y (.int .u16 a) (.int .i64 b)) h = some (.int .u16 (IntKind.u16.wrap (a * 2 ^ (min b.toNat 16)))) := by
  show rrun P (Op.shift .shl .u16 a .i64 b) h = _
  simp only [Op.shift, if_neg (Int.not_lt.2 hb)]; rfl
@[simp] theorem rr_shr_u16_i64 {t : TypeId} {x y : Operand} {a b : Int} (hb : 0 ≤ b) : rrun P (bop .shr t x y (.int .u16 a) (.int .i64 b)) h = some (.int .u16 (a.fdiv (2 ^ (min b.toNat 16)))) := by
  show rrun P (Op.shift .shr .u16 a .i64 b) h = _
  simp only [Op.shift, if_neg (Int.not_lt.2 hb)]; rfl
@[simp] theorem rr_shl_u16_u32 {t : TypeId} {x y : Operand} {a b : Int} (hb : 0 ≤ b) : rrun P (bop .shl t x y (.int .u16 a) (.int .u32 b)) h = some (.int .u16 (IntKind.u16.wrap (a * 2 ^ (min b.toNat 16)))) := by
  show rrun P (Op.shift .shl .u16 a .u32 b) h = _
  simp only [Op.shift, if_neg (Int.not_lt.2 hb)]; rfl
@[simp] theorem rr_shr_u16_u32 {t : TypeId} {x y : Operand} {a b : Int} (hb : 0 ≤ b) : rrun P (bop .shr t x y (.int .u16 a) (.int .u32 b)) h = some (.int .u16 (a.fdiv (2 ^ (min b.toNat 16)))) := by
  show rrun P (Op.shift .shr .u16 a .u32 b) h = _
  simp only [Op.shift, if_neg (Int.not_lt.2 hb)]; rfl
@[simp] theorem rr_shl_u16_u64 {t : TypeId} {x y : Operand} {a b : Int} (hb : 0 ≤ b) : rrun P (bop .shl t x y (.int .u16 a) (.int .u64 b)) h = some (.int .u16 (IntKind.u16.wrap (a * 2 ^ (min b.toNat 16)))) := by
  show rrun P (Op.shift .shl .u16 a .u64 b) h = _
  simp only [Op.shift, if_neg (Int.not_lt.2 hb)]; rfl
@[simp] theorem rr_shr_u16_u64 {t : TypeId} {x y : Operand} {a b : Int} (hb : 0 ≤ b) : rrun P (bop .shr t x y (.int .u16 a) (.int .u64 b)) h = some (.int .u16 (a.fdiv (2 ^ (min b.toNat 16)))) := by
  show rrun P (Op.shift .shr .u16 a .u64 b) h = _
  simp only [Op.shift, if_neg (Int.not_lt.2 hb)]; rfl
@[simp] theorem rr_min_u16 {ts : Array TypeId} {t : TypeId} {a b : Int} : rrun P (Builtin.min_ ts t #[.int .u16 a, .int .u16 b]) h = some (.int .u16 (min a b)) := by
  show some (Value.int .u16 (if b < a then b else a)) = _
  congr 2; split <;> omega
@[simp] theorem rr_max_u16 {ts : Array TypeId} {t : TypeId} {a b : Int} : rrun P (Builtin.max_ ts t #[.int .u16 a, .int .u16 b]) h = some (.int .u16 (max a b)) := by
  show some (Value.int .u16 (if b > a then b else a)) = _
  congr 2; split <;> omega
@[simp] theorem rr_add_u64 {t : TypeId} {x y : Operand} {a b : Int} : rrun P (bop .add t x y (.int .u64 a) (.int .u64 b)) h = some (.int .u64 (IntKind.u64.wrap (a + b))) := rfl
@[simp] theorem rr_sub_u64 {t : TypeId} {x y : Operand} {a b : Int} : rrun P (bop .sub t x y (.int .u64 a) (.int .u64 b)) h = some (.int .u64 (IntKind.u64.wrap (a - b))) := rfl
@[simp] theorem rr_mul_u64 {t : TypeId} {x y : Operand} {a b : Int} : rrun P (bop .mul t x y (.int .u64 a) (.int .u64 b)) h = some (.int .u64 (IntKind.u64.wrap (a * b))) := rfl
@[simp] theorem rr_eql_u64 {t : TypeId} {x y : Operand} {a b : Int} : rrun P (bop .eql t x y (.int .u64 a) (.int .u64 b)) h = some (.bool (decide (a = b))) := rfl
@[simp] theorem rr_neq_u64 {t : TypeId} {x y : Operand} {a b : Int} : rrun P (bop .neq t x y (.int .u64 a) (.int .u64 b)) h = some (.bool (!decide (a = b))) := rfl
@[simp] theorem rr_lss_u64 {t : TypeId} {x y : Operand} {a b : Int} : rrun P (bop .lss t x y (.int .u64 a) (.int .u64 b)) h = some (.bool (decide (a < b))) := rfl
@[simp] theorem rr_leq_u64 {t : TypeId} {x y : Operand} {a b : Int} : rrun P (bop .leq t x y (.int .u64 a) (.int .u64 b)) h = some (.bool (decide (a ≤ b))) := rfl
@[simp] theorem rr_gtr_u64 {t : TypeId} {x y : Operand} {a b : Int} : rrun P (bop .gtr t x y (.int .u64 a) (.int .u64 b)) h = some (.bool (decide (a > b))) := rfl
@[simp] theorem rr_geq_u64 {t : TypeId} {x y : Operand} {a b : Int} : rrun P (bop .geq t x y (.int .u64 a) (.int .u64 b)) h = some (.bool (decide (a ≥ b))) := rfl
@[simp] theorem rr_and_u64 {t : TypeId} {x y : Operand} {a b : Int} : rrun P (bop .and t x y (.int .u64 a) (.int .u64 b)) h = some (.int .u64 (bits_and .u64 a b)) := rfl
@[simp] theorem rr_or_u64 {t : TypeId} {x y : Operand} {a b : Int} : rrun P (bop .or t x y (.int .u64 a) (.int .u64 b)) h = some (.int .u64 (bits_or .u64 a b)) := rfl
@[simp] theorem rr_xor_u64 {t : TypeId} {x y : Operand} {a b : Int} : rrun P (bop .xor t x y (.int .u64 a) (.int .u64 b)) h = some (.int .u64 (bits_xor .u64 a b)) := rfl
@[simp] theorem rr_andNot_u64 {t : TypeId} {x y : Operand} {a b : Int} : rrun P (bop .andNot t x y (.int .u64 a) (.int .u64 b)) h = some (.int .u64 (bits_andNot .u64 a b)) := rfl
@[simp] theorem rr_quo_u64 {t : TypeId} {x y : Operand} {a b : Int} (hb : b ≠ 0) : rrun P (bop .quo t x y (.int .u64 a) (.int .u64 b)) h = some (.int .u64 (IntKind.u64.wrap (a.tdiv b))) := by
  show rrun P (Op.intDiv .quo .u64 a b) h = _
  simp only [Op.intDiv, if_neg hb]; rfl
@[simp] theorem rr_rem_u64 {t : TypeId} {x y : Operand} {a b : Int} (hb : b ≠ 0) : rrun P (bop .rem t x y (.int .u64 a) (.int .u64 b)) h = some (.int .u64 (a.tmod b)) := by
  show rrun P (Op.intDiv .rem .u64 a b) h = _
  simp only [Op.intDiv, if_neg hb]; rfl
@[simp] theorem rr_shl_u64_i64 {t : TypeId} {x y : Operand} {a b : Int} (hb : 0 ≤ b) : rrun P (bop .shl t x y (.int .u64 a) (.int .i64 b)) h = some (.int .u64 (IntKind.u64.wrap (a * 2 ^ (min b.toNat 64)))) := by
  show rrun P (Op.shift .shl .u64 a .i64 b) h = _
  simp only [Op.shift, if_neg (Int.not_lt.2 hb)]; rfl
@[simp] theorem rr_shr_u64_i64 {t : TypeId} {x y : Operand} {a b : Int} (hb : 0 ≤ b) : rrun P (bop .shr t x y (.int .u64 a) (.int .i64 b)) h = some (.int .u64 (a.fdiv (2 ^ (min b.toNat 64)))) := by
  show rrun P (Op.shift .shr .u64 a .i64 b) h = _
  simp only [Op.shift, if_neg (Int.not_lt.2 hb)]; rfl
@[simp] theorem rr_shl_u64_u32 {t : TypeId} {x y : Operand} {a b : Int} (hb : 0 ≤ b) : rrun P (bop .shl t x y (.int .u64 a) (.int .u32 b)) h = some (.int .u64 (IntKind.u64.wrap (a * 2 ^ (min b.toNat 64)))) := by
  show rrun P (Op.shift .shl .u64 a .u32 b) h = _
  simp only [Op.shift, if_neg (Int.not_lt.2 hb)]; rfl
@[simp] theorem rr_shr_u64_u32 {t : TypeId} {x y : Operand} {a b : Int} (hb : 0 ≤ b) : rrun P (bop .shr t x y (.int .u64 a) (.int .u32 b)) h = some (.int .u64 (a.fdiv (2 ^ (min b.toNat 64)))) := by
  show rrun P (Op.shift .shr .u64 a .u32 b) h = _
  simp only [Op.shift, if_neg (Int.not_lt.2 hb)]; rfl
@[simp] theorem rr_shl_u64_u64 {t : TypeId} {x y : Operand} {a b : Int} (hb : 0 ≤ b) : rrun P (bop .shl t x y (.int .u64 a) (.int .u64 b)) h = some (.int .u64 (IntKind.u64.wrap (a * 2 ^ (min b.toNat 64)))) := by
  show rrun P (Op.shift .shl .u64 a .u64 b) h = _
  simp only [Op.shift, if_neg (Int.not_lt.2 hb)]; rfl
@[simp] theorem rr_shr_u64_u64 {t : TypeId} {x y : Operand} {a b : Int} (hb : 0 ≤ b) : rrun P (bop .shr t x y (.int .u64 a) (.int .u64 b)) h = some (.int .u64 (a.fdiv (2 ^ (min b.toNat 64)))) := by
  show rrun P (Op.shift .shr .u64 a .u64 b) h = _
  simp only [Op.shift, if_neg (Int.not_lt.2 hb)]; rfl
@[simp] theorem rr_min_u64 {ts : Array TypeId} {t : TypeId} {a b : Int} : rrun P (Builtin.min_ ts t #[.int .u64 a, .int .u64 b]) h = some (.int .u64 (min a b)) := by
  show some (Value.int .u64 (if b < a then b else a)) = _
  congr 2; split <;> omega
@[simp] theorem rr_max_u64 {ts : Array TypeId} {t : TypeId} {a b : Int} : rrun P (Builtin.max_ ts t #[.int .u64 a, .int .u64 b]) h = some (.int .u64 (max a b)) := by
  show some (Value.int .u64 (if b > a then b else a)) = _
  congr 2; split <;> omega
@[simp] theorem rr_add_u8 {t : TypeId} {x y : Operand} {a b : Int} : rrun P (bop .add t x y (.int .u8 a) (.int .u8 b)) h = some (.int .u8 (IntKind.u8.wrap (a + b))) := rfl
@[simp] theorem rr_sub_u8 {t : TypeId} {x y : Operand} {a b : Int} : rrun P (bop .sub t x y (.int .u8 a) (.int .u8 b)) h = some (.int .u8 (IntKind.u8.wrap (a - b))) := rfl
@[simp] theorem rr_mul_u8 {t : TypeId} {x y : Operand} {a b : Int} : rrun P (bop .mul t x y (.int .u8 a) (.int .u8 b)) h = some (.int .u8 (IntKind.u8.wrap (a * b))) := rfl
@[simp] theorem rr_eql_u8 {t : TypeId} {x y : Operand} {a b : Int} : rrun P (bop .eql t x y (.int .u8 a) (.int .u8 b)) h = some (.bool (decide (a = b))) := rfl
@[simp] theorem rr_neq_u8 {t : TypeId} {x y : Operand} {a b : Int} : rrun P (bop .neq t x y (.int .u8 a) (.int .u8 b)) h = some (.bool (!decide (a = b))) := rfl
@[simp] theorem rr_lss_u8 {t : TypeId} {x y : Operand} {a b : Int} : rrun P (bop .lss t x y (.int .u8 a) (.int .u8 b)) h = some (.bool (decide (a < b))) := rfl
@[simp] theorem rr_leq_u8 {t : TypeId} {x y : Operand} {a b : Int} : rrun P (bop .leq t x y (.int .u8 a) (.int .u8 b)) h = some (.bool (decide (a ≤ b))) := rfl
@[simp] theorem rr_gtr_u8 {t : TypeId} {x y : Operand} {a b : Int} : rrun P (bop .gtr t x y (.int .u8 a) (.int .u8 b)) h = some (.bool (decide (a > b))) := rfl
@[simp] theorem rr_geq_u8 {t : TypeId} {x y : Operand} {a b : Int} : rrun P (bop .geq t x y (.int .u8 a) (.int .u8 b)) h = some (.bool (decide (a ≥ b))) := rfl
@[simp] theorem rr_and_u8 {t : TypeId} {x y : Operand} {a b : Int} : rrun P (bop .and t x y (.int .u8 a) (.int .u8 b)) h = some (.int .u8 (bits_and .u8 a b)) := rfl
@[simp] theorem rr_or_u8 {t : TypeId} {x y : Operand} {a b : Int} : rrun P (bop .or t x y (.int .u8 a) (.int .u8 b)) h = some (.int .u8 (bits_or .u8 a b)) := rfl
@[simp] theorem rr_xor_u8 {t : TypeId} {x y : Operand} {a b : Int} : rrun P (bop .xor t x y (.int .u8 a) (.int .u8 b)) h = some (.int .u8 (bits_xor .u8 a b)) := rfl
@[simp] theorem rr_andNot_u8 {t : TypeId} {x y : Operand} {a b : Int} : rrun P (bop .andNot t x y (.int .u8 a) (.int .u8 b)) h = some (.int .u8 (bits_andNot .u8 a b)) := rfl
@[simp] theorem rr_quo_u8 {t : TypeId} {x y : Operand} {a b : Int} (hb : b ≠ 0) : rrun P (bop .quo t x y (.int .u8 a) (.int .u8 b)) h = some (.int .u8 (IntKind.u8.wrap (a.tdiv b))) := by
  show rrun P (Op.intDiv .quo .u8 a b) h = _
  simp only [Op.intDiv, if_neg hb]; rfl
@[simp] theorem rr_rem_u8 {t : TypeId} {x y : Operand} {a b : Int} (hb : b ≠ 0) : rrun P (bop .rem t x y (.int .u8 a) (.int .u8 b)) h = some (.int .u8 (a.tmod b)) := by
  show rrun P (Op.intDiv .rem .u8 a b) h = _
  simp only [Op.intDiv, if_neg hb]; rfl
@[simp] theorem rr_shl_u8_i64 {t : TypeId} {x y : Operand} {a b : Int} (hb : 0 ≤ b) : rrun P (bop .shl t x y (.int .u8 a) (.int .i64 b)) h = some (.int .u8 (IntKind.u8.wrap (a * 2 ^ (min b.toNat 8)))) := by
  show rrun P (Op.shift .shl .u8 a .i64 b) h = _
  simp only [Op.shift, if_neg (Int.not_lt.2 hb)]; rfl
@[simp] theorem rr_shr_u8_i64 {t : TypeId} {x y : Operand} {a b : Int} (hb : 0 ≤ b) : rrun P (bop .shr t x y (.int .u8 a) (.int .i64 b)) h = some (.int .u8 (a.fdiv (2 ^ (min b.toNat 8)))) := by
  show rrun P (Op.shift .shr .u8 a .i64 b) h = _
  simp only [Op.shift, if_neg (Int.not_lt.2 hb)]; rfl
@[simp] theorem rr_shl_u8_u32 {t : TypeId} {x y : Operand} {a b : Int} (hb : 0 ≤ b) : rrun P (bop .shl t x y (.int .u8 a) (.int .u32 b)) h = some (.int .u8 (IntKind.u8.wrap (a * 2 ^ (min b.toNat 8)))) := by
  show rrun P (Op.shift .shl .u8 a .u32 b) h = _
  simp only [Op.shift, if_neg (Int.not_lt.2 hb)]; rfl
@[simp] theorem rr_shr_u8_u32 {t : TypeId} {x y : Operand} {a b : Int} (hb : 0 ≤ b) : rrun P (bop .shr t x y (.int .u8 a) (.int .u32 b)) h = some (.int .u8 (a.fdiv (2 ^ (min b.toNat 8)))) := by
  show rrun P (Op.shift .shr .u8 a .u32 b) h = _
  simp only [Op.shift, if_neg (Int.not_lt.2 hb)]; rfl
@[simp] theorem rr_shl_u8_u64 {t : TypeId} {x y : Operand} {a b : Int} (hb : 0 ≤ b) : rrun P (bop .shl t x y (.int .u8 a) (.int .u64 b)) h = some (.int .u8 (IntKind.u8.wrap (a * 2 ^ (min b.toNat 8)))) := by
  show rrun P (Op.shift .shl .u8 a .u64 b) h = _
  simp only [Op.shift, if_neg (Int.not_lt.2 hb)]; rfl
@[simp] theorem rr_shr_u8_u64 {t : TypeId} {x y : Operand} {a b : Int} (hb : 0 ≤ b) : rrun P (bop .shr t x y (.int .u8 a) (.int .u64 b)) h = some (.int .u8 (a.fdiv (2 ^ (min b.toNat 8)))) := by
  show rrun P (Op.shift .shr .u8 a .u64 b) h = _
  simp only [Op.shift, if_neg (Int.not_lt.2 hb)]; rfl
@[simp] theorem rr_min_u8 {ts : Array TypeId} {t : TypeId} {a b : Int} : rrun P (Builtin.min_ ts t #[.int .u8 a, .int .u8 b]) h = some (.int .u8 (min a b)) := by
  show some (Value.int .u8 (if b < a then b else a)) = _
  congr 2; split <;> omega
@[simp] theorem rr_max_u8 {ts : Array TypeId} {t : TypeId} {a b : Int} : rrun P (Builtin.max_ ts t #[.int .u8 a, .int .u8 b]) h = some (.int .u8 (max a b)) := by
  show some (Value.int .u8 (if b > a then b else a)) = _
  congr 2; split <;> omega

theorem wrap_i64 {x : Int} (h1 : -9223372036854775808 ≤ x) (h2 : x < 9223372036854775808) : IntKind.i64.wrap x = x := by
  show (if (decide (x % 18446744073709551616 ≥ 9223372036854775808)) = true then x % 18446744073709551616 - 18446744073709551616 else x % 18446744073709551616) = x
  by_cases c : x % 18446744073709551616 ≥ 9223372036854775808
  · rw [if_pos (by simpa using c)]; omega
  · rw [if_neg (by simpa using c)]; omega
theorem wrap_u32 {x : Int} (h1 : 0 ≤ x) (h2 : x < 4294967296) : IntKind.u32.wrap x = x := by
  show x % 4294967296 = x
  omega
theorem wrap_u16 {x : Int} (h1 : 0 ≤ x) (h2 : x < 65536) : IntKind.u16.wrap x = x := by
  show x % 65536 = x
  omega
theorem wrap_u8 {x : Int} (h1 : 0 ≤ x) (h2 : x < 256) : IntKind.u8.wrap x = x := by
  show x % 256 = x
  omega
theorem wrap_u64 {x : Int} (h1 : 0 ≤ x) (h2 : x < 18446744073709551616) : IntKind.u64.wrap x = x := by
  show x % 18446744073709551616 = x
  omega

/-! ### Memory -/

@[simp] theorem add_none {b o n : Nat} : Addr.add ⟨b, o, none⟩ n = ⟨b, o + n, none⟩ := by
  unfold Addr.add; split
  · rename_i e; subst e; rfl
  · rfl

/-- n cells from a place on. -/
def ldN (h : Hp) (b : Nat) : Nat → Nat → Option (List Value)
  | _, 0 => some []
  | o, n + 1 =>
    match h.cell? ⟨b, o, none⟩ with
    | some v => (ldN h b (o + 1) n).map (v :: ·)
    | none => none

theorem rr_loadCellsFrom {b o : Nat} : ∀ (n i : Nat) (acc : Array Value), rrun P (loadCellsFrom ⟨b, o, none⟩ i n acc) h = (ldN h b (o + i) n).map fun l => acc ++ l.toArray := by
  intro n
  induction n with
  | zero => intro i acc; simp [loadCellsFrom, ldN]; rfl
  | succ n ih =>
    intro i acc
    simp only [loadCellsFrom, ldN, add_none]
    rw [show (do let v ← load ⟨b, o + i, none⟩; loadCellsFrom ⟨b, o, none⟩ (i + 1) n (acc.push v) : Sem (Array Value)) = Sem.load .plain ⟨b, o + i, none⟩ fun v => loadCellsFrom ⟨b, o, none⟩ (i + 1) n (acc.push v) from rfl]
    simp only [rrun]
    cases h.cell? ⟨b, o + i, none⟩ with
    | none => rfl
    | some v =>
      simp only
      rw [ih]
      have : o + (i + 1) = o + i + 1 := by omega
      rw [this]
      cases ldN h b (o + i + 1) n <;> simp

theorem rr_bind_none {α β : Type} (s : Sem α) (f : α → Sem β) : ∀ {h : Hp}, rrun P s h = none → ∀ v, rrun P (s.bind f) h ≠ some v := by
  induction s with
  | pure a => intro h A; simp [rrun] at A
  | load m a k ih =>
    intro h A v
    simp only [rrun, Sem.bind] at A ⊢
    cases hc : h.cell? a with
    | none => simp
    | some u => simp only [hc] at A ⊢; exact ih u A v
  | shape r k ih =>
    intro h A v
    simp only [rrun, Sem.bind] at A ⊢
    cases ho : h r with
    | none => simp
    | some o => simp only [ho] at A ⊢; exact ih _ A v
  | frozen a k ih =>
    intro h A v
    simp only [rrun, Sem.bind] at A ⊢
    cases ho : h a.block with
    | none => simp
    | some o => simp only [ho] at A ⊢; exact ih _ A v
  | getObj r k ih =>
    intro h A v
    simp only [rrun, Sem.bind] at A ⊢
    cases ho : h r with
    | none => simp
    | some o =>
      simp only [ho] at A ⊢
      cases hr : isRow o with
      | true => simp
      | false => simp only [hr] at A ⊢; exact ih _ A v
  | choose q k ih =>
    intro h A v
    simp only [rrun, Sem.bind] at A ⊢
    by_cases hq : q.forced = true
    · simp only [hq, if_true] at A ⊢; exact ih _ A v
    · simp [hq]
  | program k ih => intro h A v; simp only [rrun, Sem.bind] at A ⊢; exact ih P A v
  | mark m k ih => intro h A v; simp only [rrun, Sem.bind] at A ⊢; exact ih A v
  | _ => intro h A v; simp [rrun, Sem.bind]

theorem rr_load_agg {t : TypeId} {n b o : Nat} (ha : rrun P (isAgg t) h = some true) (hs : rrun P (sizeOf t) h = some n) :
    rrun P (Instr.loadAt t (.pointer (some ⟨b, o, none⟩))) h = (ldN h b o n).map fun l => .agg l.toArray := by
  have e : Instr.loadAt t (.pointer (some ⟨b, o, none⟩)) = (isAgg t).bind fun g => if g then (sizeOf t).bind fun n => (loadCells ⟨b, o, none⟩ n).bind fun c => .pure (.agg c) else load ⟨b, o, none⟩ := rfl
  rw [e, rrun_bind _ _ ha]
  simp only [if_true]
  rw [rrun_bind _ _ hs]
  have := rr_loadCellsFrom (P := P) (h := h) (b := b) (o := o) n 0 #[]
  cases hl : ldN h b o n with
  | none =>
    simp only [Nat.add_zero, hl, Option.map_none] at this
    simp only [Option.map_none]
    cases hx : rrun P ((loadCells ⟨b, o, none⟩ n).bind fun c => .pure (Value.agg c)) h with
    | none => rfl
    | some v => exact absurd hx (rr_bind_none _ _ this v)
  | some l =>
    simp only [Nat.add_zero, hl, Option.map_some] at this
    rw [rrun_bind _ _ (show rrun P (loadCells ⟨b, o, none⟩ n) h = _ from this)]
    simp [rrun]

theorem rr_load_one {t : TypeId} {a : Addr} (ha : rrun P (isAgg t) h = some false) : rrun P (Instr.loadAt t (.pointer (some a))) h = h.cell? a := by
  have e : Instr.loadAt t (.pointer (some a)) = (isAgg t).bind fun g => if g then (sizeOf t).bind fun n => (loadCells a n).bind fun c => .pure (.agg c) else load a := rfl
  rw [e, rrun_bind _ _ ha, if_neg (by simp)]
  rw [show load a = Sem.load .plain a .pure from rfl]
  simp only [rrun]
  cases h.cell? a <;> rfl

/-- Cells stored one behind the other. -/
def stN (h : Hp) (b : Nat) : Nat → List Value → (Hp → Prop) → Prop
  | _, [], k => k h
  | o, v :: rest, k => stw (h.cell? ⟨b, o, none⟩) (h.frozen? ⟨b, o, none⟩) (oneCell v = true ∧ stN (h.setCell ⟨b, o, none⟩ v) b (o + 1) rest k)

theorem arun_storeCells {b o : Nat} : ∀ (l : List Value) (i : Nat) (h : Hp) (k : Unit → Hp → Prop), stN h b (o + i) l (k ()) → arun P (storeCells ⟨b, o, none⟩ l i) h k := by
  intro l
  induction l with
  | nil => intro i h k H; exact H
  | cons v rest ih =>
    intro i h k H
    obtain ⟨⟨u, hu⟩, hf, ho, H⟩ := H
    show arun P (Sem.store .plain (Addr.add ⟨b, o, none⟩ i) v _) h k
    rw [add_none]
    exact ⟨ho, ⟨u, hu⟩, hf, ih (i + 1) _ k H⟩

theorem arun_store {t : TypeId} {n b o : Nat} {v : Value} {k : Unit → Hp → Prop} (hs : ∀ h, rrun P (sizeOf t) h = some n) (hc : v.cells.size = n) (H : stN h b o v.cells.toList (k ())) :
    arun P (Instr.storeAt t (.pointer (some ⟨b, o, none⟩)) v) h k := by
  have e : Instr.storeAt t (.pointer (some ⟨b, o, none⟩)) v = (sizeOf t).bind fun n => if v.cells.size ≠ n then (stuck "storeVar: the value has not the size of the variable" : Sem Unit).bind fun _ => storeCells ⟨b, o, none⟩ v.cells.toList else storeCells ⟨b, o, none⟩ v.cells.toList := rfl
  rw [e]
  refine arun_bind _ _ (arun_of_rrun _ (hs h) ?_)
  rw [if_neg (by simp [hc])]
  exact arun_storeCells v.cells.toList 0 h k H


/-! ### Computing what a piece reads -/

theorem rrun_bnd {α β : Type} (s : Sem α) (f : α → Sem β) : rrun P (s >>= f) h = (rrun P s h).bind fun a => rrun P (f a) h := by
  cases hs : rrun P s h with
  | some a => exact rrun_bind s f hs
  | none =>
    simp only [Option.bind_none]
    cases hx : rrun P (s >>= f) h with
    | none => rfl
    | some v => exact absurd hx (rr_bind_none s f hs v)
theorem rrun_pure {α : Type} (a : α) : rrun P (pure a : Sem α) h = some a := rfl
theorem rrun_stuck {α : Type} (w : String) : rrun P (stuck w : Sem α) h = none := rfl
theorem rrun_unsup {α : Type} (w : Unsupported) : rrun P (unsupported w : Sem α) h = none := rfl
theorem rrun_ite {α : Type} (c : Prop) [Decidable c] (x y : Sem α) : rrun P (if c then x else y) h = if c then rrun P x h else rrun P y h := by split <;> rfl
theorem rr_underlying {t : TypeId} : rrun P (underlying t) h = P.underlying t := by
  have e : underlying t = Sem.program fun p => match p.underlying t with | some d => .pure d | none => stuck "no such type" := rfl
  rw [e]
  simp only [rrun]
  cases P.underlying t <;> rfl
theorem rr_info {t : TypeId} : rrun P (typeInfo t) h = P.info? t := by
  have e : typeInfo t = Sem.program fun p => match p.info? t with | some d => .pure d | none => stuck "no such type" := rfl
  rw [e]
  simp only [rrun]
  cases P.info? t <;> rfl
theorem rr_sizeOf {t : TypeId} : rrun P (sizeOf t) h = (P.info? t).map (·.size) := by
  unfold sizeOf
  rw [rrun_bnd, rr_info]
  cases P.info? t <;> rfl
theorem rr_zeroValue {t : TypeId} {v : Value} (hz : (P.info? t).bind (·.zero) = some v) : rrun P (zeroValue t) h = some v := by
  unfold zeroValue
  rw [rrun_bnd, rr_info]
  cases hi : P.info? t with
  | none => simp [hi] at hz
  | some i => simp only [hi, Option.bind_some] at hz ⊢; rw [hz]; rfl
theorem rr_boundsPanic {α : Type} {k : IntKind} {x y : Int} {c : BoundsCode} : rrun P (boundsPanic k x y c : Sem α) h = none := by
  have hp : ∀ (e : Bool), rrun P (runtimePanic (RuntimeError.bounds (IntKind.i64.wrap x) y e c) : Sem α) h = none := fun e => rfl
  unfold boundsPanic
  simp only []
  split
  · rw [rrun_bnd]
    cases hs : rrun P ((fun x => x == 1) <$> choose (Question.extern "runtime.boundsError.signed" 2)) h with
    | none => rfl
    | some v => exact hp v
  · exact hp _

theorem rr_indexAt_slice {t e : TypeId} {sz b o len cap : Nat} {i : Int} (hu : P.underlying t = some (.slice e)) (hs : (P.info? e).map (·.size) = some sz) (h0 : 0 ≤ i) (h1 : i < (len : Int)) :
    rrun P (Instr.indexAt t (.slice (some ⟨b, o, none⟩) len cap) (.int .i64 i)) h = some (.pointer (some ⟨b, o + i.toNat * sz, none⟩)) := by
  unfold Instr.indexAt
  simp only [rrun_bnd, asIntOf, rrun_pure, Option.bind_some, rr_underlying, hu]
  rw [if_pos ⟨h0, h1⟩]
  simp only [rrun_bnd, rr_sizeOf, hs, Option.bind_some, rrun_pure, add_none]

theorem rr_indexAt_array {t e : TypeId} {sz b o len : Nat} {i : Int} (hu : P.underlying t = some (.array len e)) (hs : (P.info? e).map (·.size) = some sz) (h0 : 0 ≤ i) (h1 : i < (len : Int)) :
    rrun P (Instr.indexAt t (.pointer (some ⟨b, o, none⟩)) (.int .i64 i)) h = some (.pointer (some ⟨b, o + i.toNat * sz, none⟩)) := by
  unfold Instr.indexAt
  simp only [rrun_bnd, asIntOf, Instr.sureAddr, rrun_pure, Option.bind_some, rr_underlying, hu]
  rw [if_pos ⟨h0, h1⟩]
  simp only [rrun_bnd, rr_sizeOf, hs, Option.bind_some, rrun_pure, add_none]

theorem rr_part_one {t : TypeId} {cs : Array Value} {o : Nat} (ha : rrun P (isAgg t) h = some false) : rrun P (part t cs o) h = cs[o]? := by
  unfold part
  rw [rrun_bnd, ha, Option.bind_some]
  simp only [Bool.false_eq_true, if_false]
  cases cs[o]? <;> rfl

theorem rr_index_array {t e n : Nat} {cs : Array Value} {i : Int} (hu : P.underlying t = some (.array n e)) (hs : (P.info? e).map (·.size) = some 1) (ha : rrun P (isAgg e) h = some false) (h0 : 0 ≤ i) (h1 : i < (n : Int)) :
    rrun P (Instr.index t (.agg cs) (.int .i64 i)) h = cs[i.toNat]? := by
  unfold Instr.index
  simp only [rrun_bnd, asIntOf, rrun_pure, Option.bind_some, rr_underlying, hu]
  rw [if_pos ⟨h0, h1⟩]
  simp only [rrun_bnd, rr_sizeOf, hs, Option.bind_some, Nat.mul_one, rr_part_one ha]

theorem arun_bind_rr {α β : Type} (s : Sem α) (f : α → Sem β) : ∀ {h : Hp} {Q : β → Hp → Prop} {a : α}, rrun P s h = some a → arun P (s.bind f) h Q = arun P (f a) h Q := by
  induction s with
  | pure a => intro h Q b A; simp only [rrun, Option.some.injEq] at A; subst A; rfl
  | load m a k ih =>
    intro h Q b A
    simp only [rrun] at A
    cases hc : h.cell? a with
    | none => simp [hc] at A
    | some v => simp only [hc] at A; simp only [Sem.bind, arun, hc, Option.some.injEq, exists_eq_left']; exact ih v A
  | shape r k ih =>
    intro h Q b A
    simp only [rrun] at A
    cases ho : h r with
    | none => simp [ho] at A
    | some o => simp only [ho] at A; simp only [Sem.bind, arun, ho, Option.some.injEq, exists_eq_left']; exact ih _ A
  | frozen a k ih =>
    intro h Q b A
    simp only [rrun] at A
    cases ho : h a.block with
    | none => simp [ho] at A
    | some o => simp only [ho] at A; simp only [Sem.bind, arun, ho, Option.some.injEq, exists_eq', true_and]; exact ih _ A
  | getObj r k ih =>
    intro h Q b A
    simp only [rrun] at A
    cases ho : h r with
    | none => simp [ho] at A
    | some o =>
      simp only [ho] at A
      cases hr : isRow o with
      | true => simp [hr] at A
      | false => simp only [hr] at A; simp only [Sem.bind, arun, ho, Option.some.injEq, exists_eq_left', hr, true_and]; exact ih _ A
  | choose q k ih =>
    intro h Q b A
    simp only [rrun] at A
    by_cases hq : q.forced = true
    · simp only [hq, if_true] at A; simp only [Sem.bind, arun, hq, if_true]; exact ih _ A
    · simp [hq] at A
  | program k ih => intro h Q b A; simp only [rrun] at A; simp only [Sem.bind, arun]; exact ih P A
  | mark m k ih => intro h Q b A; simp only [rrun] at A; simp only [Sem.bind, arun]; exact ih A
  | _ => intro h Q b A; simp [rrun] at A

theorem arun_storeCells_eq {b o : Nat} : ∀ (l : List Value) (i : Nat) (h : Hp) (k : Unit → Hp → Prop), arun P (storeCells ⟨b, o, none⟩ l i) h k = stN h b (o + i) l (k ()) := by
  intro l
  induction l with
  | nil => intro i h k; rfl
  | cons v rest ih =>
    intro i h k
    have e : storeCells ⟨b, o, none⟩ (v :: rest) i = Sem.store .plain (Addr.add ⟨b, o, none⟩ i) v (storeCells ⟨b, o, none⟩ rest (i + 1)) := rfl
    rw [e, add_none]
    simp only [arun, stN, stw]
    rw [ih (i + 1)]
    have : o + (i + 1) = o + i + 1 := by omega
    rw [this]
    apply propext
    constructor
    · rintro ⟨h1, h2, h3, h4⟩; exact ⟨h2, h3, h1, h4⟩
    · rintro ⟨h2, h3, h1, h4⟩; exact ⟨h1, h2, h3, h4⟩

theorem arun_store_eq {t : TypeId} {n b o : Nat} {v : Value} {k : Unit → Hp → Prop} (hs : (P.info? t).map (·.size) = some n) (hc : v.cells.size = n) :
    arun P (Instr.storeAt t (.pointer (some ⟨b, o, none⟩)) v) h k = stN h b o v.cells.toList (k ()) := by
  have e : Instr.storeAt t (.pointer (some ⟨b, o, none⟩)) v = (sizeOf t).bind fun n => if v.cells.size ≠ n then (stuck "storeVar: the value has not the size of the variable" : Sem Unit).bind fun _ => storeCells ⟨b, o, none⟩ v.cells.toList else storeCells ⟨b, o, none⟩ v.cells.toList := rfl
  rw [e, arun_bind_rr _ _ (rr_sizeOf.trans hs), if_neg (by simp [hc])]
  exact arun_storeCells_eq v.cells.toList 0 h k

theorem arun_alloc {t : TypeId} {v : Value} {k : Value → Hp → Prop} (hz : (P.info? t).bind (·.zero) = some v) :
    arun P (Instr.alloc t true (.tuple #[])) h k = nw h (.cells v.cells t) fun b h => k (.pointer (some ⟨b, 0, none⟩)) h := by
  have e : Instr.alloc t true (.tuple #[]) = (zeroValue t).bind fun z => (newVar t z).bind fun a => .pure (.pointer (some a)) := rfl
  rw [e, arun_bind_rr _ _ (rr_zeroValue hz)]
  rfl

/-! ### The partial heap -/
@[simp ↓] theorem upd_get {b x : Nat} {o : Obj} : (h.upd b o) x = if x = b then some o else h x := rfl
@[simp] theorem upd_upd {b : Nat} {o o' : Obj} : (h.upd b o).upd b o' = h.upd b o' := by
  funext x; simp only [Hp.upd]; split <;> rfl
@[simp] theorem cell_def {b o : Nat} : h.cell? ⟨b, o, none⟩ = match h b with | some (.cells c _ _) => c[o]? | _ => none := by
  unfold Hp.cell?; simp only; split <;> simp_all
@[simp] theorem frozen_def {b o : Nat} : h.frozen? ⟨b, o, none⟩ = match h b with | some (.cells _ _ (lo, hi)) => decide (lo ≤ o) && decide (o < hi) | _ => false := by
  unfold Hp.frozen?; rfl
@[simp] theorem setCell_def {b o : Nat} {v : Value} : h.setCell ⟨b, o, none⟩ v = match h b with | some (.cells c e fr) => h.upd b (.cells (c.setIfInBounds o v) e fr) | _ => h := by
  unfold Hp.setCell; simp only; split <;> simp_all
@[simp] theorem ldN_0 {b o : Nat} : ldN h b o 0 = some [] := rfl
theorem ldN_succ {b o n : Nat} : ldN h b o (n + 1) = (h.cell? ⟨b, o, none⟩).bind fun v => (ldN h b (o + 1) n).map (v :: ·) := by
  simp only [ldN]; cases h.cell? ⟨b, o, none⟩ <;> rfl
@[simp] theorem ldN_1 {b o : Nat} : ldN h b o 1 = (h.cell? ⟨b, o, none⟩).bind fun a0 => some [a0] := by
  simp only [ldN_succ, ldN_0, Nat.add_assoc, Option.map_some, Nat.reduceAdd]
  first | done | rfl | (simp only [Option.map_bind, Function.comp_def, Option.map_some]; try rfl)
@[simp] theorem ldN_2 {b o : Nat} : ldN h b o 2 = (h.cell? ⟨b, o, none⟩).bind fun a0 => (h.cell? ⟨b, o + 1, none⟩).bind fun a1 => some [a0, a1] := by
  simp only [ldN_succ, ldN_0, Nat.add_assoc, Option.map_some, Nat.reduceAdd]
  first | done | rfl | (simp only [Option.map_bind, Function.comp_def, Option.map_some]; try rfl)
@[simp] theorem ldN_3 {b o : Nat} : ldN h b o 3 = (h.cell? ⟨b, o, none⟩).bind fun a0 => (h.cell? ⟨b, o + 1, none⟩).bind fun a1 => (h.cell? ⟨b, o + 2, none⟩).bind fun a2 => some [a0, a1, a2] := by
  simp only [ldN_succ, ldN_0, Nat.add_assoc, Option.map_some, Nat.reduceAdd]
  first | done | rfl | (simp only [Option.map_bind, Function.comp_def, Option.map_some]; try rfl)
@[simp] theorem ldN_4 {b o : Nat} : ldN h b o 4 = (h.cell? ⟨b, o, none⟩).bind fun a0 => (h.cell? ⟨b, o + 1, none⟩).bind fun a1 => (h.cell? ⟨b, o + 2, none⟩).bind fun a2 => (h.cell? ⟨b, o + 3, none⟩).bind fun a3 => some [a0, a1, a2, a3] := by
  simp only [ldN_succ, ldN_0, Nat.add_assoc, Option.map_some, Nat.reduceAdd]
  first | done | rfl | (simp only [Option.map_bind, Function.comp_def, Option.map_some]; try rfl)
@[simp] theorem ldN_5 {b o : Nat} : ldN h b o 5 = (h.cell? ⟨b, o, none⟩).bind fun a0 => (h.cell? ⟨b, o + 1, none⟩).bind fun a1 => (h.cell? ⟨b, o + 2, none⟩).bind fun a2 => (h.cell? ⟨b, o + 3, none⟩).bind fun a3 => (h.cell? ⟨b, o + 4, none⟩).bind fun a4 => some [a0, a1, a2, a3, a4] := by
  simp only [ldN_succ, ldN_0, Nat.add_assoc, Option.map_some, Nat.reduceAdd]
  first | done | rfl | (simp only [Option.map_bind, Function.comp_def, Option.map_some]; try rfl)
@[simp] theorem ldN_6 {b o : Nat} : ldN h b o 6 = (h.cell? ⟨b, o, none⟩).bind fun a0 => (h.cell? ⟨b, o + 1, none⟩).bind fun a1 => (h.cell? ⟨b, o + 2, none⟩).bind fun a2 => (h.cell? ⟨b, o + 3, none⟩).bind fun a3 => (h.cell? ⟨b, o + 4, none⟩).bind fun a4 => (h.cell? ⟨b, o + 5, none⟩).bind fun a5 => some [a0, a1, a2, a3, a4, a5] := by
  simp only [ldN_succ, ldN_0, Nat.add_assoc, Option.map_some, Nat.reduceAdd]
  first | done | rfl | (simp only [Option.map_bind, Function.comp_def, Option.map_some]; try rfl)
@[simp] theorem ldN_7 {b o : Nat} : ldN h b o 7 = (h.cell? ⟨b, o, none⟩).bind fun a0 => (h.cell? ⟨b, o + 1, none⟩).bind fun a1 => (h.cell? ⟨b, o + 2, none⟩).bind fun a2 => (h.cell? ⟨b, o + 3, none⟩).bind fun a3 => (h.cell? ⟨b, o + 4, none⟩).bind fun a4 => (h.cell? ⟨b, o + 5, none⟩).bind fun a5 => (h.cell? ⟨b, o + 6, none⟩).bind fun a6 => some [a0, a1, a2, a3, a4, a5, a6] := by
  simp only [ldN_succ, ldN_0, Nat.add_assoc, Option.map_some, Nat.reduceAdd]
  first | done | rfl | (simp only [Option.map_bind, Function.comp_def, Option.map_some]; try rfl)
@[simp] theorem ldN_8 {b o : Nat} : ldN h b o 8 = (h.cell? ⟨b, o, none⟩).bind fun a0 => (h.cell? ⟨b, o + 1, none⟩).bind fun a1 => (h.cell? ⟨b, o + 2, none⟩).bind fun a2 => (h.cell? ⟨b, o + 3, none⟩).bind fun a3 => (h.cell? ⟨b, o + 4, none⟩).bind fun a4 => (h.cell? ⟨b, o + 5, none⟩).bind fun a5 => (h.cell? ⟨b, o + 6, none⟩).bind fun a6 => (h.cell? ⟨b, o + 7, none⟩).bind fun a7 => some [a0, a1, a2, a3, a4, a5, a6, a7] := by
  simp only [ldN_succ, ldN_0, Nat.add_assoc, Option.map_some, Nat.reduceAdd]
  first | done | rfl | (simp only [Option.map_bind, Function.comp_def, Option.map_some]; try rfl)
@[simp] theorem ldN_9 {b o : Nat} : ldN h b o 9 = (h.cell? ⟨b, o, none⟩).bind fun a0 => (h.cell? ⟨b, o + 1, none⟩).bind fun a1 => (h.cell? ⟨b, o + 2, none⟩).bind fun a2 => (h.cell? ⟨b, o + 3, none⟩).bind fun a3 => (h.cell? ⟨b, o + 4, none⟩).bind fun a4 => (h.cell? ⟨b, o + 5, none⟩).bind fun a5 => (h.cell? ⟨b, o + 6, none⟩).bind fun a6 => (h.cell? ⟨b, o + 7, none⟩).bind fun a7 => (h.cell? ⟨b, o + 8, none⟩).bind fun a8 => some [a0, a1, a2, a3, a4, a5, a6, a7, a8] := by
  simp only [ldN_succ, ldN_0, Nat.add_assoc, Option.map_some, Nat.reduceAdd]
  first | done | rfl | (simp only [Option.map_bind, Function.comp_def, Option.map_some]; try rfl)
theorem upd_none {b x : Nat} {o : Obj} (hx : (h.upd b o) x = none) : x ≠ b ∧ h x = none := by
  unfold Hp.upd at hx; split at hx
  · cases hx
  · rename_i hne; exact ⟨hne, hx⟩
@[simp] theorem oneCell_int {k : IntKind} {n : Int} : oneCell (.int k n) = true := rfl
@[simp] theorem oneCell_bool {n : Bool} : oneCell (.bool n) = true := rfl
@[simp] theorem oneCell_slice {a : Option Addr} {n c : Nat} : oneCell (.slice a n c) = true := rfl
@[simp] theorem oneCell_ptr {a : Option Addr} : oneCell (.pointer a) = true := rfl
@[simp] theorem oneCell_map {a : Option Nat} : oneCell (.map a) = true := rfl
@[simp] theorem oneCell_string {a : ByteArray} : oneCell (.string a) = true := rfl
@[congr] theorem stN_congr {b o : Nat} {l l' : List Value} {k : Hp → Prop} (e : l = l') : stN h b o l k = stN h b o l' k := by rw [e]
@[simp ↓] theorem stN_nil {b o : Nat} {k : Hp → Prop} : stN h b o [] k = k h := rfl
@[simp] theorem stN_cons {b o : Nat} {v : Value} {l : List Value} {k : Hp → Prop} : stN h b o (v :: l) k = stw (h.cell? ⟨b, o, none⟩) (h.frozen? ⟨b, o, none⟩) (oneCell v = true ∧ stN (h.setCell ⟨b, o, none⟩ v) b (o + 1) l k) := rfl


/-! ### A whole object stored -/
def stA (h : Hp) (b : Nat) (o : Nat) (l : List Value) (k : Hp → Prop) : Prop := stN h b o l k
@[congr] theorem stA_congr {h h' : Hp} {b o : Nat} {l l' : List Value} {k : Hp → Prop} (e0 : h = h') (e : l = l') : stA h b o l k = stA h' b o l' k := by rw [e0, e]

theorem upd_self {h : Hp} {b : Nat} {o : Obj} (hb : h b = some o) : h.upd b o = h := by
  funext i
  rw [upd_get]
  split
  · rename_i e; rw [e, hb]
  · rfl

theorem stN_run {b : Nat} {E : TypeId} {k : Hp → Prop} : ∀ (vals rest pre : List Value) (h : Hp), h b = some (.cells (pre ++ rest).toArray E (0, 0)) → rest.length = vals.length → vals.all oneCell = true →
    stN h b pre.length vals k = k (h.upd b (.cells (pre ++ vals).toArray E (0, 0)))
  | [], rest, pre, h, hb, hl, _ => by
    have : rest = [] := List.length_eq_zero_iff.1 hl
    subst this
    rw [stN_nil, upd_self hb]
  | v :: vals, [], pre, h, hb, hl, _ => by simp at hl
  | v :: vals, u :: rest, pre, h, hb, hl, ho => by
    simp only [List.all_cons, Bool.and_eq_true] at ho
    rw [stN_cons]
    have hc : h.cell? ⟨b, pre.length, none⟩ = some u := by unfold Hp.cell?; simp [hb]
    have hf : h.frozen? ⟨b, pre.length, none⟩ = false := by unfold Hp.frozen?; simp [hb]
    have hs : h.setCell ⟨b, pre.length, none⟩ v = h.upd b (.cells ((pre ++ [v]) ++ rest).toArray E (0, 0)) := by
      rw [setCell_def, hb]
      simp only []
      congr 2
      simp
    rw [hc, hf, stw_ok, hs, ho.1]
    simp only [true_and]
    have := stN_run (k := k) vals rest (pre ++ [v]) (h.upd b (.cells ((pre ++ [v]) ++ rest).toArray E (0, 0))) (by rw [upd_get, if_pos rfl]) (by simpa using hl) ho.2
    rw [List.length_append, List.length_singleton] at this
    rw [this]
    congr 1
    funext i
    rw [upd_get, upd_get, upd_get]
    split <;> simp

theorem stA_of {h : Hp} {b : Nat} {l vals : List Value} {E : TypeId} {k : Hp → Prop} (hb : h b = some (.cells l.toArray E (0, 0))) (hl : l.length = vals.length) (ho : vals.all oneCell = true) : stA h b 0 vals k = k (h.upd b (.cells vals.toArray E (0, 0))) :=
  stN_run vals l [] h hb hl ho

/-- Where the object was just made. -/
@[simp] theorem stA_upd {h : Hp} {b : Nat} {l vals : List Value} {E : TypeId} {k : Hp → Prop} : stA (h.upd b (.cells l.toArray E (0, 0))) b 0 vals k = if l.length = vals.length ∧ vals.all oneCell = true then k (h.upd b (.cells vals.toArray E (0, 0))) else stN (h.upd b (.cells l.toArray E (0, 0))) b 0 vals k := by
  split
  · rename_i e
    rw [stA_of (h := h.upd b (.cells l.toArray E (0, 0))) (by rw [upd_get, if_pos rfl]) e.1 e.2]
    congr 1
    funext i
    rw [upd_get, upd_get, upd_get]
    split <;> simp
  · rfl

end
end Go.Proofs.Ytpeoholnlokdcaa

/- '==' of structs, as one Bool. -/
namespace Go.Proofs.Ytpeoholnlokdcaa
open Go
section
variable {P : Program} {h : Hp} {d : Nat} {xs ys : Array Value} {f : Field} {fs : List Field} {a b : Value} {r s : Bool}

theorem rr_program : rrun P program h = some P := rfl

theorem rr_equalIn_struct {t : TypeId} {fs : Array Field} (hu : P.underlying t = some (.struct fs)) (hp : P.stoodInHeld t = false) :
    rrun P (Op.equalIn (d + 1) t (.agg xs) (.agg ys)) h = rrun P (Op.eqFields d xs ys fs.toList) h := by
  simp only [Op.equalIn, rrun_bnd, rr_underlying, hu, Option.bind_some, rr_program, hp, Bool.false_eq_true, if_false]
  rw [← Array.forIn_toList]
  generalize fs.toList = l
  clear hu
  induction l with
  | nil => simp [Op.eqFields, rrun_pure]
  | cons f fs ih =>
    simp only [List.forIn_cons, Op.eqFields, rrun_bnd, rrun_ite]
    split
    · cases rrun P (part f.type xs f.offset) h with
      | none => rfl
      | some a =>
        cases rrun P (part f.type ys f.offset) h with
        | none => rfl
        | some b =>
          simp only [Option.bind_some]
          cases rrun P (Op.equalIn d f.type a b) h with
          | none => rfl
          | some r =>
            cases r
            · simp [rrun_pure]
            · simp only [Option.bind_some, Bool.not_true, Bool.false_eq_true, if_false, rrun_pure]
              exact ih
    · simp only [rrun_pure, Option.bind_some]
      exact ih

theorem rr_eqf_nil : rrun P (Op.eqFields d xs ys []) h = some true := rfl

theorem rr_eqf_cons (hn : (f.name == "_") = false) (ha : rrun P (part f.type xs f.offset) h = some a) (hb : rrun P (part f.type ys f.offset) h = some b)
    (he : rrun P (Op.equalIn d f.type a b) h = some r) (hr : rrun P (Op.eqFields d xs ys fs) h = some s) : rrun P (Op.eqFields d xs ys (f :: fs)) h = some (r && s) := by
  have hn' : f.name ≠ "_" := by simpa using hn
  rw [Op.eqFields]
  simp only [if_pos hn', rrun_bnd, ha, hb, he, Option.bind_some, rrun_ite, rrun_pure]
  cases r
  · simp
  · simpa using hr

theorem rr_eql_struct {t : TypeId} {fs : Array Field} {x y : Operand} (hu : P.underlying t = some (.struct fs)) (hp : P.stoodInHeld t = false) (hg : P.eqGuardType P.depth t = false)
    (hr : rrun P (Op.eqFields 9999 xs ys fs.toList) h = some r) : rrun P (bop .eql t x y (.agg xs) (.agg ys)) h = some (.bool r) := by
  have hgd : rrun P (eqGuard .eql t x y (.agg xs) (.agg ys)) h = some () := by
    simp [eqGuard, rrun_bnd, rr_program, hg, rrun_pure]
  unfold bop
  rw [rrun_bnd, hgd, Option.bind_some]
  have e : binOp .eql t (.agg xs) (.agg ys) = (Op.equalIn (9999 + 1) t (.agg xs) (.agg ys) >>= fun b => pure (.bool b)) := rfl
  rw [e, rrun_bnd, rr_equalIn_struct hu hp, hr]
  rfl

theorem rr_neq_struct {t : TypeId} {fs : Array Field} {x y : Operand} (hu : P.underlying t = some (.struct fs)) (hp : P.stoodInHeld t = false) (hg : P.eqGuardType P.depth t = false)
    (hr : rrun P (Op.eqFields 9999 xs ys fs.toList) h = some r) : rrun P (bop .neq t x y (.agg xs) (.agg ys)) h = some (.bool !r) := by
  have hgd : rrun P (eqGuard .neq t x y (.agg xs) (.agg ys)) h = some () := by
    simp [eqGuard, rrun_bnd, rr_program, hg, rrun_pure]
  unfold bop
  rw [rrun_bnd, hgd, Option.bind_some]
  have e : binOp .neq t (.agg xs) (.agg ys) = (Op.equalIn (9999 + 1) t (.agg xs) (.agg ys) >>= fun b => pure (.bool (!b))) := rfl
  rw [e, rrun_bnd, rr_equalIn_struct hu hp, hr]
  rfl

end
end Go.Proofs.Ytpeoholnlokdcaa

/- Slices that a function owns: reading, appending. -/
namespace Go.Proofs.Ytpeoholnlokdcaa
open Go
set_option linter.unusedSimpArgs false
section
variable {P : Program} {h : Hp}

def writeL (c : Array Value) : Nat → List Value → Array Value
  | _, [] => c
  | o, v :: l => writeL (c.setIfInBounds o v) (o + 1) l

theorem writeL_size : ∀ (l : List Value) (c : Array Value) (o : Nat), (writeL c o l).size = c.size
  | [], _, _ => rfl
  | v :: l, c, o => by simp only [writeL]; rw [writeL_size l]; simp

theorem writeL_get : ∀ (l : List Value) (c : Array Value) (o i : Nat), o + l.length ≤ c.size → (writeL c o l)[i]? = if o ≤ i ∧ i < o + l.length then l[i - o]? else c[i]?
  | [], c, o, i, _ => by simp [writeL]; omega
  | v :: l, c, o, i, hl => by
    simp only [List.length_cons] at hl ⊢
    simp only [writeL]
    rw [writeL_get l _ (o + 1) i (by simp; omega)]
    by_cases h1 : o + 1 ≤ i ∧ i < o + 1 + l.length
    · rw [if_pos h1, if_pos (by omega)]
      have : i - o = (i - (o + 1)) + 1 := by omega
      rw [this, List.getElem?_cons_succ]
    · rw [if_neg h1]
      by_cases h2 : i = o
      · subst h2
        rw [if_pos (by omega)]
        have : i < c.size := by omega
        simp [this]
      · rw [if_neg (by omega), Array.getElem?_setIfInBounds_ne (Ne.symm h2)]

theorem stN_write {b : Nat} {e : TypeId} {k : Hp → Prop} : ∀ (l : List Value) (o : Nat) (c : Array Value) (h : Hp), h b = some (.cells c e (0, 0)) → o + l.length ≤ c.size → (∀ v ∈ l, oneCell v = true) →
    k (h.upd b (.cells (writeL c o l) e (0, 0))) → stN h b o l k := by
  intro l
  induction l with
  | nil =>
    intro o c h hb _ _ hk
    have : h.upd b (.cells c e (0, 0)) = h := by
      funext x; unfold Hp.upd; split
      · rename_i hx; subst hx; exact hb.symm
      · rfl
    simp only [writeL, this] at hk
    exact hk
  | cons v l ih =>
    intro o c h hb hl hv hk
    simp only [List.length_cons] at hl
    rw [stN_cons]
    have hlt : o < c.size := by omega
    have hc : h.cell? ⟨b, o, none⟩ = some c[o] := by simp [hb, hlt]
    have hf : h.frozen? ⟨b, o, none⟩ = false := by simp [hb]
    rw [hc, hf, stw_ok]
    refine ⟨hv v (by simp), ?_⟩
    have hs : h.setCell ⟨b, o, none⟩ v = h.upd b (.cells (c.setIfInBounds o v) e (0, 0)) := by simp [hb]
    rw [hs]
    refine ih (o + 1) (c.setIfInBounds o v) _ (by simp) (by simp; omega) (fun u hu => hv u (by simp [hu])) ?_
    rw [upd_upd]
    exact hk

theorem arun_askRoom {n : Nat} {Q : Unit → Hp → Prop} : arun P (askRoom n) h Q = Q () h := by
  unfold askRoom; split <;> rfl

theorem arun_bnd_rr {α β : Type} {s : Sem α} {f : α → Sem β} {Q : β → Hp → Prop} {a : α} (A : rrun P s h = some a) : arun P (s >>= f) h Q = arun P (f a) h Q := arun_bind_rr s f A

theorem growBy_le (n : Nat) : ∀ r c, c < n → Builtin.growBy n r c ≤ 2 * n + 768
  | 0, c, hc => by simp only [Builtin.growBy]; omega
  | r + 1, c, hc => by
    simp only [Builtin.growBy]
    split
    · omega
    · by_cases h2 : c + (c + 768) / 4 < n
      · exact growBy_le n r _ h2
      · have stop : ∀ r d, n ≤ d → Builtin.growBy n r d = d := by
          intro r d hd
          cases r with
          | zero => rfl
          | succ r => simp only [Builtin.growBy]; rw [if_pos hd]
        rw [stop r _ (by omega)]
        omega

theorem nextcap_le {n c : Nat} (h : c < n) : Builtin.nextslicecap n c ≤ 2 * n + 768 := by
  unfold Builtin.nextslicecap
  split
  · omega
  · split
    · omega
    · exact growBy_le n 4 c h

theorem arun_append {sT xT R E E2 sz bytes : Nat} {z : Value} (hs : P.underlying sT = some (.slice E)) (hx : P.underlying xT = some (.slice E2))
    (hsz : (P.info? E).map (·.size) = some sz) (hby : (P.info? E).map (·.bytes) = some bytes) (hz : (P.info? E).bind (·.zero) = some z)
    {base xb : Option Addr} {len cap m xc : Nat} {k : Value → Hp → Prop} {new : Array Value} (hb0 : 0 < bytes)
    (hnew : rrun P (Builtin.firstCells sz m (.slice xb m xc)) h = some new)
    (hfit : len + m ≤ cap → (match base with
      | some a => arun P (storeCells (a.add (len * sz)) new.toList) h fun _ h' => k (.slice base (len + m) cap) h'
      | none => k (.slice base (len + m) cap) h))
    (hgrow : cap < len + m → Builtin.nextslicecap (len + m) cap * bytes ≤ 2 ^ 48 ∧ ∃ old, rrun P (Builtin.firstCells sz len (.slice base len cap)) h = some old ∧
      ∀ cap' b, len + m ≤ cap' → h b = none → k (.slice (some ⟨b, 0, none⟩) (len + m) cap') (h.upd b (.cells (old ++ new ++ Builtin.zeroCells z.cells (cap' - (len + m))) E))) :
    arun P (Builtin.append_ #[sT, xT] R #[.slice base len cap, .slice xb m xc]) h k := by
  unfold Builtin.append_
  simp only [aget_0, aget_1]
  rw [arun_bnd_rr (a := .slice E) (by rw [rr_underlying, hs])]
  simp only []
  rw [arun_bnd_rr (a := sz) (by rw [rr_sizeOf, hsz]), arun_bnd_rr (a := .slice E2) (by rw [rr_underlying, hx]), arun_bnd_rr (a := false) rfl]
  simp only [Bool.false_eq_true, if_false]
  rw [arun_bnd_rr (a := m) rfl]
  simp only [Bool.not_false, if_true]
  by_cases hn : len + m ≤ cap
  · rw [if_pos hn]
    have := hfit hn
    refine arun_bind _ _ (arun_of_rrun _ hnew ?_)
    cases base with
    | none => exact this
    | some a => exact arun_bind _ _ this
  · rw [if_neg hn]
    obtain ⟨hcap, old, hold, hk⟩ := hgrow (by omega)
    obtain ⟨info, hinfo⟩ : ∃ i, P.info? E = some i := by
      cases hi : P.info? E with
      | none => simp [hi] at hsz
      | some i => exact ⟨i, rfl⟩
    have hbi : info.bytes = bytes := by simpa [hinfo] using hby
    have tail : arun P (do
        let newCap ← choose (.appendCap (len + m) cap E)
        askRoom (newCap * (← typeInfo E).bytes)
        let old ← Builtin.firstCells sz len (.slice base len cap)
        let new ← Builtin.firstCells sz m (.slice xb m xc)
        let rest := Builtin.zeroCells (← zeroValue E).cells (newCap - (len + m))
        pure (.slice (some (← newRow E (old ++ new ++ rest))) (len + m) newCap)) h k := by
      refine arun_bind _ _ ?_
      show arun P (Sem.choose _ Sem.pure) h _
      unfold arun
      rw [if_neg (by simp [Question.forced])]
      intro t
      show arun P (Sem.bind _ _) h _
      refine arun_bind _ _ (arun_of_rrun _ (a := info) (by rw [rr_info, hinfo]) ?_)
      refine arun_bind _ _ ?_
      rw [arun_askRoom]
      refine arun_bind _ _ (arun_of_rrun _ hold ?_)
      refine arun_bind _ _ (arun_of_rrun _ hnew ?_)
      refine arun_bind _ _ (arun_of_rrun _ (rr_zeroValue hz) ?_)
      intro b hb
      refine hk _ b ?_ hb
      simp only [Question.cut]
      omega
    rw [arun_bnd_rr (a := info) (by rw [rr_info, hinfo])]
    rw [if_neg (by simp; intro _; omega)]
    rw [arun_bnd_rr (a := info) (by rw [rr_info, hinfo])]
    rw [if_neg (by rw [hbi]; omega)]
    exact tail


theorem rr_loadCells {b o n : Nat} : rrun P (loadCells ⟨b, o, none⟩ n) h = (ldN h b o n).map List.toArray := by
  have := rr_loadCellsFrom (P := P) (h := h) (b := b) (o := o) n 0 #[]
  simp only [Nat.add_zero] at this
  rw [show loadCells ⟨b, o, none⟩ n = loadCellsFrom ⟨b, o, none⟩ 0 n #[] from rfl, this]
  cases ldN h b o n <;> simp

theorem ldN_of {b : Nat} {c : Array Value} {e : TypeId} {fr : Nat × Nat} (hb : h b = some (.cells c e fr)) : ∀ (n o : Nat), o + n ≤ c.size → ldN h b o n = some ((c.toList.drop o).take n)
  | 0, o, _ => by simp
  | n + 1, o, hn => by
    have hlt : o < c.size := by omega
    rw [ldN_succ, ldN_of hb n (o + 1) (by omega)]
    simp only [cell_def, hb, Array.getElem?_eq_getElem hlt, Option.bind_some, Option.map_some]
    congr 1
    have hl2 : o < c.toList.length := by simpa using hlt
    rw [List.drop_eq_getElem_cons hl2, List.take_succ_cons]
    simp

/-- The cells of a block hold these, each as so many cells. -/
def Enc {α : Type} (c : Array Value) (o sz : Nat) (enc : α → List Value) (xs : List α) : Prop := ∀ i x, xs[i]? = some x → ∀ j, j < sz → c[o + i * sz + j]? = (enc x)[j]?

/-- A slice that begins its block, and whose elements read so. -/
def SlAt {α : Type} (h : Hp) (E sz : Nat) (enc : α → List Value) (v : Value) (xs : List α) : Prop :=
  (v = .slice none 0 0 ∧ xs = []) ∨
  ∃ b cap c, v = .slice (some ⟨b, 0, none⟩) xs.length cap ∧ h b = some (.cells c E (0, 0)) ∧ xs.length ≤ cap ∧ cap * sz ≤ c.size ∧ Enc c 0 sz enc xs

def blkOf : Value → Option Nat
  | .slice (some a) _ _ => some a.block
  | _ => none

theorem SlAt.keep {α : Type} {h h' : Hp} {E sz : Nat} {enc : α → List Value} {v : Value} {xs : List α} (s : SlAt h E sz enc v xs) (hk : ∀ b o, blkOf v = some b → h b = some o → h' b = some o) : SlAt h' E sz enc v xs := by
  rcases s with s | ⟨b, cap, c, rfl, hb, h1, h2, h3⟩
  · exact .inl s
  · exact .inr ⟨b, cap, c, rfl, hk b _ rfl hb, h1, h2, h3⟩

theorem Enc.push {α : Type} {c c' : Array Value} {o sz : Nat} {enc : α → List Value} {xs : List α} {y : α} (H : Enc c o sz enc xs)
    (h1 : ∀ i, i < xs.length * sz → c'[o + i]? = c[o + i]?) (h2 : ∀ j, j < sz → c'[o + xs.length * sz + j]? = (enc y)[j]?) : Enc c' o sz enc (xs ++ [y]) := by
  intro i x hx j hj
  rcases Nat.lt_or_ge i xs.length with hi | hi
  · rw [List.getElem?_append_left hi] at hx
    rw [← H i x hx j hj]
    have : i * sz + j < xs.length * sz := by
      have : (i + 1) * sz ≤ xs.length * sz := Nat.mul_le_mul_right _ hi
      rw [Nat.add_mul] at this
      omega
    have := h1 (i * sz + j) this
    simpa [Nat.add_assoc] using this
  · rw [List.getElem?_append_right hi] at hx
    have hi0 : i - xs.length = 0 := by
      rcases Nat.eq_zero_or_pos (i - xs.length) with h0 | h0
      · exact h0
      · rw [List.getElem?_eq_none (by simp; omega)] at hx; cases hx
    rw [hi0] at hx
    simp at hx
    subst hx
    have : i = xs.length := by omega
    subst this
    exact h2 j hj

theorem arun_push {α : Type} {sT xT R E E2 sz bytes : Nat} {z : Value} (hs : P.underlying sT = some (.slice E)) (hx : P.underlying xT = some (.slice E2))
    (hsz : (P.info? E).map (·.size) = some sz) (hby : (P.info? E).map (·.bytes) = some bytes) (hz : (P.info? E).bind (·.zero) = some z) (hb0 : 0 < bytes) (hzs : z.cells.size = sz)
    {enc : α → List Value} {v : Value} {xs : List α} {y : α} {b2 o2 c2 : Nat} {k : Value → Hp → Prop} (S : SlAt h E sz enc v xs) (hy : ldN h b2 o2 sz = some (enc y)) (hyl : (enc y).length = sz)
    (hone : ∀ u ∈ enc y, oneCell u = true) (hbd : (2 * xs.length + 770) * bytes ≤ 2 ^ 48)
    (K : ∀ b c cap, (some b = blkOf v ∨ h b = none) → xs.length + 1 ≤ cap → cap * sz ≤ c.size → Enc c 0 sz enc (xs ++ [y]) →
      k (.slice (some ⟨b, 0, none⟩) (xs.length + 1) cap) (h.upd b (.cells c E (0, 0)))) :
    arun P (Builtin.append_ #[sT, xT] R #[v, .slice (some ⟨b2, o2, none⟩) 1 c2]) h k := by
  have hnew : rrun P (Builtin.firstCells sz 1 (.slice (some ⟨b2, o2, none⟩) 1 c2)) h = some (enc y).toArray := by
    show rrun P (loadCells ⟨b2, o2, none⟩ (1 * sz)) h = _
    rw [Nat.one_mul, rr_loadCells, hy]; rfl
  have hzc : ∀ n, (Builtin.zeroCells z.cells n).size = n * sz := by intro n; simp [Builtin.zeroCells, hzs]
  rcases S with ⟨rfl, rfl⟩ | ⟨b, cap, c, rfl, hb, h1, h2, h3⟩
  · refine arun_append hs hx hsz hby hz hb0 hnew (fun h0 => absurd h0 (by omega)) (fun _ => ⟨?_, #[], rfl, fun cap' b hc hb => ?_⟩)
    · refine Nat.le_trans (Nat.mul_le_mul_right bytes ?_) hbd
      have := nextcap_le (n := 0 + 1) (c := 0) (by omega)
      simp only [List.length_nil]; omega
    · refine K b _ cap' (.inr hb) (by simpa using hc) ?_ ?_
      · obtain ⟨d, rfl⟩ : ∃ d, cap' = 1 + d := ⟨cap' - 1, by omega⟩
        simp only [Array.size_append, hzc, List.size_toArray, hyl, List.length_nil]
        have : 1 + d - (0 + 1) = d := by omega
        rw [this, Nat.add_mul, Nat.one_mul]
        omega
      · refine Enc.push (c := #[]) (fun i x hx => by cases hx) (fun i hi => absurd hi (by simp)) (fun j hj => ?_)
        rw [Array.getElem?_append_left (by simp [hyl]; omega)]
        simp
  · refine arun_append hs hx hsz hby hz hb0 hnew (fun hle => ?_) (fun hlt => ⟨?_, ((c.toList.drop 0).take (xs.length * sz)).toArray, ?_, fun cap' b' hc hb' => ?_⟩)
    · simp only [add_none]
      rw [arun_storeCells_eq]
      have hsz2 : xs.length * sz + sz ≤ c.size := by
        have : (xs.length + 1) * sz ≤ cap * sz := Nat.mul_le_mul_right _ hle
        rw [Nat.add_mul] at this
        omega
      refine stN_write _ _ c h hb (by simp [hyl]; omega) (by simpa using hone) ?_
      refine K b _ cap (.inl rfl) hle (by rw [writeL_size]; exact h2) ?_
      refine Enc.push h3 (fun i hi => ?_) (fun j hj => ?_)
      · rw [writeL_get _ _ _ _ (by simp [hyl]; omega), if_neg (by omega)]
      · rw [writeL_get _ _ _ _ (by simp [hyl]; omega), if_pos (by simp [hyl]; omega)]
        have : 0 + xs.length * sz + j - (0 + xs.length * sz + 0) = j := by omega
        simp [this]
    · refine Nat.le_trans (Nat.mul_le_mul_right bytes ?_) hbd
      have := nextcap_le hlt
      omega
    · show rrun P (loadCells ⟨b, 0, none⟩ (xs.length * sz)) h = _
      have : xs.length * sz ≤ c.size := Nat.le_trans (Nat.mul_le_mul_right _ h1) h2
      rw [rr_loadCells, ldN_of hb _ _ (by omega)]; rfl
    · have hold : ((c.toList.drop 0).take (xs.length * sz)).toArray.size = xs.length * sz := by
        have : xs.length * sz ≤ c.size := Nat.le_trans (Nat.mul_le_mul_right _ h1) h2
        simp; omega
      refine K b' _ cap' (.inr hb') hc ?_ ?_
      · simp only [Array.size_append, hzc, List.size_toArray, hyl]
        have e : cap' = xs.length + (1 + (cap' - (xs.length + 1))) := by omega
        have e2 : ((c.toList.drop 0).take (xs.length * sz)).length = xs.length * sz := by simpa using hold
        rw [e2]
        conv => lhs; rw [e]
        rw [Nat.add_mul, Nat.add_mul]; omega
      · refine Enc.push h3 (fun i hi => ?_) (fun j hj => ?_)
        · rw [Nat.zero_add, Array.getElem?_append_left (by simp only [Array.size_append, hold]; omega), Array.getElem?_append_left (by rw [hold]; exact hi)]
          simp [List.getElem?_take, hi]
        · rw [Array.getElem?_append_left (by simp only [Array.size_append, hold, List.size_toArray, hyl]; omega), Array.getElem?_append_right (by rw [hold]; omega), hold]
          have : 0 + xs.length * sz + j - xs.length * sz = j := by omega
          rw [this]; simp

end
end Go.Proofs.Ytpeoholnlokdcaa

/- A law's row, out of what its call does to a heap that has all of the world's blocks; and what the arguments read. -/
namespace Go.Proofs.Ytpeoholnlokdcaa
open Go Go.ChangeShapes Go.WideShapes Go.RowKit Go.Deep

/-- All of a world's blocks. -/
def hpW (W : World) : Hp := fun b => W.heap[b]?

theorem below_of {P : Program} {f : FuncId} {args : Array Value} {W : World} {v0 : Value} (h : Ok P f args (hpW W) fun v h' => v = v0 ∧ Le (hpW W) h') :
    Calls P f args W fun e W' => e = .returned v0 ∧ Below W.heap.size W W' := by
  refine (h.2 W (fun _ _ e => e)).mono fun e W' ⟨v, h', e1, V, K, e2, L⟩ => ?_
  subst e2
  refine ⟨e1, K.os, K.tape, K.output, K.size, fun k hk => ?_⟩
  have hb : hpW W k = some W.heap[k] := Array.getElem?_eq_getElem hk
  rw [V _ _ (L _ _ hb)]
  exact hb.symm

section
variable {H : Type} {enc : TypeId × Value → H} {P : Program}

theorem trodAll_below (hl : laidOutB P = true) {W W' : World} (hb : Below W.heap.size W W') : ∀ {ts : List TypeId} {vs : List Value} {ds : List (DataW H)} {ps : List MemPlace},
    ts.all (fun t => P.readableRec t && decide (t < P.types.size)) = true → DataW.TrodAll enc P W 0 (fun _ => true) true ts vs ds ps → DataW.TrodAll enc P W' 0 (fun b => decide (b < W.heap.size)) true ts vs ds ps
  | [], vs, ds, ps, _, h => by
    obtain ⟨rfl, rfl, rfl⟩ := trodAll_nil h
    exact trodAll_mk0
  | t :: ts, vs, ds, ps, hr, h => by
    obtain ⟨v, vs', d, ds', p, q, rfl, rfl, rfl, h1, h2⟩ := trodAll_cons h
    simp only [List.all_cons, Bool.and_eq_true, decide_eq_true_eq] at hr
    refine trodAll_cons_mk (Below.trod hl hr.1.1 hr.1.2 h1 hb (fun x hx => ?_)) (trodAll_below hl hb (by simpa using hr.2) h2)
    obtain ⟨m, hm⟩ := h1
    exact DataW.trod_lt m _ _ _ hm x hx

/-! ### What flat cells read -/
inductive Lk where
  | int (k : IntKind)
  | bool
  | str
  | other (t : TypeId)

def flatFs (P : Program) (rec : TypeId → Option (List Lk)) (total : Nat) : List Field → Nat → Option (List Lk)
  | [], off => if off = total then some [] else none
  | f :: fs, off => if f.offset = off then
      match rec f.type, flatFs P rec total fs (off + P.cellsOf f.type) with
      | some a, some b => some (a ++ b)
      | _, _ => none
    else none

def flatK (P : Program) : Nat → TypeId → Option (List Lk)
  | 0, _ => none
  | n + 1, t => match P.underlying t with
    | some .bool => some [.bool]
    | some (.int k) => some [.int k]
    | some .string => some [.str]
    | some (.struct fs) => flatFs P (flatK P n) (P.cellsOf t) fs.toList 0
    | some (.slice _) => some [.other t]
    | some (.map _ _) => some [.other t]
    | some (.pointer _) => some [.other t]
    | _ => none

variable {w : World} {base : Nat} {spare : Nat → Bool} {held : Bool}

def okL (enc : TypeId × Value → H) (P : Program) (w : World) (base : Nat) (spare : Nat → Bool) (held : Bool) : Lk → Value → Prop
  | .int k, v => ∃ n, v = .int k n ∧ (Lit.int k n).wf = true
  | .bool, v => ∃ b, v = .bool b
  | .str, v => ∃ s, v = .string s ∧ s.size ≤ maxLen
  | .other t, v => ∃ fuel x, DataW.trod enc P w base spare held fuel t [v] = some x

def okLs (enc : TypeId × Value → H) (P : Program) (w : World) (base : Nat) (spare : Nat → Bool) (held : Bool) : List Lk → List Value → Prop
  | [], [] => True
  | k :: ks, v :: vs => okL enc P w base spare held k v ∧ okLs enc P w base spare held ks vs
  | _, _ => False

theorem okLs_nil {cs : List Value} (h : okLs enc P w base spare held [] cs) : cs = [] := by
  cases cs with
  | nil => rfl
  | cons _ _ => exact h.elim

theorem okLs_cons {k : Lk} {ks : List Lk} {cs : List Value} (h : okLs enc P w base spare held (k :: ks) cs) : ∃ v vs, cs = v :: vs ∧ okL enc P w base spare held k v ∧ okLs enc P w base spare held ks vs := by
  cases cs with
  | nil => exact h.elim
  | cons v vs => exact ⟨v, vs, rfl, h.1, h.2⟩

theorem okLs_int {k : IntKind} {ks : List Lk} {cs : List Value} (h : okLs enc P w base spare held (.int k :: ks) cs) : ∃ n vs, cs = .int k n :: vs ∧ (Lit.int k n).wf = true ∧ okLs enc P w base spare held ks vs := by
  obtain ⟨v, vs, rfl, ⟨n, rfl, hw⟩, h2⟩ := okLs_cons h
  exact ⟨n, vs, rfl, hw, h2⟩

theorem okLs_bool {ks : List Lk} {cs : List Value} (h : okLs enc P w base spare held (.bool :: ks) cs) : ∃ b vs, cs = .bool b :: vs ∧ okLs enc P w base spare held ks vs := by
  obtain ⟨v, vs, rfl, ⟨n, rfl⟩, h2⟩ := okLs_cons h
  exact ⟨n, vs, rfl, h2⟩

theorem okLs_str {ks : List Lk} {cs : List Value} (h : okLs enc P w base spare held (.str :: ks) cs) : ∃ s vs, cs = .string s :: vs ∧ s.size ≤ maxLen ∧ okLs enc P w base spare held ks vs := by
  obtain ⟨v, vs, rfl, ⟨n, rfl, hw⟩, h2⟩ := okLs_cons h
  exact ⟨n, vs, rfl, hw, h2⟩

theorem okLs_append : ∀ {a b : List Lk} {x y : List Value}, okLs enc P w base spare held a x → okLs enc P w base spare held b y → okLs enc P w base spare held (a ++ b) (x ++ y)
  | [], _, [], _, _, h => h
  | [], _, _ :: _, _, h, _ => h.elim
  | _ :: _, _, [], _, h, _ => h.elim
  | _ :: _, _, _ :: _, _, h, h' => ⟨h.1, okLs_append h.2 h'⟩

theorem flatFs_open (rec : TypeId → Option (List Lk)) (total : Nat) (cs : List Value) (hcs : cs.length = total) : ∀ (fs : List Field) (off : Nat) (ks : List Lk), flatFs P rec total fs off = some ks →
    (∀ f ∈ fs, ∀ k, rec f.type = some k → okLs enc P w base spare held k ((cs.drop f.offset).take (P.cellsOf f.type))) → okLs enc P w base spare held ks (cs.drop off)
  | [], off, ks, h, _ => by
    simp only [flatFs] at h
    split at h
    · rename_i e; cases h; rw [List.drop_of_length_le (by omega)]; trivial
    · cases h
  | f :: fs, off, ks, h, hf => by
    simp only [flatFs] at h
    split at h
    · rename_i e
      cases h1 : rec f.type with
      | none => simp [h1] at h
      | some a =>
        cases h2 : flatFs P rec total fs (off + P.cellsOf f.type) with
        | none => simp [h1, h2] at h
        | some b =>
          simp [h1, h2] at h
          subst h
          have ih := flatFs_open rec total cs hcs fs _ b h2 (fun g hg => hf g (by simp [hg]))
          have h3 := hf f (by simp) a h1
          rw [e] at h3
          have := okLs_append h3 ih
          rw [← List.drop_drop, List.take_append_drop] at this
          exact this
    · cases h

theorem flat_open : ∀ (n : Nat) (t : TypeId) (ks : List Lk) (fuel : Nat) (cs : List Value) (x : DataW H × List MemPlace), flatK P n t = some ks → DataW.trod enc P w base spare held fuel t cs = some x → okLs enc P w base spare held ks cs := by
  intro n
  induction n with
  | zero => intro t ks fuel cs x h; simp [flatK] at h
  | succ n ih =>
    intro t ks fuel cs x h ht
    have other1 : (∃ e, P.underlying t = some (.slice e)) ∨ (∃ a e, P.underlying t = some (.map a e)) ∨ (∃ e, P.underlying t = some (.pointer e)) → ∃ v, cs = [v] := by
      intro hc
      cases fuel with
      | zero => simp [DataW.trod] at ht
      | succ m =>
        unfold DataW.trod at ht
        rcases hc with ⟨e, hu⟩ | ⟨a, e, hu⟩ | ⟨e, hu⟩ <;> rw [hu] at ht <;> split at ht <;> simp_all
    cases hu : P.underlying t with
    | none => simp [flatK, hu] at h
    | some u =>
      cases u with
      | bool =>
        simp [flatK, hu] at h; subst h
        cases fuel with
        | zero => simp [DataW.trod] at ht
        | succ m =>
          unfold DataW.trod at ht
          rw [hu] at ht
          split at ht <;> simp_all
          exact ⟨⟨_, rfl⟩, trivial⟩
      | int k =>
        simp [flatK, hu] at h; subst h
        obtain ⟨n', rfl, _, hw⟩ := DataW.trod_int hu ht
        exact ⟨⟨n', rfl, hw⟩, trivial⟩
      | string =>
        simp [flatK, hu] at h; subst h
        obtain ⟨s, rfl, _, hw⟩ := DataW.trod_string hu ht
        exact ⟨⟨s, rfl, hw⟩, trivial⟩
      | struct fs =>
        simp only [flatK, hu] at h
        obtain ⟨xs, m, _, _, hlen, hxl, hf⟩ := DataW.trod_struct hu ht
        have := flatFs_open (flatK P n) (P.cellsOf t) cs hlen fs.toList 0 ks h (fun f hf' k hk => by
          obtain ⟨i, hi, he⟩ := List.getElem_of_mem hf'
          have hi' : fs[i]? = some f := by rw [← he]; simp at hi ⊢
          have h1 := hf i f hi'
          have hil : i < xs.length := by rw [hxl]; simpa using hi
          rw [List.getElem?_eq_getElem hil] at h1
          exact ih f.type k m _ _ hk h1)
        simpa using this
      | slice e =>
        simp [flatK, hu] at h; subst h
        obtain ⟨v, rfl⟩ := other1 (.inl ⟨e, hu⟩)
        exact ⟨⟨fuel, x, ht⟩, trivial⟩
      | map a e =>
        simp [flatK, hu] at h; subst h
        obtain ⟨v, rfl⟩ := other1 (.inr (.inl ⟨a, e, hu⟩))
        exact ⟨⟨fuel, x, ht⟩, trivial⟩
      | pointer e =>
        simp [flatK, hu] at h; subst h
        obtain ⟨v, rfl⟩ := other1 (.inr (.inr ⟨e, hu⟩))
        exact ⟨⟨fuel, x, ht⟩, trivial⟩
      | _ => simp [flatK, hu] at h

/-- A struct that came in by value. -/
theorem open_flat {t : TypeId} {fs : Array Field} {ks : List Lk} {W : World} {v : Value} {d : DataW H} {ps : List MemPlace} {b0 : Nat} (n : Nat) (ht : P.underlying t = some (.struct fs)) (hk : flatK P n t = some ks)
    (hv : Value.okWide P W .any b0 t v) (hd : DataW.Trod enc P W base spare held t v d ps) : ∃ cs, v = .agg cs ∧ okLs enc P W base spare held ks cs.toList := by
  obtain ⟨cs, rfl, _⟩ := okWide_struct ht hv
  obtain ⟨fuel, hf⟩ := hd
  exact ⟨cs, rfl, flat_open n t ks _ _ _ hk hf⟩

/-! ### A slice that came in -/
def ArgSl {α : Type} (h : Hp) (sz : Nat) (enc : α → List Value) (good : α → Prop) (v : Value) (xs : List α) : Prop :=
  (∀ x ∈ xs, good x) ∧ ((∃ p cap, v = .slice p 0 cap ∧ xs = []) ∨ ∃ b o cap c E fr, v = .slice (some ⟨b, o, none⟩) xs.length cap ∧ xs.length ≤ cap ∧ cap ≤ maxLen ∧ h b = some (.cells c E fr) ∧ Enc c o sz enc xs)

theorem ArgSl.le {α : Type} {h h' : Hp} {sz : Nat} {enc : α → List Value} {good : α → Prop} {v : Value} {xs : List α} (A : ArgSl h sz enc good v xs) (L : Le h h') : ArgSl h' sz enc good v xs := by
  obtain ⟨g, A⟩ := A
  rcases A with ⟨p, cap, e⟩ | ⟨b, o, cap, c, E, fr, e1, e2, e2', e3, e4⟩
  · exact ⟨g, .inl ⟨p, cap, e⟩⟩
  · exact ⟨g, .inr ⟨b, o, cap, c, E, fr, e1, e2, e2', L _ _ e3, e4⟩⟩

theorem ArgSl.shape {α : Type} {h : Hp} {sz : Nat} {enc : α → List Value} {good : α → Prop} {v : Value} {xs : List α} (A : ArgSl h sz enc good v xs) : ∃ p cap, v = .slice p xs.length cap := by
  rcases A.2 with ⟨p, cap, rfl, rfl⟩ | ⟨b, o, cap, c, E, fr, rfl, _⟩
  · exact ⟨p, cap, rfl⟩
  · exact ⟨_, cap, rfl⟩

theorem ArgSl.len {α : Type} {h : Hp} {sz : Nat} {enc : α → List Value} {good : α → Prop} {v : Value} {xs : List α} (A : ArgSl h sz enc good v xs) : xs.length ≤ maxLen := by
  rcases A.2 with ⟨p, cap, rfl, rfl⟩ | ⟨b, o, cap, c, E, fr, rfl, h1, h2, _⟩
  · simp
  · omega

theorem choose_list {α : Type} (p : Nat → α → Prop) : ∀ n, (∀ i, i < n → ∃ x, p i x) → ∃ xs : List α, xs.length = n ∧ ∀ i x, xs[i]? = some x → p i x
  | 0, _ => ⟨[], rfl, by simp⟩
  | n + 1, h => by
    obtain ⟨xs, hl, hx⟩ := choose_list p n (fun i hi => h i (by omega))
    obtain ⟨x, hx'⟩ := h n (by omega)
    refine ⟨xs ++ [x], by simp [hl], fun i y hy => ?_⟩
    rcases Nat.lt_trichotomy i n with e | e | e
    · rw [List.getElem?_append_left (by omega)] at hy; exact hx i y hy
    · subst e; rw [List.getElem?_append_right (by omega), hl] at hy; simp at hy; subst hy; exact hx'
    · rw [List.getElem?_eq_none (by simp [hl]; omega)] at hy; cases hy

theorem open_argSl {α : Type} {t e : TypeId} {ks : List Lk} {ec : α → List Value} {good : α → Prop} {W : World} {v : Value} {d : DataW H} {ps : List MemPlace} {b0 sz : Nat} (n : Nat)
    (ht : P.underlying t = some (.slice e)) (hk : flatK P n e = some ks) (hC : P.cellsOf e = sz) (h0 : 0 < sz)
    (hdec : ∀ cs, okLs enc P W 0 spare held ks cs → ∃ x, cs = ec x ∧ good x)
    (hv : Value.okWide P W .any b0 t v) (hd : DataW.Trod enc P W 0 spare held t v d ps) : ∃ xs, ArgSl (hpW W) sz ec good v xs := by
  obtain ⟨a, len, cap, rfl⟩ := okWide_slice ht hv
  obtain ⟨fuel, hf⟩ := hd
  rcases open_slice ht hf with ⟨h0, _⟩ | ⟨a', len', cap', m, n', D, Pl, hcs, _, hl, hm, hmm, _, hx⟩
  · simp [Value.cells] at h0
    obtain ⟨rfl, rfl, rfl⟩ := h0
    exact ⟨[], by simp, .inl ⟨_, _, rfl, rfl⟩⟩
  · simp [Value.cells] at hcs
    obtain ⟨rfl, rfl, rfl⟩ := hcs
    have hlm : len ≤ m := by rw [hmm]; split <;> omega
    rw [hC] at hx
    obtain ⟨xs, hxl, hxx⟩ := choose_list (fun i x => good x ∧ (ec x).length = sz ∧ (∀ j, j < sz → W.cell? (a'.add (i * sz + j)) = (ec x)[j]?)) len (fun i hi => by
      obtain ⟨cs', hc, ht'⟩ := hx i (by omega)
      obtain ⟨_, hcl, hat⟩ := World.cells?_some hc
      obtain ⟨x, rfl, hg⟩ := hdec cs' (flat_open n e ks _ _ _ hk ht')
      refine ⟨x, hg, hcl, fun j hj => ?_⟩
      rw [← Go.Deep.add_add, hat j hj])
    refine ⟨xs, fun x hx => ?_, ?_⟩
    · obtain ⟨i, hi, he⟩ := List.getElem_of_mem hx
      exact (hxx i x (by rw [List.getElem?_eq_getElem hi, he])).1
    · by_cases hl0 : len = 0
      · subst hl0
        have : xs = [] := by simpa using hxl
        exact .inl ⟨_, _, rfl, this⟩
      · right
        obtain ⟨b, o, s⟩ := a'
        have hx0 := hxx 0 xs[0] (List.getElem?_eq_getElem (by omega))
        have h1 := hx0.2.2 0 h0
        rw [List.getElem?_eq_getElem (by omega)] at h1
        simp only [Nat.zero_mul, Nat.add_zero, Addr.add, if_true, World.cell?] at h1
        split at h1
        · rename_i c E fr hb
          split at h1
          · cases h1
          · rename_i hs
            have hs' : s = none := by simpa using hs
            subst hs'
            refine ⟨b, o, cap, c, E, fr, by rw [hxl], by omega, hm, hb, fun i x hx j hj => ?_⟩
            have h2 := (hxx i x hx).2.2 j hj
            have e : ((⟨b, o, none⟩ : Addr).add (i * sz + j)) = ⟨b, o + (i * sz + j), none⟩ := by unfold Addr.add; split <;> simp_all
            rw [e] at h2
            simp only [World.cell?, hb] at h2
            rw [Nat.add_assoc]
            simpa using h2
        · cases h1
end
end Go.Proofs.Ytpeoholnlokdcaa

/- The row bridge: numbers of arguments, parts of argument slices. -/
namespace Go.Proofs.Ytpeoholnlokdcaa
open Go

theorem i64_wf {n : Int} (h : (Lit.int .i64 n).wf = true) : -9223372036854775808 ≤ n ∧ n < 9223372036854775808 := by
  have e1 : IntKind.i64.min = -9223372036854775808 := by decide
  have e2 : IntKind.i64.max = 9223372036854775807 := by decide
  simp [Lit.wf, e1, e2] at h
  omega

theorem u32_wf {n : Int} (h : (Lit.int .u32 n).wf = true) : ∃ m : Nat, n = m ∧ m < 2 ^ 32 := by
  have e1 : IntKind.u32.min = 0 := by decide
  have e2 : IntKind.u32.max = 4294967295 := by decide
  simp [Lit.wf, e1, e2] at h
  exact ⟨n.toNat, by omega, by omega⟩

theorem u64_wf {n : Int} (h : (Lit.int .u64 n).wf = true) : ∃ m : Nat, n = m ∧ m < 2 ^ 64 := by
  have e1 : IntKind.u64.min = 0 := by decide
  have e2 : IntKind.u64.max = 18446744073709551615 := by decide
  simp [Lit.wf, e1, e2] at h
  exact ⟨n.toNat, by omega, by omega⟩

theorem u16_wf {n : Int} (h : (Lit.int .u16 n).wf = true) : ∃ m : Nat, n = m ∧ m < 2 ^ 16 := by
  have e1 : IntKind.u16.min = 0 := by decide
  have e2 : IntKind.u16.max = 65535 := by decide
  simp [Lit.wf, e1, e2] at h
  exact ⟨n.toNat, by omega, by omega⟩

theorem u8_wf {n : Int} (h : (Lit.int .u8 n).wf = true) : ∃ m : Nat, n = m ∧ m < 2 ^ 8 := by
  have e1 : IntKind.u8.min = 0 := by decide
  have e2 : IntKind.u8.max = 255 := by decide
  simp [Lit.wf, e1, e2] at h
  exact ⟨n.toNat, by omega, by omega⟩

theorem ArgSl.at {α : Type} {h : Hp} {sz : Nat} {enc : α → List Value} {good : α → Prop} {v : Value} {xs : List α} {i : Nat} {x : α} (A : ArgSl h sz enc good v xs) (hx : xs[i]? = some x) :
    good x ∧ ∃ b o cap c E fr, v = .slice (some ⟨b, o, none⟩) xs.length cap ∧ h b = some (.cells c E fr) ∧ ∀ j, j < sz → c[o + i * sz + j]? = (enc x)[j]? := by
  refine ⟨A.1 x (List.mem_of_getElem? hx), ?_⟩
  rcases A.2 with ⟨p, cap, rfl, rfl⟩ | ⟨b, o, cap, c, E, fr, rfl, h1, h2, hb, he⟩
  · simp at hx
  · exact ⟨b, o, cap, c, E, fr, rfl, hb, he i x hx⟩

end Go.Proofs.Ytpeoholnlokdcaa

/- Appending another slice's elements; a slice's part. -/
namespace Go.Proofs.Ytpeoholnlokdcaa
open Go
set_option linter.unusedSimpArgs false
set_option linter.unusedVariables false

/-- What an append of many leaves as it was. -/
structure Grew (h h' : Hp) (v v' : Value) : Prop where
  keep : ∀ y o, h y = some o → some y ≠ blkOf v → h' y = some o
  fresh : blkOf v' = blkOf v ∨ ∀ b, blkOf v' = some b → h b = none

/-- A slice that may be a part of a block, to be read from. -/
def Src {α : Type} (h : Hp) (sz : Nat) (enc : α → List Value) (v : Value) (ys : List α) : Prop :=
  (∀ y ∈ ys, (enc y).length = sz ∧ ∀ u ∈ enc y, oneCell u = true) ∧
  ((∃ a cap, v = .slice a 0 cap ∧ ys = []) ∨ ∃ b o cap c E fr, v = .slice (some ⟨b, o, none⟩) ys.length cap ∧ h b = some (.cells c E fr) ∧ o + ys.length * sz ≤ c.size ∧ Enc c o sz enc ys)

theorem Src.part {α : Type} {h : Hp} {sz : Nat} {enc : α → List Value} {ys : List α} {b o : Nat} {c : Array Value} {E : TypeId} {fr : Nat × Nat} (i n cap' : Nat) (hn : i + n ≤ ys.length)
    (hl : ∀ y ∈ ys, (enc y).length = sz ∧ ∀ u ∈ enc y, oneCell u = true) (hb : h b = some (.cells c E fr)) (hs : o + ys.length * sz ≤ c.size) (he : Enc c o sz enc ys) :
    Src h sz enc (.slice (some ⟨b, o + i * sz, none⟩) n cap') ((ys.drop i).take n) := by
  refine ⟨fun y hy => hl y (List.mem_of_mem_drop (List.mem_of_mem_take hy)), .inr ⟨b, o + i * sz, cap', c, E, fr, ?_, hb, ?_, ?_⟩⟩
  · have : ((ys.drop i).take n).length = n := by simp; omega
    rw [this]
  · have e : ((ys.drop i).take n).length = n := by simp; omega
    have h1 : (i + n) * sz ≤ ys.length * sz := Nat.mul_le_mul_right _ hn
    rw [Nat.add_mul] at h1
    rw [e]; omega
  · intro k x hx j hj
    have hk : k < n := by
      have := (List.getElem?_eq_some_iff.1 hx).1
      simp at this; omega
    rw [List.getElem?_take, if_pos hk, List.getElem?_drop] at hx
    have := he (i + k) x hx j hj
    rw [← this]
    congr 1
    rw [Nat.add_mul]; omega

section
variable {P : Program} {h : Hp}

theorem src_cells {α : Type} {sz n o : Nat} {enc : α → List Value} {ys : List α} {c : Array Value} (hn : n = ys.length) (hl : ∀ y ∈ ys, (enc y).length = sz ∧ ∀ u ∈ enc y, oneCell u = true) (hs : o + ys.length * sz ≤ c.size) (he : Enc c o sz enc ys) :
    ((c.toList.drop o).take (n * sz)).length = n * sz ∧ (∀ i y, ys[i]? = some y → ∀ j, j < sz → ((c.toList.drop o).take (n * sz))[i * sz + j]? = (enc y)[j]?) ∧ ∀ u ∈ (c.toList.drop o).take (n * sz), oneCell u = true := by
  subst hn
  have hget : ∀ i y, ys[i]? = some y → ∀ j, j < sz → ((c.toList.drop o).take (ys.length * sz))[i * sz + j]? = (enc y)[j]? := by
    intro i y hy j hj
    have hi := (List.getElem?_eq_some_iff.1 hy).1
    have h1 : (i + 1) * sz ≤ ys.length * sz := Nat.mul_le_mul_right _ hi
    rw [Nat.add_mul, Nat.one_mul] at h1
    rw [List.getElem?_take, if_pos (by omega), List.getElem?_drop, ← Nat.add_assoc, Array.getElem?_toList]
    exact he i y hy j hj
  refine ⟨by simp; omega, hget, fun u hu => ?_⟩
  obtain ⟨k, hk, rfl⟩ := List.getElem_of_mem hu
  have hk' : k < ys.length * sz := by simp at hk; omega
  have hsz : 0 < sz := by
    rcases Nat.eq_zero_or_pos sz with e | e
    · subst e; simp at hk'
    · exact e
  have hi : k / sz < ys.length := Nat.div_lt_of_lt_mul (by rw [Nat.mul_comm]; exact hk')
  have hy : ys[k / sz]? = some ys[k / sz] := List.getElem?_eq_getElem hi
  have hj := Nat.mod_lt k hsz
  have e := hget (k / sz) _ hy (k % sz) hj
  have e2 : k / sz * sz + k % sz = k := by rw [Nat.mul_comm]; exact Nat.div_add_mod k sz
  rw [e2, List.getElem?_eq_getElem hk] at e
  have hm := hl _ (List.mem_of_getElem? hy)
  exact hm.2 _ (List.mem_of_getElem? e.symm)

theorem Enc.cat {α : Type} {c c' : Array Value} {sz : Nat} {enc : α → List Value} {xs ys : List α} (H : Enc c 0 sz enc xs)
    (h1 : ∀ i, i < xs.length * sz → c'[i]? = c[i]?) (h2 : ∀ i y, ys[i]? = some y → ∀ j, j < sz → c'[xs.length * sz + (i * sz + j)]? = (enc y)[j]?) : Enc c' 0 sz enc (xs ++ ys) := by
  intro i x hx j hj
  rcases Nat.lt_or_ge i xs.length with hi | hi
  · rw [List.getElem?_append_left hi] at hx
    rw [← H i x hx j hj]
    have h3 : (i + 1) * sz ≤ xs.length * sz := Nat.mul_le_mul_right _ hi
    rw [Nat.add_mul, Nat.one_mul] at h3
    exact h1 _ (by omega)
  · rw [List.getElem?_append_right hi] at hx
    have := h2 _ x hx j hj
    rw [← this]
    congr 1
    obtain ⟨d, rfl⟩ : ∃ d, i = xs.length + d := ⟨i - xs.length, by omega⟩
    rw [Nat.add_sub_cancel_left, Nat.add_mul]; omega

theorem arun_cat {α : Type} {sT xT R E E2 sz bytes : Nat} {z : Value} (hs : P.underlying sT = some (.slice E)) (hx : P.underlying xT = some (.slice E2))
    (hsz : (P.info? E).map (·.size) = some sz) (hby : (P.info? E).map (·.bytes) = some bytes) (hz : (P.info? E).bind (·.zero) = some z) (hb0 : 0 < bytes) (hzs : z.cells.size = sz)
    {enc : α → List Value} {v w : Value} {xs ys : List α} {k : Value → Hp → Prop} (S : SlAt h E sz enc v xs) (R0 : Src h sz enc w ys) (hbd : (2 * (xs.length + ys.length) + 770) * bytes ≤ 2 ^ 48)
    (K : ∀ v' h', SlAt h' E sz enc v' (xs ++ ys) → Grew h h' v v' → k v' h') : arun P (Builtin.append_ #[sT, xT] R #[v, w]) h k := by
  obtain ⟨hl, R1⟩ := R0
  have hzc : ∀ n, (Builtin.zeroCells z.cells n).size = n * sz := by intro n; simp [Builtin.zeroCells, hzs]
  -- the new cells
  obtain ⟨a2, c2, new, rfl, hnew, n1, n2, n3⟩ : ∃ a2 c2 new, w = .slice a2 ys.length c2 ∧ rrun P (Builtin.firstCells sz ys.length (.slice a2 ys.length c2)) h = some (List.toArray new) ∧ new.length = ys.length * sz ∧
      (∀ i y, ys[i]? = some y → ∀ j, j < sz → new[i * sz + j]? = (enc y)[j]?) ∧ ∀ u ∈ new, oneCell u = true := by
    rcases R1 with ⟨a, cap, rfl, rfl⟩ | ⟨b, o, cap, c, _, fr, rfl, hb, h1, h2⟩
    · refine ⟨a, cap, [], rfl, ?_, by simp, fun i y hy => by simp at hy, by simp⟩
      cases a with
      | none => rfl
      | some a =>
        show rrun P (loadCells a (0 * sz)) h = _
        rw [Nat.zero_mul]; rfl
    · obtain ⟨q1, q2, q3⟩ := src_cells (n := ys.length) rfl hl h1 h2
      refine ⟨_, cap, _, rfl, ?_, q1, q2, q3⟩
      show rrun P (loadCells ⟨b, o, none⟩ (ys.length * sz)) h = _
      rw [rr_loadCells, ldN_of hb _ _ h1]; rfl
  rcases S with ⟨rfl, rfl⟩ | ⟨b, cap, c, rfl, hb, h1, h2, h3⟩
  · refine arun_append hs hx hsz hby hz hb0 hnew (fun h0 => ?_) (fun hlt => ⟨?_, #[], rfl, fun cap' b hc hb => ?_⟩)
    · have : ys = [] := List.eq_nil_of_length_eq_zero (by omega)
      subst this
      exact K _ _ (.inl ⟨rfl, rfl⟩) ⟨fun _ _ h _ => h, .inl rfl⟩
    · refine Nat.le_trans (Nat.mul_le_mul_right bytes ?_) hbd
      have := nextcap_le hlt
      simp only [List.length_nil]; omega
    · refine K _ _ (.inr ⟨b, cap', _, by simp, if_pos rfl, by simpa using hc, ?_, ?_⟩) ⟨fun y o hy _ => ?_, .inr fun b' hb' => ?_⟩
      · obtain ⟨d, rfl⟩ : ∃ d, cap' = ys.length + d := ⟨cap' - ys.length, by omega⟩
        simp only [Array.size_append, hzc, List.size_toArray, n1]
        have : ys.length + d - ys.length = d := by omega
        simp only [List.length_nil, Nat.zero_add, this, Nat.add_mul]
        exact Nat.le_of_eq (by simp)
      · refine Enc.cat (c := #[]) (fun i x hx => by cases hx) (fun i hi => absurd hi (by simp)) (fun i y hy j hj => ?_)
        have hi := (List.getElem?_eq_some_iff.1 hy).1
        have h3 : (i + 1) * sz ≤ ys.length * sz := Nat.mul_le_mul_right _ hi
        rw [Nat.add_mul, Nat.one_mul] at h3
        rw [Array.getElem?_append_left (by simp [n1]; omega)]
        have := n2 i y hy j hj
        simpa using this
      · have : y ≠ b := by rintro rfl; rw [hb] at hy; cases hy
        simp [Hp.upd, this, hy]
      · cases hb'; exact hb
  · refine arun_append hs hx hsz hby hz hb0 hnew (fun hle => ?_) (fun hlt => ⟨?_, ((c.toList.drop 0).take (xs.length * sz)).toArray, ?_, fun cap' b' hc hb' => ?_⟩)
    · simp only [add_none]
      rw [arun_storeCells_eq]
      have hsz2 : xs.length * sz + ys.length * sz ≤ c.size := by
        have : (xs.length + ys.length) * sz ≤ cap * sz := Nat.mul_le_mul_right _ hle
        rw [Nat.add_mul] at this
        omega
      refine stN_write _ _ c h hb (by simp [n1]; omega) (by simpa using n3) ?_
      refine K _ _ (.inr ⟨b, cap, _, by simp, if_pos rfl, by simpa using hle, by rw [writeL_size]; exact h2, ?_⟩) ⟨fun y o hy hne => ?_, .inl rfl⟩
      · refine Enc.cat h3 (fun i hi => ?_) (fun i y hy j hj => ?_)
        · rw [writeL_get _ _ _ _ (by simp [n1]; omega), if_neg (by omega)]
        · have hi := (List.getElem?_eq_some_iff.1 hy).1
          have h4 : (i + 1) * sz ≤ ys.length * sz := Nat.mul_le_mul_right _ hi
          rw [Nat.add_mul, Nat.one_mul] at h4
          rw [writeL_get _ _ _ _ (by simp [n1]; omega), if_pos (by simp [n1]; omega)]
          have e : xs.length * sz + (i * sz + j) - (xs.length * sz + 0) = i * sz + j := by omega
          simp only [Nat.zero_add, e]; exact n2 i y hy j hj
      · have : y ≠ b := by rintro rfl; exact hne rfl
        simp [Hp.upd, this, hy]
    · refine Nat.le_trans (Nat.mul_le_mul_right bytes ?_) hbd
      have := nextcap_le hlt
      omega
    · show rrun P (loadCells ⟨b, 0, none⟩ (xs.length * sz)) h = _
      have : xs.length * sz ≤ c.size := Nat.le_trans (Nat.mul_le_mul_right _ h1) h2
      rw [rr_loadCells, ldN_of hb _ _ (by omega)]; rfl
    · have hold : ((c.toList.drop 0).take (xs.length * sz)).toArray.size = xs.length * sz := by
        have : xs.length * sz ≤ c.size := Nat.le_trans (Nat.mul_le_mul_right _ h1) h2
        simp; omega
      refine K _ _ (.inr ⟨b', cap', _, by simp, if_pos rfl, by simpa using hc, ?_, ?_⟩) ⟨fun y o hy _ => ?_, .inr fun b2 hb2 => ?_⟩
      · simp only [Array.size_append, hzc, List.size_toArray, n1]
        have e : cap' = xs.length + (ys.length + (cap' - (xs.length + ys.length))) := by omega
        have e2 : ((c.toList.drop 0).take (xs.length * sz)).length = xs.length * sz := by simpa using hold
        rw [e2]
        conv => lhs; rw [e]
        rw [Nat.add_mul, Nat.add_mul]; omega
      · refine Enc.cat h3 (fun i hi => ?_) (fun i y hy j hj => ?_)
        · rw [Array.getElem?_append_left (by simp only [Array.size_append, hold]; omega), Array.getElem?_append_left (by rw [hold]; exact hi)]
          simp [List.getElem?_take, hi]
        · have hi := (List.getElem?_eq_some_iff.1 hy).1
          have h4 : (i + 1) * sz ≤ ys.length * sz := Nat.mul_le_mul_right _ hi
          rw [Nat.add_mul, Nat.one_mul] at h4
          rw [Array.getElem?_append_left (by simp only [Array.size_append, hold, List.size_toArray, n1]; omega), Array.getElem?_append_right (by rw [hold]; omega), hold]
          have e : xs.length * sz + (i * sz + j) - xs.length * sz = i * sz + j := by omega
          rw [e]
          have := n2 i y hy j hj
          simpa using this
      · have : y ≠ b' := by rintro rfl; rw [hb'] at hy; cases hy
        simp [Hp.upd, this, hy]
      · cases hb2; exact hb'

/-! ### A part of a slice -/
theorem rr_sliceBound {n : Nat} {i : Int} {k : BoundsCode} (h0 : 0 ≤ i) (h1 : i ≤ (n : Int)) : rrun P (Instr.sliceBound (.int .i64 i) n k) h = some i.toNat := by
  unfold Instr.sliceBound
  simp only [rrun_bnd, asIntOf, rrun_pure, Option.bind_some]
  rw [if_pos ⟨h0, h1⟩]; rfl

/-- x[i:], within a block. -/
theorem rr_slice_from {t e : TypeId} {sz b o len cap : Nat} {i : Int} (hu : P.underlying t = some (.slice e)) (hs : (P.info? e).map (·.size) = some sz) (h0 : 0 ≤ i) (h1 : i ≤ (len : Int)) (h2 : i < (cap : Int)) :
    rrun P (Instr.sliceAt t (.slice (some ⟨b, o, none⟩) len cap) (some (.int .i64 i)) none none) h = some (.slice (some ⟨b, o + i.toNat * sz, none⟩) (len - i.toNat) (cap - i.toNat)) := by
  unfold Instr.sliceAt
  rw [rrun_bnd, rr_underlying, hu, Option.bind_some]
  simp only
  unfold Instr.slice
  rw [rrun_bnd, rr_underlying, hu, Option.bind_some]
  simp only
  have hb : rrun P (Instr.sliceBounds true len cap (some (.int .i64 i)) none none) h = some (i.toNat, len, cap) := by
    unfold Instr.sliceBounds
    simp only [rrun_bnd, rrun_pure, Option.bind_some]
    rw [rr_sliceBound h0 h1]; rfl
  rw [rrun_bnd, hb, Option.bind_some]
  simp only [rrun_bnd, rr_sizeOf, hs, Option.bind_some, rrun_pure]
  rw [if_neg (by omega)]
  simp only [Option.map_some, add_none]

/-- x[i:] where nothing is left, whatever the address. -/
theorem rr_slice_end {t e : TypeId} {sz : Nat} {a : Option Addr} {len cap : Nat} {i : Int} (hu : P.underlying t = some (.slice e)) (hs : (P.info? e).map (·.size) = some sz) (h1 : i = (len : Int)) :
    ∃ a' cap', rrun P (Instr.sliceAt t (.slice a len cap) (some (.int .i64 i)) none none) h = some (.slice a' 0 cap') := by
  unfold Instr.sliceAt
  rw [rrun_bnd, rr_underlying, hu, Option.bind_some]
  simp only
  unfold Instr.slice
  rw [rrun_bnd, rr_underlying, hu, Option.bind_some]
  simp only
  have hb : rrun P (Instr.sliceBounds true len cap (some (.int .i64 i)) none none) h = some (i.toNat, len, cap) := by
    unfold Instr.sliceBounds
    simp only [rrun_bnd, rrun_pure, Option.bind_some]
    rw [rr_sliceBound (by omega) (by omega)]; rfl
  rw [rrun_bnd, hb, Option.bind_some]
  simp only [rrun_bnd, rr_sizeOf, hs, Option.bind_some, rrun_pure]
  have e0 : len - i.toNat = 0 := by omega
  rw [e0]
  exact ⟨_, _, rfl⟩

/-- x[:i]. -/
theorem rr_slice_to {t e : TypeId} {sz len cap : Nat} {a : Addr} {i : Int} (hu : P.underlying t = some (.slice e)) (hs : (P.info? e).map (·.size) = some sz) (h0 : 0 ≤ i) (h1 : i ≤ (cap : Int)) :
    rrun P (Instr.sliceAt t (.slice (some a) len cap) none (some (.int .i64 i)) none) h = some (.slice (some a) i.toNat cap) := by
  unfold Instr.sliceAt
  rw [rrun_bnd, rr_underlying, hu, Option.bind_some]
  simp only
  unfold Instr.slice
  rw [rrun_bnd, rr_underlying, hu, Option.bind_some]
  simp only
  have hb : rrun P (Instr.sliceBounds true len cap none (some (.int .i64 i)) none) h = some (0, i.toNat, cap) := by
    unfold Instr.sliceBounds
    simp only [rrun_bnd, rrun_pure, Option.bind_some]
    simp only [if_true]
    rw [rr_sliceBound h0 h1]; rfl
  rw [rrun_bnd, hb, Option.bind_some]
  simp only [rrun_bnd, rr_sizeOf, hs, Option.bind_some, rrun_pure, Nat.zero_mul, Nat.sub_zero, Option.map_some]
  split
  · rfl
  · rfl
end
end Go.Proofs.Ytpeoholnlokdcaa

/- Maps: what they hold, a look, a store. -/
namespace Go.Proofs.Ytpeoholnlokdcaa
open Go
set_option linter.unusedSimpArgs false
set_option linter.unusedVariables false

/-- A map's entries read so, in the order in which they lie. -/
inductive Ents {α β : Type} (kenc : α → Value) (venc : β → Value) : List MapEntry → List (α × β) → Prop where
  | nil : Ents kenc venc [] []
  | cons {e : MapEntry} {es : List MapEntry} {k : α} {v : β} {m : List (α × β)} : e.key = kenc k → e.val = venc v → Ents kenc venc es m → Ents kenc venc (e :: es) ((k, v) :: m)

def findM {α β : Type} [DecidableEq α] (a : α) : List (α × β) → Nat → Option (Nat × β)
  | [], _ => none
  | x :: xs, i => if a = x.1 then some (i, x.2) else findM a xs (i + 1)

theorem Ents.get {α β : Type} {kenc : α → Value} {venc : β → Value} {es : List MapEntry} {m : List (α × β)} (H : Ents kenc venc es m) : ∀ {i : Nat} {x : α × β}, m[i]? = some x → ∃ e, es[i]? = some e ∧ e.key = kenc x.1 ∧ e.val = venc x.2 := by
  induction H with
  | nil => intro i x h; simp at h
  | @cons e es k v m h1 h2 _ ih =>
    intro i x h
    cases i with
    | zero => simp at h; subst h; exact ⟨e, rfl, h1, h2⟩
    | succ i => simpa using ih (by simpa using h)

section
variable {P : Program} {h : Hp} {α β : Type} [DecidableEq α] {kenc : α → Value} {venc : β → Value}

theorem rr_findAsking {kt : TypeId} {a : α} (heq : ∀ b, rrun P (Op.equal kt (kenc a) (kenc b)) h = some (decide (a = b))) : ∀ {es : List MapEntry} {m : List (α × β)}, Ents kenc venc es m → ∀ i,
    rrun P (Instr.findAsking kt (kenc a) es i) h = some ((findM a m i).map fun x => (x.1, venc x.2)) := by
  intro es m H
  induction H with
  | nil => intro i; rfl
  | @cons e es k v m h1 h2 _ ih =>
    intro i
    unfold Instr.findAsking
    rw [rrun_bnd, h1, heq, Option.bind_some]
    by_cases hab : a = k
    · simp [hab, findM, h2, rrun_pure]
    · simp [hab, findM, ih]

theorem rr_findKey_struct {kt : TypeId} {fs : Array Field} {a : α} (hu : P.underlying kt = some (.struct fs)) (heq : ∀ b, rrun P (Op.equal kt (kenc a) (kenc b)) h = some (decide (a = b))) {es : List MapEntry} {m : List (α × β)} (H : Ents kenc venc es m) :
    rrun P (Instr.findKey kt (kenc a) es) h = some ((findM a m 0).map fun x => (x.1, venc x.2)) := by
  unfold Instr.findKey
  rw [rrun_bnd, rr_underlying, hu, Option.bind_some]
  cases H with
  | nil => rfl
  | cons h1 h2 h3 => exact rr_findAsking heq (.cons h1 h2 h3) 0

def getM (m : List (α × β)) (a : α) : Option β := (findM a m 0).map (·.2)

def MapAt (h : Hp) (r : Nat) (kenc : α → Value) (venc : β → Value) (m : List (α × β)) : Prop := ∃ es clock, h r = some (.map es clock) ∧ Ents kenc venc es.toList m

theorem rr_lookup {t kt et : TypeId} {r : Nat} {a : α} {m : List (α × β)} {z : Value} (hu : P.underlying t = some (.map kt et)) (M : MapAt h r kenc venc m) (hck : ∀ e, rrun P (Instr.checkKey e 10000 kt (kenc a)) h = some ())
    (hfk : ∀ es : List MapEntry, Ents kenc venc es m → rrun P (Instr.findKey kt (kenc a) es) h = some ((findM a m 0).map fun x => (x.1, venc x.2))) (hz : (P.info? et).bind (·.zero) = some z) :
    rrun P (Instr.lookup t (.map (some r)) (kenc a) true) h = some (.tuple #[match getM m a with | some v => venc v | none => z, .bool (getM m a).isSome]) := by
  obtain ⟨es, clock, hr, hE⟩ := M
  unfold Instr.lookup
  rw [rrun_bnd, rr_underlying, hu, Option.bind_some]
  simp only []
  have hg : rrun P (getObj r) h = some (.map es clock) := by
    unfold getObj
    simp only [rrun, hr, isRow]
  simp only [rrun_bnd, hg, Option.bind_some, rrun_pure, hck, hfk _ hE]
  unfold getM
  cases findM a m 0 with
  | none =>
    have e : ∀ (s : Sem Value) (f : Value → Value), rrun P (f <$> s) h = (rrun P s h).map f := by
      intro s f
      have : f <$> s = s >>= fun x => pure (f x) := by simp
      rw [this, rrun_bnd]
      cases rrun P s h <;> rfl
    simp [rrun_bnd, rrun_pure, e, rr_zeroValue hz]
  | some x => simp [rrun_bnd, rrun_pure]

def setM (a : α) (v : β) : List (α × β) → List (α × β)
  | [] => [(a, v)]
  | x :: xs => if a = x.1 then (a, v) :: xs else x :: setM a v xs

theorem findM_some {a : α} : ∀ {m : List (α × β)} {i j : Nat} {v : β}, findM a m i = some (j, v) → i ≤ j ∧ m[j - i]? = some (a, v)
  | [], i, j, v, h => by cases h
  | x :: xs, i, j, v, h => by
    simp only [findM] at h
    split at h
    · rename_i e; cases h; rw [Nat.sub_self]; exact ⟨Nat.le_refl _, by simp [e]⟩
    · obtain ⟨h1, h2⟩ := findM_some h
      refine ⟨by omega, ?_⟩
      have e : j - i = (j - (i + 1)) + 1 := by omega
      rw [e]; simpa using h2

theorem Ents.push {es : List MapEntry} {m : List (α × β)} (H : Ents kenc venc es m) {a : α} {v : β} {c : Nat} : findM a m 0 = none → Ents kenc venc (es ++ [{ key := kenc a, val := venc v, born := c }]) (setM a v m) := by
  have key : ∀ (es : List MapEntry) (m : List (α × β)), Ents kenc venc es m → ∀ i, findM a m i = none → Ents kenc venc (es ++ [{ key := kenc a, val := venc v, born := c }]) (setM a v m) := by
    intro es m H
    induction H with
    | nil => intro i _; exact .cons rfl rfl .nil
    | @cons e es k v' m h1 h2 _ ih =>
      intro i h
      simp only [findM] at h
      split at h
      · cases h
      · rename_i hne
        simp only [setM, if_neg hne, List.cons_append]
        exact .cons h1 h2 (ih _ h)
  exact key es m H 0

theorem Ents.modify {es : List MapEntry} {m : List (α × β)} (H : Ents kenc venc es m) {a : α} {v v0 : β} {j : Nat} : findM a m 0 = some (j, v0) → Ents kenc venc (es.modify j fun e => { e with key := kenc a, val := venc v }) (setM a v m) := by
  have key : ∀ (es : List MapEntry) (m : List (α × β)), Ents kenc venc es m → ∀ i, findM a m i = some (i + j, v0) → Ents kenc venc (es.modify j fun e => { e with key := kenc a, val := venc v }) (setM a v m) := by
    intro es m H
    induction H generalizing j with
    | nil => intro i h; cases h
    | @cons e es k v' m h1 h2 h3 ih =>
      intro i h
      simp only [findM] at h
      split at h
      · rename_i e
        have : j = 0 := by
          simp only [Option.some.injEq, Prod.mk.injEq] at h; omega
        subst this
        simp only [setM, if_pos e]
        exact .cons rfl rfl h3
      · rename_i hne
        have := (findM_some h).1
        obtain ⟨j', rfl⟩ : ∃ j', j = j' + 1 := ⟨j - 1, by omega⟩
        simp only [setM, if_neg hne, List.modify_succ_cons]
        refine .cons h1 h2 (ih (j := j') (i + 1) ?_)
        rw [h]; congr 2; omega
  intro h
  exact key es m H 0 (by simpa using h)

theorem rr_getObj {r : Nat} {es : Array MapEntry} {clock : Nat} (hr : h r = some (.map es clock)) : rrun P (getObj r) h = some (.map es clock) := by
  unfold getObj
  simp only [rrun, hr, isRow]

theorem arun_mapUpdate {t kt et : TypeId} {r : Nat} {a : α} {v : β} {m : List (α × β)} {K : Unit → Hp → Prop} (hu : P.underlying t = some (.map kt et)) (M : MapAt h r kenc venc m) (hck : ∀ e, rrun P (Instr.checkKey e 10000 kt (kenc a)) h = some ())
    (hfk : ∀ es : List MapEntry, Ents kenc venc es m → rrun P (Instr.findKey kt (kenc a) es) h = some ((findM a m 0).map fun x => (x.1, venc x.2))) (hsb : Instr.sameBits 10000 (kenc a) (kenc a) = true)
    (hK : ∀ es clock, Ents kenc venc es.toList (setM a v m) → K () (h.upd r (.map es clock))) :
    arun P (Instr.mapUpdate t (.map (some r)) (kenc a) (venc v)) h K := by
  obtain ⟨es, clock, hr, hE⟩ := M
  unfold Instr.mapUpdate
  rw [arun_bnd_rr (a := .map kt et) (by rw [rr_underlying, hu])]
  simp only []
  rw [arun_bnd_rr (a := .map es clock) (rr_getObj hr)]
  simp only []
  rw [arun_bnd_rr (a := ()) (hck _), arun_bnd_rr (hfk _ hE)]
  have set : ∀ o, K () (h.upd r o) → arun P (setObj r o) h K := fun o hk => ⟨⟨_, hr, rfl⟩, hk⟩
  cases hf : findM a m 0 with
  | none =>
    simp only [Option.map_none]
    refine set _ (hK _ _ ?_)
    rw [Array.toList_push]
    exact hE.push hf
  | some x =>
    obtain ⟨j, v0⟩ := x
    simp only [Option.map_some]
    obtain ⟨e, he, hke, _⟩ := hE.get (i := j) (x := (a, v0)) (by have := (findM_some hf).2; simpa using this)
    have hes : es[j]? = some e := by simpa using he
    have hks : rrun P (Instr.keyThatStays (((es[j]?).map (·.key)).getD (kenc a)) (kenc a)) h = some (kenc a) := by
      rw [hes]
      unfold Instr.keyThatStays
      simp only [Option.map_some, Option.getD_some, hke, hsb, if_true]
      rfl
    rw [arun_bnd_rr hks]
    refine set _ (hK _ _ ?_)
    rw [Array.toList_modify]
    exact hE.modify hf

theorem arun_makeMap {t : TypeId} {K : Value → Hp → Prop} (hK : ∀ b, h b = none → K (.map (some b)) (h.upd b (.map #[] 0))) : arun P (Instr.makeMap t none) h K := hK
end
end Go.Proofs.Ytpeoholnlokdcaa

/- Room for more; bytes as a string. -/
namespace Go.Proofs.Ytpeoholnlokdcaa
open Go
set_option linter.unusedSimpArgs false
set_option linter.unusedVariables false
section
variable {P : Program} {h : Hp}

/-- append(nil, make(T, n)...), n above 0. -/
theorem arun_extend_nil {sT xT R E sz bytes n : Nat} {k : IntKind} {z : Value} (hs : P.underlying sT = some (.slice E)) (hx : P.underlying xT = some (.int k))
    (hsz : (P.info? E).map (·.size) = some sz) (hby : (P.info? E).map (·.bytes) = some bytes) (hz : (P.info? E).bind (·.zero) = some z) (hb0 : 0 < bytes) (hs0 : 0 < sz) (hzs : z.cells.size = sz)
    {K : Value → Hp → Prop} (hn : 0 < n) (hbd : (2 * n + 770) * bytes ≤ 2 ^ 48)
    (hK : ∀ b cap c, h b = none → n ≤ cap → c.size = cap * sz → K (.slice (some ⟨b, 0, none⟩) n cap) (h.upd b (.cells c E))) :
    arun P (Builtin.append_ #[sT, xT] R #[.slice none 0 0, .int .i64 (n : Int)]) h K := by
  obtain ⟨info, hinfo⟩ : ∃ i, P.info? E = some i := by
    cases hi : P.info? E with
    | none => simp [hi] at hsz
    | some i => exact ⟨i, rfl⟩
  have hbi : info.bytes = bytes := by simpa [hinfo] using hby
  have hzc : ∀ n, (Builtin.zeroCells z.cells n).size = n * sz := by intro n; simp [Builtin.zeroCells, hzs]
  have hn48 : n * bytes ≤ 2 ^ 48 := Nat.le_trans (Nat.mul_le_mul_right _ (by omega)) hbd
  have hnle : n ≤ 2 ^ 48 := Nat.le_trans (Nat.le_mul_of_pos_right _ hb0) hn48
  unfold Builtin.append_
  simp only [aget_0, aget_1]
  rw [arun_bnd_rr (a := .slice E) (by rw [rr_underlying, hs])]
  simp only []
  have hw : IntKind.i64.wrap (n : Int) = (n : Int) := wrap_i64 (by omega) (by omega)
  have hinf : rrun P (typeInfo E) h = some info := by rw [rr_info, hinfo]
  have hmul : ¬ ((n : Int) * (info.bytes : Int) > 2 ^ 48) := by
    rw [hbi]
    have : ((n * bytes : Nat) : Int) ≤ ((2 ^ 48 : Nat) : Int) := Int.ofNat_le.2 hn48
    simp only [Int.natCast_mul] at this
    omega
  have hcap := nextcap_le (n := 0 + n) (c := 0) (by omega)
  have hcapb : ¬ (Builtin.nextslicecap (0 + n) 0 * info.bytes > 2 ^ 48) := by
    rw [hbi]
    have : Builtin.nextslicecap (0 + n) 0 * bytes ≤ (2 * n + 770) * bytes := Nat.mul_le_mul_right _ (by omega)
    omega
  have hmax : IntKind.i64.max = 9223372036854775807 := by decide
  rw [arun_bnd_rr (a := sz) (by rw [rr_sizeOf, hsz]), arun_bnd_rr (a := .int k) (by rw [rr_underlying, hx])]
  simp only []
  rw [arun_bnd_rr (a := true) rfl]
  simp only [if_true]
  rw [arun_bnd_rr (a := (n : Int)) rfl]
  simp only [hw]
  rw [if_neg (by omega), arun_bnd_rr hinf, if_neg hmul, arun_bnd_rr (a := ((n : Int)).toNat) rfl]
  simp only [Int.toNat_natCast]
  rw [if_neg (by omega), arun_bnd_rr hinf, if_neg (by rw [hmax]; rintro ⟨h1, _⟩; omega), arun_bnd_rr hinf, if_neg hcapb]
  refine arun_bind _ _ ?_
  show arun P (Sem.choose _ Sem.pure) h _
  unfold arun
  rw [if_neg (by simp [Question.forced])]
  intro t
  show arun P (Sem.bind _ _) h _
  refine arun_bind _ _ (arun_of_rrun _ hinf ?_)
  refine arun_bind _ _ ?_
  rw [arun_askRoom]
  refine arun_bind _ _ (arun_of_rrun _ (a := #[]) rfl ?_)
  refine arun_bind _ _ (arun_of_rrun _ (a := Builtin.zeroCells z.cells n) ?_ ?_)
  · have h0 : ¬ n * sz = 0 := by
      have := Nat.mul_pos hn hs0
      omega
    simp only [Bool.not_true, Bool.false_eq_true, if_false]
    rw [if_neg h0, rrun_bnd, rr_zeroValue hz]; rfl
  refine arun_bind _ _ (arun_of_rrun _ (rr_zeroValue hz) ?_)
  intro b hb
  have key : ∀ cap', n ≤ cap' → K (.slice (some ⟨b, 0, none⟩) (0 + n) cap') (h.upd b (.cells (#[] ++ Builtin.zeroCells z.cells n ++ Builtin.zeroCells z.cells (cap' - (0 + n))) E)) := by
    intro cap' hc
    rw [Nat.zero_add]
    refine hK b cap' _ hb hc ?_
    obtain ⟨d, rfl⟩ : ∃ d, cap' = n + d := ⟨cap' - n, by omega⟩
    simp only [Array.size_append, hzc, Nat.add_sub_cancel_left, Nat.add_mul]
    simp
  exact key _ (by simp only [Question.cut]; omega)
end
end Go.Proofs.Ytpeoholnlokdcaa

/- Frames: what a call may change, what it owns behind; slices' shapes. -/
namespace Go.Proofs.Ytpeoholnlokdcaa
open Go
set_option linter.unusedSimpArgs false

/-- All blocks but those of O stay; those of O' are of O or new. -/
structure Fr (h h' : Hp) (O O' : List Nat) : Prop where
  keep : ∀ x o, h x = some o → x ∉ O → h' x = some o
  own : ∀ x, x ∈ O' → x ∈ O ∨ h x = none

theorem Fr.refl (h : Hp) (O : List Nat) : Fr h h O O := ⟨fun _ _ e _ => e, fun _ e => .inl e⟩

theorem Fr.trans {h h1 h2 : Hp} {O O1 O2 : List Nat} (a : Fr h h1 O O1) (b : Fr h1 h2 O1 O2) : Fr h h2 O O2 := by
  refine ⟨fun x o e n => b.keep x o (a.keep x o e n) (fun m => ?_), fun x m => ?_⟩
  · rcases a.own x m with q | q
    · exact n q
    · rw [e] at q; cases q
  · rcases b.own x m with q | q
    · exact a.own x q
    · cases e : h x with
      | none => exact .inr rfl
      | some o =>
        by_cases hO : x ∈ O
        · exact .inl hO
        · rw [a.keep x o e hO] at q; cases q

theorem Fr.of_le {h h' : Hp} {O O' : List Nat} (l : Le h h') (f : ∀ x, x ∈ O' → x ∈ O ∨ h x = none) : Fr h h' O O' := ⟨fun x o e _ => l x o e, f⟩

/-- What is owned is not of an older heap: that stays. -/
theorem Fr.le {g h h' : Hp} {O O' : List Nat} (a : Fr h h' O O') (l : Le g h) (n : ∀ x, x ∈ O → g x = none) : Le g h' := fun x o e => a.keep x o (l x o e) (fun m => by rw [n x m] at e; cases e)

theorem upd_ne {h : Hp} {b x : Nat} {o : Obj} (n : x ≠ b) : (h.upd b o) x = h x := by rw [upd_get, if_neg n]
theorem upd_same {h : Hp} {b : Nat} {o : Obj} : (h.upd b o) b = some o := by rw [upd_get, if_pos rfl]

/-- A write into an own block. -/
theorem Fr.upd {h : Hp} {O : List Nat} {b : Nat} {o : Obj} (m : b ∈ O) : Fr h (h.upd b o) O O :=
  ⟨fun x _ e n => by rw [upd_ne]; exact e; rintro rfl; exact n m, fun _ e => .inl e⟩

theorem none_of_le {h g : Hp} {b : Nat} (L : Le h g) (hb : g b = none) : h b = none := by
  cases hh : h b with
  | none => rfl
  | some o => rw [L _ _ hh] at hb; cases hb

theorem Fr.new {g h h' : Hp} {O O' : List Nat} (a : Fr h h' O O') (l : Le g h) (n : ∀ x, x ∈ O → g x = none) : ∀ x, x ∈ O' → g x = none := fun x m => by
  rcases a.own x m with q | q
  · exact n x q
  · exact none_of_le l q

/-- Another one's blocks stay its own. -/
theorem Fr.apart {h h' : Hp} {O O' R : List Nat} (a : Fr h h' O O') (al : ∀ x, x ∈ R → ∃ o, h x = some o) (d : ∀ x, x ∈ R → x ∉ O) : ∀ x, x ∈ R → x ∉ O' := fun x m m' => by
  rcases a.own x m' with q | q
  · exact d x m q
  · obtain ⟨o, e⟩ := al x m; rw [e] at q; cases q

theorem Fr.alive {h h' : Hp} {O O' R : List Nat} (a : Fr h h' O O') (al : ∀ x, x ∈ R → ∃ o, h x = some o) (d : ∀ x, x ∈ R → x ∉ O) : ∀ x, x ∈ R → ∃ o, h' x = some o := fun x m => by
  obtain ⟨o, e⟩ := al x m
  exact ⟨o, a.keep x o e (d x m)⟩

theorem Grew.fr {h h' : Hp} {v v' : Value} (G : Grew h h' v v') : Fr h h' (blkOf v).toList (blkOf v').toList := by
  refine ⟨fun x o e n => G.keep x o e (fun q => n (by rw [← q]; simp)), fun x m => ?_⟩
  rcases G.fresh with q | q
  · rw [q] at m; exact .inl m
  · exact .inr (q x (by simpa using m))

section
variable {α : Type} {h h' : Hp} {E sz : Nat} {enc : α → List Value} {v : Value} {xs : List α}

theorem SlAt.at' {i : Nat} {x : α} (S : SlAt h E sz enc v xs) (hx : xs[i]? = some x) :
    ∃ b cap c, v = .slice (some ⟨b, 0, none⟩) xs.length cap ∧ h b = some (.cells c E (0, 0)) ∧ ∀ j, j < sz → c[i * sz + j]? = (enc x)[j]? := by
  rcases S with ⟨_, rfl⟩ | ⟨b, cap, c, rfl, hb, h1, h2, h3⟩
  · simp at hx
  · exact ⟨b, cap, c, rfl, hb, fun j hj => by have := h3 i x hx j hj; rwa [Nat.zero_add] at this⟩

theorem SlAt.shape' (S : SlAt h E sz enc v xs) : ∃ p cap, v = .slice p xs.length cap := by
  rcases S with ⟨rfl, rfl⟩ | ⟨b, cap, c, rfl, _⟩
  · exact ⟨_, _, rfl⟩
  · exact ⟨_, _, rfl⟩

theorem SlAt.le' (S : SlAt h E sz enc v xs) (l : Le h h') : SlAt h' E sz enc v xs := S.keep (fun _ _ _ e => l _ _ e)

theorem SlAt.alive (S : SlAt h E sz enc v xs) {b : Nat} (hb : blkOf v = some b) : ∃ o, h b = some o := by
  rcases S with ⟨rfl, rfl⟩ | ⟨b, cap, c, rfl, hb', _⟩
  · cases hb
  · cases hb; exact ⟨_, hb'⟩

theorem SlAt.fr {O O' : List Nat} (S : SlAt h E sz enc v xs) (F : Fr h h' O O') (n : ∀ b, blkOf v = some b → b ∉ O) : SlAt h' E sz enc v xs := S.keep (fun b o e q => F.keep b o q (n b e))

/-- The first ones of a slice. -/
theorem SlAt.take {b cap : Nat} (S : SlAt h E sz enc (.slice (some ⟨b, 0, none⟩) xs.length cap) xs) (n : Nat) (hn : n ≤ xs.length) : SlAt h E sz enc (.slice (some ⟨b, 0, none⟩) n cap) (xs.take n) := by
  rcases S with ⟨e, rfl⟩ | ⟨b', cap', c, e, hb, h1, h2, h3⟩
  · cases e
  · cases e
    refine .inr ⟨_, _, c, by rw [List.length_take, Nat.min_eq_left hn], hb, by rw [List.length_take]; omega, h2, fun i x hx j hj => h3 i x ?_ j hj⟩
    rw [List.getElem?_take] at hx
    split at hx
    · exact hx
    · cases hx
end

/-- x[i:j], within a block. -/
theorem rr_slice_part {P : Program} {h : Hp} {t e : TypeId} {sz b o len cap : Nat} {i j : Int} (hu : P.underlying t = some (.slice e)) (hs : (P.info? e).map (·.size) = some sz) (h0 : 0 ≤ i) (h1 : i ≤ j) (h2 : j ≤ (cap : Int)) (h3 : i < (cap : Int)) :
    rrun P (Instr.sliceAt t (.slice (some ⟨b, o, none⟩) len cap) (some (.int .i64 i)) (some (.int .i64 j)) none) h = some (.slice (some ⟨b, o + i.toNat * sz, none⟩) (j.toNat - i.toNat) (cap - i.toNat)) := by
  unfold Instr.sliceAt
  rw [rrun_bnd, rr_underlying, hu, Option.bind_some]
  simp only
  unfold Instr.slice
  rw [rrun_bnd, rr_underlying, hu, Option.bind_some]
  simp only
  have hb : rrun P (Instr.sliceBounds true len cap (some (.int .i64 i)) (some (.int .i64 j)) none) h = some (i.toNat, j.toNat, cap) := by
    unfold Instr.sliceBounds
    simp only [rrun_bnd, rrun_pure, Option.bind_some, if_true]
    rw [rr_sliceBound (by omega) h2, Option.bind_some, rr_sliceBound h0 (by omega)]; rfl
  rw [rrun_bnd, hb, Option.bind_some]
  simp only [rrun_bnd, rr_sizeOf, hs, Option.bind_some, rrun_pure]
  rw [if_neg (by omega)]
  simp only [Option.map_some, add_none]

theorem sq_rg {r s : Env → Hp → (Env → Hp → Prop) → Prop} {D : Den} : sq (rg r) (sq (rg s) D) = sq (rg fun env h K => r env h fun env h => s env h K) D := rfl

/-! ### One more element -/
theorem arun_snoc {P : Program} {α : Type} {sT xT R E E2 E3 sz bytes : Nat} {z : Value} (hs : P.underlying sT = some (.slice E)) (hx : P.underlying xT = some (.slice E2))
    (hsz : (P.info? E).map (·.size) = some sz) (hby : (P.info? E).map (·.bytes) = some bytes) (hz : (P.info? E).bind (·.zero) = some z) (hb0 : 0 < bytes) (hzs : z.cells.size = sz)
    {h : Hp} {enc : α → List Value} {v : Value} {xs : List α} {y : α} {k : Nat → Value → Hp → Prop} (S : SlAt h E sz enc v xs) (hl : (enc y).length = sz) (ho : ∀ u ∈ enc y, oneCell u = true) (hbd : (2 * (xs.length + 1) + 770) * bytes ≤ 2 ^ 48)
    (K : ∀ b v' h', SlAt h' E sz enc v' (xs ++ [y]) → Grew h h' v v' → h b = none → k b v' h') :
    ∀ b, h b = none → arun P (Builtin.append_ #[sT, xT] R #[v, .slice (some ⟨b, 0, none⟩) 1 1]) (h.upd b (.cells (enc y).toArray E3 (0, 0))) (k b) := by
  intro b hb
  have L : Le h (h.upd b (.cells (enc y).toArray E3 (0, 0))) := .new hb
  refine arun_cat hs hx hsz hby hz hb0 hzs (S.keep fun _ _ _ e => L _ _ e) (ys := [y]) ⟨by simpa using ⟨hl, ho⟩, .inr ⟨b, 0, 1, _, _, _, rfl, upd_same, by simp [hl], fun i x hx j hj => ?_⟩⟩ hbd (fun v' h' S' G => K b v' h' S' ⟨fun x o e n => G.keep x o (L _ _ e) n, ?_⟩ hb)
  · rcases i with _ | i
    · simp at hx; subst hx; simp
    · simp at hx
  · rcases G.fresh with q | q
    · exact .inl q
    · exact .inr fun b' e => none_of_le L (q b' e)

/-! ### Maps: what is found -/
theorem findM_map {α β : Type} [DecidableEq α] {a : α} : ∀ (m : List (α × β)) (i j : Nat), (findM a m i).map (·.2) = (findM a m j).map (·.2)
  | [], _, _ => rfl
  | x :: xs, i, j => by
    simp only [findM]
    split
    · rfl
    · exact findM_map xs _ _

theorem getM_nil {α β : Type} [DecidableEq α] {a : α} : getM ([] : List (α × β)) a = none := rfl
theorem getM_cons {α β : Type} [DecidableEq α] {a : α} {x : α × β} {xs : List (α × β)} : getM (x :: xs) a = if a = x.1 then some x.2 else getM xs a := by
  unfold getM
  simp only [findM]
  split
  · rfl
  · exact findM_map _ _ _

theorem getM_setM {α β : Type} [DecidableEq α] {a b : α} {v : β} : ∀ {m : List (α × β)}, getM (setM a v m) b = if b = a then some v else getM m b
  | [] => by simp [setM, getM_cons, getM_nil]
  | x :: xs => by
    simp only [setM]
    split
    · rename_i e
      rw [getM_cons, getM_cons]
      by_cases hb : b = a
      · simp [hb]
      · rw [if_neg hb, if_neg hb, if_neg (by rw [← e]; exact hb)]
    · rename_i e
      rw [getM_cons, getM_cons, getM_setM]
      by_cases hb : b = a
      · rw [if_neg (by rw [hb]; exact e), if_pos hb, if_pos hb]
      · rw [if_neg hb]; simp [hb]
end Go.Proofs.Ytpeoholnlokdcaa

/- Strings out of bytes, and their comparison. -/
namespace Go.Proofs.Ytpeoholnlokdcaa
open Go
set_option linter.unusedSimpArgs false

def be (x : Nat) : List Value := [.int .u8 (x : Nat)]
def mkB (xs : List Nat) : ByteArray := xs.foldl (fun r n => r.push (UInt8.ofNat n)) ByteArray.empty

section
variable {P : Program} {h : Hp}

@[simp] theorem rr_eql_str {t : TypeId} {x y : Operand} {a b : ByteArray} : rrun P (bop .eql t x y (.string a) (.string b)) h = some (.bool (a.toList == b.toList)) := rfl
@[simp] theorem rr_neq_str {t : TypeId} {x y : Operand} {a b : ByteArray} : rrun P (bop .neq t x y (.string a) (.string b)) h = some (.bool (!(a.toList == b.toList))) := rfl

theorem rr_forIn_bytes (f : Value → ByteArray → Sem (ForInStep ByteArray)) (hf : ∀ (n : Nat) (r : ByteArray), rrun P (f (.int .u8 (n : Nat)) r) h = some (.yield (r.push (UInt8.ofNat n)))) :
    ∀ (ns : List Nat) (s : ByteArray), rrun P (forIn (ns.map fun n => Value.int .u8 (n : Nat)) s f) h = some (ns.foldl (fun r n => r.push (UInt8.ofNat n)) s) := by
  intro ns
  induction ns with
  | nil => intro s; simp [rrun_pure]
  | cons n ns ih =>
    intro s
    simp only [List.map_cons, List.forIn_cons, rrun_bnd, hf, Option.bind_some, List.foldl_cons]
    exact ih _

theorem rr_bytesToString {b o len cap : Nat} {xs : List Nat} (hl : ldN h b o len = some (xs.map fun n => Value.int .u8 (n : Nat))) : rrun P (Conv.bytesToString (.slice (some ⟨b, o, none⟩) len cap)) h = some (.string (mkB xs)) := by
  unfold Conv.bytesToString
  simp only [rrun_bnd]
  rw [rr_loadCells, hl]
  simp only [Option.map_some, Option.bind_some, List.forIn_toArray, rrun_bnd]
  rw [rr_forIn_bytes _ (by intro n r; simp [rrun_pure])]
  simp [rrun_pure, mkB]

theorem rr_convert_bytes {src dst e : TypeId} {v : Value} {E : TypeId} {xs : List Nat} (hs : P.underlying src = some (.slice e)) (he : P.underlying e = some (.int .u8)) (hd : P.underlying dst = some .string) (S : SlAt h E 1 be v xs) :
    rrun P (convert src dst v) h = some (.string (mkB xs)) := by
  have key : ∀ a l c, rrun P (convert src dst (.slice a l c)) h = rrun P (Conv.bytesToString (.slice a l c)) h := by
    intro a l c
    unfold convert
    simp only [rrun_bnd, rr_underlying, hs, hd, he, Option.bind_some]
  rcases S with ⟨rfl, rfl⟩ | ⟨b, cap, c, rfl, hb, h1, h2, h3⟩
  · rw [key]; rfl
  · rw [key]
    refine rr_bytesToString ?_
    rw [ldN_of hb _ _ (by omega)]
    congr 1
    refine List.ext_getElem? fun i => ?_
    rw [List.getElem?_take, List.getElem?_map, Nat.mul_one] at *
    split
    · rename_i hi
      obtain ⟨x, hx⟩ : ∃ x, xs[i]? = some x := ⟨_, List.getElem?_eq_getElem hi⟩
      have := h3 i x hx 0 (by omega)
      rw [hx]
      simpa [be] using this
    · rename_i hi
      rw [List.getElem?_eq_none (by omega)]; rfl

theorem arun_convert_bytes {src dst e : TypeId} {v : Value} {E : TypeId} {xs : List Nat} {K : Value → Hp → Prop} (hs : P.underlying src = some (.slice e)) (he : P.underlying e = some (.int .u8)) (hd : P.underlying dst = some .string) (S : SlAt h E 1 be v xs)
    (hK : K (.string (mkB xs)) h) : arun P (convert src dst v) h K := arun_of_rrun _ (rr_convert_bytes hs he hd S) hK
end
end Go.Proofs.Ytpeoholnlokdcaa

/- Maps: taking away, how many, a look at the value alone; lists of pairs. -/
namespace Go.Proofs.Ytpeoholnlokdcaa
open Go
set_option linter.unusedSimpArgs false
set_option linter.unusedVariables false

def delM {α β : Type} [DecidableEq α] (a : α) : List (α × β) → List (α × β)
  | [] => []
  | x :: xs => if a = x.1 then xs else x :: delM a xs

def Uniq {α β : Type} (m : List (α × β)) : Prop := (m.map (·.1)).Nodup

section
variable {α β : Type} [DecidableEq α]

theorem getM_none {a : α} : ∀ {m : List (α × β)}, getM m a = none ↔ a ∉ m.map (·.1)
  | [] => by simp [getM_nil]
  | x :: xs => by
    rw [getM_cons, List.map_cons, List.mem_cons]
    split
    · rename_i h; simp [h]
    · rename_i h
      rw [getM_none (m := xs)]
      simp [h]

theorem getM_mem {a : α} {v : β} : ∀ {m : List (α × β)}, getM m a = some v → (a, v) ∈ m
  | [], h => by simp [getM_nil] at h
  | x :: xs, h => by
    rw [getM_cons] at h
    split at h
    · rename_i e; simp at h; subst h; subst e; simp
    · exact List.mem_cons_of_mem _ (getM_mem h)

theorem getM_of_mem {a : α} {v : β} : ∀ {m : List (α × β)}, Uniq m → (a, v) ∈ m → getM m a = some v
  | [], _, h => by simp at h
  | x :: xs, u, h => by
    rw [getM_cons]
    unfold Uniq at u
    rw [List.map_cons, List.nodup_cons] at u
    rcases List.mem_cons.1 h with e | e
    · rw [← e]; simp
    · have : a ≠ x.1 := fun q => u.1 (by rw [← q]; exact List.mem_map_of_mem e)
      rw [if_neg this]
      exact getM_of_mem u.2 e

theorem setM_keys {a : α} {v : β} : ∀ {m : List (α × β)}, (setM a v m).map (·.1) = if a ∈ m.map (·.1) then m.map (·.1) else m.map (·.1) ++ [a]
  | [] => by simp [setM]
  | x :: xs => by
    simp only [setM]
    split
    · rename_i e; simp [e]
    · rename_i e
      rw [List.map_cons, setM_keys]
      by_cases h : a ∈ xs.map (·.1)
      · rw [if_pos h, if_pos (by simp only [List.map_cons, List.mem_cons]; exact .inr h)]; rfl
      · rw [if_neg h, if_neg (by simp only [List.map_cons, List.mem_cons, not_or]; exact ⟨e, h⟩)]; rfl

theorem Uniq.set {a : α} {v : β} {m : List (α × β)} (u : Uniq m) : Uniq (setM a v m) := by
  unfold Uniq at *
  rw [setM_keys]
  split
  · exact u
  · rename_i h
    rw [List.nodup_append]
    refine ⟨u, by simp, fun x hx y hy => ?_⟩
    simp at hy; subst hy
    rintro rfl; exact h hx

theorem setM_length {a : α} {v : β} {m : List (α × β)} : (setM a v m).length = if (getM m a).isSome then m.length else m.length + 1 := by
  have := congrArg List.length (setM_keys (a := a) (v := v) (m := m))
  rw [List.length_map] at this
  rw [this]
  by_cases h : a ∈ m.map (·.1)
  · have h2 : getM m a ≠ none := fun q => (getM_none.1 q) h
    rw [if_pos h, if_pos (Option.isSome_iff_ne_none.2 h2), List.length_map]
  · have h2 := getM_none.2 h
    rw [if_neg h, h2]; simp

theorem delM_sub {a : α} : ∀ {m : List (α × β)}, List.Sublist (delM a m) m
  | [] => .slnil
  | x :: xs => by
    simp only [delM]
    split
    · exact List.sublist_cons_self _ _
    · exact List.Sublist.cons_cons _ delM_sub

theorem Uniq.del {a : α} {m : List (α × β)} (u : Uniq m) : Uniq (delM a m) := List.Sublist.nodup (delM_sub.map _) u

theorem getM_delM {a b : α} : ∀ {m : List (α × β)}, Uniq m → getM (delM a m) b = if b = a then none else getM m b
  | [], _ => by simp [delM, getM_nil]
  | x :: xs, u => by
    have u' := u
    unfold Uniq at u
    rw [List.map_cons, List.nodup_cons] at u
    simp only [delM]
    split
    · rename_i e
      by_cases hb : b = a
      · rw [if_pos hb, hb, e]; exact getM_none.2 u.1
      · rw [if_neg hb, getM_cons, if_neg (by rw [← e]; exact hb)]
    · rename_i e
      rw [getM_cons, getM_cons, getM_delM u.2]
      by_cases hb : b = a
      · rw [if_neg (by rw [hb]; exact e), if_pos hb, if_pos hb]
      · rw [if_neg hb]; simp [hb]

theorem delM_length {a : α} : ∀ {m : List (α × β)}, (delM a m).length = if (getM m a).isSome then m.length - 1 else m.length
  | [] => by simp [delM, getM_nil]
  | x :: xs => by
    simp only [delM]
    rw [getM_cons]
    split
    · simp
    · rw [List.length_cons, delM_length]
      cases h : getM xs a with
      | none => simp
      | some v =>
        have := getM_mem h
        have : 0 < xs.length := List.length_pos_of_mem this
        simp; omega
end

section
variable {P : Program} {h : Hp} {α β : Type} [DecidableEq α] {kenc : α → Value} {venc : β → Value}

theorem Ents.length_eq {α β : Type} {kenc : α → Value} {venc : β → Value} {es : List MapEntry} {m : List (α × β)} (H : Ents kenc venc es m) : es.length = m.length := by
  induction H with
  | nil => rfl
  | cons _ _ _ ih => simp [ih]

theorem Ents.erase {es : List MapEntry} {m : List (α × β)} (H : Ents kenc venc es m) {a : α} {v : β} {j : Nat} : findM a m 0 = some (j, v) → Ents kenc venc (es.eraseIdx j) (delM a m) := by
  have key : ∀ (es : List MapEntry) (m : List (α × β)), Ents kenc venc es m → ∀ i j, findM a m i = some (i + j, v) → Ents kenc venc (es.eraseIdx j) (delM a m) := by
    intro es m H
    induction H with
    | nil => intro i j h; cases h
    | @cons e es k v' m h1 h2 h3 ih =>
      intro i j h
      simp only [findM] at h
      split at h
      · rename_i e
        have : j = 0 := by simp only [Option.some.injEq, Prod.mk.injEq] at h; omega
        subst this
        simp only [delM, if_pos e, List.eraseIdx_zero, List.tail_cons]
        exact h3
      · rename_i hne
        have := (findM_some h).1
        obtain ⟨j', rfl⟩ : ∃ j', j = j' + 1 := ⟨j - 1, by omega⟩
        simp only [delM, if_neg hne, List.eraseIdx_cons_succ]
        exact .cons h1 h2 (ih (i + 1) j' (by rw [h]; congr 2; omega))
  intro h
  exact key es m H 0 j (by simpa using h)

theorem delM_none {α β : Type} [DecidableEq α] {a : α} : ∀ {m : List (α × β)}, getM m a = none → delM a m = m
  | [], _ => rfl
  | x :: xs, h => by
    rw [getM_cons] at h
    split at h
    · cases h
    · rename_i e
      simp only [delM, if_neg e]
      rw [delM_none h]

theorem arun_mapDelete {t kt et R : TypeId} {ts : Array TypeId} {r : Nat} {a : α} {m : List (α × β)} {K : Value → Hp → Prop} (ht : ts[0]? = some t) (hu : P.underlying t = some (.map kt et)) (M : MapAt h r kenc venc m)
    (hck : ∀ e, rrun P (Instr.checkKey e 10000 kt (kenc a)) h = some ())
    (hfk : ∀ es : List MapEntry, Ents kenc venc es m → rrun P (Instr.findKey kt (kenc a) es) h = some ((findM a m 0).map fun x => (x.1, venc x.2)))
    (hK : ∀ es clock, Ents kenc venc es.toList (delM a m) → K (.tuple #[]) (h.upd r (.map es clock))) :
    arun P (Builtin.delete_ ts R #[.map (some r), kenc a]) h K := by
  obtain ⟨es, clock, hr, hE⟩ := M
  have set : ∀ o, K (.tuple #[]) (h.upd r o) → arun P (setObj r o >>= fun _ => pure (Value.tuple #[])) h K := fun o hk => ⟨⟨_, hr, rfl⟩, hk⟩
  unfold Builtin.delete_
  rw [ht]
  simp only [List.getElem?_toArray, List.getElem?_cons_zero, List.getElem?_cons_succ]
  rw [arun_bnd_rr (a := .map kt et) (by rw [rr_underlying, hu])]
  simp only [bind_assoc, pure_bind]
  rw [arun_bnd_rr (a := .map es clock) (rr_getObj hr)]
  simp only []
  rw [arun_bnd_rr (a := ()) (hck _), arun_bnd_rr (hfk _ hE)]
  cases hf : findM a m 0 with
  | none =>
    simp only [Option.map_none]
    refine set _ (hK _ _ ?_)
    have : delM a m = m := delM_none (by unfold getM; rw [hf]; rfl)
    rw [this]; exact hE
  | some x =>
    obtain ⟨j, v⟩ := x
    simp only [Option.map_some]
    have hj := (findM_some hf).2
    have hlt : j < es.size := by
      have h1 := (List.getElem?_eq_some_iff.1 hj).1
      have h2 := hE.length_eq
      rw [Array.length_toList] at h2
      omega
    refine set _ (hK _ _ ?_)
    rw [Array.toList_eraseIdxIfInBounds]
    exact hE.erase hf

end

theorem rr_mapLen {P : Program} {h : Hp} {α β : Type} {kenc : α → Value} {venc : β → Value} {t kt et R : TypeId} {ts : Array TypeId} {r : Nat} {m : List (α × β)} (ht : ts[0]? = some t) (hu : P.underlying t = some (.map kt et)) (M : MapAt h r kenc venc m) :
    rrun P (Builtin.len_ ts R #[.map (some r)]) h = some (.int .i64 (m.length : Nat)) := by
  obtain ⟨es, clock, hr, hE⟩ := M
  unfold Builtin.len_
  rw [ht]
  simp only [List.getElem?_toArray, List.getElem?_cons_zero]
  rw [rrun_bnd, rr_underlying, hu, Option.bind_some]
  simp only []
  rw [rrun_bnd, rr_getObj hr, Option.bind_some]
  simp only [rrun_pure]
  rw [← hE.length_eq, Array.length_toList]; rfl

/-! ### Slices as sources -/
theorem SlAt.toSrc {α : Type} {h : Hp} {E sz : Nat} {enc : α → List Value} {v : Value} {xs : List α} (S : SlAt h E sz enc v xs) (hl : ∀ y ∈ xs, (enc y).length = sz ∧ ∀ u ∈ enc y, oneCell u = true) : Src h sz enc v xs := by
  refine ⟨hl, ?_⟩
  rcases S with ⟨rfl, rfl⟩ | ⟨b, cap, c, rfl, hb, h1, h2, h3⟩
  · exact .inl ⟨_, _, rfl, rfl⟩
  · exact .inr ⟨b, 0, cap, c, E, (0, 0), rfl, hb, by have := Nat.mul_le_mul_right sz h1; omega, h3⟩

theorem one_sl {α : Type} {h : Hp} {E sz : Nat} {enc : α → List Value} {b : Nat} {y : α} (hb : h b = some (.cells (enc y).toArray E (0, 0))) (hl : (enc y).length = sz) : SlAt h E sz enc (.slice (some ⟨b, 0, none⟩) 1 1) [y] := by
  refine .inr ⟨b, 1, _, rfl, hb, by simp, by simp [hl], fun i x hx j hj => ?_⟩
  have hi : i = 0 := by have := (List.getElem?_eq_some_iff.1 hx).1; simpa using this
  subst hi
  simp at hx; subst hx
  simp
end Go.Proofs.Ytpeoholnlokdcaa
