/- '==' of structs, as one Bool. -/
import Derived.Test.YtmbhlbohbpepaaaM7
namespace Go.Proofs.Ytmbhlbohbpepaaa
open Go
section
variable {P : Program} {h : Hp} {d : Nat} {xs ys : Array Value} {f : Field} {fs : List Field} {a b : Value} {r s : Bool}

theorem rr_program : rrun P program h = some P := rfl

theorem rr_equalIn_struct {t : TypeId} {fs : Array Field} (hu : P.underlying t = some (.struct fs)) (hp : P.stoodInHeld t = false) :
    rrun P (Op.equalIn (d + 1) t (.agg xs) (.agg ys)) h = rrun P (Op.eqFields d xs ys fs.toList) h := by
  simp only [Op.equalIn, rrun_bnd, rr_underlying, hu, Option.bind_some, rr_program, hp, Bool.false_eq_true, if_false]
  rw [← Array.forIn_toList]
  generalize fs.toList = l
  clear hu
  induction l with
  | nil => simp [Op.eqFields, rrun_pure]
  | cons f fs ih =>
    simp only [List.forIn_cons, Op.eqFields, rrun_bnd, rrun_ite]
    split
    · cases rrun P (part f.type xs f.offset) h with
      | none => rfl
      | some a =>
        cases rrun P (part f.type ys f.offset) h with
        | none => rfl
        | some b =>
          simp only [Option.bind_some]
          cases rrun P (Op.equalIn d f.type a b) h with
          | none => rfl
          | some r =>
            cases r
            · simp [rrun_pure]
            · simp only [Option.bind_some, Bool.not_true, Bool.false_eq_true, if_false, rrun_pure]
              exact ih
    · simp only [rrun_pure, Option.bind_some]
      exact ih

theorem rr_eqf_nil : rrun P (Op.eqFields d xs ys []) h = some true := rfl

theorem rr_eqf_cons (hn : (f.name == "_") = false) (ha : rrun P (part f.type xs f.offset) h = some a) (hb : rrun P (part f.type ys f.offset) h = some b)
    (he : rrun P (Op.equalIn d f.type a b) h = some r) (hr : rrun P (Op.eqFields d xs ys fs) h = some s) : rrun P (Op.eqFields d xs ys (f :: fs)) h = some (r && s) := by
  have hn' : f.name ≠ "_" := by simpa using hn
  rw [Op.eqFields]
  simp only [if_pos hn', rrun_bnd, ha, hb, he, Option.bind_some, rrun_ite, rrun_pure]
  cases r
  · simp
  · simpa using hr

theorem rr_eql_struct {t : TypeId} {fs : Array Field} {x y : Operand} (hu : P.underlying t = some (.struct fs)) (hp : P.stoodInHeld t = false) (hg : P.eqGuardType P.depth t = false)
    (hr : rrun P (Op.eqFields 9999 xs ys fs.toList) h = some r) : rrun P (bop .eql t x y (.agg xs) (.agg ys)) h = some (.bool r) := by
  have hgd : rrun P (eqGuard .eql t x y (.agg xs) (.agg ys)) h = some () := by
    simp [eqGuard, rrun_bnd, rr_program, hg, rrun_pure]
  unfold bop
  rw [rrun_bnd, hgd, Option.bind_some]
  have e : binOp .eql t (.agg xs) (.agg ys) = (Op.equalIn (9999 + 1) t (.agg xs) (.agg ys) >>= fun b => pure (.bool b)) := rfl
  rw [e, rrun_bnd, rr_equalIn_struct hu hp, hr]
  rfl

theorem rr_neq_struct {t : TypeId} {fs : Array Field} {x y : Operand} (hu : P.underlying t = some (.struct fs)) (hp : P.stoodInHeld t = false) (hg : P.eqGuardType P.depth t = false)
    (hr : rrun P (Op.eqFields 9999 xs ys fs.toList) h = some r) : rrun P (bop .neq t x y (.agg xs) (.agg ys)) h = some (.bool !r) := by
  have hgd : rrun P (eqGuard .neq t x y (.agg xs) (.agg ys)) h = some () := by
    simp [eqGuard, rrun_bnd, rr_program, hg, rrun_pure]
  unfold bop
  rw [rrun_bnd, hgd, Option.bind_some]
  have e : binOp .neq t (.agg xs) (.agg ys) = (Op.equalIn (9999 + 1) t (.agg xs) (.agg ys) >>= fun b => pure (.bool (!b))) := rfl
  rw [e, rrun_bnd, rr_equalIn_struct hu hp, hr]
  rfl

end
end Go.Proofs.Ytmbhlbohbpepaaa
