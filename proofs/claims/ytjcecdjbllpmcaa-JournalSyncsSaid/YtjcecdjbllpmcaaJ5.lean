/- The journal's map: its keys. -/
import Derived.Test.YtjcecdjbllpmcaaJ4
namespace Go.Proofs.Ytjcecdjbllpmcaa
open Go
set_option linter.unusedVariables false
set_option linter.unusedSimpArgs false

def nke (p : Int × Nat) : Value := .agg #[.int .i64 p.1, .int .u32 (p.2 : Nat)]
def nve (v : Nat) : Value := .int .u32 (v : Nat)

theorem ck_55 {h : Hp} {e : Bool} {p : Int × Nat} : rrun Try.prog (Instr.checkKey e 10000 55 (nke p)) h = some () := by kernel_rfl
theorem sb_55 {p : Int × Nat} : Instr.sameBits 10000 (nke p) (nke p) = true := by
  simp [nke, Instr.sameBits]

theorem eq_55 {h : Hp} {p q : Int × Nat} : rrun Try.prog (Op.equal 55 (nke p) (nke q)) h = some (decide (p.1 = q.1) && (decide ((p.2 : Int) = (q.2 : Int)) && true)) := by
  have e : Op.equal 55 (nke p) (nke q) = Op.equalIn (9999 + 1) 55 (nke p) (nke q) := rfl
  rw [e]
  unfold nke
  rw [rr_equalIn_struct Try.underlying55 (by kernel_rfl)]
  exact rr_eqf_cons (a := Value.int .i64 p.1) (b := Value.int .i64 q.1) (by rfl) (by kernel_rfl) (by kernel_rfl) (by kernel_rfl) (rr_eqf_cons (a := Value.int .u32 (p.2 : Nat)) (b := Value.int .u32 (q.2 : Nat)) (by rfl) (by kernel_rfl) (by kernel_rfl) (by kernel_rfl) rr_eqf_nil)

theorem eq_55' {h : Hp} {p q : Int × Nat} : rrun Try.prog (Op.equal 55 (nke p) (nke q)) h = some (decide (p = q)) := by
  rw [eq_55]
  congr 1
  rw [Bool.eq_iff_iff]
  simp only [Bool.and_true, Bool.and_eq_true, decide_eq_true_eq, Prod.ext_iff]
  omega

theorem fk_55 {h : Hp} {p : Int × Nat} {m : List ((Int × Nat) × Nat)} {es : List MapEntry} (H : Ents nke nve es m) : rrun Try.prog (Instr.findKey 55 (nke p) es) h = some ((findM p m 0).map fun x => (x.1, nve x.2)) :=
  rr_findKey_struct Try.underlying55 (fun q => eq_55') H
end Go.Proofs.Ytjcecdjbllpmcaa
