/- The table in memory: its map, its trie. -/
import Derived.Test.YtmbhlbohbpepaaaP3
import Derived.Test.YtmbhlbohbpepaaaM15
namespace Go.Proofs.Ytmbhlbohbpepaaa
open Go
set_option linter.unusedSimpArgs false
set_option linter.unusedVariables false

abbrev RK := (Nat × Int) × Int
def rk (p : RK) : Value := .agg #[.int .u32 (p.1.1 : Nat), .int .i64 p.1.2, .int .i64 p.2]
def rve (x : Rt) : Value := rv x
def Rt.key (x : Rt) : RK := ((x.a, x.l), x.d)

theorem rk_eq {h : Hp} {p q : RK} : rrun Try.prog (Op.equal 65 (rk p) (rk q)) h = some (decide (p = q)) := by
  unfold rk
  rw [keq_59]
  congr 1
  rw [Bool.eq_iff_iff]
  simp only [Bool.and_true, Bool.and_eq_true, decide_eq_true_eq, Prod.ext_iff]
  omega

theorem rk_find {h : Hp} {p : RK} {m : List (RK × Rt)} {es : List MapEntry} (H : Ents rk rve es m) : rrun Try.prog (Instr.findKey 65 (rk p) es) h = some ((findM p m 0).map fun x => (x.1, rve x.2)) :=
  rr_findKey_struct Try.underlying65 (fun q => rk_eq) H

def rz : Rt := ⟨0, 0, 0, 0, 0, 0, 0⟩
theorem rk_look {h : Hp} {r : Nat} {p : RK} {m : List (RK × Rt)} (M : MapAt h r rk rve m) :
    rrun Try.prog (Instr.lookup 59 (.map (some r)) (.agg #[.int .u32 (p.1.1 : Nat), .int .i64 p.1.2, .int .i64 p.2]) true) h = some (.tuple #[rv ((getM m p).getD rz), .bool (getM m p).isSome]) := by
  have := rr_lookup (a := p) (z := rv rz) Try.underlying59 M (fun e => ck_59) (fun es H => rk_find H) (by kernel_rfl)
  unfold rk at this
  rw [this]
  cases getM m p <;> simp [rve]

theorem rk_put {h : Hp} {r : Nat} {a : Nat} {l d : Int} {x : Rt} {m : List (RK × Rt)} {K : Unit → Hp → Prop} (M : MapAt h r rk rve m) (hK : ∀ es clock, Ents rk rve es.toList (setM ((a, l), d) x m) → K () (h.upd r (.map es clock))) :
    arun Try.prog (Instr.mapUpdate 59 (.map (some r)) (.agg #[.int .u32 a, .int .i64 l, .int .i64 d]) (rv x)) h K :=
  arun_mapUpdate (a := ((a, l), d)) (v := x) (kenc := rk) (venc := rve) Try.underlying59 M (fun e => ck_59) (fun es H => rk_find H) sb_59 hK

theorem rk_del {h : Hp} {r : Nat} {a : Nat} {l d : Int} {m : List (RK × Rt)} {K : Value → Hp → Prop} (M : MapAt h r rk rve m) (hK : ∀ es clock, Ents rk rve es.toList (delM ((a, l), d) m) → K (.tuple #[]) (h.upd r (.map es clock))) :
    arun Try.prog (Builtin.delete_ #[59, 65] 0 #[.map (some r), .agg #[.int .u32 a, .int .i64 l, .int .i64 d]]) h K :=
  arun_mapDelete (a := ((a, l), d)) (kenc := rk) (venc := rve) rfl Try.underlying59 M (fun e => ck_59) (fun es H => rk_find H) hK

theorem rk_len {h : Hp} {r : Nat} {m : List (RK × Rt)} {R : TypeId} (M : MapAt h r rk rve m) : rrun Try.prog (Builtin.len_ #[59] R #[.map (some r)]) h = some (.int .i64 (m.length : Nat)) :=
  rr_mapLen (kenc := rk) (venc := rve) rfl Try.underlying59 M
end Go.Proofs.Ytmbhlbohbpepaaa
