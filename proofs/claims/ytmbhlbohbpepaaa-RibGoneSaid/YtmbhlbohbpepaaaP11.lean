/- The table's answers: Best, Find, All. -/
import Derived.Test.YtmbhlbohbpepaaaP10
namespace Go.Proofs.Ytmbhlbohbpepaaa
open Go
set_option linter.unusedSimpArgs false
set_option linter.unusedVariables false

def bestR (m : List (RK × Rt)) (a : Nat) (l : Int) : Option Rt := bestL (ofN m a l 16)
def findR (m : List (RK × Rt)) (T : PL) (addr : Nat) : Option Rt := match findL T addr with | none => none | some p => bestR m p.1.1 (p.1.2 : Nat)
def allR (m : List (RK × Rt)) (T : List (Nat × Nat)) : List Rt := T.flatMap fun p => ofN m p.1 (p.2 : Nat) 16

theorem ofN_mem {m : List (RK × Rt)} {a : Nat} {l : Int} {n : Nat} {x : Rt} (h : x ∈ ofN m a l n) : ∃ d : Nat, d < n ∧ getM m ((a, l), (d : Int)) = some x := by
  unfold ofN at h
  obtain ⟨d, hd, e⟩ := List.mem_filterMap.1 h
  exact ⟨d, List.mem_range.1 hd, e⟩

theorem RInv.good {m : List (RK × Rt)} {T : PL} (R : RInv m T) {a : Nat} {l : Int} {n : Nat} {x : Rt} (h : x ∈ ofN m a l n) : x.Good := by
  obtain ⟨d, _, e⟩ := ofN_mem h
  exact (R.key _ (getM_mem e)).2.2

section
variable {h : Hp} {r : Nat} {most rf : Int} {m : List (RK × Rt)} {T : PL} {k : Nat} {O : List Nat} {a : Nat} {l : Int} {Q : Value → Hp → Prop}

set_option maxRecDepth 20000 in
set_option maxHeartbeats 2000000 in
theorem rbestM (M : RibM h r most rf m T k O) (hQ : ∀ h', Le h h' → Q (.tuple #[rv ((bestR m a l).getD rz), .bool (bestR m a l).isSome]) h') :
    Ok Try.prog F_rib_Rib_Best #[.pointer (some ⟨r, 0, none⟩), .agg #[.int .u32 (a : Nat), .int .i64 l]] h Q := by
  refine rib_Rib_Best_ok (by simp) ?_
  unfold rib_Rib_Best_D
  simp (disch := omega) [rib_Rib_Best_r0]
  intro b3 hb3 b4 hb4
  obtain ⟨n43, hb4'⟩ := upd_none hb4
  have L1 : Le h ((h.upd b3 (.cells #[.int .u32 (a : Nat), .int .i64 l] 24)).upd b4 (.cells #[.int .u32 0, .int .i64 0, .int .i64 0, .int .i64 0, .int .i64 0, .int .i64 0, .int .u16 0] 27)) := (Le.new hb3).trans (Le.new hb4)
  have f3 : ((h.upd b3 (.cells #[.int .u32 (a : Nat), .int .i64 l] 24)).upd b4 (.cells #[.int .u32 0, .int .i64 0, .int .i64 0, .int .i64 0, .int .i64 0, .int .i64 0, .int .u16 0] 27)) b3 = some (.cells #[.int .u32 (a : Nat), .int .i64 l] 24) := by rw [upd_ne (Ne.symm n43), upd_same]
  have f4 : ((h.upd b3 (.cells #[.int .u32 (a : Nat), .int .i64 l] 24)).upd b4 (.cells #[.int .u32 0, .int .i64 0, .int .i64 0, .int .i64 0, .int .i64 0, .int .i64 0, .int .u16 0] 27)) b4 = some (rcl rz) := upd_same
  generalize (h.upd b3 (.cells #[.int .u32 (a : Nat), .int .i64 l] 24)).upd b4 (.cells #[.int .u32 0, .int .i64 0, .int .i64 0, .int .i64 0, .int .i64 0, .int .i64 0, .int .u16 0] 27) = g1 at *
  have M1 := M.le L1
  simp (disch := omega) [rib_Rib_Best_r1, f3]
  refine rofM M1 (fun v g2 l2 S nv => ?_)
  replace f4 := l2 _ _ f4
  have hlen := ofN_length m a l 16
  unfold bestR at hQ
  cases hL : ofN m a l 16 with
  | nil =>
    rw [hL] at S hQ
    obtain ⟨p, cap, hv⟩ := S.shape'
    simp only [List.length_nil] at hv
    subst hv
    simp only [bestL, Option.getD_none, Option.isSome_none] at hQ
    simp (disch := omega) [rib_Rib_Best_r2, rib_Rib_Best_r3]
    rw [stA_of (vals := [.int .u32 0, .int .i64 0, .int .i64 0, .int .i64 0, .int .i64 0, .int .i64 0, .int .u16 0]) f4 rfl rfl]
    simp (disch := omega)
    exact .to h (Le.put (L1.trans l2) hb4') (hQ _ (.refl _))
  | cons x xs =>
    rw [hL] at S hQ hlen
    obtain ⟨p, cap, hv⟩ := S.shape'
    rw [List.length_cons] at hv hlen
    subst hv
    simp only [bestL, Option.getD_some, Option.isSome_some] at hQ
    have h0 : ¬ ((xs.length + 1 : Nat) : Int) = 0 := by omega
    have h0' : ¬ ((xs.length : Nat) : Int) + 1 = 0 := by omega
    simp (disch := omega) [rib_Rib_Best_r2, rib_Rib_Best_r4, h0, h0']
    refine min_spec S (fun y hy => M.inv.good (a := a) (l := l) (n := 16) (by rw [hL]; exact hy)) (by omega) (fun g3 l3 => ?_)
    replace f4 := l3 _ _ f4
    simp (disch := omega)
    rw [stA_of (vals := rls (minR x xs)) f4 rfl rfl]
    simp (disch := omega)
    exact .to h (Le.put ((L1.trans l2).trans l3) hb4') (hQ _ (.refl _))
end
end Go.Proofs.Ytmbhlbohbpepaaa
