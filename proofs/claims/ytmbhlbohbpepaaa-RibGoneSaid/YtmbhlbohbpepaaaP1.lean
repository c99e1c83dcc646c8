/- Tags' depths, comparing numbers, comparing routes: what these functions answer. -/
import Derived.Test.YtmbhlbohbpepaaaA10
import Derived.Test.YtmbhlbohbpepaaaM14
namespace Go.Proofs.Ytmbhlbohbpepaaa
open Go
set_option linter.unusedSimpArgs false
set_option linter.unusedVariables false

theorem and_pred_lt {t : Nat} (h : t ≠ 0) : t &&& (t - 1) < t := by
  have := Nat.and_le_right (n := t) (m := t - 1); omega

def dep (t : Nat) : Nat := if h : t = 0 then 0 else dep (t &&& (t - 1)) + 1
termination_by t
decreasing_by exact and_pred_lt h

theorem dep_zero : dep 0 = 0 := by unfold dep; rfl
theorem dep_pos {t : Nat} (h : t ≠ 0) : dep t = dep (t &&& (t - 1)) + 1 := by rw [dep, dif_neg h]

def rdep (t : Nat) : Nat := if h : t = 0 then 0 else t % 2 + rdep (t / 2)
termination_by t
decreasing_by omega

theorem rdep_zero : rdep 0 = 0 := by unfold rdep; rfl
theorem rdep_pos {t : Nat} (h : t ≠ 0) : rdep t = t % 2 + rdep (t / 2) := by rw [rdep, dif_neg h]

theorem dep_even (k : Nat) : dep (2 * k) = dep k := by
  induction k using Nat.strongRecOn with
  | ind k ih =>
    by_cases hk : k = 0
    · subst hk; rfl
    · rw [dep_pos (t := 2 * k) (by omega), dep_pos hk]
      have e : (2 * k) &&& (2 * k - 1) = 2 * (k &&& (k - 1)) := by
        apply Nat.eq_of_testBit_eq
        intro i
        cases i with
        | zero => simp [Nat.testBit_zero]
        | succ i =>
          rw [Nat.testBit_and, Nat.testBit_succ, Nat.testBit_succ, Nat.testBit_succ, Nat.mul_div_cancel_left _ (by omega), Nat.mul_div_cancel_left _ (by omega), Nat.testBit_and]
          rw [show (2 * k - 1) / 2 = k - 1 by omega]
      rw [e, ih _ (and_pred_lt hk)]

theorem dep_odd (k : Nat) : dep (2 * k + 1) = dep k + 1 := by
  rw [dep_pos (t := 2 * k + 1) (by omega)]
  have e : (2 * k + 1) &&& (2 * k + 1 - 1) = 2 * k := by
    apply Nat.eq_of_testBit_eq
    intro i
    cases i with
    | zero => simp [Nat.testBit_zero]
    | succ i => rw [Nat.testBit_and, Nat.testBit_succ, Nat.testBit_succ, show (2 * k + 1) / 2 = k by omega, show (2 * k + 1 - 1) / 2 = k by omega, Bool.and_self, show (2 * k).testBit (i + 1) = k.testBit i by rw [Nat.testBit_succ, show 2 * k / 2 = k by omega]]
  rw [e, dep_even]

theorem rdep_eq (t : Nat) : rdep t = dep t := by
  induction t using Nat.strongRecOn with
  | ind t ih =>
    by_cases h : t = 0
    · subst h; rw [rdep_zero, dep_zero]
    · rw [rdep_pos h, ih _ (by omega)]
      rcases Nat.mod_two_eq_zero_or_one t with e | e
      · have := dep_even (t / 2); rw [show 2 * (t / 2) = t by omega] at this; omega
      · have := dep_odd (t / 2); rw [show 2 * (t / 2) + 1 = t by omega] at this; omega

theorem dep_le (t : Nat) : dep t ≤ t := by
  induction t using Nat.strongRecOn with
  | ind t ih =>
    by_cases h : t = 0
    · subst h; simp [dep_zero]
    · rw [dep_pos h]
      have := ih _ (and_pred_lt h)
      have := and_pred_lt h
      omega

theorem bits_and_u16 {a b : Nat} (ha : a < 2 ^ 16) (hb : b < 2 ^ 16) : bits_and .u16 (a : Int) (b : Int) = ((a &&& b : Nat) : Int) := by
  have h : (BitVec.ofInt 16 (a : Int) &&& BitVec.ofInt 16 (b : Int)).toNat = a &&& b := by
    simp [BitVec.ofInt_natCast, BitVec.toNat_and, Nat.mod_eq_of_lt ha, Nat.mod_eq_of_lt hb]
  show IntKind.u16.wrap ((BitVec.ofInt 16 (a : Int) &&& BitVec.ofInt 16 (b : Int)).toNat : Nat) = _
  rw [h]
  have := Nat.and_le_left (n := a) (m := b)
  simp [IntKind.wrap, IntKind.signed, IntKind.bits]
  omega

def DepInv (h0 : Hp) (t : Nat) (m : Nat) (env : Env) (g : Hp) : Prop :=
  g = h0 ∧ ∃ n : Nat, m < 2 ^ 16 ∧ env 0 = .int .u16 (m : Nat) ∧ env 3 = .int .i64 (n : Nat) ∧ n + dep m = dep t ∧ n + m ≤ t

theorem depth_spec {t : Nat} {h : Hp} {Q : Value → Hp → Prop} (ht : t < 2 ^ 16) (hQ : Q (.int .i64 (dep t : Nat)) h) : Ok Try.prog F_tags_Depth #[.int .u16 (t : Nat)] h Q := by
  refine tags_Depth_ok (by simp) ?_
  unfold tags_Depth_D
  simp (disch := omega) [tags_Depth_r0]
  refine scp_one tags_Depth_S0_lab0 rfl (DepInv h t) ?_ ?_
  · intro K hK
    simp (disch := omega) [tags_Depth_r1]
    exact hK t _ _ ⟨rfl, 0, ht, by simp, by simp, by omega, by omega⟩
  · rintro m env g ⟨rfl, n, hm, e0, e3, hd, hle⟩
    unfold tags_Depth_S0_at0
    by_cases h0 : m = 0
    · subst h0
      simp (disch := omega) [tags_Depth_r2, tags_Depth_r5, e0, e3]
      rw [dep_zero] at hd
      rw [show n = dep t by omega]
      exact .to _ (.refl _) hQ
    · have h0' : ¬ (m : Int) = 0 := by omega
      have w : IntKind.u16.wrap ((m : Int) - 1) = ((m - 1 : Nat) : Int) := by
        simp [IntKind.wrap, IntKind.signed, IntKind.bits]; omega
      have w2 := bits_and_u16 (a := m) (b := m - 1) hm (by omega)
      have lt := and_pred_lt h0
      simp (disch := omega) [tags_Depth_r2, tags_Depth_r3, tags_Depth_r4, e0, e3, h0, w, w2, wrap_i64]
      exact ⟨m &&& (m - 1), lt, rfl, n + 1, by omega, by simp, by simp, by rw [← hd, dep_pos h0]; omega, by omega⟩

def RdepInv (h0 : Hp) (t : Nat) (m : Nat) (env : Env) (g : Hp) : Prop :=
  g = h0 ∧ ∃ n : Nat, env 4 = .int .i64 (m : Nat) ∧ env 3 = .int .i64 (n : Nat) ∧ n + rdep m = rdep t ∧ n + m ≤ t

theorem rdepth_spec {t : Nat} {h : Hp} {Q : Value → Hp → Prop} (ht : t < 2 ^ 16) (hQ : Q (.int .i64 (dep t : Nat)) h) : Ok Try.prog F_octroiref03_Depth #[.int .u16 (t : Nat)] h Q := by
  refine octroiref03_Depth_ok (by simp) ?_
  unfold octroiref03_Depth_D
  simp (disch := omega) [octroiref03_Depth_r0, octroiref03_Depth_r1, octroiref03_Depth_r2, wrap_i64]
  refine ⟨RdepInv h t, ⟨t, rfl, 0, by simp, by simp, by omega, by omega⟩, ?_⟩
  rintro m env g ⟨rfl, n, e4, e3, hd, hle⟩
  unfold octroiref03_Depth_L0
  by_cases h0 : m = 0
  · subst h0
    simp (disch := omega) [octroiref03_Depth_r3, octroiref03_Depth_r6, e3, e4]
    rw [rdep_zero] at hd
    rw [show n = dep t by rw [← rdep_eq]; omega]
    exact .to _ (.refl _) hQ
  · have h0' : 0 < m := by omega
    have w1 : (m : Int).tmod 2 = ((m % 2 : Nat) : Int) := rfl
    have w2 : (m : Int).tdiv 2 = ((m / 2 : Nat) : Int) := rfl
    have b1 : (m : Int) % 2 = ((m % 2 : Nat) : Int) := by omega
    simp (disch := omega) [octroiref03_Depth_r3, octroiref03_Depth_r4, octroiref03_Depth_r5, e3, e4, h0', w1, w2, wrap_i64]
    refine ⟨m / 2, by omega, rfl, n + m % 2, by simp, by simp, ?_, by omega⟩
    rw [← hd, rdep_pos h0]; omega
end Go.Proofs.Ytmbhlbohbpepaaa
