/- Numbers as bytes: Put32. -/
import Derived.Test.YtjcecdjbllpmcaaTG0
import Derived.Test.YtjcecdjbllpmcaaG0
import Derived.Test.YtjcecdjbllpmcaaM12
namespace Go.Proofs.Ytjcecdjbllpmcaa
open Go
set_option linter.unusedVariables false
set_option linter.unusedSimpArgs false

@[simp] theorem ms_34_4 {h : Hp} {k : Value → Hp → Prop} : arun Try.prog (Instr.makeSlice 34 (.int .i64 4) (.int .i64 4)) h k = nw h (.cells #[.int .u8 0, .int .u8 0, .int .u8 0, .int .u8 0] 5) fun b h => k (.slice (some ⟨b, 0, none⟩) 4 4) h := by kernel_rfl

def byt (n k : Nat) : Nat := n / 2 ^ (8 * k) % 256
def by4 (n : Nat) : List Nat := [byt n 3, byt n 2, byt n 1, byt n 0]

theorem wrap_u8_nat (x : Nat) : IntKind.u8.wrap (x : Int) = ((x % 256 : Nat) : Int) := by
  simp [IntKind.wrap, IntKind.signed, IntKind.bits]

theorem fdiv_nat (n k : Nat) : (n : Int).fdiv (k : Int) = ((n / k : Nat) : Int) := by
  rw [Int.fdiv_eq_ediv_of_nonneg _ (by omega)]; simp

def P32Inv (g0 : Hp) (n b : Nat) (m : Nat) (env : Env) (g : Hp) : Prop :=
  ∃ i a0 a1 a2 a3, env 0 = .int .u32 (n : Nat) ∧ env 1 = .int .i64 4 ∧ env 5 = .slice (some ⟨b, 0, none⟩) 4 4 ∧ env 9 = .int .i64 4 ∧ env 10 = .int .i64 (i : Nat) ∧ i + m = 4 ∧
    g = g0.upd b (.cells #[.int .u8 (a3 : Nat), .int .u8 (a2 : Nat), .int .u8 (a1 : Nat), .int .u8 (a0 : Nat)] 5) ∧ (1 ≤ i → a0 = byt n 0) ∧ (2 ≤ i → a1 = byt n 1) ∧ (3 ≤ i → a2 = byt n 2) ∧ (4 ≤ i → a3 = byt n 3)

theorem put4_spec {n : Nat} {h : Hp} {Q : Value → Hp → Prop} (hn : n < 2 ^ 32)
    (hQ : ∀ b, h b = none → Q (.slice (some ⟨b, 0, none⟩) 4 4) (h.upd b (.cells #[.int .u8 (byt n 3 : Nat), .int .u8 (byt n 2 : Nat), .int .u8 (byt n 1 : Nat), .int .u8 (byt n 0 : Nat)] 5))) :
    Ok Try.prog F_num_put #[.int .u32 (n : Nat), .int .i64 4] h Q := by
  refine num_put_ok (by simp) ?_
  unfold num_put_D
  simp (disch := omega) [num_put_r0, num_put_r1]
  intro b hb
  simp (disch := omega) [num_put_r2]
  refine ⟨P32Inv h n b, ⟨4, 0, 0, 0, 0, 0, by simp, by simp, by simp, by simp, by simp, by omega, by simp, by omega, by omega, by omega, by omega⟩, ?_⟩
  rintro m env g ⟨i, a0, a1, a2, a3, e0, e1, e5, e9, e10, him, rfl, q0, q1, q2, q3⟩
  unfold num_put_L0
  by_cases hm : m = 0
  · have : i = 4 := by omega
    subst this
    simp (disch := omega) [num_put_r3, num_put_r7, e0, e1, e5, e9, e10]
    rw [q0 (by omega), q1 (by omega), q2 (by omega), q3 (by omega)]
    exact .to _ (.refl _) (hQ b hb)
  · obtain ⟨m, rfl⟩ : ∃ k, m = k + 1 := ⟨m - 1, by omega⟩
    have hic : i = 0 ∨ i = 1 ∨ i = 2 ∨ i = 3 := by omega
    rcases hic with rfl | rfl | rfl | rfl
    · simp (disch := omega) [num_put_r3, num_put_r4, num_put_r5, num_put_r6, e0, e1, e5, e9, e10, wrap_i64, wrap_u8_nat]
      exact ⟨m, by omega, 1, byt n 0, a1, a2, a3, by simp [e0], by simp [e1], by simp [e5], by simp [e9], by simp, by omega, by simp [byt], by simp, by omega, by omega, by omega⟩
    · have f : IntKind.u8.wrap ((n : Int).fdiv 256) = ((byt n 1 : Nat) : Int) := by rw [show (256 : Int) = ((256 : Nat) : Int) from rfl, fdiv_nat, wrap_u8_nat]; rfl
      simp (disch := omega) [num_put_r3, num_put_r4, num_put_r5, num_put_r6, e0, e1, e5, e9, e10, wrap_i64, f]
      exact ⟨m, by omega, 2, a0, byt n 1, a2, a3, by simp [e0], by simp [e1], by simp [e5], by simp [e9], by simp, by omega, by simp, fun _ => q0 (by omega), by simp, by omega, by omega⟩
    · have f : IntKind.u8.wrap ((n : Int).fdiv 65536) = ((byt n 2 : Nat) : Int) := by rw [show (65536 : Int) = ((65536 : Nat) : Int) from rfl, fdiv_nat, wrap_u8_nat]; rfl
      simp (disch := omega) [num_put_r3, num_put_r4, num_put_r5, num_put_r6, e0, e1, e5, e9, e10, wrap_i64, f]
      exact ⟨m, by omega, 3, a0, a1, byt n 2, a3, by simp [e0], by simp [e1], by simp [e5], by simp [e9], by simp, by omega, by simp, fun _ => q0 (by omega), fun _ => q1 (by omega), by simp, by omega⟩
    · have f : IntKind.u8.wrap ((n : Int).fdiv 16777216) = ((byt n 3 : Nat) : Int) := by rw [show (16777216 : Int) = ((16777216 : Nat) : Int) from rfl, fdiv_nat, wrap_u8_nat]; rfl
      simp (disch := omega) [num_put_r3, num_put_r4, num_put_r5, num_put_r6, e0, e1, e5, e9, e10, wrap_i64, f]
      exact ⟨m, by omega, 4, a0, a1, a2, byt n 3, by simp [e0], by simp [e1], by simp [e5], by simp [e9], by simp, by omega, by simp, fun _ => q0 (by omega), fun _ => q1 (by omega), fun _ => q2 (by omega), by simp⟩

theorem put32_spec {n : Nat} {h : Hp} {Q : Value → Hp → Prop} (hn : n < 2 ^ 32)
    (hQ : ∀ b, h b = none → Q (.slice (some ⟨b, 0, none⟩) 4 4) (h.upd b (.cells #[.int .u8 (byt n 3 : Nat), .int .u8 (byt n 2 : Nat), .int .u8 (byt n 1 : Nat), .int .u8 (byt n 0 : Nat)] 5))) :
    Ok Try.prog F_num_Put32 #[.int .u32 (n : Nat)] h Q := by
  refine num_Put32_ok (by simp) ?_
  unfold num_Put32_D
  simp (disch := omega) [num_Put32_r0, num_Put32_r1]
  refine put4_spec hn (fun b hb => ?_)
  exact .to _ (.refl _) (hQ b hb)
end Go.Proofs.Ytjcecdjbllpmcaa
