/- The document's own words on prefixes: Mask, May, Less, Has. -/
import Derived.Test.YtmbhlbohbpepaaaA10
import Derived.Test.YtmbhlbohbpepaaaM10
namespace Go.Proofs.Ytmbhlbohbpepaaa
open Go
set_option linter.unusedSimpArgs false

def MaskInv (n : Nat) (g0 : Hp) (m : Nat) (env : Env) (g : Hp) : Prop :=
  ∃ i, g = g0 ∧ env 0 = .int .i64 (n : Nat) ∧ env 3 = .int .u32 (msk i : Nat) ∧ (∃ w : Nat, w = 2 ^ 31 / 2 ^ i ∧ env 4 = .int .u32 (w : Nat)) ∧ env 5 = .int .i64 (i : Nat) ∧ i + m = n

theorem msk_step {i : Nat} (h : i < 32) : msk (i + 1) = msk i + 2 ^ 31 / 2 ^ i ∧ msk (i + 1) < 2 ^ 32 ∧ 2 ^ 31 / 2 ^ i < 2 ^ 32 ∧ 2 ^ 31 / 2 ^ (i + 1) = 2 ^ 31 / 2 ^ i / 2 := by
  have key : ∀ k : Fin 32, msk (k.1 + 1) = msk k.1 + 2 ^ 31 / 2 ^ k.1 ∧ msk (k.1 + 1) < 2 ^ 32 ∧ 2 ^ 31 / 2 ^ k.1 < 2 ^ 32 ∧ 2 ^ 31 / 2 ^ (k.1 + 1) = 2 ^ 31 / 2 ^ k.1 / 2 := by decide
  exact key ⟨i, h⟩

theorem rmask_spec {n : Nat} {h : Hp} {Q : Value → Hp → Prop} (hn : n ≤ 32) (hQ : Q (.int .u32 (msk n : Nat)) h) : Ok Try.prog F_octroiref02_Mask #[.int .i64 (n : Nat)] h Q := by
  refine octroiref02_Mask_ok (by simp) ?_
  unfold octroiref02_Mask_D
  simp (disch := omega) [octroiref02_Mask_r0, octroiref02_Mask_r1, octroiref02_Mask_r2, octroiref02_Mask_r3]
  refine ⟨MaskInv n h, ⟨n, 0, rfl, by simp, by simp [msk], ⟨2 ^ 31, by decide, by simp⟩, by simp, by omega⟩, ?_⟩
  rintro m env g ⟨i, rfl, e0, e3, ⟨w, hw, e4⟩, e5, him⟩
  unfold octroiref02_Mask_L0
  by_cases hm : m = 0
  · have hin : i = n := by omega
    subst hin
    simp (disch := omega) [octroiref02_Mask_r4, octroiref02_Mask_r8, e0, e3, e4, e5]
    exact .to _ (.refl _) hQ
  · obtain ⟨m, rfl⟩ : ∃ k, m = k + 1 := ⟨m - 1, by omega⟩
    have hlt : i < n := by omega
    have h32 : i < 32 := by omega
    obtain ⟨k1, k2, k3, k4⟩ := msk_step h32
    rw [← hw] at k1 k3 k4
    have h32' : (i : Int) < 32 := by omega
    have w1 : IntKind.u32.wrap ((msk i : Int) + (w : Int)) = (msk (i + 1) : Nat) := by
      rw [wrap_u32 (by omega) (by omega)]; omega
    have w2 : IntKind.u32.wrap ((w : Int).tdiv 2) = ((w / 2 : Nat) : Int) := by
      have e : (w : Int).tdiv 2 = ((w / 2 : Nat) : Int) := by rw [Int.tdiv_eq_ediv_of_nonneg (by omega)]; omega
      rw [e, wrap_u32 (by omega) (by omega)]
    simp (disch := omega) [octroiref02_Mask_r4, octroiref02_Mask_r5, octroiref02_Mask_r6, octroiref02_Mask_r7, e0, e3, e4, e5, hlt, h32, h32', w1, w2, wrap_i64]
    exact ⟨m, by omega, i + 1, rfl, by simp [e0], by simp, ⟨w / 2, k4.symm, by simp; rw [wrap_u32 (by omega) (by omega)]⟩, by simp, by omega⟩

theorem cast_eq (q a : Nat) : decide (q = a) = decide ((q : Int) = (a : Int)) := by
  rw [Bool.eq_iff_iff]; simp only [decide_eq_true_eq]; omega

theorem rmay_spec {a : Nat} {n : Int} {h : Hp} {Q : Value → Hp → Prop} (ha : a < 2 ^ 32) (hQ : Q (.bool (mayB a n)) h) : Ok Try.prog F_octroiref02_May #[.agg #[.int .u32 a, .int .i64 n]] h Q := by
  refine octroiref02_May_ok (by simp) ?_
  unfold octroiref02_May_D
  simp (disch := omega) [octroiref02_May_r0]
  intro b hb
  by_cases h0 : 0 ≤ n
  · by_cases h1 : n ≤ 32
    · obtain ⟨m, rfl⟩ := Int.eq_ofNat_of_zero_le h0
      simp (disch := omega) [octroiref02_May_r1, h0, h1]
      refine rmask_spec (by omega) ?_
      have hm := msk_lt m
      have hand := bits_and_u32 ha hm
      rw [and_msk ha (by omega)] at hand
      have hdec : decide (a / 2 ^ (32 - m) * 2 ^ (32 - m) = a) = mayB a (m : Int) := by
        rw [mayB_eq (by omega), Bool.eq_iff_iff]
        simp only [decide_eq_true_eq]
        have := Nat.div_add_mod a (2 ^ (32 - m))
        rw [Nat.mul_comm] at this
        rw [← cast_mod]
        omega
      generalize a / 2 ^ (32 - m) * 2 ^ (32 - m) = q at *
      simp (disch := omega) [hand]
      refine .to h (.new hb) ?_
      rw [← hdec] at hQ
      rw [cast_eq q a] at hQ
      exact hQ
    · simp (disch := omega) [octroiref02_May_r1, h0, h1]
      refine .to h (.new hb) ?_
      simpa [mayB, h0, h1] using hQ
  · simp (disch := omega) [octroiref02_May_r1, h0]
    refine .to h (.new hb) ?_
    simpa [mayB, h0] using hQ

theorem rless_spec {a b : Nat} {n m : Int} {h : Hp} {Q : Value → Hp → Prop} (hQ : Q (.bool (decide (a < b) || (decide (a = b) && decide (n < m)))) h) :
    Ok Try.prog F_octroiref02_Less #[.agg #[.int .u32 a, .int .i64 n], .agg #[.int .u32 b, .int .i64 m]] h Q := by
  refine octroiref02_Less_ok (by simp) ?_
  unfold octroiref02_Less_D
  simp (disch := omega) [octroiref02_Less_r0]
  intro b1 hb1 b2 hb2
  have hne := upd_none hb2
  by_cases h1 : a < b
  · simp (disch := omega) [octroiref02_Less_r1, hne.1, Ne.symm hne.1, h1]
    exact .to h ((Le.new hb1).trans (.new hb2)) (by simpa [h1] using hQ)
  · by_cases h2 : a = b
    · subst h2
      simp (disch := omega) [octroiref02_Less_r1, hne.1, Ne.symm hne.1]
      exact .to h ((Le.new hb1).trans (.new hb2)) (by simpa using hQ)
    · have h2' : ¬ (a : Int) = (b : Int) := by omega
      simp (disch := omega) [octroiref02_Less_r1, hne.1, Ne.symm hne.1, h1, h2, h2']
      exact .to h ((Le.new hb1).trans (.new hb2)) (by simpa [h1, h2] using hQ)

theorem rhas_spec {a : Nat} {n : Int} {x : Nat} {h : Hp} {Q : Value → Hp → Prop} (ha : a < 2 ^ 32) (hx : x < 2 ^ 32) (hQ : Q (.bool (mayB a n && hasB (a, n.toNat) x)) h) :
    Ok Try.prog F_octroiref02_Has #[.agg #[.int .u32 a, .int .i64 n], .int .u32 x] h Q := by
  refine octroiref02_Has_ok (by simp) ?_
  unfold octroiref02_Has_D
  simp (disch := omega) [octroiref02_Has_r0]
  intro b hb
  simp (disch := omega) [octroiref02_Has_r1]
  have hbb : (h.upd b (.cells #[.int .u32 a, .int .i64 n] 24)) b = some (.cells #[.int .u32 a, .int .i64 n] 24) := by simp
  have l : Le h (h.upd b (.cells #[.int .u32 a, .int .i64 n] 24)) := .new hb
  generalize h.upd b (.cells #[.int .u32 a, .int .i64 n] 24) = g at *
  refine rmay_spec ha ?_
  cases hm : mayB a n with
  | false =>
    simp (disch := omega) [octroiref02_Has_r2, hbb]
    exact .to h l (by simpa [hm] using hQ)
  | true =>
    obtain ⟨h0, h32⟩ := mayB_le hm
    obtain ⟨m, rfl⟩ := Int.eq_ofNat_of_zero_le h0
    simp (disch := omega) [octroiref02_Has_r2, hbb]
    refine rmask_spec (by omega) ?_
    have hand := bits_and_u32 hx (msk_lt m)
    rw [and_msk hx (by omega)] at hand
    have hdec : decide (x / 2 ^ (32 - m) * 2 ^ (32 - m) = a) = hasB (a, m) x := by
      unfold hasB
      have ha2 : a % 2 ^ (32 - m) = 0 := by
        have := (mayB_pok ha hm).1.m
        simpa using this
      have := Nat.div_add_mod a (2 ^ (32 - m))
      rw [ha2, Nat.mul_comm] at this
      rw [Bool.eq_iff_iff]
      simp only [decide_eq_true_eq, beq_iff_eq]
      constructor
      · intro e; rw [← e, Nat.mul_div_cancel _ (Nat.two_pow_pos _)]
      · intro e; rw [e]; omega
    generalize x / 2 ^ (32 - m) * 2 ^ (32 - m) = q at *
    simp (disch := omega) [hand, hbb]
    refine .to h l ?_
    rw [hm] at hQ
    simp only [Int.toNat_natCast, Bool.true_and, ← hdec] at hQ
    rw [cast_eq q a] at hQ
    exact hQ
end Go.Proofs.Ytmbhlbohbpepaaa
