/- Numbers, and the functions of package prefix: what they answer. -/
import Derived.Test.YtmbhlbohbpepaaaG0
import Derived.Test.YtmbhlbohbpepaaaTG0
namespace Go.Proofs.Ytmbhlbohbpepaaa
open Go

/-! ### Bits -/
def msk (n : Nat) : Nat := 2 ^ 32 - 2 ^ (32 - n)

def maskI (n : Int) : Int := IntKind.u32.wrap (4294967295 * 2 ^ (32 - max 0 (min n 32)).toNat)

theorem maskI_nat {n : Nat} (h : n ≤ 32) : maskI (n : Int) = (msk n : Nat) := by
  have : ∀ k : Fin 33, maskI ((k.1 : Nat) : Int) = (msk k.1 : Nat) := by decide
  exact this ⟨n, by omega⟩

theorem bits_and_u32 {a b : Nat} (ha : a < 2 ^ 32) (hb : b < 2 ^ 32) : bits_and .u32 (a : Int) (b : Int) = ((a &&& b : Nat) : Int) := by
  have h : (BitVec.ofInt 32 (a : Int) &&& BitVec.ofInt 32 (b : Int)).toNat = a &&& b := by
    simp [BitVec.ofInt_natCast, BitVec.toNat_and, Nat.mod_eq_of_lt ha, Nat.mod_eq_of_lt hb]
  show IntKind.u32.wrap ((BitVec.ofInt 32 (a : Int) &&& BitVec.ofInt 32 (b : Int)).toNat : Nat) = _
  rw [h, wrap_u32]
  · omega
  · have := Nat.and_le_left (n := a) (m := b); omega

theorem bits_xor_u32 {a b : Nat} (ha : a < 2 ^ 32) (hb : b < 2 ^ 32) : bits_xor .u32 (a : Int) (b : Int) = ((a ^^^ b : Nat) : Int) := by
  have h : (BitVec.ofInt 32 (a : Int) ^^^ BitVec.ofInt 32 (b : Int)).toNat = a ^^^ b := by
    simp [BitVec.ofInt_natCast, BitVec.toNat_xor, Nat.mod_eq_of_lt ha, Nat.mod_eq_of_lt hb]
  show IntKind.u32.wrap ((BitVec.ofInt 32 (a : Int) ^^^ BitVec.ofInt 32 (b : Int)).toNat : Nat) = _
  rw [h, wrap_u32]
  · omega
  · have := Nat.xor_lt_two_pow ha hb; omega

theorem bits_or_u32 {a b : Nat} (ha : a < 2 ^ 32) (hb : b < 2 ^ 32) : bits_or .u32 (a : Int) (b : Int) = ((a ||| b : Nat) : Int) := by
  have h : (BitVec.ofInt 32 (a : Int) ||| BitVec.ofInt 32 (b : Int)).toNat = a ||| b := by
    simp [BitVec.ofInt_natCast, BitVec.toNat_or, Nat.mod_eq_of_lt ha, Nat.mod_eq_of_lt hb]
  show IntKind.u32.wrap ((BitVec.ofInt 32 (a : Int) ||| BitVec.ofInt 32 (b : Int)).toNat : Nat) = _
  rw [h, wrap_u32]
  · omega
  · have := Nat.or_lt_two_pow ha hb; omega

theorem msk_lt (n : Nat) : msk n < 2 ^ 32 := by
  unfold msk
  have : 0 < 2 ^ (32 - n) := Nat.two_pow_pos _
  omega

theorem and_low (a k : Nat) : a &&& (2 ^ k - 1) = a % 2 ^ k := Nat.and_two_pow_sub_one_eq_mod a k

theorem msk_test {n i : Nat} (h : n ≤ 32) : (msk n).testBit i = (decide (32 - n ≤ i) && decide (i < 32)) := by
  have key : ∀ k : Fin 33, ∀ j : Fin 32, (msk k.1).testBit j.1 = (decide (32 - k.1 ≤ j.1) && decide (j.1 < 32)) := by decide
  rcases Nat.lt_or_ge i 32 with hi | hi
  · exact key ⟨n, by omega⟩ ⟨i, hi⟩
  · have h2 : (msk n).testBit i = false := Nat.testBit_lt_two_pow (Nat.lt_of_lt_of_le (msk_lt n) (Nat.pow_le_pow_right (by omega) hi))
    rw [h2]
    have : decide (i < 32) = false := by simp; omega
    rw [this, Bool.and_false]

theorem and_msk {a n : Nat} (ha : a < 2 ^ 32) (h : n ≤ 32) : a &&& msk n = a / 2 ^ (32 - n) * 2 ^ (32 - n) := by
  apply Nat.eq_of_testBit_eq
  intro i
  rw [Nat.testBit_and, msk_test h, Nat.testBit_mul_two_pow, Nat.testBit_div_two_pow]
  by_cases h1 : 32 - n ≤ i
  · rw [Nat.sub_add_cancel h1]
    by_cases h2 : i < 32
    · simp [h1, h2]
    · have : a.testBit i = false := Nat.testBit_lt_two_pow (Nat.lt_of_lt_of_le ha (Nat.pow_le_pow_right (by omega) (by omega)))
      simp [this]
  · simp [h1]

theorem bits_andNot_msk {a n : Nat} (ha : a < 2 ^ 32) (h : n ≤ 32) : bits_andNot .u32 (a : Int) (msk n : Nat) = ((a % 2 ^ (32 - n) : Nat) : Int) := by
  have e : (BitVec.ofInt 32 (a : Int) &&& ~~~(BitVec.ofInt 32 ((msk n : Nat) : Int))).toNat = a % 2 ^ (32 - n) := by
    have h1 : 2 ^ 32 - 1 - msk n = 2 ^ (32 - n) - 1 := by
      have : ∀ k : Fin 33, 2 ^ 32 - 1 - msk k.1 = 2 ^ (32 - k.1) - 1 := by decide
      exact this ⟨n, by omega⟩
    rw [BitVec.toNat_and, BitVec.toNat_not, BitVec.ofInt_natCast, BitVec.ofInt_natCast, BitVec.toNat_ofNat, BitVec.toNat_ofNat, Nat.mod_eq_of_lt ha, Nat.mod_eq_of_lt (msk_lt n), h1, and_low]
  show IntKind.u32.wrap ((BitVec.ofInt 32 (a : Int) &&& ~~~(BitVec.ofInt 32 ((msk n : Nat) : Int))).toNat : Nat) = _
  rw [e, wrap_u32]
  · omega
  · have := Nat.mod_le a (2 ^ (32 - n)); omega

/-! ### package prefix -/

theorem mask_spec {n : Int} {h : Hp} {Q : Value → Hp → Prop} (hQ : Q (.int .u32 (maskI n)) h) : Ok Try.prog F_prefix_Mask #[.int .i64 n] h Q := by
  refine prefix_Mask_ok (by simp) ?_
  unfold prefix_Mask_D
  simp (disch := omega) [prefix_Mask_r0, prefix_Mask_r1, wrap_i64]
  exact .to h (.refl _) hQ

/-- May, in plain words. -/
def mayB (a : Nat) (n : Int) : Bool := decide (0 ≤ n) && decide (n ≤ 32) && (a % 2 ^ (32 - n.toNat) == 0)

theorem cast_mod (a k : Nat) : ((a % 2 ^ k : Nat) : Int) = (a : Int) % 2 ^ k := by simp

theorem mayB_eq {a m : Nat} (h : m ≤ 32) : mayB a (m : Int) = decide ((a : Int) % 2 ^ (32 - m) = 0) := by
  rw [← cast_mod]
  have h0 : decide ((m : Int) ≤ 32) = true := by simp; omega
  unfold mayB
  rw [h0, Int.toNat_natCast]
  generalize a % 2 ^ (32 - m) = r
  rw [Bool.eq_iff_iff]
  simp

theorem may_spec {a : Nat} {n : Int} {h : Hp} {Q : Value → Hp → Prop} (ha : a < 2 ^ 32) (hQ : Q (.bool (mayB a n)) h) : Ok Try.prog F_prefix_May #[.agg #[.int .u32 a, .int .i64 n]] h Q := by
  refine prefix_May_ok (by simp) ?_
  unfold prefix_May_D
  simp (disch := omega) [prefix_May_r0]
  intro b hb
  by_cases h0 : 0 ≤ n
  · by_cases h1 : n ≤ 32
    · simp (disch := omega) [prefix_May_r1, h0, h1]
      refine mask_spec ?_
      obtain ⟨m, rfl⟩ := Int.eq_ofNat_of_zero_le h0
      rw [maskI_nat (by omega)]
      simp (disch := omega) [bits_andNot_msk]
      refine .to h (.new hb) ?_
      rw [mayB_eq (by omega)] at hQ
      exact hQ
    · simp (disch := omega) [prefix_May_r1, h0, h1]
      refine .to h (.new hb) ?_
      simpa [mayB, h0, h1] using hQ
  · simp (disch := omega) [prefix_May_r1, h0]
    refine .to h (.new hb) ?_
    simpa [mayB, h0] using hQ

/-- Has, in plain words, of a prefix that may be. -/
def hasB (p : Nat × Nat) (x : Nat) : Bool := x / 2 ^ (32 - p.2) == p.1 / 2 ^ (32 - p.2)

theorem xor_zero {x y : Nat} : x ^^^ y = 0 ↔ x = y := by
  constructor
  · intro h
    apply Nat.eq_of_testBit_eq
    intro i
    have := congrArg (fun z => z.testBit i) h
    simp only [Nat.testBit_xor, Nat.zero_testBit] at this
    cases h1 : x.testBit i <;> cases h2 : y.testBit i <;> simp_all
  · rintro rfl; exact Nat.xor_self _

theorem xor_div (x y k : Nat) : (x ^^^ y) / 2 ^ k = x / 2 ^ k ^^^ y / 2 ^ k := by
  apply Nat.eq_of_testBit_eq
  intro i
  simp only [Nat.testBit_xor, Nat.testBit_div_two_pow]

theorem hasB_eq {a m x : Nat} (ha : a < 2 ^ 32) (hx : x < 2 ^ 32) (h : m ≤ 32) : hasB (a, m) x = decide ((((x ^^^ a) &&& msk m : Nat) : Int) = 0) := by
  rw [and_msk (Nat.xor_lt_two_pow hx ha) h, xor_div]
  unfold hasB
  rw [Bool.eq_iff_iff]
  simp only [beq_iff_eq, decide_eq_true_eq, Int.natCast_eq_zero, Nat.mul_eq_zero, xor_zero]
  have : 2 ^ (32 - m) ≠ 0 := Nat.ne_of_gt (Nat.two_pow_pos _)
  omega

theorem mayB_le {a : Nat} {n : Int} (h : mayB a n = true) : 0 ≤ n ∧ n ≤ 32 := by
  simp [mayB] at h; omega

theorem has_spec {a : Nat} {n : Int} {x : Nat} {h : Hp} {Q : Value → Hp → Prop} (ha : a < 2 ^ 32) (hx : x < 2 ^ 32) (hQ : Q (.bool (mayB a n && hasB (a, n.toNat) x)) h) :
    Ok Try.prog F_prefix_Has #[.agg #[.int .u32 a, .int .i64 n], .int .u32 x] h Q := by
  refine prefix_Has_ok (by simp) ?_
  unfold prefix_Has_D
  simp (disch := omega) [prefix_Has_r0]
  intro b hb
  simp (disch := omega) [prefix_Has_r1]
  refine may_spec ha ?_
  by_cases hm : mayB a n = true
  · simp (disch := omega) [hm]
    refine mask_spec ?_
    obtain ⟨h0, h1⟩ := mayB_le hm
    obtain ⟨m, rfl⟩ := Int.eq_ofNat_of_zero_le h0
    rw [maskI_nat (by omega), bits_xor_u32 hx ha]
    have hl : x ^^^ a < 2 ^ 32 := Nat.xor_lt_two_pow hx ha
    simp (disch := omega) only [upd_get, rr_and_u32, rr_eql_u32, bits_and_u32 hl (msk_lt m), rdv_some, if_true, aget_0, true_and]
    refine .to h (.new hb) ?_
    rw [← hasB_eq ha hx (by omega)]
    simpa [hm] using hQ
  · simp (disch := omega) [hm]
    refine .to h (.new hb) ?_
    simpa [hm] using hQ

theorem fdiv_pow (a k : Nat) : ((a : Nat) : Int).fdiv (2 ^ k) = ((a / 2 ^ k : Nat) : Int) := by
  rw [Int.fdiv_eq_ediv_of_nonneg _ (Int.le_of_lt (Int.pow_pos (by omega)))]
  simp

theorem bit_spec {a : Nat} {i : Nat} {h : Hp} {Q : Value → Hp → Prop} (ha : a < 2 ^ 32) (hi : i < 32) (hQ : Q (.int .i64 ((a / 2 ^ (31 - i) % 2 : Nat) : Int)) h) :
    Ok Try.prog F_trie_bit #[.int .u32 a, .int .i64 i] h Q := by
  refine trie_bit_ok (by simp) ?_
  unfold trie_bit_D
  simp (disch := omega) [trie_bit_r0, trie_bit_r1, wrap_i64]
  have e : bits_and .u32 ((a : Int).fdiv (2 ^ (31 - i))) 1 = ((a / 2 ^ (31 - i) % 2 : Nat) : Int) := by
    rw [fdiv_pow]
    have := bits_and_u32 (a := a / 2 ^ (31 - i)) (b := 1) (Nat.lt_of_le_of_lt (Nat.div_le_self _ _) ha) (by omega)
    rw [Nat.and_one_is_mod] at this
    exact this
  rw [e, wrap_i64 (by omega) (by omega)]
  exact .to h (.refl _) hQ

end Go.Proofs.Ytmbhlbohbpepaaa
