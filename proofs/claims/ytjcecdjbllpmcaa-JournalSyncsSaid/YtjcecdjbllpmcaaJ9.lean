/- Numbers out of bytes: num.get, Get32; a fact of bytes: journal.get. -/
import Derived.Test.YtjcecdjbllpmcaaJ8
namespace Go.Proofs.Ytjcecdjbllpmcaa
open Go
set_option linter.unusedSimpArgs false

theorem bits_or_u32 {a b : Nat} (ha : a < 2 ^ 32) (hb : b < 2 ^ 32) : bits_or .u32 (a : Int) (b : Int) = ((a ||| b : Nat) : Int) := by
  have h : (BitVec.ofInt 32 (a : Int) ||| BitVec.ofInt 32 (b : Int)).toNat = a ||| b := by
    simp [BitVec.ofInt_natCast, BitVec.toNat_or, Nat.mod_eq_of_lt ha, Nat.mod_eq_of_lt hb]
  show IntKind.u32.wrap ((BitVec.ofInt 32 (a : Int) ||| BitVec.ofInt 32 (b : Int)).toNat : Nat) = _
  rw [h, wrap_u32]
  · omega
  · have := Nat.or_lt_two_pow ha hb; omega

def num4 (xs : List Nat) : Nat := xs.foldl (fun a x => a * 256 + x) 0

theorem or8 (a x : Nat) (hx : x < 256) : (a * 256) ||| x = a * 256 + x := by
  have := Nat.two_pow_add_eq_or_of_lt (i := 8) (b := x) hx a
  rw [Nat.mul_comm a 256]
  exact this.symm

theorem num4_snoc (xs : List Nat) (x : Nat) : num4 (xs ++ [x]) = num4 xs * 256 + x := by simp [num4]

theorem num4_lt : ∀ (n : Nat) (xs : List Nat), xs.length = n → (∀ x ∈ xs, x < 256) → num4 xs < 256 ^ n
  | 0, xs, h, _ => by
    have : xs = [] := List.length_eq_zero_iff.1 h
    subst this; simp [num4]
  | n + 1, xs, h, hx => by
    obtain ⟨ys, y, rfl⟩ : ∃ ys y, xs = ys ++ [y] := ⟨xs.dropLast, xs.getLast (by intro q; simp [q] at h), (List.dropLast_concat_getLast _).symm⟩
    rw [num4_snoc, Nat.pow_succ]
    have := num4_lt n ys (by simpa using h) (fun x m => hx x (by simp [m]))
    have := hx y (by simp)
    omega

theorem num4_by4 {n : Nat} (h : n < 2 ^ 32) : num4 (by4 n) = n := by
  simp [num4, by4, byt]; omega

theorem by4_lt {n x : Nat} (h : x ∈ by4 n) : x < 256 := by
  simp [by4, byt] at h; omega

def GetInv (h : Hp) (b o cap : Nat) (xs : List Nat) (m : Nat) (env : Env) (g : Hp) : Prop :=
  g = h ∧ ∃ i, env 25 = .slice (some ⟨b, o, none⟩) 4 cap ∧ env 26 = .int .i64 4 ∧ env 27 = .int .i64 (i : Nat) ∧ i + m = 4 ∧ env 6 = .int .u32 (num4 (xs.take i) : Nat)

theorem get4_spec {b o at_ len cap : Nat} {c : Array Value} {fr : Nat × Nat} {xs : List Nat} {h : Hp} {Q : Value → Hp → Prop} (hb : h b = some (.cells c 5 fr)) (hx : xs.length = 4) (hlt : ∀ x ∈ xs, x < 256) (hr : ∀ (i x : Nat), xs[i]? = some x → c[o + at_ + i]? = some (.int .u8 (x : Nat)))
    (h1 : at_ + 4 ≤ len) (h2 : len ≤ cap) (h3 : len ≤ 100000000) (hQ : Q (.tuple #[.int .u32 (num4 xs : Nat), .bool true]) h) :
    Ok Try.prog F_num_get #[.slice (some ⟨b, o, none⟩) len cap, .int .i64 (at_ : Nat), .int .i64 4] h Q := by
  refine num_get_ok (by simp) ?_
  unfold num_get_D
  have a1 : ¬ ((at_ : Nat) : Int) < 0 := by omega
  have a2 : ¬ ((len : Nat) : Int) - 4 < (at_ : Nat) := by omega
  have sl : rrun Try.prog (Instr.sliceAt 34 (.slice (some ⟨b, o, none⟩) len cap) (some (.int .i64 (at_ : Nat))) (some (.int .i64 ((at_ : Nat) + 4 : Int))) none) noHp = some (.slice (some ⟨b, o + at_, none⟩) 4 (cap - at_)) := by
    rw [rr_slice_part und_34 size_5 (by omega) (by omega) (by omega) (by omega)]
    simp only [Int.toNat_natCast, Nat.mul_one]
    congr 2; omega
  simp (disch := omega) [num_get_r0, num_get_r1, num_get_r3, wrap_i64, a1, a2, sl]
  refine ⟨GetInv h b (o + at_) (cap - at_) xs, ⟨4, rfl, 0, by simp, by simp, by simp, by omega, by simp [num4]⟩, ?_⟩
  rintro m env g ⟨rfl, i, e25, e26, e27, him, e6⟩
  unfold num_get_L0
  by_cases hm : m = 0
  · have : i = 4 := by omega
    subst this
    rw [List.take_of_length_le (by omega)] at e6
    simp (disch := omega) [num_get_r4, num_get_r8, e25, e26, e27, e6]
    exact .to _ (.refl _) hQ
  · obtain ⟨x, hxi⟩ : ∃ x, xs[i]? = some x := ⟨_, List.getElem?_eq_getElem (by omega)⟩
    have hc := hr i x hxi
    have hx2 := hlt x (List.mem_of_getElem? hxi)
    have hi : (i : Int) < 4 := by omega
    have tk : xs.take (i + 1) = xs.take i ++ [x] := by rw [List.take_add_one, hxi]; rfl
    have lt := num4_lt i (xs.take i) (by rw [List.length_take]; omega) (fun y hy => hlt y (List.mem_of_mem_take hy))
    have lt3 : num4 (xs.take i) * 256 < 2 ^ 32 := by
      have : 256 ^ i ≤ 256 ^ 3 := Nat.pow_le_pow_right (by omega) (by omega)
      omega
    have w : IntKind.u32.wrap (((num4 (xs.take i) : Nat) : Int) * 256) = ((num4 (xs.take i) * 256 : Nat) : Int) := by rw [wrap_u32] <;> omega
    have w2 : IntKind.u32.wrap (x : Int) = (x : Int) := by rw [wrap_u32] <;> omega
    have w3 := bits_or_u32 (a := num4 (xs.take i) * 256) (b := x) lt3 (by omega)
    rw [or8 _ _ hx2, ← num4_snoc, ← tk] at w3
    simp (disch := omega) [num_get_r4, num_get_r5, num_get_r6, num_get_r7, e25, e26, e27, e6, hi, hb, hc, wrap_i64, w, w2, w3]
    exact ⟨m - 1, by omega, rfl, i + 1, by simp [e25], by simp [e26], by simp, by omega, by simp; exact w3⟩

theorem get32_spec {b o at_ len cap : Nat} {c : Array Value} {fr : Nat × Nat} {n : Nat} {h : Hp} {Q : Value → Hp → Prop} (hb : h b = some (.cells c 5 fr)) (hn : n < 2 ^ 32) (hr : ∀ (i x : Nat), (by4 n)[i]? = some x → c[o + at_ + i]? = some (.int .u8 (x : Nat)))
    (h1 : at_ + 4 ≤ len) (h2 : len ≤ cap) (h3 : len ≤ 100000000) (hQ : Q (.tuple #[.int .u32 (n : Nat), .bool true]) h) :
    Ok Try.prog F_num_Get32 #[.slice (some ⟨b, o, none⟩) len cap, .int .i64 (at_ : Nat)] h Q := by
  refine num_Get32_ok (by simp) ?_
  unfold num_Get32_D
  simp (disch := omega) [num_Get32_r0, num_Get32_r1]
  refine get4_spec hb (xs := by4 n) rfl (fun x => by4_lt) hr h1 h2 h3 ?_
  rw [num4_by4 hn]
  simp (disch := omega)
  exact .to _ (.refl _) hQ

/-- The fact of twelve bytes. -/
theorem jgetf_spec {b o len cap : Nat} {c : Array Value} {fr : Nat × Nat} {f : F3} {h : Hp} {Q : Value → Hp → Prop} (hb : h b = some (.cells c 5 fr)) (hf : okF f) (hr : ∀ (i x : Nat), (fb f.1 f.2.1 f.2.2)[i]? = some x → c[o + i]? = some (.int .u8 (x : Nat)))
    (h1 : 12 ≤ len) (h2 : len ≤ cap) (h3 : len ≤ 100000000) (hQ : ∀ h', Le h h' → Q (fe f) h') :
    Ok Try.prog F_journal_get #[.slice (some ⟨b, o, none⟩) len cap] h Q := by
  obtain ⟨k, key, n⟩ := f
  obtain ⟨hk0, hk1, hk2, hk3⟩ := hf
  simp only at hk0 hk1 hk2 hk3
  refine journal_get_ok (by simp) ?_
  unfold journal_get_D
  simp (disch := omega) [journal_get_r0]
  intro b1 hb1
  have n1 : b ≠ b1 := ne_new hb hb1
  have c0 : c[o]? = some (.int .u8 k) := by
    have := hr 0 (k % 256).toNat rfl
    rw [show (((k % 256).toNat : Nat) : Int) = k by omega] at this
    simpa using this
  have w : IntKind.i64.wrap k = k := by rw [wrap_i64] <;> omega
  simp (disch := omega) [journal_get_r1, hb, n1, c0, w]
  intro b2 hb2
  obtain ⟨n2, hb2'⟩ := upd_none hb2
  have n3 : b ≠ b2 := ne_new hb hb2'
  simp (disch := omega) [journal_get_r2]
  have K1 : ∀ (i x : Nat), (by4 key)[i]? = some x → c[o + 4 + i]? = some (.int .u8 (x : Nat)) := by
    intro i x e
    have := hr (4 + i) x (by
      show (([(k % 256).toNat, 0, 0, 0] ++ by4 key) ++ by4 n)[4 + i]? = _
      have hi : i < 4 := (List.getElem?_eq_some_iff.1 e).1
      rw [List.getElem?_append_left (by simp [by4]; omega), List.getElem?_append_right (by simp)]
      simpa using e)
    rw [← this, Nat.add_assoc]
  have K2 : ∀ (i x : Nat), (by4 n)[i]? = some x → c[o + 8 + i]? = some (.int .u8 (x : Nat)) := by
    intro i x e
    have := hr (8 + i) x (by
      show (([(k % 256).toNat, 0, 0, 0] ++ by4 key) ++ by4 n)[8 + i]? = _
      rw [List.getElem?_append_right (by simp [by4])]
      simpa [by4] using e)
    rw [← this, Nat.add_assoc]
  refine get32_spec (at_ := 4) (by simp [n1, n3]; exact hb) hk2 K1 (by omega) h2 h3 ?_
  simp (disch := omega) [journal_get_r3]
  refine get32_spec (at_ := 8) (by simp [n1, n3]; exact hb) hk3 K2 (by omega) h2 h3 ?_
  simp (disch := omega) [journal_get_r4, n2, Ne.symm n2]
  refine .to _ (.refl _) (hQ _ ?_)
  exact Le.put (Le.put (Le.new hb1) hb2') hb1
end Go.Proofs.Ytjcecdjbllpmcaa
