/- Room for more; bytes as a string. -/
import Derived.Test.YtmbhlbohbpepaaaM11
namespace Go.Proofs.Ytmbhlbohbpepaaa
open Go
set_option linter.unusedSimpArgs false
set_option linter.unusedVariables false
section
variable {P : Program} {h : Hp}

/-- append(nil, make(T, n)...), n above 0. -/
theorem arun_extend_nil {sT xT R E sz bytes n : Nat} {k : IntKind} {z : Value} (hs : P.underlying sT = some (.slice E)) (hx : P.underlying xT = some (.int k))
    (hsz : (P.info? E).map (·.size) = some sz) (hby : (P.info? E).map (·.bytes) = some bytes) (hz : (P.info? E).bind (·.zero) = some z) (hb0 : 0 < bytes) (hs0 : 0 < sz) (hzs : z.cells.size = sz)
    {K : Value → Hp → Prop} (hn : 0 < n) (hbd : (2 * n + 770) * bytes ≤ 2 ^ 48)
    (hK : ∀ b cap c, h b = none → n ≤ cap → c.size = cap * sz → K (.slice (some ⟨b, 0, none⟩) n cap) (h.upd b (.cells c E))) :
    arun P (Builtin.append_ #[sT, xT] R #[.slice none 0 0, .int .i64 (n : Int)]) h K := by
  obtain ⟨info, hinfo⟩ : ∃ i, P.info? E = some i := by
    cases hi : P.info? E with
    | none => simp [hi] at hsz
    | some i => exact ⟨i, rfl⟩
  have hbi : info.bytes = bytes := by simpa [hinfo] using hby
  have hzc : ∀ n, (Builtin.zeroCells z.cells n).size = n * sz := by intro n; simp [Builtin.zeroCells, hzs]
  have hn48 : n * bytes ≤ 2 ^ 48 := Nat.le_trans (Nat.mul_le_mul_right _ (by omega)) hbd
  have hnle : n ≤ 2 ^ 48 := Nat.le_trans (Nat.le_mul_of_pos_right _ hb0) hn48
  unfold Builtin.append_
  simp only [aget_0, aget_1]
  rw [arun_bnd_rr (a := .slice E) (by rw [rr_underlying, hs])]
  simp only []
  have hw : IntKind.i64.wrap (n : Int) = (n : Int) := wrap_i64 (by omega) (by omega)
  have hinf : rrun P (typeInfo E) h = some info := by rw [rr_info, hinfo]
  have hmul : ¬ ((n : Int) * (info.bytes : Int) > 2 ^ 48) := by
    rw [hbi]
    have : ((n * bytes : Nat) : Int) ≤ ((2 ^ 48 : Nat) : Int) := Int.ofNat_le.2 hn48
    simp only [Int.natCast_mul] at this
    omega
  have hcap := nextcap_le (n := 0 + n) (c := 0) (by omega)
  have hcapb : ¬ (Builtin.nextslicecap (0 + n) 0 * info.bytes > 2 ^ 48) := by
    rw [hbi]
    have : Builtin.nextslicecap (0 + n) 0 * bytes ≤ (2 * n + 770) * bytes := Nat.mul_le_mul_right _ (by omega)
    omega
  have hmax : IntKind.i64.max = 9223372036854775807 := by decide
  rw [arun_bnd_rr (a := sz) (by rw [rr_sizeOf, hsz]), arun_bnd_rr (a := .int k) (by rw [rr_underlying, hx])]
  simp only []
  rw [arun_bnd_rr (a := true) rfl]
  simp only [if_true]
  rw [arun_bnd_rr (a := (n : Int)) rfl]
  simp only [hw]
  rw [if_neg (by omega), arun_bnd_rr hinf, if_neg hmul, arun_bnd_rr (a := ((n : Int)).toNat) rfl]
  simp only [Int.toNat_natCast]
  rw [if_neg (by omega), arun_bnd_rr hinf, if_neg (by rw [hmax]; rintro ⟨h1, _⟩; omega), arun_bnd_rr hinf, if_neg hcapb]
  refine arun_bind _ _ ?_
  show arun P (Sem.choose _ Sem.pure) h _
  unfold arun
  rw [if_neg (by simp [Question.forced])]
  intro t
  show arun P (Sem.bind _ _) h _
  refine arun_bind _ _ (arun_of_rrun _ hinf ?_)
  refine arun_bind _ _ ?_
  rw [arun_askRoom]
  refine arun_bind _ _ (arun_of_rrun _ (a := #[]) rfl ?_)
  refine arun_bind _ _ (arun_of_rrun _ (a := Builtin.zeroCells z.cells n) ?_ ?_)
  · have h0 : ¬ n * sz = 0 := by
      have := Nat.mul_pos hn hs0
      omega
    simp only [Bool.not_true, Bool.false_eq_true, if_false]
    rw [if_neg h0, rrun_bnd, rr_zeroValue hz]; rfl
  refine arun_bind _ _ (arun_of_rrun _ (rr_zeroValue hz) ?_)
  intro b hb
  have key : ∀ cap', n ≤ cap' → K (.slice (some ⟨b, 0, none⟩) (0 + n) cap') (h.upd b (.cells (#[] ++ Builtin.zeroCells z.cells n ++ Builtin.zeroCells z.cells (cap' - (0 + n))) E)) := by
    intro cap' hc
    rw [Nat.zero_add]
    refine hK b cap' _ hb hc ?_
    obtain ⟨d, rfl⟩ : ∃ d, cap' = n + d := ⟨cap' - n, by omega⟩
    simp only [Array.size_append, hzc, Nat.add_sub_cancel_left, Nat.add_mul]
    simp
  exact key _ (by simp only [Question.cut]; omega)
end
end Go.Proofs.Ytmbhlbohbpepaaa
