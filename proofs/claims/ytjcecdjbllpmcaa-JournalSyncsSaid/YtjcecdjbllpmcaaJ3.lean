/- Concat of slices of bytes. -/
import Derived.Test.YtjcecdjbllpmcaaJ2
namespace Go.Proofs.Ytjcecdjbllpmcaa
open Go
set_option linter.unusedSimpArgs false

def catL (ps : List (Value × List Nat)) : List Nat := ps.flatMap (·.2)

theorem catL_take {ps : List (Value × List Nat)} {i : Nat} {x : Value × List Nat} (h : ps[i]? = some x) : catL (ps.take (i + 1)) = catL (ps.take i) ++ x.2 := by
  unfold catL
  rw [List.take_add_one, h]; simp

theorem catL_le {ps : List (Value × List Nat)} (i : Nat) : (catL (ps.take i)).length ≤ (catL ps).length := by
  have h : catL ps = catL (ps.take i) ++ catL (ps.drop i) := by
    unfold catL
    rw [← List.flatMap_append, List.take_append_drop]
  rw [h, List.length_append]
  omega

structure Parts (h : Hp) (b : Nat) (c : Array Value) (E : TypeId) (ps : List (Value × List Nat)) : Prop where
  b : h b = some (.cells c E (0, 0))
  at_ : ∀ (i : Nat) (x : Value × List Nat), ps[i]? = some x → c[i]? = some x.1 ∧ SlAt h 5 1 be x.1 x.2

def CatInv0 (h : Hp) (b cap : Nat) (ps : List (Value × List Nat)) (m : Nat) (env : Env) (g : Hp) : Prop :=
  ∃ i, g = h ∧ env 0 = .slice (some ⟨b, 0, none⟩) ps.length cap ∧ env 9 = .slice (some ⟨b, 0, none⟩) ps.length cap ∧ env 10 = .int .i64 (ps.length : Nat) ∧ env 3 = .int .i64 ((catL (ps.take i)).length : Nat) ∧ env 11 = .int .i64 (i : Nat) ∧ i + m = ps.length

def CatInv1 (h : Hp) (b cap : Nat) (ps : List (Value × List Nat)) (m : Nat) (env : Env) (g : Hp) : Prop :=
  ∃ i v, Le h g ∧ (∀ y, blkOf v = some y → h y = none) ∧ SlAt g 5 1 be v (catL (ps.take i)) ∧ env 6 = v ∧ env 25 = .slice (some ⟨b, 0, none⟩) ps.length cap ∧ env 26 = .int .i64 (ps.length : Nat) ∧ env 27 = .int .i64 (i : Nat) ∧ i + m = ps.length

set_option maxRecDepth 20000 in
theorem concat_spec {h : Hp} {b cap : Nat} {c : Array Value} {E : TypeId} {ps : List (Value × List Nat)} {Q : Value → Hp → Prop} (A : Parts h b c E ps) (hl : (catL ps).length ≤ 500000) (hp : ps.length ≤ 1000)
    (hQ : ∀ v h', SlAt h' 5 1 be v (catL ps) → Le h h' → (∀ y, blkOf v = some y → h y = none) → Q v h') :
    Ok Try.prog F_slices_Concat_byte_byte #[.slice (some ⟨b, 0, none⟩) ps.length cap] h Q := by
  refine slices_Concat_byte_byte_ok (by simp) ?_
  unfold slices_Concat_byte_byte_D
  simp (disch := omega) [slices_Concat_byte_byte_r0, slices_Concat_byte_byte_r1, slices_Concat_byte_byte_r2]
  refine ⟨CatInv0 h b cap ps, ⟨ps.length, 0, rfl, by simp, by simp, by simp, by simp [catL], by simp, by omega⟩, ?_⟩
  rintro m env g ⟨i, rfl, e0, e9, e10, e3, e11, him⟩
  unfold slices_Concat_byte_byte_L0
  by_cases hm : m = 0
  · have : i = ps.length := by omega
    subst this
    rw [List.take_length] at e3
    simp (disch := omega) [slices_Concat_byte_byte_r3, slices_Concat_byte_byte_r9, e0, e9, e10, e3, e11]
    refine grow_spec (by omega) (fun v g1 S1 L1 F1 => ?_)
    simp (disch := omega) [slices_Concat_byte_byte_r10, e0]
    refine ⟨CatInv1 g b cap ps, ⟨ps.length, 0, v, L1, F1, by simpa [catL] using S1, by simp, by simp, by simp, by simp, by omega⟩, ?_⟩
    clear e0 e9 e10 e3 e11 S1 F1
    rintro m env g1 ⟨i, v, L1, F1, S1, e6, e25, e26, e27, him⟩
    unfold slices_Concat_byte_byte_L1
    by_cases hm : m = 0
    · have : i = ps.length := by omega
      subst this
      rw [List.take_length] at S1
      simp (disch := omega) [slices_Concat_byte_byte_r11, slices_Concat_byte_byte_r15, e6, e25, e26, e27]
      exact .to _ (.refl _) (hQ v g1 S1 L1 F1)
    · obtain ⟨m, rfl⟩ : ∃ k, m = k + 1 := ⟨m - 1, by omega⟩
      have hlt : (i : Int) < (ps.length : Int) := by omega
      obtain ⟨x, hx⟩ : ∃ x, ps[i]? = some x := ⟨_, List.getElem?_eq_getElem (by omega)⟩
      obtain ⟨hc, hs⟩ := A.at_ i x hx
      have hb := L1 _ _ A.b
      have hcat := catL_take hx
      have hle := catL_le (ps := ps) (i + 1)
      rw [hcat, List.length_append] at hle
      have hs1 : SlAt g1 5 1 be x.1 x.2 := hs.keep (fun y o _ hy => L1 _ _ hy)
      simp (disch := omega) [slices_Concat_byte_byte_r11, slices_Concat_byte_byte_r12, slices_Concat_byte_byte_r13, e6, e25, e26, e27, hlt, hb, hc]
      refine cat_bytes S1 (SlAt.src hs1) (by omega) (fun v2 g2 S2 G2 => ?_)
      rw [← hcat] at S2
      simp (disch := omega) [slices_Concat_byte_byte_r14, e6, e25, e26, e27, wrap_i64]
      refine ⟨m, by omega, i + 1, v2, fun y o hy => G2.keep y o (L1 _ _ hy) (fun e => by rw [F1 y e.symm] at hy; cases hy), fun y hy => ?_, S2, by simp, by simp [e25], by simp [e26], by simp, by omega⟩
      rcases G2.fresh with e | e
      · rw [e] at hy; exact F1 y hy
      · have e2 := e y hy
        cases hh : g y with
        | none => rfl
        | some o => rw [L1 _ _ hh] at e2; cases e2
  · obtain ⟨m, rfl⟩ : ∃ k, m = k + 1 := ⟨m - 1, by omega⟩
    have hlt : (i : Int) < (ps.length : Int) := by omega
    obtain ⟨x, hx⟩ : ∃ x, ps[i]? = some x := ⟨_, List.getElem?_eq_getElem (by omega)⟩
    obtain ⟨hc, hs⟩ := A.at_ i x hx
    have hb := A.b
    have hcat := congrArg List.length (catL_take hx)
    have hle := catL_le (ps := ps) (i + 1)
    rw [hcat, List.length_append] at hle
    rw [List.length_append] at hcat
    obtain ⟨p, cap2, hv⟩ : ∃ p cap2, x.1 = .slice p x.2.length cap2 := by
      rcases hs with ⟨h1, h2⟩ | ⟨b2, cap2, c2, h1, _⟩
      · exact ⟨none, 0, by rw [h1, h2]; rfl⟩
      · exact ⟨_, _, h1⟩
    have hw : IntKind.i64.wrap (((catL (ps.take i)).length : Int) + (x.2.length : Int)) = ((catL (ps.take (i + 1))).length : Nat) := by rw [wrap_i64 (by omega) (by omega)]; omega
    have hge : ¬ (((catL (ps.take (i + 1))).length : Nat) : Int) < 0 := by omega
    simp (disch := omega) [slices_Concat_byte_byte_r3, slices_Concat_byte_byte_r4, slices_Concat_byte_byte_r5, slices_Concat_byte_byte_r6, slices_Concat_byte_byte_r8, e0, e9, e10, e3, e11, hlt, hb, hc, hv, hw, hge, wrap_i64]
    exact ⟨m, by omega, i + 1, rfl, by simp [e0], by simp [e9], by simp [e10], by simp, by simp, by omega⟩
end Go.Proofs.Ytjcecdjbllpmcaa
