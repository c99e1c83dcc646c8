/- A fact as bytes: journal.put. -/
import Derived.Test.YtjcecdjbllpmcaaJ3
namespace Go.Proofs.Ytjcecdjbllpmcaa
open Go
set_option linter.unusedSimpArgs false

theorem none_le {h g : Hp} {b : Nat} (L : Le h g) (hb : g b = none) : h b = none := by
  cases hh : h b with
  | none => rfl
  | some o => rw [L _ _ hh] at hb; cases hb

def fb (k : Int) (key n : Nat) : List Nat := [(k % 256).toNat, 0, 0, 0] ++ by4 key ++ by4 n

theorem sl4 {h : Hp} {b a0 a1 a2 a3 : Nat} (hb : h b = some (.cells #[.int .u8 (a0 : Nat), .int .u8 (a1 : Nat), .int .u8 (a2 : Nat), .int .u8 (a3 : Nat)] 5)) : SlAt h 5 1 be (.slice (some ⟨b, 0, none⟩) 4 4) [a0, a1, a2, a3] := by
  refine .inr ⟨b, 4, _, rfl, hb, by simp, by simp, fun i x hx j hj => ?_⟩
  have hj0 : j = 0 := by omega
  subst hj0
  have hi : i < 4 := by have := (List.getElem?_eq_some_iff.1 hx).1; simpa using this
  have hic : i = 0 ∨ i = 1 ∨ i = 2 ∨ i = 3 := by omega
  rcases hic with rfl | rfl | rfl | rfl <;> simp at hx <;> subst hx <;> simp [be]

set_option maxRecDepth 20000 in
theorem jfin {g0 g : Hp} {b1 b2 b3 : Nat} {k key n : Nat} {Q : Value → Hp → Prop} (lg : Le g0 g)
    (h1 : g b1 = some (.cells #[.int .u8 (k : Nat), .int .u8 0, .int .u8 0, .int .u8 0] 5))
    (h2 : g b2 = some (.cells #[.int .u8 (byt key 3 : Nat), .int .u8 (byt key 2 : Nat), .int .u8 (byt key 1 : Nat), .int .u8 (byt key 0 : Nat)] 5))
    (h3 : g b3 = some (.cells #[.int .u8 (byt n 3 : Nat), .int .u8 (byt n 2 : Nat), .int .u8 (byt n 1 : Nat), .int .u8 (byt n 0 : Nat)] 5))
    (hQ : ∀ v h', SlAt h' 5 1 be v ([k, 0, 0, 0] ++ by4 key ++ by4 n) → Le g0 h' → (∀ y, blkOf v = some y → g0 y = none) → Q v h') :
    arun Try.prog (Instr.buildSlice 74 3 #[(0, .slice (some ⟨b1, 0, none⟩) 4 4), (1, .slice (some ⟨b2, 0, none⟩) 4 4), (2, .slice (some ⟨b3, 0, none⟩) 4 4)]) g fun v13 h4 => Ok Try.prog 34 #[v13] h4 fun v14 h5 => drp Q v14 h5 := by
  simp (disch := omega)
  intro b4 hb4
  have l4 := Le.new (o := .cells #[.slice (some ⟨b1, 0, none⟩) 4 4, .slice (some ⟨b2, 0, none⟩) 4 4, .slice (some ⟨b3, 0, none⟩) 4 4] 34) hb4
  refine concat_spec (ps := [(.slice (some ⟨b1, 0, none⟩) 4 4, [k, 0, 0, 0]), (.slice (some ⟨b2, 0, none⟩) 4 4, by4 key), (.slice (some ⟨b3, 0, none⟩) 4 4, by4 n)]) (E := 34) ⟨by simp; rfl, fun i x hx => ?_⟩ (by simp [catL, by4]) (by simp) (fun v h' S l F => ?_)
  · have hi : i < 3 := by have := (List.getElem?_eq_some_iff.1 hx).1; simpa using this
    have hic : i = 0 ∨ i = 1 ∨ i = 2 := by omega
    rcases hic with rfl | rfl | rfl <;> simp at hx <;> subst hx
    · exact ⟨rfl, sl4 (l4 _ _ (by simpa using h1))⟩
    · exact ⟨rfl, sl4 (l4 _ _ h2)⟩
    · exact ⟨rfl, sl4 (l4 _ _ h3)⟩
  · refine .to _ (.refl _) (hQ v h' (by simpa [catL] using S) ((lg.trans l4).trans l) (fun y hy => ?_))
    have := F y hy
    cases hh : g0 y with
    | none => rfl
    | some o => rw [(lg.trans l4) _ _ hh] at this; cases this

set_option maxRecDepth 20000 in
theorem jput_spec {h : Hp} {k : Int} {key n : Nat} {Q : Value → Hp → Prop} (hk : 0 ≤ k ∧ k ≤ 255) (h1 : key < 2 ^ 32) (h2 : n < 2 ^ 32)
    (hQ : ∀ v h', SlAt h' 5 1 be v (fb k key n) → Le h h' → (∀ y, blkOf v = some y → h y = none) → Q v h') :
    Ok Try.prog F_journal_put #[.agg #[.int .i64 k, .int .u32 key, .int .u32 n]] h Q := by
  refine journal_put_ok (by simp) ?_
  unfold journal_put_D
  simp (disch := omega) [journal_put_r0]
  intro b hb
  have hbb : (h.upd b (.cells #[.int .i64 k, .int .u32 key, .int .u32 n] 25)) b = some (.cells #[.int .i64 k, .int .u32 key, .int .u32 n] 25) := by simp
  have l : Le h (h.upd b (.cells #[.int .i64 k, .int .u32 key, .int .u32 n] 25)) := .new hb
  generalize h.upd b (.cells #[.int .i64 k, .int .u32 key, .int .u32 n] 25) = g0 at *
  have hw : IntKind.u8.wrap k = k := by rw [wrap_u8] <;> omega
  simp (disch := omega) [journal_put_r1, hbb, hw]
  obtain ⟨k0, hk0⟩ := Int.eq_ofNat_of_zero_le hk.1
  have hfb : fb k key n = [k0, 0, 0, 0] ++ by4 key ++ by4 n := by unfold fb; rw [hk0]; congr 2; congr 1; omega
  rw [hfb] at hQ
  have hQ' : ∀ v h', SlAt h' 5 1 be v ([k0, 0, 0, 0] ++ by4 key ++ by4 n) → Le g0 h' → (∀ y, blkOf v = some y → g0 y = none) → Q v h' := fun v h' S L F => hQ v h' S (l.trans L) (fun y hy => none_le l (F y hy))
  subst hk0
  refine ⟨?_, ?_⟩
  · intro b1 hb1
    have f1 : (g0.upd b1 (.cells #[.int .u8 (k0 : Nat), .int .u8 0, .int .u8 0, .int .u8 0] 5)) b1 = some (.cells #[.int .u8 (k0 : Nat), .int .u8 0, .int .u8 0, .int .u8 0] 5) := by simp
    have l1 : Le g0 (g0.upd b1 (.cells #[.int .u8 (k0 : Nat), .int .u8 0, .int .u8 0, .int .u8 0] 5)) := .new hb1
    generalize g0.upd b1 (.cells #[.int .u8 (k0 : Nat), .int .u8 0, .int .u8 0, .int .u8 0] 5) = g1 at *
    simp (disch := omega) [l1 _ _ hbb]
    refine put32_spec h1 (fun b2 hb2 => ?_)
    have l2 := Le.new (o := .cells #[.int .u8 (byt key 3 : Nat), .int .u8 (byt key 2 : Nat), .int .u8 (byt key 1 : Nat), .int .u8 (byt key 0 : Nat)] 5) hb2
    simp (disch := omega) [ne_new (l1 _ _ hbb) hb2, l1 _ _ hbb]
    refine put32_spec h2 (fun b3 hb3 => ?_)
    have l3 := Le.new (o := .cells #[.int .u8 (byt n 3 : Nat), .int .u8 (byt n 2 : Nat), .int .u8 (byt n 1 : Nat), .int .u8 (byt n 0 : Nat)] 5) hb3
    exact jfin ((l1.trans l2).trans l3) (l3 _ _ (l2 _ _ f1)) (l3 _ _ (by simp)) (by simp) hQ'
  · refine put32_spec h1 (fun b2 hb2 => ?_)
    have f2 : (g0.upd b2 (.cells #[.int .u8 (byt key 3 : Nat), .int .u8 (byt key 2 : Nat), .int .u8 (byt key 1 : Nat), .int .u8 (byt key 0 : Nat)] 5)) b2 = some (.cells #[.int .u8 (byt key 3 : Nat), .int .u8 (byt key 2 : Nat), .int .u8 (byt key 1 : Nat), .int .u8 (byt key 0 : Nat)] 5) := by simp
    have l2 := Le.new (o := .cells #[.int .u8 (byt key 3 : Nat), .int .u8 (byt key 2 : Nat), .int .u8 (byt key 1 : Nat), .int .u8 (byt key 0 : Nat)] 5) hb2
    generalize g0.upd b2 (.cells #[.int .u8 (byt key 3 : Nat), .int .u8 (byt key 2 : Nat), .int .u8 (byt key 1 : Nat), .int .u8 (byt key 0 : Nat)] 5) = g1 at *
    simp (disch := omega) [l2 _ _ hbb]
    refine ⟨?_, ?_⟩
    · intro b1 hb1
      have l1 := Le.new (o := .cells #[.int .u8 (k0 : Nat), .int .u8 0, .int .u8 0, .int .u8 0] 5) hb1
      simp (disch := omega) [ne_new (l2 _ _ hbb) hb1, l2 _ _ hbb]
      refine put32_spec h2 (fun b3 hb3 => ?_)
      have l3 := Le.new (o := .cells #[.int .u8 (byt n 3 : Nat), .int .u8 (byt n 2 : Nat), .int .u8 (byt n 1 : Nat), .int .u8 (byt n 0 : Nat)] 5) hb3
      exact jfin ((l2.trans l1).trans l3) (l3 _ _ (by simp)) (l3 _ _ (l1 _ _ f2)) (by simp) hQ'
    · refine put32_spec h2 (fun b3 hb3 => ?_)
      have f3 : (g1.upd b3 (.cells #[.int .u8 (byt n 3 : Nat), .int .u8 (byt n 2 : Nat), .int .u8 (byt n 1 : Nat), .int .u8 (byt n 0 : Nat)] 5)) b3 = some (.cells #[.int .u8 (byt n 3 : Nat), .int .u8 (byt n 2 : Nat), .int .u8 (byt n 1 : Nat), .int .u8 (byt n 0 : Nat)] 5) := by simp
      have l3 := Le.new (o := .cells #[.int .u8 (byt n 3 : Nat), .int .u8 (byt n 2 : Nat), .int .u8 (byt n 1 : Nat), .int .u8 (byt n 0 : Nat)] 5) hb3
      generalize g1.upd b3 (.cells #[.int .u8 (byt n 3 : Nat), .int .u8 (byt n 2 : Nat), .int .u8 (byt n 1 : Nat), .int .u8 (byt n 0 : Nat)] 5) = g3 at *
      simp (disch := omega) [l3 _ _ (l2 _ _ hbb)]
      intro b1 hb1
      have l1 := Le.new (o := .cells #[.int .u8 (k0 : Nat), .int .u8 0, .int .u8 0, .int .u8 0] 5) hb1
      have J := jfin (b1 := b1) ((l2.trans l3).trans l1) (by simp) (l1 _ _ (l3 _ _ f2)) (l1 _ _ f3) hQ'
      rw [bs_74_3_0_1_2] at J
      exact J
end Go.Proofs.Ytjcecdjbllpmcaa
