/- The document's trie in memory: Take. -/
import Derived.Test.YteadogmjojeleaaD2
namespace Go.Proofs.Yteadogmjojeleaa
open Go
set_option linter.unusedSimpArgs false

theorem slTo_48 {h : Hp} {len cap : Nat} {a : Addr} {i : Int} (h0 : 0 ≤ i) (h1 : i ≤ (cap : Int)) : rrun Try.prog (Instr.sliceAt 48 (.slice (some a) len cap) none (some (.int .i64 i)) none) h = some (.slice (some a) i.toNat cap) := rr_slice_to und_48 size_68 h0 h1
theorem slFrom_48 {h : Hp} {b o len cap : Nat} {i : Int} (h0 : 0 ≤ i) (h1 : i ≤ (len : Int)) (h2 : i < (cap : Int)) : rrun Try.prog (Instr.sliceAt 48 (.slice (some ⟨b, o, none⟩) len cap) (some (.int .i64 i)) none none) h = some (.slice (some ⟨b, o + i.toNat * 3, none⟩) (len - i.toNat) (cap - i.toNat)) := rr_slice_from und_48 size_68 h0 h1 h2
theorem slEnd_48 {h : Hp} {len cap : Nat} {a : Option Addr} {i : Int} (h1 : i = (len : Int)) : ∃ a' cap', rrun Try.prog (Instr.sliceAt 48 (.slice a len cap) (some (.int .i64 i)) none none) h = some (.slice a' 0 cap') := rr_slice_end und_48 size_68 h1

theorem cat_Pair {h : Hp} {v w : Value} {xs ys : PL} {k : Value → Hp → Prop} (S : SlAt h T_octroiref08_Pair 3 qe v xs) (R0 : Src h 3 qe w ys) (hbd : xs.length + ys.length ≤ 1000000)
    (K : ∀ v' h', SlAt h' T_octroiref08_Pair 3 qe v' (xs ++ ys) → Grew h h' v v' → k v' h') : arun Try.prog (Builtin.append_ #[48, 48] 48 #[v, w]) h k :=
  arun_cat und_48 und_48 size_68 bytes_68 zero_68 (by decide) rfl S R0 (by omega) K

theorem qe_ok (L : PL) : ∀ y ∈ L, (qe y).length = 3 ∧ ∀ u ∈ qe y, oneCell u = true := fun y _ => ⟨rfl, by simp [qe, oneCell]⟩

/-- What the document's trie leaves as it was. -/
structure RChg (h h' : Hp) (r : Nat) (v v' : Value) : Prop where
  keep : ∀ y o, h y = some o → y ≠ r → some y ≠ blkOf v → h' y = some o
  fresh : blkOf v' = blkOf v ∨ ∀ b, blkOf v' = some b → h b = none

theorem rtake_spec {h : Hp} {r : Nat} {most : Int} {v : Value} {L : PL} {a : Nat} {n : Int} {Q : Value → Hp → Prop} (R : RefAt h r most v L) (hp : ∀ x ∈ L, Pok x.1) (hl : L.length ≤ 10000)
    (hQ : ∀ h' v', RChg h h' r v v' → RefAt h' r most v' (takeR L a n).2 → Q (.int .i64 (takeR L a n).1) h') :
    Ok Try.prog F_octroiref08_Trie_Take #[.pointer (some ⟨r, 0, none⟩), .agg #[.int .u32 a, .int .i64 n]] h Q := by
  refine octroiref08_Trie_Take_ok (by simp) ?_
  unfold octroiref08_Trie_Take_D
  simp (disch := omega) [octroiref08_Trie_Take_r0]
  intro b hb
  simp (disch := omega) [octroiref08_Trie_Take_r1]
  have l : Le h (h.upd b (.cells #[.int .u32 a, .int .i64 n] 30)) := .new hb
  have R1 := R.le l
  generalize h.upd b (.cells #[.int .u32 a, .int .i64 n] 30) = g0 at *
  refine at_spec R1 hl ?_
  have hgr := idx_getR hp a n
  unfold idxI
  cases hi : idxR L a n with
  | none =>
    rw [hi] at hgr
    have e : takeR L a n = (5, L) := by unfold takeR; rw [← hgr]; rfl
    rw [e] at hQ
    simp (disch := omega) [octroiref08_Trie_Take_r2, octroiref08_Trie_Take_r3]
    exact .to h l (hQ h v ⟨fun _ _ h _ _ => h, .inl rfl⟩ R)
  | some i =>
    obtain ⟨x, hx, _⟩ := idx_get hi
    have hil := (List.getElem?_eq_some_iff.1 hx).1
    rw [hi] at hgr
    simp only [Option.bind_some, hx, Option.map_some] at hgr
    have hm := idx_may hp hi
    obtain ⟨m, rfl⟩ := Int.eq_ofNat_of_zero_le (mayB_le hm).1
    have e : takeR L a (m : Int) = (0, L.take i ++ L.drop (i + 1)) := by unfold takeR; rw [← hgr]; simp [idx_delL hi]
    rw [e] at hQ
    have hr := R1.r
    obtain ⟨b1, cap1, c1, hv1, hb1, hc1, hc2, henc, _⟩ := SlAt.pair R1.l hx
    have hrb : r ≠ b1 := by
      have := R1.ne
      rw [hv1] at this
      intro e; exact this (by rw [e]; rfl)
    have hr' := hr
    rw [hv1] at hr
    have h0 : ¬ (i : Int) < 0 := by omega
    have hsz : L.length * 3 ≤ c1.size := Nat.le_trans (Nat.mul_le_mul_right 3 hc1) hc2
    simp (disch := omega) [octroiref08_Trie_Take_r2, octroiref08_Trie_Take_r4, hr, h0, slTo_48]
    have Sp : Src g0 3 qe (.slice (some ⟨b1, 0, none⟩) i cap1) (L.take i) := by
      have := Src.part (h := g0) (o := 0) 0 i cap1 (by omega) (qe_ok L) hb1 (by omega) henc
      simpa using this
    refine cat_Pair (xs := []) (.inl ⟨rfl, rfl⟩) Sp (by simp; omega) (fun v2 g2 S2 G2 => ?_)
    have G2k : Le g0 g2 := fun y o hy => G2.keep y o hy (by simp [blkOf])
    have hr2 := G2k _ _ hr
    simp only [List.nil_append] at S2
    have fin : ∀ (ys : PL) (w : Value), ys = L.drop (i + 1) → Src g2 3 qe w ys → ∀ (kk : Value → Hp → Prop), (∀ v3 g3, SlAt g3 T_octroiref08_Pair 3 qe v3 (L.take i ++ L.drop (i + 1)) → Grew g2 g3 v2 v3 → kk v3 g3) → arun Try.prog (Builtin.append_ #[48, 48] 48 #[v2, w]) g2 kk := by
      rintro ys w rfl Sw kk K
      exact cat_Pair S2 Sw (by simp; omega) K
    have v2new : ∀ y, blkOf v2 = some y → g0 y = none := by
      intro y hy
      rcases G2.fresh with e | e
      · rw [e] at hy; cases hy
      · exact e y hy
    have tail : ∀ v3 g3, SlAt g3 T_octroiref08_Pair 3 qe v3 (L.take i ++ L.drop (i + 1)) → Grew g2 g3 v2 v3 →
        g3 r = some (.cells #[.int .i64 most, v] T_octroiref08_Trie (0, 0)) ∧ Q (.int .i64 0) (g3.upd r (.cells #[.int .i64 most, v3] T_octroiref08_Trie (0, 0))) := by
      intro v3 g3 S3 G3
      have hk : ∀ y o, g0 y = some o → g3 y = some o := by
        intro y o hy
        refine G3.keep y o (G2k _ _ hy) (fun e => ?_)
        rw [v2new y e.symm] at hy; cases hy
      have v3new : ∀ y, blkOf v3 = some y → g0 y = none := by
        intro y hy
        rcases G3.fresh with e | e
        · rw [e] at hy; exact v2new y hy
        · have := e y hy
          cases hh : g0 y with
          | none => rfl
          | some o => rw [G2k _ _ hh] at this; cases this
      refine ⟨hk _ _ hr', hQ _ v3 ⟨fun y o hy h1 h2 => ?_, .inr fun y hy => l.none (v3new y hy)⟩ ⟨by simp, S3.keep fun y o hy ho => ?_⟩⟩
      · simp [h1, hk _ _ (l _ _ hy)]
      · have : y ≠ r := by
          rintro rfl
          rw [v3new _ hy] at hr'; cases hr'
        simp [this, ho]
    by_cases hend : i + 1 = L.length
    · obtain ⟨a', cap', hsl⟩ := slEnd_48 (h := noHp) (a := some ⟨b1, 0, none⟩) (cap := cap1) (len := L.length) (i := (i : Int) + 1) (by omega)
      simp (disch := omega) [octroiref08_Trie_Take_r5, hr2, wrap_i64, hsl]
      refine fin [] _ (by rw [hend, List.drop_length]) ⟨by simp, .inl ⟨_, _, rfl, rfl⟩⟩ _ (fun v3 g3 S3 G3 => ?_)
      obtain ⟨t1, t2⟩ := tail v3 g3 S3 G3
      obtain ⟨p3, k3, c3, hv3⟩ := slice_shape S3
      rw [hv3] at t2
      simp (disch := omega) [octroiref08_Trie_Take_r6, octroiref08_Trie_Take_r7, t1, hv3]
      exact .to _ (.refl _) t2
    · simp (disch := omega) [octroiref08_Trie_Take_r5, hr2, wrap_i64, slFrom_48]
      have Sp2 : Src g2 3 qe (.slice (some ⟨b1, (i + 1) * 3, none⟩) (L.length - (i + 1)) (cap1 - (i + 1))) (L.drop (i + 1)) := by
        have := Src.part (h := g2) (o := 0) (i + 1) (L.length - (i + 1)) (cap1 - (i + 1)) (by omega) (qe_ok L) (G2k _ _ hb1) (by omega) henc
        rw [List.take_of_length_le (by simp)] at this
        simpa using this
      refine fin _ _ rfl ?_ _ (fun v3 g3 S3 G3 => ?_)
      · have e1 : ((i : Int) + 1).toNat = i + 1 := by omega
        simpa [e1] using Sp2
      · obtain ⟨t1, t2⟩ := tail v3 g3 S3 G3
        obtain ⟨p3, k3, c3, hv3⟩ := slice_shape S3
        rw [hv3] at t2
        simp (disch := omega) [octroiref08_Trie_Take_r6, octroiref08_Trie_Take_r7, t1, hv3]
        exact .to _ (.refl _) t2
end Go.Proofs.Yteadogmjojeleaa
