/- The document's trie in memory: Find. -/
import Derived.Test.YteadogmjojeleaaD4
import Derived.Test.YteadogmjojeleaaB7
namespace Go.Proofs.Yteadogmjojeleaa
open Go
set_option linter.unusedSimpArgs false

def bestI : Option Nat → Int
  | none => -1
  | some j => (j : Nat)

def FF (addr : Nat) (b : Option ((Nat × Nat) × Int)) (x : (Nat × Nat) × Int) : Option ((Nat × Nat) × Int) := if x.1.1 = cutA addr x.1.2 ∧ (∀ y ∈ b, y.1.2 < x.1.2) then some x else b

theorem findL_FF (L : PL) (addr : Nat) : findL L addr = L.foldl (FF addr) none := rfl

def RFindInv (r b : Nat) (L : PL) (addr : Nat) (g0 : Hp) (m : Nat) (env : Env) (g : Hp) : Prop :=
  ∃ i best, g = g0 ∧ env 0 = .pointer (some ⟨r, 0, none⟩) ∧ env 1 = .int .u32 addr ∧ env 4 = .pointer (some ⟨b, 0, none⟩) ∧ env 7 = .int .i64 (bestI best) ∧ env 8 = .int .i64 (i : Nat) ∧ i + m = L.length ∧
    (L.take i).foldl (FF addr) none = best.bind (fun j => L[j]?) ∧ ∀ j, best = some j → j < L.length

set_option maxHeartbeats 1000000 in
theorem rfind_spec {h : Hp} {r : Nat} {most : Int} {v : Value} {L : PL} {addr : Nat} {Q : Value → Hp → Prop} (R : RefAt h r most v L) (hp : ∀ x ∈ L, Pok x.1) (hl : L.length ≤ 10000) (ha : addr < 2 ^ 32)
    (hQ : Q (.tuple #[.agg #[.int .u32 (fa (findL L addr)), .int .i64 (fl (findL L addr))], .int .i64 (fn (findL L addr)), .bool (findL L addr).isSome]) h) :
    Ok Try.prog F_octroiref08_Trie_Find #[.pointer (some ⟨r, 0, none⟩), .int .u32 addr] h Q := by
  refine octroiref08_Trie_Find_ok (by simp) ?_
  unfold octroiref08_Trie_Find_D
  simp (disch := omega) [octroiref08_Trie_Find_r0]
  intro b hb
  simp (disch := omega) [octroiref08_Trie_Find_r1, octroiref08_Trie_Find_r2]
  have hbb : (h.upd b (.cells #[.int .u32 0, .int .i64 0] 30)) b = some (.cells #[.int .u32 0, .int .i64 0] 30) := by simp
  have l : Le h (h.upd b (.cells #[.int .u32 0, .int .i64 0] 30)) := .new hb
  have hb0 := hb
  have R1 := R.le l
  generalize h.upd b (.cells #[.int .u32 0, .int .i64 0] 30) = g0 at *
  refine ⟨RFindInv r b L addr g0, ⟨L.length, 0, none, rfl, by simp, by simp, by simp, by simp [bestI], by simp, by omega, by simp, by simp⟩, ?_⟩
  rintro m env g ⟨i, best, rfl, e0, e1, e4, e7, e8, him, hfold, hbest⟩
  obtain ⟨pv, cv, hv⟩ := SlAt.shape R1.l
  have hr := R1.r
  rw [hv] at hr
  have hrb : r ≠ b := by
    rintro rfl
    rw [hbb] at hr
    simp at hr
  have hfinal : ∀ cs, drp Q (.tuple #[.agg #[.int .u32 (fa (findL L addr)), .int .i64 (fl (findL L addr))], .int .i64 (fn (findL L addr)), .bool (findL L addr).isSome]) (g.upd b (.cells cs 30)) := by
    intro cs
    refine .to h (fun y o hy => ?_) hQ
    have : y ≠ b := by rintro rfl; rw [hb0] at hy; cases hy
    simp [this, l _ _ hy]
  unfold octroiref08_Trie_Find_L0
  by_cases hm : m = 0
  · have hin : i = L.length := by omega
    subst hin
    rw [List.take_length, ← findL_FF] at hfold
    cases best with
    | none =>
      rw [hfold] at hfinal
      simp only [Option.bind_none, fa, fl, fn, Option.isSome_none] at hfinal
      simp only [bestI] at e7
      simp (disch := omega) [octroiref08_Trie_Find_r3, octroiref08_Trie_Find_r8, octroiref08_Trie_Find_r9, e0, e1, e4, e7, e8, hr, hbb]
      exact hfinal _
    | some j =>
      have hj := hbest j rfl
      obtain ⟨x, hx⟩ : ∃ x, L[j]? = some x := ⟨_, List.getElem?_eq_getElem hj⟩
      rw [hfold] at hfinal
      simp only [Option.bind_some, hx, fa, fl, fn, Option.isSome_some] at hfinal
      obtain ⟨b1, cap1, c1, hv1, hb1, c10, c11, c12⟩ := SlAt.pairR R1.l hx
      rw [hv] at hv1
      rw [hv1] at hr
      have hb1b : b1 ≠ b := by
        rintro rfl
        rw [hbb] at hb1
        simp at hb1
        exact absurd hb1.2 (by decide)
      have hlt : (j : Int) < (L.length : Int) := by omega
      have hj0 : ¬ (j : Int) < 0 := by omega
      simp only [bestI] at e7
      simp (disch := omega) [octroiref08_Trie_Find_r3, octroiref08_Trie_Find_r8, octroiref08_Trie_Find_r10, e0, e1, e4, e7, e8, hr, hbb, hlt, hj0, hb1, c10, c11, c12, hrb, Ne.symm hrb, hb1b, Ne.symm hb1b]
      exact hfinal _
  · obtain ⟨m, rfl⟩ : ∃ k, m = k + 1 := ⟨m - 1, by omega⟩
    have hlt : (i : Int) < (L.length : Int) := by omega
    obtain ⟨x, hx⟩ : ∃ x, L[i]? = some x := ⟨_, List.getElem?_eq_getElem (by omega)⟩
    have hmem := List.mem_of_getElem? hx
    have hpx := hp x hmem
    have hmay := pok_mayB hpx
    obtain ⟨b1, cap1, c1, hv1, hb1, c10, c11, c12⟩ := SlAt.pairR R1.l hx
    rw [hv] at hv1
    rw [hv1] at hr
    have hstep : (L.take (i + 1)).foldl (FF addr) none = FF addr (best.bind fun j => L[j]?) x := by
      rw [take_succ' hx, List.foldl_append, hfold]; rfl
    have hcut : hasB x.1 addr = true ↔ x.1.1 = cutA addr x.1.2 := ⟨has_cut hpx, cut_has⟩
    simp (disch := omega) [octroiref08_Trie_Find_r3, octroiref08_Trie_Find_r4, e0, e1, e4, e7, e8, hr, hlt, hb1, c10, c11]
    refine rhas_spec hpx.a ha ?_
    have keep : ∀ env', env' 0 = env 0 → env' 1 = env 1 → env' 4 = env 4 → env' 7 = .int .i64 (bestI best) → env' 8 = .int .i64 ((i : Int) + 1) → FF addr (best.bind fun j => L[j]?) x = (best.bind fun j => L[j]?) → ∃ m', m' < m + 1 ∧ RFindInv r b L addr g m' env' g := by
      intro env' a0 a1 a4 a7 a8 hF
      exact ⟨m, by omega, i + 1, best, rfl, by rw [a0, e0], by rw [a1, e1], by rw [a4, e4], a7, by simpa using a8, by omega, by rw [hstep, hF], hbest⟩
    have turn : ∀ env', env' 0 = env 0 → env' 1 = env 1 → env' 4 = env 4 → env' 7 = .int .i64 (i : Nat) → env' 8 = .int .i64 ((i : Int) + 1) → FF addr (best.bind fun j => L[j]?) x = some x → ∃ m', m' < m + 1 ∧ RFindInv r b L addr g m' env' g := by
      intro env' a0 a1 a4 a7 a8 hF
      exact ⟨m, by omega, i + 1, some i, rfl, by rw [a0, e0], by rw [a1, e1], by rw [a4, e4], a7, by simpa using a8, by omega, by rw [hstep, hF]; simp [hx], fun j hj => by cases hj; omega⟩
    cases hh : hasB x.1 addr with
    | false =>
      have hF : FF addr (best.bind fun j => L[j]?) x = (best.bind fun j => L[j]?) := by
        unfold FF; rw [if_neg]; rintro ⟨q, _⟩; rw [hcut.2 q] at hh; cases hh
      simp (disch := omega) [octroiref08_Trie_Find_r5, octroiref08_Trie_Find_r7, hmay, hh, e0, e1, e4, e7, e8, hr, wrap_i64]
      exact keep _ (by simp) (by simp) (by simp) (by simp [e7]) (by simp) hF
    | true =>
      cases best with
      | none =>
        have hF : FF addr ((none : Option Nat).bind fun j => L[j]?) x = some x := by
          unfold FF; rw [if_pos]; exact ⟨hcut.1 hh, by simp⟩
        simp only [bestI] at e7
        simp (disch := omega) [octroiref08_Trie_Find_r5, octroiref08_Trie_Find_r6, octroiref08_Trie_Find_r7, hmay, hh, e0, e1, e4, e7, e8, hr, wrap_i64]
        exact turn _ (by simp) (by simp) (by simp) (by simp) (by simp) hF
      | some j =>
        have hj := hbest j rfl
        obtain ⟨y, hy⟩ : ∃ y, L[j]? = some y := ⟨_, List.getElem?_eq_getElem hj⟩
        obtain ⟨b2, cap2, c2, hv2, hb2, c20, c21, c22⟩ := SlAt.pairR R1.l hy
        rw [hv, hv1] at hv2
        have hbe : b2 = b1 := by simp at hv2; exact hv2.1.symm
        subst hbe
        rw [hb1] at hb2
        obtain rfl : c1 = c2 := by simpa using hb2
        have hltj : (j : Int) < (L.length : Int) := by omega
        have hj0 : ¬ (j : Int) < 0 := by omega
        simp only [bestI] at e7
        by_cases hlong : y.1.2 < x.1.2
        · have hF : FF addr ((some j).bind fun j => L[j]?) x = some x := by
            unfold FF; rw [if_pos]; exact ⟨hcut.1 hh, by simpa [hy] using hlong⟩
          simp (disch := omega) [octroiref08_Trie_Find_r5, octroiref08_Trie_Find_r6, octroiref08_Trie_Find_r7, hmay, hh, e0, e1, e4, e7, e8, hr, hb1, c11, c21, hlt, hltj, hj0, hlong, wrap_i64]
          exact turn _ (by simp) (by simp) (by simp) (by simp) (by simp) hF
        · have hF : FF addr ((some j).bind fun j => L[j]?) x = ((some j).bind fun j => L[j]?) := by
            unfold FF; rw [if_neg]; rintro ⟨_, q⟩; exact hlong (q y (by simp [hy]))
          simp (disch := omega) [octroiref08_Trie_Find_r5, octroiref08_Trie_Find_r7, hmay, hh, e0, e1, e4, e7, e8, hr, hb1, c11, c21, hlt, hltj, hj0, hlong, wrap_i64]
          exact keep _ (by simp) (by simp) (by simp) (by simp [e7, bestI]) (by simp) hF
end Go.Proofs.Yteadogmjojeleaa
