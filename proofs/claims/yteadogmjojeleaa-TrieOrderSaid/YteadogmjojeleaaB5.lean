/- TrieOrder: prefixes that are put in another order are the same ones: the walk's head. -/
import Derived.Test.YteadogmjojeleaaB4
namespace Go.Proofs.Yteadogmjojeleaa
open Go
set_option linter.unusedSimpArgs false

set_option maxHeartbeats 1000000 in
theorem TrieOrder_walk {h0 : Hp} {v : Value} {ops : List OpR} {addr : Nat} (A : argOps h0 v ops) (ha : addr < 2 ^ 32) :
    Ok Try.prog F_octroilaw08_TrieOrder #[v, .int .u32 addr] h0 (fun r g => r = .bool true ∧ Le h0 g) := by
  obtain ⟨p, cap, hv⟩ := ArgSl.shape A
  have hlen := ArgSl.len A
  have hmax : maxLen < 2 ^ 63 := by decide
  refine octroilaw08_TrieOrder_ok (by simp) ?_
  unfold octroilaw08_TrieOrder_D
  simp (disch := omega) [octroilaw08_TrieOrder_r0, octroilaw08_TrieOrder_r1]
  refine awake_spec (fun h1 L1 => ?_)
  simp (disch := omega) [octroilaw08_TrieOrder_r2]
  refine newM (fun s ns h2 hs hns L2 M2 => ?_)
  have Os : Own h0 h2 s ns 1000 [] 1 := ⟨M2, L1.trans L2, L1.none hs, L1.none hns⟩
  obtain ⟨os, hos⟩ := Os.m.has_t
  obtain ⟨on, hon⟩ := Os.m.has_nb
  simp (disch := omega) [octroilaw08_TrieOrder_r3]
  refine newM (fun t nt h3 ht hnt L3 M3 => ?_)
  have Ot : Own h0 h3 t nt 1000 [] 1 := ⟨M3, Os.le.trans L3, Os.le.none ht, Os.le.none hnt⟩
  have Os := Os.more L3
  have Ap : Apart4 s ns t nt := ⟨fun e => (by rw [← e, hos] at ht; cases ht), fun e => (by rw [← e, hos] at hnt; cases hnt), fun e => (by rw [← e, hon] at ht; cases ht), fun e => (by rw [← e, hon] at hnt; cases hnt)⟩
  clear M2 M3 L1 L2 L3 hs hns ht hnt hos hon
  by_cases hbig : (200 : Int) < (ops.length : Int)
  · simp (disch := omega) [octroilaw08_TrieOrder_r4, octroilaw08_TrieOrder_r5, hv, hbig]
    exact .to _ (.refl _) ⟨rfl, Os.le⟩
  simp (disch := omega) [octroilaw08_TrieOrder_r4, octroilaw08_TrieOrder_r6, hv, hbig]
  refine ⟨OrdInv0 h0 v ops addr, ⟨ops.length, s, ns, t, nt, 0, ⟨by simp [hv], by simp, by simp, by simp⟩, by simp, by omega, by simpa [putAll] using Os, Ot, Ap⟩, ?_⟩
  clear Os Ot Ap
  rintro m env g ⟨s, ns, t, nt, i, ⟨e0, e1, e6, e7⟩, e8, him, Os, Ot, Ap⟩
  unfold octroilaw08_TrieOrder_L0
  by_cases hm : m = 0
  · have hin : i = ops.length := by omega
    subst hin
    have hl := putAll_length 1000 OpR.pl ops []
    simp only [List.take_length, List.length_nil] at Os hl
    have hsr := Os.m.srt.1
    have hrev := putAll_rev (ops := ops) (by omega) hsr
    generalize putAll 1000 OpR.pl [] ops = L at *
    simp (disch := omega) [octroilaw08_TrieOrder_r7, octroilaw08_TrieOrder_r10, e0, e1, e6, e7, e8, hv, wrap_i64]
    refine ⟨OrdInv1 h0 v ops addr L, ⟨ops.length, s, ns, t, nt, 0, ⟨by simp [e0, hv], by simp [e1], by simp [e6], by simp [e7]⟩, by simp, by omega, Os, by simpa [putAll] using Ot, Ap⟩, ?_⟩
    clear Os Ot Ap e0 e1 e6 e7 e8
    rintro m env g ⟨s, ns, t, nt, i, ⟨e0, e1, e6, e7⟩, e9, him, Os, Ot, Ap⟩
    unfold octroilaw08_TrieOrder_L1
    by_cases hm : m = 0
    · have hin : i = ops.reverse.length := by simp; omega
      subst hin
      simp only [List.take_length] at Ot
      rw [hrev Ot.m.srt.1, List.length_reverse] at Ot
      subst hm
      simp (disch := omega) [octroilaw08_TrieOrder_r11, e0, e1, e6, e7, e9, hv]
      exact TrieOrder_tail (L := L) (v := v) ha (by omega) ⟨by simp [e0, hv], by simp [e1], by simp [e6], by simp [e7]⟩ Os Ot
    · obtain ⟨m, rfl⟩ : ∃ k, m = k + 1 := ⟨m - 1, by omega⟩
      obtain ⟨x, hx⟩ : ∃ x, ops[m]? = some x := ⟨_, List.getElem?_eq_getElem (by omega)⟩
      have hxr : ops.reverse[i]? = some x := by
        rw [List.getElem?_reverse (by omega), ← hx]
        congr 1; omega
      obtain ⟨b, o, cap', c, E, fr, hv', hb, c0, c1, c2, c3, c4⟩ := (argOps.get (ArgSl.le A Os.le) hx)
      have hxa := (A.1 x (List.mem_of_getElem? hx)).pa
      have hsucc := putAll_succ 1000 OpR.pl hxr []
      have hm1 : ((m + 1 : Nat) : Int) - 1 = (m : Int) := by omega
      rw [hm1] at e9
      have hlt : (m : Int) < (ops.length : Int) := by omega
      simp (disch := omega) [octroilaw08_TrieOrder_r11, octroilaw08_TrieOrder_r12, e0, e1, e6, e7, e9, hv', hb, c1, c2, c3, hlt]
      refine putM Ot.m hxa (by omega) (fun h3 nb3 C3 M3 => ?_)
      have O3 := Ot.chg C3 M3
      rw [← hsucc] at O3
      obtain ⟨Os3, Ap3⟩ := Os.beside C3 Ap.symm O3.le
      simp (disch := omega) [octroilaw08_TrieOrder_r13, e0, e1, e6, e7, e9, wrap_i64]
      exact ⟨m, by omega, s, ns, t, nb3, i + 1, ⟨by simp [e0, hv'], by simp [e1], by simp [e6], by simp [e7]⟩, by simp, by omega, Os3, O3, Ap3.symm⟩
  · obtain ⟨m, rfl⟩ : ∃ k, m = k + 1 := ⟨m - 1, by omega⟩
    have hlt : (i : Int) < (ops.length : Int) := by omega
    obtain ⟨x, hx⟩ : ∃ x, ops[i]? = some x := ⟨_, List.getElem?_eq_getElem (by omega)⟩
    obtain ⟨b, o, cap', c, E, fr, hv', hb, c0, c1, c2, c3, c4⟩ := (argOps.get (ArgSl.le A Os.le) hx)
    have hxa := (A.1 x (List.mem_of_getElem? hx)).pa
    have hsucc := putAll_succ 1000 OpR.pl hx []
    simp (disch := omega) [octroilaw08_TrieOrder_r7, octroilaw08_TrieOrder_r8, e0, e1, e6, e7, e8, hv', hlt, hb, c1, c2, c3]
    refine putM Os.m hxa (by omega) (fun h3 nb3 C3 M3 => ?_)
    have O3 := Os.chg C3 M3
    rw [← hsucc] at O3
    obtain ⟨Ot3, Ap3⟩ := Ot.beside C3 Ap O3.le
    simp (disch := omega) [octroilaw08_TrieOrder_r9, e0, e1, e6, e7, e8, wrap_i64]
    exact ⟨m, by omega, s, nb3, t, nt, i + 1, ⟨by simp [e0, hv'], by simp [e1], by simp [e6], by simp [e7]⟩, by simp, by omega, O3, Ot3, Ap3⟩
end Go.Proofs.Yteadogmjojeleaa
