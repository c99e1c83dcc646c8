/- TrieBack: what a prefix is given is what it has; when it is taken away, others have what they had: the walk. -/
import Derived.Test.YteadogmjojeleaaB2
namespace Go.Proofs.Yteadogmjojeleaa
open Go
set_option linter.unusedSimpArgs false

theorem key_ne {pa qa : Nat} {pn qn : Int} (hp : mayB pa pn = true) (hq : mayB qa qn = true) (h : (qa, qn) ≠ (pa, pn)) : (qa, qn.toNat) ≠ (pa, pn.toNat) := by
  have h1 := (mayB_le hp).1
  have h2 := (mayB_le hq).1
  intro e
  simp only [Prod.mk.injEq] at e
  exact h (by simp only [Prod.mk.injEq]; omega)

theorem getR_put {most : Int} {L : PL} {pa : Nat} {pn n : Int} (hl : (L.length : Int) < most) (hp : mayB pa pn = true) :
    (putR most L pa pn n).1 = 0 ∧ getR (putR most L pa pn n).2 pa pn = some n ∧ ∀ qa qn, (qa, qn) ≠ (pa, pn) → getR (putR most L pa pn n).2 qa qn = getR L qa qn := by
  have key : (putR most L pa pn n).1 = 0 ∧ ∀ q, getL (putR most L pa pn n).2 q = if q = (pa, pn.toNat) then some n else getL L q := by
    unfold putR
    rw [if_pos hp]
    cases hg : getL L (pa, pn.toNat) with
    | none =>
      simp only [Option.isSome_none, Bool.false_eq_true, if_false]
      rw [if_neg (by omega)]
      exact ⟨rfl, fun q => getL_insL L _ q n hg⟩
    | some k =>
      simp only [Option.isSome_some, if_true]
      exact ⟨trivial, fun q => getL_setL L _ q n (by rw [hg]; simp)⟩
  refine ⟨key.1, ?_, fun qa qn hne => ?_⟩
  · unfold getR; rw [if_pos hp, key.2, if_pos rfl]
  · unfold getR
    split
    · rename_i hq; rw [key.2, if_neg (key_ne hp hq hne)]
    · rfl

theorem getR_take {L : PL} {pa : Nat} {pn : Int} (hs : Srt L) (hp : (getR L pa pn).isSome = true) :
    (takeR L pa pn).1 = 0 ∧ getR (takeR L pa pn).2 pa pn = none ∧ ∀ qa qn, (qa, qn) ≠ (pa, pn) → getR (takeR L pa pn).2 qa qn = getR L qa qn := by
  have hm : mayB pa pn = true := by
    unfold getR at hp
    split at hp
    · assumption
    · cases hp
  unfold takeR
  rw [if_pos hp]
  refine ⟨rfl, ?_, fun qa qn hne => ?_⟩
  · unfold getR; rw [if_pos hm, getL_delL hs, if_pos rfl]
  · unfold getR
    split
    · rename_i hq; rw [getL_delL hs, if_neg (key_ne hm hq hne)]
    · rfl

def BackInv (h0 : Hp) (v : Value) (ops : List OpR) (n : Int) (b5 b7 : Nat) (m : Nat) (env : Env) (g : Hp) : Prop :=
  ∃ t nb i, env 0 = v ∧ env 2 = .int .i64 n ∧ env 5 = .pointer (some ⟨b5, 0, none⟩) ∧ env 7 = .pointer (some ⟨b7, 0, none⟩) ∧ env 10 = .pointer (some ⟨t, 0, none⟩) ∧ env 11 = .int .i64 (i : Nat) ∧ i + m = ops.length ∧ i ≤ ops.length ∧
    Own h0 g t nb 1000 (putAll 1000 OpR.n [] (ops.take i)) (1 + 32 * i)

set_option maxHeartbeats 2000000 in
theorem TrieBack_walk {h : Hp} {v : Value} {ops : List OpR} {pa qa : Nat} {pn qn n : Int} (A : argOps h v ops) (hpa : pa < 2 ^ 32) (hqa : qa < 2 ^ 32) :
    Ok Try.prog F_octroilaw08_TrieBack #[v, .agg #[.int .u32 pa, .int .i64 pn], .int .i64 n, .agg #[.int .u32 qa, .int .i64 qn]] h (fun r g => r = .bool true ∧ Le h g) := by
  obtain ⟨p, cap, hv⟩ := ArgSl.shape A
  have hlen := ArgSl.len A
  have hmax : maxLen < 2 ^ 63 := by decide
  refine octroilaw08_TrieBack_ok (by simp) ?_
  unfold octroilaw08_TrieBack_D
  simp (disch := omega) [octroilaw08_TrieBack_r0]
  intro b5 hb5 b7 hb7
  obtain ⟨hne, hb7'⟩ := upd_none hb7
  have L0 : Le h ((h.upd b5 (.cells #[.int .u32 pa, .int .i64 pn] 30)).upd b7 (.cells #[.int .u32 qa, .int .i64 qn] 30)) := (Le.new hb5).trans (Le.new hb7)
  have h5 : ((h.upd b5 (.cells #[.int .u32 pa, .int .i64 pn] 30)).upd b7 (.cells #[.int .u32 qa, .int .i64 qn] 30)) b5 = some (.cells #[.int .u32 pa, .int .i64 pn] 30) := by simp [hne, Ne.symm hne]
  have h7 : ((h.upd b5 (.cells #[.int .u32 pa, .int .i64 pn] 30)).upd b7 (.cells #[.int .u32 qa, .int .i64 qn] 30)) b7 = some (.cells #[.int .u32 qa, .int .i64 qn] 30) := by simp
  simp (disch := omega) [octroilaw08_TrieBack_r1]
  generalize (h.upd b5 (.cells #[.int .u32 pa, .int .i64 pn] 30)).upd b7 (.cells #[.int .u32 qa, .int .i64 qn] 30) = h0 at *
  have A0 := ArgSl.le A L0
  refine awake_spec (fun h1 L1 => ?_)
  simp (disch := omega) [octroilaw08_TrieBack_r2]
  refine newM (fun t nb h2 ht hnb L2 M2 => ?_)
  have O2 : Own h0 h2 t nb 1000 [] 1 := ⟨M2, L1.trans L2, L1.none ht, L1.none hnb⟩
  have h5' := O2.le _ _ h5
  have h7' := O2.le _ _ h7
  clear M2
  by_cases hbig : (200 : Int) < (ops.length : Int)
  · simp (disch := omega) [octroilaw08_TrieBack_r3, octroilaw08_TrieBack_r4, hv, hbig]
    exact .to _ (.refl _) ⟨rfl, L0.trans O2.le⟩
  by_cases heq : pa = qa ∧ pn = qn
  · obtain ⟨rfl, rfl⟩ := heq
    simp (disch := omega) [octroilaw08_TrieBack_r3, octroilaw08_TrieBack_r4, hv, hbig, h5', h7']
    exact .to _ (.refl _) ⟨rfl, L0.trans O2.le⟩
  have heq2 : ¬ ((pa : Int) = qa ∧ pn = qn) := by omega
  have hdec : (decide ((pa : Int) = (qa : Int)) && decide (pn = qn)) = false := by simp; omega
  have hpq : (qa, qn) ≠ (pa, pn) := by simp only [ne_eq, Prod.mk.injEq]; omega
  simp (disch := omega) [octroilaw08_TrieBack_r3, octroilaw08_TrieBack_r5, hv, hbig, h5', h7', hdec]
  refine ⟨BackInv h0 v ops n b5 b7, ⟨ops.length, t, nb, 0, by simp [hv], by simp, by simp, by simp, by simp, by simp, by omega, by omega, by simpa [putAll] using O2⟩, ?_⟩
  clear O2 L1 L2 ht hnb h5' h7'
  rintro m env g ⟨t, nb, i, e0, e2, e5, e7, e10, e11, him, hi, O⟩
  have h5' := O.le _ _ h5
  have h7' := O.le _ _ h7
  unfold octroilaw08_TrieBack_L0
  by_cases hm : m = 0
  · have hin : i = ops.length := by omega
    subst hin
    have hl := putAll_length 1000 OpR.n ops []
    simp only [List.take_length, List.length_nil] at O hl
    obtain ⟨hs, hp⟩ := O.m.srt
    generalize putAll 1000 OpR.n [] ops = L at *
    simp (disch := omega) [octroilaw08_TrieBack_r6, octroilaw08_TrieBack_r9, e0, e2, e5, e7, e10, e11, hv, h5', h7']
    refine getM O.m hqa ?_
    simp (disch := omega) [octroilaw08_TrieBack_r10, e0, e2, e5, e7, e10, e11, h5', h7']
    refine putM O.m hpa (by omega) (fun h3 nb3 C3 M3 => ?_)
    have O3 := O.chg C3 M3
    have h53 := O3.le _ _ h5
    have h73 := O3.le _ _ h7
    cases hmay : mayB pa pn with
    | false =>
      have e : putR 1000 L pa pn n = (1, L) := by unfold putR; simp [hmay]
      simp (disch := omega) [octroilaw08_TrieBack_r11, octroilaw08_TrieBack_r12, e, e0, e2, e5, e7, e10, e11, h53, h73]
      refine may_spec hpa ?_
      simp (disch := omega) [hmay]
      exact .to _ (.refl _) ⟨rfl, L0.trans O3.le⟩
    | true =>
      obtain ⟨q1, q2, q3⟩ := getR_put (most := 1000) (n := n) (L := L) (by omega) hmay
      have hs1 := M3.srt.1
      simp (disch := omega) [octroilaw08_TrieBack_r11, octroilaw08_TrieBack_r13, q1, e0, e2, e5, e7, e10, e11, h53, h73]
      generalize (putR 1000 L pa pn n).2 = L1 at *
      refine getM O3.m hpa ?_
      simp (disch := omega) [octroilaw08_TrieBack_r14, q2, e0, e2, e5, e7, e10, e11, h53, h73]
      refine getM O3.m hqa ?_
      simp (disch := omega) [octroilaw08_TrieBack_r15, q2, q3 _ _ hpq, e0, e2, e5, e7, e10, e11, h53, h73]
      obtain ⟨t1, t2, t3⟩ := getR_take (pa := pa) (pn := pn) hs1 (by rw [q2]; rfl)
      refine takeM O3.m hpa (by omega) (fun h4 C4 M4 => ?_)
      have O4 := O3.chg C4 M4
      have h54 := O4.le _ _ h5
      have h74 := O4.le _ _ h7
      simp (disch := omega) [octroilaw08_TrieBack_r16, t1, e0, e2, e5, e7, e10, e11, h54, h74]
      generalize (takeR L1 pa pn).2 = L2 at *
      refine getM O4.m hpa ?_
      simp (disch := omega) [octroilaw08_TrieBack_r17, t2, e0, e2, e5, e7, e10, e11, h54, h74]
      refine getM O4.m hqa ?_
      simp (disch := omega) [octroilaw08_TrieBack_r18, t3 _ _ hpq, q3 _ _ hpq, e0, e2, e5, e7, e10, e11, h54, h74]
      have t4 : takeR L2 pa pn = (5, L2) := by unfold takeR; rw [t2]; rfl
      refine takeM O4.m hpa (by omega) (fun h6 C6 M6 => ?_)
      have O6 := O4.chg C6 M6
      simp (disch := omega) [t4]
      exact .to _ (.refl _) ⟨rfl, L0.trans O6.le⟩
  · obtain ⟨m, rfl⟩ : ∃ k, m = k + 1 := ⟨m - 1, by omega⟩
    have hlt : (i : Int) < (ops.length : Int) := by omega
    obtain ⟨x, hx⟩ : ∃ x, ops[i]? = some x := ⟨_, List.getElem?_eq_getElem (by omega)⟩
    obtain ⟨b, o, cap', c, E, fr, hv', hb, c0, c1, c2, c3, c4⟩ := (argOps.get (ArgSl.le A0 O.le) hx)
    have hxa := (A.1 x (List.mem_of_getElem? hx)).pa
    have hsucc := putAll_succ 1000 OpR.n hx []
    simp (disch := omega) [octroilaw08_TrieBack_r6, octroilaw08_TrieBack_r7, e0, e2, e5, e7, e10, e11, hv', hlt, hb, c1, c2, c3]
    refine putM O.m hxa (by omega) (fun h3 nb3 C3 M3 => ?_)
    have O3 := O.chg C3 M3
    rw [← hsucc] at O3
    simp (disch := omega) [octroilaw08_TrieBack_r8, e0, e2, e5, e7, e10, e11, wrap_i64]
    exact ⟨m, by omega, t, nb3, i + 1, by simp [e0, hv'], by simp [e2], by simp [e5], by simp [e7], by simp [e10], by simp, by omega, by omega, O3⟩
end Go.Proofs.Yteadogmjojeleaa
