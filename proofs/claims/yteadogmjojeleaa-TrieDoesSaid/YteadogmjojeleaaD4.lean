/- The document's trie in memory: Put. -/
import Derived.Test.YteadogmjojeleaaD3
namespace Go.Proofs.Yteadogmjojeleaa
open Go
set_option linter.unusedSimpArgs false

def outRest (p : Nat × Nat) (k : Int) : PL → Bool → PL
  | [], done => if done then [] else [(p, k)]
  | x :: xs, done => (if !done && decide (plt p x.1) then [(p, k)] else []) ++ x :: outRest p k xs (done || decide (plt p x.1))

theorem outRest_true (p : Nat × Nat) (k : Int) : ∀ L : PL, outRest p k L true = L
  | [] => rfl
  | x :: xs => by simp [outRest, outRest_true p k xs]

theorem outRest_false (p : Nat × Nat) (k : Int) : ∀ L : PL, outRest p k L false = insL L p k
  | [] => rfl
  | x :: xs => by
    simp only [outRest, insL]
    by_cases h : plt p x.1
    · simp [h, outRest_true]
    · simp [h, outRest_false p k xs]

theorem push_step {g0 g : Hp} {vout : Value} {out : PL} {y : (Nat × Nat) × Int} {b3 : Nat} {K : Value → Hp → Prop} (lg : Le g0 g) (F : ∀ b, blkOf vout = some b → g0 b = none) (S : SlAt g T_octroiref08_Pair 3 qe vout out) (hl : out.length ≤ 100000)
    (hb3 : g b3 = none) (hK : ∀ v' g', Le g0 g' → (∀ b, blkOf v' = some b → g0 b = none) → SlAt g' T_octroiref08_Pair 3 qe v' (out ++ [y]) → K v' g') :
    arun Try.prog (Builtin.append_ #[48, 48] 48 #[vout, .slice (some ⟨b3, 0, none⟩) 1 1]) (g.upd b3 (.cells #[.int .u32 y.1.1, .int .i64 y.1.2, .int .i64 y.2] 68)) K := by
  have e3 : ∀ z o, g z = some o → z ≠ b3 := fun z o hz => ne_new hz hb3
  have S3 : SlAt (g.upd b3 (.cells #[.int .u32 y.1.1, .int .i64 y.1.2, .int .i64 y.2] 68)) T_octroiref08_Pair 3 qe vout out := S.keep (fun b o _ ho => by simp [e3 b o ho, ho])
  refine push_octroiref08_Pair (xs := out) (y := y) (enc := qe) S3 (by simp [qe]) rfl (by simp [qe, oneCell]) (by omega) ?_
  intro b4 c4 cap4 hb4 hcap hsz4 henc
  have hb40 : g0 b4 = none := by
    rcases hb4 with e | e
    · exact F b4 e.symm
    · exact lg.none (upd_none e).2
  refine hK _ _ (fun z o hz => ?_) (fun b hb => by cases hb; exact hb40) (.inr ⟨b4, cap4, c4, by simp, by simp, by simpa using hcap, hsz4, henc⟩)
  have h1 : z ≠ b4 := by rintro rfl; rw [hb40] at hz; cases hz
  have h2 : z ≠ b3 := e3 z o (lg _ _ hz)
  simp [h1, h2, lg _ _ hz]

def PutInv (r b : Nat) (L : PL) (p : Nat × Nat) (k : Int) (g0 : Hp) (m : Nat) (env : Env) (g : Hp) : Prop :=
  ∃ i vout out done, env 0 = .pointer (some ⟨r, 0, none⟩) ∧ env 2 = .int .i64 k ∧ env 4 = .pointer (some ⟨b, 0, none⟩) ∧ env 9 = vout ∧ env 10 = .bool done ∧ env 11 = .int .i64 (i : Nat) ∧ i + m = L.length ∧
    Le g0 g ∧ (∀ y, blkOf vout = some y → g0 y = none) ∧ SlAt g T_octroiref08_Pair 3 qe vout out ∧ out ++ outRest p k (L.drop i) done = insL L p k

set_option maxHeartbeats 1000000 in
theorem rput_spec {h : Hp} {r : Nat} {most : Int} {v : Value} {L : PL} {a : Nat} {n k : Int} {Q : Value → Hp → Prop} (R : RefAt h r most v L) (hp : ∀ x ∈ L, Pok x.1) (hl : L.length ≤ 10000) (ha : a < 2 ^ 32)
    (hQ : ∀ h' v', RChg h h' r v v' → RefAt h' r most v' (putR most L a n k).2 → Q (.int .i64 (putR most L a n k).1) h') :
    Ok Try.prog F_octroiref08_Trie_Put #[.pointer (some ⟨r, 0, none⟩), .agg #[.int .u32 a, .int .i64 n], .int .i64 k] h Q := by
  refine octroiref08_Trie_Put_ok (by simp) ?_
  unfold octroiref08_Trie_Put_D
  simp (disch := omega) [octroiref08_Trie_Put_r0]
  intro b hb
  simp (disch := omega) [octroiref08_Trie_Put_r1]
  have hbb : (h.upd b (.cells #[.int .u32 a, .int .i64 n] 30)) b = some (.cells #[.int .u32 a, .int .i64 n] 30) := by simp
  have l : Le h (h.upd b (.cells #[.int .u32 a, .int .i64 n] 30)) := .new hb
  have R1 := R.le l
  generalize h.upd b (.cells #[.int .u32 a, .int .i64 n] 30) = g0 at *
  refine rmay_spec ha ?_
  cases hm : mayB a n with
  | false =>
    have e : putR most L a n k = (1, L) := by unfold putR; simp [hm]
    rw [e] at hQ
    simp (disch := omega) [octroiref08_Trie_Put_r2, octroiref08_Trie_Put_r3]
    exact .to h l (hQ h v ⟨fun _ _ h _ _ => h, .inl rfl⟩ R)
  | true =>
  simp (disch := omega) [octroiref08_Trie_Put_r2, octroiref08_Trie_Put_r4, hbb]
  refine at_spec R1 hl ?_
  obtain ⟨m, rfl⟩ := Int.eq_ofNat_of_zero_le (mayB_le hm).1
  have hgr := idx_getL (L := L) (a := a) (m := m)
  unfold idxI
  have hr := R1.r
  cases hi : idxR L a (m : Int) with
  | some i =>
    obtain ⟨x, hx, _⟩ := idx_get hi
    have hil := (List.getElem?_eq_some_iff.1 hx).1
    rw [hi] at hgr
    simp only [Option.bind_some, hx, Option.map_some] at hgr
    have e : putR most L a (m : Int) k = (0, L.set i ((a, m), k)) := by unfold putR; rw [if_pos hm]; simp only [Int.toNat_natCast]; rw [← hgr, idx_setL hi]; rfl
    rw [e] at hQ
    obtain ⟨b1, cap1, c1, hv1, hb1, hc1, hc2, henc, q0, q1, q2⟩ := SlAt.pair R1.l hx
    have hrb : r ≠ b1 := by
      have := R1.ne
      rw [hv1] at this
      intro e; exact this (by rw [e]; rfl)
    have hsz : i * 3 + 2 < c1.size := by
      have : (i + 1) * 3 ≤ c1.size := Nat.le_trans (Nat.mul_le_mul_right 3 (Nat.le_trans hil hc1)) hc2
      omega
    have henc2 : Enc (c1.setIfInBounds (i * 3 + 2) (.int .i64 k)) 0 3 qe (L.set i ((a, m), k)) := by
      refine henc.setCell hx (by omega) hsz (fun j hj => ?_)
      have hjc : j = 0 ∨ j = 1 ∨ j = 2 := by omega
      obtain ⟨y, hy, y1, y2⟩ := idx_get hi
      rw [hx] at hy
      cases hy
      have y2' : x.1.2 = m := by omega
      rcases hjc with rfl | rfl | rfl <;> simp [qe, y1, y2']
    have hfin : Q (.int .i64 0) (g0.upd b1 (.cells (c1.setIfInBounds (i * 3 + 2) (.int .i64 k)) 68)) := by
      refine hQ _ v ⟨fun y o hy h1 h2 => ?_, .inl rfl⟩ ⟨by simp [hrb, hr], .inr ⟨b1, cap1, _, by rw [hv1]; simp, by simp, by simpa using hc1, by simpa using hc2, henc2⟩⟩
      have : y ≠ b1 := by rintro rfl; rw [hv1] at h2; exact h2 rfl
      simp [this, l _ _ hy]
    rw [hv1] at hr
    clear hc1 hc2 henc henc2 hsz
    have hlt : (i : Int) < (L.length : Int) := by omega
    simp (disch := omega) [octroiref08_Trie_Put_r5, octroiref08_Trie_Put_r6, octroiref08_Trie_Put_r7, hr, hb1, q2, hlt]
    exact .to _ (.refl _) hfin
  | none =>
    rw [hi] at hgr
    simp only [Option.bind_none] at hgr
    obtain ⟨pv, cv, hv⟩ := SlAt.shape R1.l
    have hr' := hr
    rw [hv] at hr
    by_cases hful : most ≤ (L.length : Int)
    · have e : putR most L a (m : Int) k = (4, L) := by unfold putR; rw [if_pos hm]; simp only [Int.toNat_natCast]; rw [← hgr]; simp [hful]
      rw [e] at hQ
      simp (disch := omega) [octroiref08_Trie_Put_r5, octroiref08_Trie_Put_r8, octroiref08_Trie_Put_r9, hr, hful]
      exact .to h l (hQ h v ⟨fun _ _ h _ _ => h, .inl rfl⟩ R)
    · have e : putR most L a (m : Int) k = (0, insL L (a, m) k) := by unfold putR; rw [if_pos hm]; simp only [Int.toNat_natCast]; rw [← hgr]; simp [hful]
      rw [e] at hQ
      simp (disch := omega) [octroiref08_Trie_Put_r5, octroiref08_Trie_Put_r8, octroiref08_Trie_Put_r10, octroiref08_Trie_Put_r11, octroiref08_Trie_Put_r12, hr, hful]
      refine ⟨PutInv r b L (a, m) k g0, ⟨L.length, 0, .slice none 0 0, [], false, by simp, by simp, by simp, by simp, by simp, by simp, by omega, .refl _, by simp [blkOf], .inl ⟨rfl, rfl⟩, by simp [outRest_false]⟩, ?_⟩
      rintro m' env g ⟨i, vout, out, done, e0, e2, e4, e9, e10, e11, him, lg, F, S, hout⟩
      have hlen : out.length ≤ L.length + 1 := by
        have := congrArg List.length hout
        rw [List.length_append, insL_length] at this
        omega
      have hr2 := lg _ _ hr
      have hbb2 := lg _ _ hbb
      have tail : ∀ v3 g3, Le g0 g3 → (∀ y, blkOf v3 = some y → g0 y = none) → SlAt g3 T_octroiref08_Pair 3 qe v3 (insL L (a, m) k) → Q (.int .i64 0) (g3.upd r (.cells #[.int .i64 most, v3] T_octroiref08_Trie (0, 0))) := by
        intro v3 g3 l3 F3 S3
        refine hQ _ v3 ⟨fun y o hy h1 h2 => ?_, .inr fun y hy => l.none (F3 y hy)⟩ ⟨by simp, S3.keep fun y o hy ho => ?_⟩
        · simp [h1, l3 _ _ (l _ _ hy)]
        · have : y ≠ r := by
            rintro rfl
            rw [F3 _ hy] at hr'; cases hr'
          simp [this, ho]
      unfold octroiref08_Trie_Put_L0
      by_cases hm0 : m' = 0
      · have hin : i = L.length := by omega
        subst hin
        rw [List.drop_length] at hout
        cases done with
        | true =>
          simp only [outRest, if_true, List.append_nil] at hout
          rw [hout] at S
          obtain ⟨p3, k3, c3, hv3⟩ := slice_shape S
          have t2 := tail vout g lg F S
          rw [hv3] at t2
          simp (disch := omega) [octroiref08_Trie_Put_r13, octroiref08_Trie_Put_r20, octroiref08_Trie_Put_r22, octroiref08_Trie_Put_r23, e0, e2, e4, e9, e10, e11, hr2, hv3]
          exact .to _ (.refl _) t2
        | false =>
          simp only [outRest, Bool.false_eq_true, if_false] at hout
          simp (disch := omega) [octroiref08_Trie_Put_r13, octroiref08_Trie_Put_r20, octroiref08_Trie_Put_r21, e0, e2, e4, e9, e10, e11, hr2, hbb2]
          intro b3 hb3
          refine push_step (y := ((a, m), k)) lg F S (by omega) hb3 (fun v3 g3 l3 F3 S3 => ?_)
          rw [hout] at S3
          have hr3 := l3 _ _ hr
          obtain ⟨p3, k3, c3, hv3⟩ := slice_shape S3
          have t2 := tail v3 g3 l3 F3 S3
          rw [hv3] at t2
          simp (disch := omega) [octroiref08_Trie_Put_r22, octroiref08_Trie_Put_r23, e0, e2, e4, e9, e10, e11, hr3, hv3]
          exact .to _ (.refl _) t2
      · obtain ⟨m', rfl⟩ : ∃ k, m' = k + 1 := ⟨m' - 1, by omega⟩
        have hlt : (i : Int) < (L.length : Int) := by omega
        obtain ⟨x, hx⟩ : ∃ x, L[i]? = some x := ⟨_, List.getElem?_eq_getElem (by omega)⟩
        obtain ⟨b1, cap1, c1, hv1, hb1, c10, c11, c12⟩ := SlAt.pairR R1.l hx
        rw [hv] at hv1
        have hr2' := hr2
        rw [hv1] at hr2
        have hb12 := lg _ _ hb1
        have hdrop : L.drop i = x :: L.drop (i + 1) := by
          rw [List.drop_eq_getElem_cons (by omega)]
          congr 1
          rw [List.getElem?_eq_getElem (by omega)] at hx
          exact Option.some.inj hx
        rw [hdrop] at hout
        simp only [outRest] at hout
        have hless : (decide (a < x.1.1) || (decide (a = x.1.1) && decide ((m : Int) < (x.1.2 : Int)))) = decide (plt (a, m) x.1) := by
          rw [Bool.eq_iff_iff]; simp only [Bool.or_eq_true, decide_eq_true_eq, Bool.and_eq_true]; unfold plt; simp only; omega
        -- the element itself
        have step : ∀ (env' : Env) (vo : Value) (ou : PL) (g' : Hp) (dn : Bool), env' 0 = .pointer (some ⟨r, 0, none⟩) → env' 2 = .int .i64 k → env' 4 = .pointer (some ⟨b, 0, none⟩) → env' 9 = vo → env' 10 = .bool dn → env' 11 = .int .i64 (i : Nat) →
            Le g0 g' → (∀ y, blkOf vo = some y → g0 y = none) → SlAt g' T_octroiref08_Pair 3 qe vo ou → ou.length ≤ 100000 → ou ++ x :: outRest (a, m) k (L.drop (i + 1)) dn = insL L (a, m) k →
            ∀ K : Post, (∀ env'' g'', PutInv r b L (a, m) k g0 m' env'' g'' → K .normal env'' g'') → sq (rg octroiref08_Trie_Put_r18) (rg octroiref08_Trie_Put_r19) K env' g' := by
          intro env' vo ou g' dn a0 a2 a4 a9 a10 a11 l' F' S' hol ho K hK
          have hr3 := l' _ _ hr
          rw [hv1] at hr3
          have hb13 := l' _ _ hb1
          simp (disch := omega) [octroiref08_Trie_Put_r18, a0, a2, a4, a9, a10, a11, hr3, hb13, hlt, c10, c11, c12]
          intro b3 hb3
          refine push_step (y := x) l' F' S' hol hb3 (fun v3 g3 l3 F3 S3 => ?_)
          simp (disch := omega) [octroiref08_Trie_Put_r19, a0, a2, a4, a9, a10, a11, wrap_i64]
          exact hK _ _ ⟨i + 1, v3, ou ++ [x], dn, by simp [a0], by simp [a2], by simp [a4], by simp, by simp [a10], by simp, by omega, l3, F3, S3, by rw [List.append_assoc]; exact ho⟩
        simp (disch := omega) [octroiref08_Trie_Put_r13, octroiref08_Trie_Put_r14, e0, e2, e4, e9, e10, e11, hr2, hbb2, hb12, hlt, c10, c11]
        refine rless_spec ?_
        rw [hless]
        by_cases hins : done = false ∧ plt (a, m) x.1
        · obtain ⟨rfl, hins⟩ := hins
          simp only [hins, decide_true, Bool.not_false, Bool.and_self, if_true, Bool.or_true] at hout ⊢
          simp (disch := omega) [octroiref08_Trie_Put_r15, octroiref08_Trie_Put_r16, e0, e2, e4, e9, e10, e11, hbb2]
          intro b3 hb3
          refine push_step (y := ((a, m), k)) lg F S (by omega) hb3 (fun v3 g3 l3 F3 S3 => ?_)
          simp (disch := omega) [octroiref08_Trie_Put_r17, e0, e2, e4, e9, e10, e11]
          exact step _ v3 _ g3 true (by simp [e0]) (by simp [e2]) (by simp [e4]) (by simp) (by simp) (by simp [e11]) l3 F3 S3 (by simp; omega) (by rw [List.append_assoc]; exact hout) (roundK (PutInv r b L (a, m) k g0) (m' + 1) _) (fun env'' g'' H => ⟨m', by omega, H⟩)
        · have hnb : (!done && decide (plt (a, m) x.1)) = false := by
            cases done with
            | true => rfl
            | false => simp only [Bool.not_false, Bool.true_and, decide_eq_false_iff_not]; exact fun h => hins ⟨rfl, h⟩
          have hnd : (done || decide (plt (a, m) x.1)) = done := by
            cases done with
            | true => rfl
            | false => simp only [Bool.false_or, decide_eq_false_iff_not]; exact fun h => hins ⟨rfl, h⟩
          rw [hnb, hnd] at hout
          simp only [Bool.false_eq_true, if_false, List.nil_append] at hout
          cases done with
          | true =>
            simp (disch := omega) [octroiref08_Trie_Put_r15, e0, e2, e4, e9, e10, e11, hbb2]
            exact step _ vout _ g true (by simp [e0]) (by simp [e2]) (by simp [e4]) (by simp [e9]) (by simp [e10]) (by simp [e11]) lg F S (by omega) hout (roundK (PutInv r b L (a, m) k g0) (m' + 1) _) (fun env'' g'' H => ⟨m', by omega, H⟩)
          | false =>
            have hnp : ¬ plt (a, m) x.1 := fun h => hins ⟨rfl, h⟩
            simp (disch := omega) [octroiref08_Trie_Put_r15, e0, e2, e4, e9, e10, e11, hbb2, hnp]
            exact step _ vout _ g false (by simp [e0]) (by simp [e2]) (by simp [e4]) (by simp [e9]) (by simp [e10]) (by simp [e11]) lg F S (by omega) hout (roundK (PutInv r b L (a, m) k g0) (m' + 1) _) (fun env'' g'' H => ⟨m', by omega, H⟩)
end Go.Proofs.Yteadogmjojeleaa
