/- TrieDoes: a trie for any number of prefixes answers any calls as the document says: the walk's head. -/
import Derived.Test.YteadogmjojeleaaD6
namespace Go.Proofs.Yteadogmjojeleaa
open Go
set_option linter.unusedSimpArgs false

theorem ptr_ne {h : Hp} {a b : Nat} {o : Obj} (ha : h a = some o) (hb : h b = none) : a ≠ b := ne_new ha hb

set_option maxHeartbeats 2000000 in
theorem TrieDoes_walk {h0 : Hp} {v : Value} {ops : List OpR} {most : Int} (A : argOps h0 v ops) :
    Ok Try.prog F_octroilaw08_TrieDoes #[.int .i64 most, v] h0 (fun r g => r = .bool true ∧ Le h0 g) := by
  obtain ⟨p, cap, hv⟩ := ArgSl.shape A
  have hlen := ArgSl.len A
  have hmax : maxLen < 2 ^ 63 := by decide
  refine octroilaw08_TrieDoes_ok (by simp) ?_
  unfold octroilaw08_TrieDoes_D
  simp (disch := omega) [octroilaw08_TrieDoes_r0, octroilaw08_TrieDoes_r1]
  refine awake_spec (fun h1 L1 => ?_)
  simp (disch := omega) [octroilaw08_TrieDoes_r2]
  refine newM (fun t nb h2 ht hnb L2 M2 => ?_)
  have O2 : Own h0 h2 t nb most [] 1 := ⟨M2, L1.trans L2, L1.none ht, L1.none hnb⟩
  clear M2
  by_cases hbig : (200 : Int) < (ops.length : Int)
  · simp (disch := omega) [octroilaw08_TrieDoes_r3, octroilaw08_TrieDoes_r4, hv, hbig]
    exact .to _ (.refl _) ⟨rfl, O2.le⟩
  simp (disch := omega) [octroilaw08_TrieDoes_r3, octroilaw08_TrieDoes_r5, hv, hbig]
  intro r hr
  have T0 : TwoR h0 (h2.upd r (.cells #[.int .i64 most, .slice none 0 0] 50)) t nb r (.slice none 0 0) most [] [] 1 := by
    obtain ⟨ot, hot⟩ := O2.m.has_t
    obtain ⟨on, hon⟩ := O2.m.has_nb
    exact ⟨O2.more (.new hr), ⟨by simp, .inl ⟨rfl, rfl⟩⟩, O2.le.none hr, by simp [blkOf], (ne_new hot hr).symm, (ne_new hon hr).symm, by simp [blkOf], by simp [blkOf]⟩
  simp (disch := omega) [octroilaw08_TrieDoes_r6]
  generalize h2.upd r (.cells #[.int .i64 most, .slice none 0 0] 50) = h3 at *
  refine ⟨DoesInv h0 most v ops, ⟨ops.length, t, nb, r, .slice none 0 0, [], 0, ⟨by simp, by simp [hv], by simp, by simp, by simp⟩, by omega, T0⟩, ?_⟩
  clear T0 O2 L1 L2 ht hnb hr
  rintro m env g ⟨t, nb, r, vr, L, i, E, him, T⟩
  obtain ⟨e0, e1, e6, e7, e8⟩ := E
  unfold octroilaw08_TrieDoes_L0
  by_cases hm : m = 0
  · have hin : i = ops.length := by omega
    subst hin
    simp (disch := omega) [octroilaw08_TrieDoes_r7, octroilaw08_TrieDoes_r24, e0, e1, e6, e7, e8, hv]
    exact .to _ (.refl _) ⟨rfl, T.o.le⟩
  obtain ⟨m, rfl⟩ : ∃ k, m = k + 1 := ⟨m - 1, by omega⟩
  have hlt : (i : Int) < (ops.length : Int) := by omega
  obtain ⟨x, hx⟩ : ∃ x, ops[i]? = some x := ⟨_, List.getElem?_eq_getElem (by omega)⟩
  obtain ⟨b, o, cap', c, E0, fr, hv', hb, c0, c1, c2, c3, c4⟩ := (argOps.get (ArgSl.le A T.o.le) hx)
  have hxa := (A.1 x (List.mem_of_getElem? hx)).pa
  have hlN : L.length ≤ 10000 := by
    obtain ⟨_, _, _, _, _, _, h⟩ := T.o.m
    omega
  have hp := T.o.m.srt.2
  -- behind the switch
  have go : ∀ (env' : Env) (g' : Hp) (nb' : Nat) (vr' : Value) (L' : PL), DoesEnv most v t r i env' → env' 9 = .bool true → TwoR h0 g' t nb' r vr' most L' L' (1 + 32 * i + 32) → ∀ K : Post,
      (∀ env'' g'', (∃ m', m' < m + 1 ∧ DoesInv h0 most v ops m' env'' g'') → K .normal env'' g'') →
      sq (rg octroilaw08_TrieDoes_r18) (sq (rg octroilaw08_TrieDoes_r19) (sq (rg octroilaw08_TrieDoes_r20) (sq (rg octroilaw08_TrieDoes_r21) (cnd (Go.Operand.tmp 187) (sq (rg octroilaw08_TrieDoes_r22) (ex .ret)) (ex .normal))))) (inBlk 1 (thenK (rg octroilaw08_TrieDoes_r23) K)) env' g' := by
    intro env' g' nb' vr' L' E' e9 T' K hK
    refine does_tail A hx E' e9 (by omega) T' (by omega) (fun env'' g'' E'' T'' => ?_)
    obtain ⟨f0, f1, f6, f7, f8⟩ := E''
    simp (disch := omega) [octroilaw08_TrieDoes_r23, f8, wrap_i64]
    exact hK _ _ ⟨m, by omega, t, nb', r, vr', L', i + 1, ⟨by simp [f0], by simp [f1], by simp [f6], by simp [f7], by simp⟩, by omega, T''⟩
  rw [hv'] at go
  by_cases hk0 : x.k = 0
  · simp (disch := omega) [octroilaw08_TrieDoes_r7, octroilaw08_TrieDoes_r8, octroilaw08_TrieDoes_r9, octroilaw08_TrieDoes_r10, octroilaw08_TrieDoes_r11, e0, e1, e6, e7, e8, hv', hlt, hb, c0, c1, c2, c3, hk0]
    refine putM T.o.m hxa (by omega) (fun h4 nb4 C4 M4 => ?_)
    have T4 := T.trie C4 M4
    have hb4 := ArgSl.le A T4.o.le
    obtain ⟨b', o', cap'', c', E0', fr', hv'', hbb, d0, d1, d2, d3, d4⟩ := (argOps.get hb4 hx)
    rw [hv'] at hv''
    simp only [Value.slice.injEq, Option.some.injEq, Addr.mk.injEq, and_true, true_and] at hv''
    obtain ⟨⟨rfl, rfl⟩, rfl⟩ := hv''
    simp (disch := omega) [hbb, d1, d2, d3]
    refine rput_spec T4.q hp hlN hxa (fun h5 vr5 C5 R5 => ?_)
    have T5 := T4.ref C5 R5
    simp (disch := omega)
    exact go _ _ _ _ _ ⟨by simp [e0], by simp [e1, hv'], by simp [e6], by simp [e7], by simp [e8]⟩ (by simp) T5 (roundK _ (m + 1) _) (fun _ _ H => H)
  · by_cases hk1 : x.k = 1
    · simp (disch := omega) [octroilaw08_TrieDoes_r7, octroilaw08_TrieDoes_r8, octroilaw08_TrieDoes_r9, octroilaw08_TrieDoes_r10, octroilaw08_TrieDoes_r12, octroilaw08_TrieDoes_r13, e0, e1, e6, e7, e8, hv', hlt, hb, c0, c1, c2, c3, hk1]
      refine takeM T.o.m hxa (by omega) (fun h4 C4 M4 => ?_)
      have T4 := T.trie C4 M4
      have hb4 := ArgSl.le A T4.o.le
      obtain ⟨b', o', cap'', c', E0', fr', hv'', hbb, d0, d1, d2, d3, d4⟩ := (argOps.get hb4 hx)
      rw [hv'] at hv''
      simp only [Value.slice.injEq, Option.some.injEq, Addr.mk.injEq, and_true, true_and] at hv''
      obtain ⟨⟨rfl, rfl⟩, rfl⟩ := hv''
      simp (disch := omega) [hbb, d1, d2, d3]
      refine rtake_spec T4.q hp hlN (fun h5 vr5 C5 R5 => ?_)
      have T5 := T4.ref C5 R5
      have T6 : TwoR h0 h5 t nb r vr5 most (takeR L x.pa x.pl).2 (takeR L x.pa x.pl).2 (1 + 32 * i + 32) := ⟨⟨T5.o.m.le (fun _ _ h => h) (by omega), T5.o.le, T5.o.t0, T5.o.nb0⟩, T5.q, T5.r0, T5.v0, T5.rt, T5.rn, T5.vt, T5.vn⟩
      simp (disch := omega)
      exact go _ _ _ _ _ ⟨by simp [e0], by simp [e1, hv'], by simp [e6], by simp [e7], by simp [e8]⟩ (by simp) T6 (roundK _ (m + 1) _) (fun _ _ H => H)
    · have T6 : TwoR h0 g t nb r vr most L L (1 + 32 * i + 32) := ⟨⟨T.o.m.le (fun _ _ h => h) (by omega), T.o.le, T.o.t0, T.o.nb0⟩, T.q, T.r0, T.v0, T.rt, T.rn, T.vt, T.vn⟩
      by_cases hk2 : x.k = 2
      · simp (disch := omega) [octroilaw08_TrieDoes_r7, octroilaw08_TrieDoes_r8, octroilaw08_TrieDoes_r9, octroilaw08_TrieDoes_r10, octroilaw08_TrieDoes_r12, octroilaw08_TrieDoes_r14, octroilaw08_TrieDoes_r15, e0, e1, e6, e7, e8, hv', hlt, hb, c0, c1, c2, c3, hk2]
        refine getM T.o.m hxa ?_
        simp (disch := omega) [octroilaw08_TrieDoes_r16, e0, e1, e6, e7, e8, hv', hlt, hb, c1, c2, c3]
        refine rget_spec T.q hp hlN ?_
        simp (disch := omega) [octroilaw08_TrieDoes_r17]
        exact go _ _ _ _ _ ⟨by simp [e0], by simp [e1, hv'], by simp [e6], by simp [e7], by simp [e8]⟩ (by simp) T6 (roundK _ (m + 1) _) (fun _ _ H => H)
      · simp (disch := omega) [octroilaw08_TrieDoes_r7, octroilaw08_TrieDoes_r8, octroilaw08_TrieDoes_r9, octroilaw08_TrieDoes_r10, octroilaw08_TrieDoes_r12, octroilaw08_TrieDoes_r14, e0, e1, e6, e7, e8, hv', hlt, hb, c0, c1, c2, c3, hk0, hk1, hk2]
        exact go _ _ _ _ _ ⟨by simp [e0], by simp [e1, hv'], by simp [e6], by simp [e7], by simp [e8]⟩ (by simp) T6 (roundK _ (m + 1) _) (fun _ _ H => H)
end Go.Proofs.Yteadogmjojeleaa
