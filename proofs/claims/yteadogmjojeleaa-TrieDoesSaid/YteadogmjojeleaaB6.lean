/- TrieEmpty: when all that was put is taken away, nothing is found, and there is room again for as many: the walk. -/
import Derived.Test.YteadogmjojeleaaB4
namespace Go.Proofs.Yteadogmjojeleaa
open Go
set_option linter.unusedSimpArgs false

structure EmpEnv (most : Int) (v : Value) (addr t : Nat) (env : Env) : Prop where
  e0 : env 0 = .int .i64 most
  e1 : env 1 = v
  e2 : env 2 = .int .u32 addr
  e8 : env 8 = .pointer (some ⟨t, 0, none⟩)

def EmpInv0 (h0 : Hp) (most : Int) (v : Value) (ops : List OpR) (addr : Nat) (m : Nat) (env : Env) (g : Hp) : Prop :=
  ∃ t nb i, EmpEnv most v addr t env ∧ env 9 = .int .i64 (i : Nat) ∧ i + m = ops.length ∧ Own h0 g t nb most (putAll most OpR.n [] (ops.take i)) (1 + 32 * i)

def EmpInv1 (h0 : Hp) (most : Int) (v : Value) (N addr : Nat) (L : PL) (m : Nat) (env : Env) (g : Hp) : Prop :=
  ∃ t nb va i, EmpEnv most v addr t env ∧ env 10 = va ∧ env 11 = .int .i64 (i : Nat) ∧ i + m = L.length ∧ Own h0 g t nb most (L.drop i) N ∧
    SlAt g T_api_Prefix 2 pe va (L.map (·.1)) ∧ ∀ b, blkOf va = some b → b ≠ t ∧ b ≠ nb

theorem takeR_head {x : (Nat × Nat) × Int} {L : PL} (hp : Pok x.1) : takeR (x :: L) x.1.1 (x.1.2 : Int) = (0, L) := by
  have e : (x.1.1, ((x.1.2 : Nat) : Int).toNat) = x.1 := by simp
  unfold takeR getR
  rw [if_pos (pok_mayB hp), e]
  simp [getL, delL]

theorem SlAt.chg {α : Type} {h h' : Hp} {E sz : Nat} {enc : α → List Value} {v : Value} {xs : List α} {t nb nb' : Nat} (S : SlAt h E sz enc v xs) (C : Chg h h' t nb nb') (hn : ∀ b, blkOf v = some b → b ≠ t ∧ b ≠ nb) : SlAt h' E sz enc v xs :=
  S.keep (fun b _ e e2 => C.keep _ _ e2 (hn b e).1 (hn b e).2)

theorem apart_new {h : Hp} {v : Value} {t nb : Nat} {most : Int} {L : PL} {N : Nat} (M : TrieM h t nb most L N) (F : ∀ b, blkOf v = some b → h b = none) : ∀ b, blkOf v = some b → b ≠ t ∧ b ≠ nb := by
  intro b hb
  obtain ⟨o, h1⟩ := M.has_t
  obtain ⟨o', h2⟩ := M.has_nb
  refine ⟨?_, ?_⟩
  · rintro rfl; rw [F _ hb] at h1; cases h1
  · rintro rfl; rw [F _ hb] at h2; cases h2

set_option maxHeartbeats 1000000 in
theorem TrieEmpty_walk {h0 : Hp} {v : Value} {ops : List OpR} {most : Int} {addr : Nat} (A : argOps h0 v ops) (ha : addr < 2 ^ 32) :
    Ok Try.prog F_octroilaw08_TrieEmpty #[.int .i64 most, v, .int .u32 addr] h0 (fun r g => r = .bool true ∧ Le h0 g) := by
  obtain ⟨p, cap, hv⟩ := ArgSl.shape A
  have hlen := ArgSl.len A
  have hmax : maxLen < 2 ^ 63 := by decide
  refine octroilaw08_TrieEmpty_ok (by simp) ?_
  unfold octroilaw08_TrieEmpty_D
  simp (disch := omega) [octroilaw08_TrieEmpty_r0, octroilaw08_TrieEmpty_r1]
  refine awake_spec (fun h1 L1 => ?_)
  simp (disch := omega) [octroilaw08_TrieEmpty_r2]
  refine newM (fun t nb h2 ht hnb L2 M2 => ?_)
  have O2 : Own h0 h2 t nb most [] 1 := ⟨M2, L1.trans L2, L1.none ht, L1.none hnb⟩
  clear M2
  by_cases hbig : (200 : Int) < (ops.length : Int)
  · simp (disch := omega) [octroilaw08_TrieEmpty_r3, octroilaw08_TrieEmpty_r4, hv, hbig]
    exact .to _ (.refl _) ⟨rfl, O2.le⟩
  by_cases hfew : most < 1
  · simp (disch := omega) [octroilaw08_TrieEmpty_r3, octroilaw08_TrieEmpty_r4, hv, hbig, hfew]
    exact .to _ (.refl _) ⟨rfl, O2.le⟩
  simp (disch := omega) [octroilaw08_TrieEmpty_r3, octroilaw08_TrieEmpty_r5, hv, hbig, hfew]
  refine ⟨EmpInv0 h0 most v ops addr, ⟨ops.length, t, nb, 0, ⟨by simp, by simp [hv], by simp, by simp⟩, by simp, by omega, by simpa [putAll] using O2⟩, ?_⟩
  clear O2 L1 L2 ht hnb
  rintro m env g ⟨t, nb, i, ⟨e0, e1, e2, e8⟩, e9, him, O⟩
  unfold octroilaw08_TrieEmpty_L0
  by_cases hm : m = 0
  · have hin : i = ops.length := by omega
    subst hin
    have hl := putAll_length most OpR.n ops []
    simp only [List.take_length, List.length_nil] at O hl
    have hpok := O.m.srt.2
    generalize putAll most OpR.n [] ops = L at *
    simp (disch := omega) [octroilaw08_TrieEmpty_r6, octroilaw08_TrieEmpty_r9, e0, e1, e2, e8, e9, hv]
    refine allM O.m (fun va g1 Sa La Fa => ?_)
    have Ap := apart_new O.m Fa
    have O1 := O.more La
    simp (disch := omega) [octroilaw08_TrieEmpty_r10]
    refine ⟨EmpInv1 h0 most v (1 + 32 * ops.length) addr L, ⟨L.length, t, nb, va, 0, ⟨by simp [e0], by simp [e1, hv], by simp [e2], by simp [e8]⟩, by simp, by simp, by omega, by simpa using O1, Sa, Ap⟩, ?_⟩
    clear O O1 Sa La Fa Ap e0 e1 e2 e8 e9
    rintro m env g ⟨t, nb, va, i, ⟨e0, e1, e2, e8⟩, e10, e11, him, O, Sa, Ap⟩
    obtain ⟨pa, ca, hva⟩ := SlAt.shape Sa
    rw [List.length_map] at hva
    unfold octroilaw08_TrieEmpty_L1
    by_cases hm : m = 0
    · have hin : i = L.length := by omega
      subst hin
      rw [List.drop_length] at O
      simp (disch := omega) [octroilaw08_TrieEmpty_r11, octroilaw08_TrieEmpty_r15, e0, e1, e2, e8, e10, e11, hva]
      refine findM O.m ha ?_
      have hf : findL [] addr = none := rfl
      simp (disch := omega) [hf, fa, fl, fn]
      intro b hb
      have O3 := O.more (Le.new (o := .cells #[.int .u32 0, .int .i64 0] 30) hb)
      simp (disch := omega) [octroilaw08_TrieEmpty_r16, e8]
      generalize g.upd b (.cells #[.int .u32 0, .int .i64 0] 30) = g2 at *
      refine lenM O3.m ?_
      simp (disch := omega)
      refine allM O3.m (fun vb g3 Sb Lb _ => ?_)
      obtain ⟨pb, cb, hvb⟩ := SlAt.shape Sb
      have O4 := O3.more Lb
      simp (disch := omega) [hvb]
      refine putM (a := 0) O4.m (by omega) (by omega) (fun g4 nb4 C4 M4 => ?_)
      have O5 := O4.chg C4 M4
      have hput : (putR most [] 0 0 1).1 = 0 := by
        have hm : mayB 0 0 = true := by decide
        unfold putR
        rw [if_pos hm]
        simp only [getL, Option.isSome_none, Bool.false_eq_true, if_false, List.length_nil]
        rw [if_neg (by omega)]
      simp (disch := omega) [hput]
      exact .to _ (.refl _) ⟨rfl, O5.le⟩
    · obtain ⟨m, rfl⟩ : ∃ k, m = k + 1 := ⟨m - 1, by omega⟩
      have hlt : (i : Int) < (L.length : Int) := by omega
      obtain ⟨x, hx⟩ : ∃ x, L[i]? = some x := ⟨_, List.getElem?_eq_getElem (by omega)⟩
      have hxm : (L.map (·.1))[i]? = some x.1 := by rw [List.getElem?_map, hx]; rfl
      obtain ⟨b1, cap1, c1, hva', hb1, c10, c11⟩ := SlAt.pre Sa hxm
      rw [List.length_map] at hva'
      have hpx := hpok x (List.mem_of_getElem? hx)
      have hdrop : L.drop i = x :: L.drop (i + 1) := by
        rw [List.drop_eq_getElem_cons (by omega)]
        congr 1
        rw [List.getElem?_eq_getElem (by omega)] at hx
        exact Option.some.inj hx
      rw [hdrop] at O
      simp (disch := omega) [octroilaw08_TrieEmpty_r11, octroilaw08_TrieEmpty_r12, e0, e1, e2, e8, e10, e11, hva', hlt, hb1, c10, c11]
      refine takeM O.m hpx.a (by omega) (fun h3 C3 M3 => ?_)
      have O3 := O.chg C3 M3
      rw [takeR_head hpx] at O3
      have Sa3 := SlAt.chg Sa C3 Ap
      simp (disch := omega) [octroilaw08_TrieEmpty_r14, takeR_head hpx, e0, e1, e2, e8, e10, e11, wrap_i64]
      exact ⟨m, by omega, t, nb, va, i + 1, ⟨by simp [e0], by simp [e1], by simp [e2], by simp [e8]⟩, by simp [e10, hva'], by simp, by omega, O3, Sa3, Ap⟩
  · obtain ⟨m, rfl⟩ : ∃ k, m = k + 1 := ⟨m - 1, by omega⟩
    have hlt : (i : Int) < (ops.length : Int) := by omega
    obtain ⟨x, hx⟩ : ∃ x, ops[i]? = some x := ⟨_, List.getElem?_eq_getElem (by omega)⟩
    obtain ⟨b, o, cap', c, E, fr, hv', hb, c0, c1, c2, c3, c4⟩ := (argOps.get (ArgSl.le A O.le) hx)
    have hxa := (A.1 x (List.mem_of_getElem? hx)).pa
    have hsucc := putAll_succ most OpR.n hx []
    simp (disch := omega) [octroilaw08_TrieEmpty_r6, octroilaw08_TrieEmpty_r7, e0, e1, e2, e8, e9, hv', hlt, hb, c1, c2, c3]
    refine putM O.m hxa (by omega) (fun h3 nb3 C3 M3 => ?_)
    have O3 := O.chg C3 M3
    rw [← hsucc] at O3
    simp (disch := omega) [octroilaw08_TrieEmpty_r8, e0, e1, e2, e8, e9, wrap_i64]
    exact ⟨m, by omega, t, nb3, i + 1, ⟨by simp [e0], by simp [e1, hv'], by simp [e2], by simp [e8]⟩, by simp, by omega, O3⟩
end Go.Proofs.Yteadogmjojeleaa
