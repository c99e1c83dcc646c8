/- Comparing numbers and routes: cmp.Compare, cmp.Or, compare. -/
import Derived.Test.YtmbhlbohbpepaaaP1
namespace Go.Proofs.Ytmbhlbohbpepaaa
open Go
set_option linter.unusedSimpArgs false
set_option linter.unusedVariables false

structure Rt where
  a : Nat
  l : Int
  d : Int
  ds : Int
  m : Int
  nx : Int
  tg : Nat
deriving DecidableEq

def Rt.enc (x : Rt) : List Value := [.int .u32 (x.a : Nat), .int .i64 x.l, .int .i64 x.d, .int .i64 x.ds, .int .i64 x.m, .int .i64 x.nx, .int .u16 (x.tg : Nat)]
abbrev rv (x : Rt) : Value := .agg #[.int .u32 (x.a : Nat), .int .i64 x.l, .int .i64 x.d, .int .i64 x.ds, .int .i64 x.m, .int .i64 x.nx, .int .u16 (x.tg : Nat)]
structure Rt.Good (x : Rt) : Prop where
  a : x.a < 2 ^ 32
  tg : x.tg < 2 ^ 16

def cmpI (a b : Int) : Int := if a < b then -1 else if b < a then 1 else 0
def orI : List Int → Int
  | [] => 0
  | x :: xs => if x = 0 then orI xs else x
def cmpR (x y : Rt) : Int := orI [cmpI (dep x.tg : Nat) (dep y.tg : Nat), cmpI x.ds y.ds, cmpI x.m y.m, cmpI x.d y.d, cmpI x.nx y.nx, cmpI (x.tg : Nat) (y.tg : Nat)]

theorem compare_spec {a b : Int} {h : Hp} {Q : Value → Hp → Prop} (hQ : Q (.int .i64 (cmpI a b)) h) : Ok Try.prog F_cmp_Compare_int #[.int .i64 a, .int .i64 b] h Q := by
  have nan : ∀ {a : Int} {h : Hp} {Q : Value → Hp → Prop}, Q (.bool false) h → Ok Try.prog F_cmp_isNaN_int #[.int .i64 a] h Q := by
    intro a h Q hQ
    refine cmp_isNaN_int_ok (by simp) ?_
    unfold cmp_isNaN_int_D
    simp (disch := omega) [cmp_isNaN_int_r0, cmp_isNaN_int_r1]
    exact .to _ (.refl _) hQ
  refine cmp_Compare_int_ok (by simp) ?_
  unfold cmp_Compare_int_D
  simp (disch := omega) [cmp_Compare_int_r0, cmp_Compare_int_r1]
  refine nan ?_
  simp (disch := omega) [cmp_Compare_int_r2]
  refine nan ?_
  unfold cmpI at hQ
  by_cases h1 : a < b
  · simp (disch := omega) [cmp_Compare_int_r3, cmp_Compare_int_r7, cmp_Compare_int_r9, cmp_Compare_int_r10, h1]
    rw [if_pos h1] at hQ
    exact .to _ (.refl _) hQ
  · by_cases h2 : b < a
    · simp (disch := omega) [cmp_Compare_int_r3, cmp_Compare_int_r7, cmp_Compare_int_r9, cmp_Compare_int_r11, cmp_Compare_int_r12, h1, h2]
      rw [if_neg h1, if_pos h2] at hQ
      exact .to _ (.refl _) hQ
    · simp (disch := omega) [cmp_Compare_int_r3, cmp_Compare_int_r7, cmp_Compare_int_r9, cmp_Compare_int_r11, cmp_Compare_int_r13, h1, h2]
      rw [if_neg h1, if_neg h2] at hQ
      exact .to _ (.refl _) hQ

theorem compare16_spec {a b : Int} {h : Hp} {Q : Value → Hp → Prop} (hQ : Q (.int .i64 (cmpI a b)) h) : Ok Try.prog F_cmp_Compare_uint16 #[.int .u16 a, .int .u16 b] h Q := by
  have nan : ∀ {a : Int} {h : Hp} {Q : Value → Hp → Prop}, Q (.bool false) h → Ok Try.prog F_cmp_isNaN_uint16 #[.int .u16 a] h Q := by
    intro a h Q hQ
    refine cmp_isNaN_uint16_ok (by simp) ?_
    unfold cmp_isNaN_uint16_D
    simp (disch := omega) [cmp_isNaN_uint16_r0, cmp_isNaN_uint16_r1]
    exact .to _ (.refl _) hQ
  refine cmp_Compare_uint16_ok (by simp) ?_
  unfold cmp_Compare_uint16_D
  simp (disch := omega) [cmp_Compare_uint16_r0, cmp_Compare_uint16_r1]
  refine nan ?_
  simp (disch := omega) [cmp_Compare_uint16_r2]
  refine nan ?_
  unfold cmpI at hQ
  by_cases h1 : a < b
  · simp (disch := omega) [cmp_Compare_uint16_r3, cmp_Compare_uint16_r7, cmp_Compare_uint16_r9, cmp_Compare_uint16_r10, h1]
    rw [if_pos h1] at hQ
    exact .to _ (.refl _) hQ
  · by_cases h2 : b < a
    · simp (disch := omega) [cmp_Compare_uint16_r3, cmp_Compare_uint16_r7, cmp_Compare_uint16_r9, cmp_Compare_uint16_r11, cmp_Compare_uint16_r12, h1, h2]
      rw [if_neg h1, if_pos h2] at hQ
      exact .to _ (.refl _) hQ
    · simp (disch := omega) [cmp_Compare_uint16_r3, cmp_Compare_uint16_r7, cmp_Compare_uint16_r9, cmp_Compare_uint16_r11, cmp_Compare_uint16_r13, h1, h2]
      rw [if_neg h1, if_neg h2] at hQ
      exact .to _ (.refl _) hQ

def OrInv (h0 : Hp) (b n cap : Nat) (l : List Int) (m : Nat) (env : Env) (g : Hp) : Prop :=
  g = h0 ∧ ∃ i : Nat, env 3 = .int .i64 0 ∧ env 6 = .slice (some ⟨b, 0, none⟩) n cap ∧ env 7 = .int .i64 (n : Nat) ∧ env 8 = .int .i64 (i : Nat) ∧ i + m = n ∧ orI (l.drop i) = orI l

theorem orI_drop {l : List Int} {i : Nat} {x : Int} (h : l[i]? = some x) : orI (l.drop i) = if x = 0 then orI (l.drop (i + 1)) else x := by
  have hi := (List.getElem?_eq_some_iff.1 h).1
  have e := (List.getElem?_eq_some_iff.1 h).2
  rw [List.drop_eq_getElem_cons hi, e]; rfl

theorem or_spec {b cap : Nat} {c : Array Value} {E : TypeId} {fr : Nat × Nat} {l : List Int} {h : Hp} {Q : Value → Hp → Prop} (hb : h b = some (.cells c E fr)) (hl : ∀ (i : Nat) (x : Int), l[i]? = some x → c[i]? = some (Value.int .i64 x)) (hn : l.length ≤ 1000)
    (hQ : Q (.int .i64 (orI l)) h) : Ok Try.prog F_cmp_Or_int #[.slice (some ⟨b, 0, none⟩) l.length cap] h Q := by
  refine cmp_Or_int_ok (by simp) ?_
  unfold cmp_Or_int_D
  simp (disch := omega) [cmp_Or_int_r0, cmp_Or_int_r1, cmp_Or_int_r2]
  refine ⟨OrInv h b l.length cap l, ⟨l.length, rfl, 0, by simp, by simp, by simp, by simp, by omega, by simp⟩, ?_⟩
  rintro m env g ⟨rfl, i, e3, e6, e7, e8, him, ho⟩
  unfold cmp_Or_int_L0
  by_cases hm : m = 0
  · have : i = l.length := by omega
    subst this
    simp (disch := omega) [cmp_Or_int_r3, cmp_Or_int_r8, e3, e6, e7, e8]
    rw [List.drop_length] at ho
    rw [← ho] at hQ
    exact .to _ (.refl _) hQ
  · obtain ⟨x, hx⟩ : ∃ x, l[i]? = some x := ⟨_, List.getElem?_eq_getElem (by omega)⟩
    have hc := hl i x hx
    have hi : i < l.length := by omega
    have hi' : (i : Int) < (l.length : Int) := by omega
    rw [orI_drop hx] at ho
    by_cases hx0 : x = 0
    · subst hx0
      simp (disch := omega) [cmp_Or_int_r3, cmp_Or_int_r4, cmp_Or_int_r5, cmp_Or_int_r7, e3, e6, e7, e8, hi, hi', hb, hc, wrap_i64]
      exact ⟨m - 1, by omega, rfl, i + 1, by simp [e3], by simp [e6], by simp [e7], by simp, by omega, by simpa using ho⟩
    · simp (disch := omega) [cmp_Or_int_r3, cmp_Or_int_r4, cmp_Or_int_r5, cmp_Or_int_r6, e3, e6, e7, e8, hi, hi', hb, hc, hx0]
      rw [if_neg hx0] at ho
      rw [← ho] at hQ
      exact .to _ (.refl _) hQ

theorem first_spec {b cap : Nat} {c : Array Value} {E : TypeId} {fr : Nat × Nat} {l : List Int} {h : Hp} {Q : Value → Hp → Prop} (hb : h b = some (.cells c E fr)) (hl : ∀ (i : Nat) (x : Int), l[i]? = some x → c[i]? = some (Value.int .i64 x)) (hn : l.length ≤ 1000)
    (hQ : Q (.int .i64 (orI l)) h) : Ok Try.prog F_rib_first #[.slice (some ⟨b, 0, none⟩) l.length cap] h Q := by
  refine rib_first_ok (by simp) ?_
  unfold rib_first_D
  simp (disch := omega) [rib_first_r0, rib_first_r1]
  refine or_spec hb hl hn ?_
  exact .to _ (.refl _) hQ

set_option maxRecDepth 20000 in
set_option maxHeartbeats 1000000 in
theorem cmpR_spec {x y : Rt} {h : Hp} {Q : Value → Hp → Prop} (hx : x.Good) (hy : y.Good) (hQ : Q (.int .i64 (cmpR x y)) h) : Ok Try.prog F_rib_compare #[rv x, rv y] h Q := by
  refine rib_compare_ok (by simp) ?_
  unfold rib_compare_D
  simp (disch := omega) [rib_compare_r0]
  intro b1 hb1 b2 hb2
  obtain ⟨n12, hb2'⟩ := upd_none hb2
  have l : Le h ((h.upd b1 (.cells #[.int .u32 (x.a : Nat), .int .i64 x.l, .int .i64 x.d, .int .i64 x.ds, .int .i64 x.m, .int .i64 x.nx, .int .u16 (x.tg : Nat)] 27)).upd b2 (.cells #[.int .u32 (y.a : Nat), .int .i64 y.l, .int .i64 y.d, .int .i64 y.ds, .int .i64 y.m, .int .i64 y.nx, .int .u16 (y.tg : Nat)] 27)) := (Le.new hb1).trans (Le.new hb2)
  have f1 : ((h.upd b1 (.cells #[.int .u32 (x.a : Nat), .int .i64 x.l, .int .i64 x.d, .int .i64 x.ds, .int .i64 x.m, .int .i64 x.nx, .int .u16 (x.tg : Nat)] 27)).upd b2 (.cells #[.int .u32 (y.a : Nat), .int .i64 y.l, .int .i64 y.d, .int .i64 y.ds, .int .i64 y.m, .int .i64 y.nx, .int .u16 (y.tg : Nat)] 27)) b1 = some (.cells #[.int .u32 (x.a : Nat), .int .i64 x.l, .int .i64 x.d, .int .i64 x.ds, .int .i64 x.m, .int .i64 x.nx, .int .u16 (x.tg : Nat)] 27) := by rw [upd_ne (Ne.symm n12), upd_same]
  have f2 : ((h.upd b1 (.cells #[.int .u32 (x.a : Nat), .int .i64 x.l, .int .i64 x.d, .int .i64 x.ds, .int .i64 x.m, .int .i64 x.nx, .int .u16 (x.tg : Nat)] 27)).upd b2 (.cells #[.int .u32 (y.a : Nat), .int .i64 y.l, .int .i64 y.d, .int .i64 y.ds, .int .i64 y.m, .int .i64 y.nx, .int .u16 (y.tg : Nat)] 27)) b2 = some (.cells #[.int .u32 (y.a : Nat), .int .i64 y.l, .int .i64 y.d, .int .i64 y.ds, .int .i64 y.m, .int .i64 y.nx, .int .u16 (y.tg : Nat)] 27) := by rw [upd_same]
  generalize (h.upd b1 (.cells #[.int .u32 (x.a : Nat), .int .i64 x.l, .int .i64 x.d, .int .i64 x.ds, .int .i64 x.m, .int .i64 x.nx, .int .u16 (x.tg : Nat)] 27)).upd b2 (.cells #[.int .u32 (y.a : Nat), .int .i64 y.l, .int .i64 y.d, .int .i64 y.ds, .int .i64 y.m, .int .i64 y.nx, .int .u16 (y.tg : Nat)] 27) = g at *
  simp (disch := omega) [rib_compare_r1, f1, f2]
  refine depth_spec hx.tg ?_
  simp (disch := omega) [f1, f2]
  refine depth_spec hy.tg ?_
  simp (disch := omega) [f1, f2]
  refine compare_spec ?_
  simp (disch := omega) [f1, f2]
  refine compare_spec ?_
  simp (disch := omega) [f1, f2]
  refine compare_spec ?_
  simp (disch := omega) [f1, f2]
  refine compare_spec ?_
  simp (disch := omega) [f1, f2]
  refine compare_spec ?_
  simp (disch := omega) [f1, f2]
  refine compare16_spec ?_
  simp (disch := omega)
  intro b3 hb3
  refine first_spec (b := b3) (l := [cmpI (dep x.tg : Nat) (dep y.tg : Nat), cmpI x.ds y.ds, cmpI x.m y.m, cmpI x.d y.d, cmpI x.nx y.nx, cmpI (x.tg : Nat) (y.tg : Nat)]) upd_same (fun i z hi => ?_) (by simp) ?_
  · have hlt := (List.getElem?_eq_some_iff.1 hi).1
    simp only [List.length_cons, List.length_nil] at hlt
    have hic : i = 0 ∨ i = 1 ∨ i = 2 ∨ i = 3 ∨ i = 4 ∨ i = 5 := by omega
    rcases hic with rfl | rfl | rfl | rfl | rfl | rfl <;> simp at hi <;> subst hi <;> simp
  · exact .to _ (l.trans (.new hb3)) hQ

theorem better_spec {x y : Rt} {h : Hp} {Q : Value → Hp → Prop} (hx : x.Good) (hy : y.Good) (hQ : Q (.bool (decide (cmpR x y < 0))) h) : Ok Try.prog F_rib_Better #[rv x, rv y] h Q := by
  refine rib_Better_ok (by simp) ?_
  unfold rib_Better_D
  simp (disch := omega) [rib_Better_r0]
  intro b1 hb1 b2 hb2
  obtain ⟨n12, hb2'⟩ := upd_none hb2
  simp (disch := omega) [rib_Better_r1, n12, Ne.symm n12]
  refine cmpR_spec hx hy ?_
  simp (disch := omega)
  exact .to _ ((Le.new hb1).trans (Le.new hb2)) hQ
end Go.Proofs.Ytmbhlbohbpepaaa
