/- TrieLongest: what is found has the address, and no longer prefix that has something does; if nothing is found, none does: the walk. -/
import Derived.Test.YteadogmjojeleaaB6
namespace Go.Proofs.Yteadogmjojeleaa
open Go
set_option linter.unusedSimpArgs false

/-- One call: 1 takes, another number puts. -/
def step2 (most : Int) (L : PL) (o : OpR) : PL := if o.k = 1 then (takeR L o.pa o.pl).2 else (putR most L o.pa o.pl o.n).2
def steps (most : Int) (L : PL) (ops : List OpR) : PL := ops.foldl (step2 most) L

theorem steps_succ (most : Int) {ops : List OpR} {i : Nat} {x : OpR} (h : ops[i]? = some x) (L : PL) : steps most L (ops.take (i + 1)) = step2 most (steps most L (ops.take i)) x := by
  rw [take_succ' h, steps, List.foldl_append]; rfl

structure LonEnv (most : Int) (v : Value) (addr t : Nat) (env : Env) : Prop where
  e0 : env 0 = .int .i64 most
  e1 : env 1 = v
  e2 : env 2 = .int .u32 addr
  e8 : env 8 = .pointer (some ⟨t, 0, none⟩)

def LonInv0 (h0 : Hp) (most : Int) (v : Value) (ops : List OpR) (addr : Nat) (m : Nat) (env : Env) (g : Hp) : Prop :=
  ∃ t nb i, LonEnv most v addr t env ∧ env 9 = .int .i64 (i : Nat) ∧ i + m = ops.length ∧ Own h0 g t nb most (steps most [] (ops.take i)) (1 + 32 * i)

def LonInv1 (h0 : Hp) (addr : Nat) (L : PL) (va : Value) (b : Nat) (m : Nat) (env : Env) (g : Hp) : Prop :=
  ∃ i, Le h0 g ∧ env 2 = .int .u32 addr ∧ env 10 = .pointer (some ⟨b, 0, none⟩) ∧ env 12 = .bool (findL L addr).isSome ∧ env 15 = va ∧ env 16 = .int .i64 (i : Nat) ∧ i + m = L.length ∧
    SlAt g T_api_Prefix 2 pe va (L.map (·.1)) ∧ g b = some (.cells #[.int .u32 (fa (findL L addr)), .int .i64 (fl (findL L addr))] 30 (0, 0))

theorem has_cut {p : Nat × Nat} (hp : Pok p) {addr : Nat} (h : hasB p addr = true) : p.1 = cutA addr p.2 := by
  unfold hasB at h
  simp at h
  unfold cutA
  rw [h]
  have := Nat.div_add_mod p.1 (2 ^ (32 - p.2))
  rw [hp.m] at this
  rw [Nat.mul_comm]; omega

theorem cut_has {p : Nat × Nat} {addr : Nat} (h : p.1 = cutA addr p.2) : hasB p addr = true := by
  unfold hasB; rw [h, cutA_div]; simp

/-- No longer one has the address. -/
theorem long_law {L : PL} (hp : ∀ x ∈ L, Pok x.1) {addr : Nat} {x : (Nat × Nat) × Int} (hx : x ∈ L) (h : hasB x.1 addr = true) : (findL L addr).isSome = true ∧ x.1.2 ≤ fl (findL L addr) := by
  have hF := found_find L addr
  have hc := has_cut (hp x hx) h
  generalize findL L addr = r at *
  cases hF with
  | none h2 => exact absurd hc (h2 x hx)
  | some y _ _ h3 => exact ⟨rfl, h3 x hx hc⟩

theorem found_get {L : PL} (hs : Srt L) (hp : ∀ x ∈ L, Pok x.1) {addr : Nat} {x : (Nat × Nat) × Int} (h : findL L addr = some x) : getR L x.1.1 (x.1.2 : Int) = some x.2 ∧ Pok x.1 ∧ hasB x.1 addr = true := by
  have hF := found_find L addr
  rw [h] at hF
  cases hF with
  | some _ h1 h2 _ =>
    have e : (x.1.1, ((x.1.2 : Nat) : Int).toNat) = x.1 := by simp
    refine ⟨?_, hp x h1, cut_has h2⟩
    unfold getR
    rw [if_pos (pok_mayB (hp x h1)), e]
    exact getL_of_mem hs h1

set_option maxHeartbeats 1000000 in
theorem TrieLongest_tail {h0 g : Hp} {addr b : Nat} {va : Value} {L : PL} {env : Env} (ha : addr < 2 ^ 32) (hs : Srt L) (hp : ∀ x ∈ L, Pok x.1) (hlN : L.length ≤ 100000)
    (le : Le h0 g) (e2 : env 2 = .int .u32 addr) (e10 : env 10 = .pointer (some ⟨b, 0, none⟩)) (e12 : env 12 = .bool (findL L addr).isSome) (e15 : env 15 = va)
    (S : SlAt g T_api_Prefix 2 pe va (L.map (·.1))) (hb : g b = some (.cells #[.int .u32 (fa (findL L addr)), .int .i64 (fl (findL L addr))] 30 (0, 0))) :
    sq (sq (rg octroilaw08_TrieLongest_r16) (blk 2 (lp octroilaw08_TrieLongest_L1))) (sq (rg octroilaw08_TrieLongest_r21) (ex .ret)) (fin Try.prog [ResultVar.tmp 6] (fun r g => r = .bool true ∧ Le h0 g)) env g := by
  simp (disch := omega) [octroilaw08_TrieLongest_r16]
  refine ⟨LonInv1 h0 addr L va b, ⟨L.length, 0, le, by simp [e2], by simp [e10], by simp [e12], by simp [e15], by simp, by omega, S, hb⟩, ?_⟩
  clear le e2 e10 e12 e15 S hb
  rintro m env g ⟨i, le, e2, e10, e12, e15, e16, him, S, hb⟩
  obtain ⟨pa, ca, hva⟩ := SlAt.shape S
  rw [List.length_map] at hva
  unfold octroilaw08_TrieLongest_L1
  by_cases hm : m = 0
  · have hin : i = L.length := by omega
    subst hin
    simp (disch := omega) [octroilaw08_TrieLongest_r17, octroilaw08_TrieLongest_r21, e2, e10, e12, e15, e16, hva]
    exact .to _ (.refl _) ⟨rfl, le⟩
  · obtain ⟨m, rfl⟩ : ∃ k, m = k + 1 := ⟨m - 1, by omega⟩
    have hlt : (i : Int) < (L.length : Int) := by omega
    obtain ⟨x, hx⟩ : ∃ x, L[i]? = some x := ⟨_, List.getElem?_eq_getElem (by omega)⟩
    have hxm : (L.map (·.1))[i]? = some x.1 := by rw [List.getElem?_map, hx]; rfl
    obtain ⟨b1, cap1, c1, hva', hb1, c10, c11⟩ := SlAt.pre S hxm
    rw [List.length_map] at hva'
    have hmem := List.mem_of_getElem? hx
    have hpx := hp x hmem
    have hmay := pok_mayB hpx
    simp (disch := omega) [octroilaw08_TrieLongest_r17, octroilaw08_TrieLongest_r18, e2, e10, e12, e15, e16, hva', hlt, hb1, c10, c11]
    refine has_spec hpx.a ha ?_
    have hw : IntKind.i64.wrap ((i : Int) + 1) = ((i + 1 : Nat) : Int) := by rw [wrap_i64] <;> omega
    have hdec : ∀ (q : Bool), hasB x.1 addr = q → q = true → (findL L addr).isSome = true ∧ ¬ ((fl (findL L addr) : Int) < (x.1.2 : Int)) := by
      intro q e1 e2
      obtain ⟨g1, g2⟩ := long_law hp hmem (e1.trans e2)
      exact ⟨g1, by omega⟩
    by_cases hi0 : 0 < i
    · obtain ⟨j, hj⟩ : ∃ j, i = j + 1 := ⟨i - 1, by omega⟩
      obtain ⟨y, hy⟩ : ∃ y, L[j]? = some y := ⟨_, List.getElem?_eq_getElem (by omega)⟩
      have hym : (L.map (·.1))[j]? = some y.1 := by rw [List.getElem?_map, hy]; rfl
      have hji : (i : Int) - 1 = (j : Int) := by omega
      have hjw : IntKind.i64.wrap ((i : Int) - 1) = (j : Int) := by rw [wrap_i64] <;> omega
      have hlj : (j : Int) < (L.length : Int) := by omega
      obtain ⟨b2, cap2, c2, hva2, hb2, c20, c21⟩ := SlAt.pre S hym
      have hbe : b2 = b1 := by rw [hva'] at hva2; simp at hva2; exact hva2.1.symm
      subst hbe
      rw [hb1] at hb2
      obtain rfl : c1 = c2 := by simpa using hb2
      have hless : plt y.1 x.1 := by
        have := (List.pairwise_iff_getElem.1 hs) j i (by omega) (by omega) (by omega)
        rw [List.getElem?_eq_getElem (by omega)] at hx hy
        rw [Option.some.inj hx, Option.some.inj hy] at this
        exact this
      have hlb : (decide (y.1.1 < x.1.1) || (decide (y.1.1 = x.1.1) && decide (y.1.2 < x.1.2))) = true := by
        unfold plt at hless
        simp; omega
      cases hh : hasB x.1 addr with
      | false =>
        simp (disch := omega) [hmay, hh, hi0, e2, e10, e12, e15, e16, hva', hb1, hjw, hlj, hlt, c10, c11, c20, c21]
        refine less_spec ?_
        simp (disch := omega) [hlb, octroilaw08_TrieLongest_r20, e2, e10, e12, e15, e16, hw]
        exact ⟨m, by omega, i + 1, le, by simp [e2], by simp [e10], by simp [e12], by simp [e15, hva'], by simp, by omega, by rw [← hva']; exact S, hb⟩
      | true =>
        obtain ⟨g1, g2⟩ := hdec _ hh rfl
        simp (disch := omega) [hmay, hh, hi0, e2, e10, e12, e15, e16, hva', hb, hb1, hjw, hlj, hlt, c10, c11, c20, c21, g1, g2]
        refine less_spec ?_
        simp (disch := omega) [hlb, octroilaw08_TrieLongest_r20, e2, e10, e12, e15, e16, hw]
        exact ⟨m, by omega, i + 1, le, by simp [e2], by simp [e10], by simp [e12], by simp [e15, hva'], by simp, by omega, by rw [← hva']; exact S, hb⟩
    · cases hh : hasB x.1 addr with
      | false =>
        simp (disch := omega) [hmay, hh, hi0, octroilaw08_TrieLongest_r20, e2, e10, e12, e15, e16, hva', hw]
        exact ⟨m, by omega, i + 1, le, by simp [e2], by simp [e10], by simp [e12], by simp [e15, hva'], by simp, by omega, by rw [← hva']; exact S, hb⟩
      | true =>
        obtain ⟨g1, g2⟩ := hdec _ hh rfl
        simp (disch := omega) [hmay, hh, hi0, octroilaw08_TrieLongest_r20, e2, e10, e12, e15, e16, hva', hb, hb1, hlt, c10, c11, g1, g2, hw]
        exact ⟨m, by omega, i + 1, le, by simp [e2], by simp [e10], by simp [e12], by simp [e15, hva'], by simp, by omega, by rw [← hva']; exact S, hb⟩

set_option maxHeartbeats 1000000 in
theorem TrieLongest_walk {h0 : Hp} {v : Value} {ops : List OpR} {most : Int} {addr : Nat} (A : argOps h0 v ops) (ha : addr < 2 ^ 32) :
    Ok Try.prog F_octroilaw08_TrieLongest #[.int .i64 most, v, .int .u32 addr] h0 (fun r g => r = .bool true ∧ Le h0 g) := by
  obtain ⟨p, cap, hv⟩ := ArgSl.shape A
  have hlen := ArgSl.len A
  have hmax : maxLen < 2 ^ 63 := by decide
  refine octroilaw08_TrieLongest_ok (by simp) ?_
  unfold octroilaw08_TrieLongest_D
  simp (disch := omega) [octroilaw08_TrieLongest_r0, octroilaw08_TrieLongest_r1]
  refine awake_spec (fun h1 L1 => ?_)
  simp (disch := omega) [octroilaw08_TrieLongest_r2]
  refine newM (fun t nb h2 ht hnb L2 M2 => ?_)
  have O2 : Own h0 h2 t nb most [] 1 := ⟨M2, L1.trans L2, L1.none ht, L1.none hnb⟩
  clear M2
  by_cases hbig : (200 : Int) < (ops.length : Int)
  · simp (disch := omega) [octroilaw08_TrieLongest_r3, octroilaw08_TrieLongest_r4, hv, hbig]
    exact .to _ (.refl _) ⟨rfl, O2.le⟩
  simp (disch := omega) [octroilaw08_TrieLongest_r3, octroilaw08_TrieLongest_r5, hv, hbig]
  refine ⟨LonInv0 h0 most v ops addr, ⟨ops.length, t, nb, 0, ⟨by simp, by simp [hv], by simp, by simp⟩, by simp, by omega, by simpa [steps] using O2⟩, ?_⟩
  clear O2 L1 L2 ht hnb
  rintro m env g ⟨t, nb, i, ⟨e0, e1, e2, e8⟩, e9, him, O⟩
  unfold octroilaw08_TrieLongest_L0
  by_cases hm : m = 0
  · have hin : i = ops.length := by omega
    subst hin
    simp only [List.take_length] at O
    obtain ⟨hs, hp⟩ := O.m.srt
    have hlN : (steps most [] ops).length ≤ 100000 := by
      obtain ⟨_, _, _, _, _, _, h⟩ := O.m
      omega
    generalize steps most [] ops = L at *
    simp (disch := omega) [octroilaw08_TrieLongest_r6, octroilaw08_TrieLongest_r11, e0, e1, e2, e8, e9, hv]
    refine findM O.m ha ?_
    simp (disch := omega)
    intro b hb
    simp (disch := omega) [octroilaw08_TrieLongest_r12, e0, e1, e2, e8, e9]
    have hbb : (g.upd b (.cells #[.int .u32 (fa (findL L addr)), .int .i64 (fl (findL L addr))] 30)) b = some (.cells #[.int .u32 (fa (findL L addr)), .int .i64 (fl (findL L addr))] 30) := by simp
    have O3 := O.more (Le.new (o := .cells #[.int .u32 (fa (findL L addr)), .int .i64 (fl (findL L addr))] 30) hb)
    generalize g.upd b (.cells #[.int .u32 (fa (findL L addr)), .int .i64 (fl (findL L addr))] 30) = g1 at *
    have hfa : fa (findL L addr) < 2 ^ 32 := by
      cases hf : findL L addr with
      | none => simp [fa]
      | some x => exact (found_get hs hp hf).2.1.a
    refine getM O3.m hfa ?_
    have tail : ∀ (env' : Env) (va : Value) (g2 : Hp), Le g1 g2 → env' 2 = .int .u32 addr → env' 10 = .pointer (some ⟨b, 0, none⟩) → env' 12 = .bool (findL L addr).isSome → env' 15 = va → SlAt g2 T_api_Prefix 2 pe va (L.map (·.1)) →
        sq (sq (rg octroilaw08_TrieLongest_r16) (blk 2 (lp octroilaw08_TrieLongest_L1))) (sq (rg octroilaw08_TrieLongest_r21) (ex .ret)) (fin Try.prog [ResultVar.tmp 6] (fun r g => r = .bool true ∧ Le h0 g)) env' g2 :=
      fun env' va g2 l a2 a10 a12 a15 S => TrieLongest_tail ha hs hp hlN (O3.le.trans l) a2 a10 a12 a15 S (l _ _ hbb)
    cases hf : findL L addr with
    | none =>
      simp (disch := omega) [octroilaw08_TrieLongest_r13, octroilaw08_TrieLongest_r15, e0, e1, e2, e8, e9, hf, fa, fl, fn]
      refine allM O3.m (fun va g2 Sa La _ => ?_)
      exact tail _ va g2 La (by simp [e2]) (by simp) (by simp [hf]) (by simp) Sa
    | some x =>
      obtain ⟨g1', g2', g3'⟩ := found_get hs hp hf
      have hmay := pok_mayB g2'
      rw [hf] at hbb
      simp only [fa, fl] at hbb
      simp (disch := omega) [octroilaw08_TrieLongest_r13, e0, e1, e2, e8, e9, hf, fa, fl, fn, g1', hbb]
      refine has_spec g2'.a ha ?_
      simp (disch := omega) [octroilaw08_TrieLongest_r15, e0, e1, e2, e8, e9, hf, fa, fl, fn, g1', hbb, hmay, g3']
      refine allM O3.m (fun va g2 Sa La _ => ?_)
      exact tail _ va g2 La (by simp [e2]) (by simp) (by simp [hf]) (by simp) Sa
  · obtain ⟨m, rfl⟩ : ∃ k, m = k + 1 := ⟨m - 1, by omega⟩
    have hlt : (i : Int) < (ops.length : Int) := by omega
    obtain ⟨x, hx⟩ : ∃ x, ops[i]? = some x := ⟨_, List.getElem?_eq_getElem (by omega)⟩
    obtain ⟨b, o, cap', c, E, fr, hv', hb, c0, c1, c2, c3, c4⟩ := (argOps.get (ArgSl.le A O.le) hx)
    have hxa := (A.1 x (List.mem_of_getElem? hx)).pa
    have hsucc := steps_succ most hx []
    by_cases hk : x.k = 1
    · have hst : step2 most (steps most [] (ops.take i)) x = (takeR (steps most [] (ops.take i)) x.pa x.pl).2 := by unfold step2; rw [if_pos hk]
      simp (disch := omega) [octroilaw08_TrieLongest_r6, octroilaw08_TrieLongest_r7, octroilaw08_TrieLongest_r8, e0, e1, e2, e8, e9, hv', hlt, hb, c0, c1, c2, c3, hk]
      refine takeM O.m hxa (by omega) (fun h3 C3 M3 => ?_)
      have O3 := O.chg C3 M3
      rw [← hst, ← hsucc] at O3
      simp (disch := omega) [octroilaw08_TrieLongest_r10, e0, e1, e2, e8, e9, wrap_i64]
      exact ⟨m, by omega, t, nb, i + 1, ⟨by simp [e0], by simp [e1, hv'], by simp [e2], by simp [e8]⟩, by simp, by omega, ⟨O3.m.le (fun _ _ h => h) (by omega), O3.le, O3.t0, O3.nb0⟩⟩
    · have hst : step2 most (steps most [] (ops.take i)) x = (putR most (steps most [] (ops.take i)) x.pa x.pl x.n).2 := by unfold step2; rw [if_neg hk]
      simp (disch := omega) [octroilaw08_TrieLongest_r6, octroilaw08_TrieLongest_r7, octroilaw08_TrieLongest_r9, e0, e1, e2, e8, e9, hv', hlt, hb, c0, c1, c2, c3, hk]
      refine putM O.m hxa (by omega) (fun h3 nb3 C3 M3 => ?_)
      have O3 := O.chg C3 M3
      rw [← hst, ← hsucc] at O3
      simp (disch := omega) [octroilaw08_TrieLongest_r10, e0, e1, e2, e8, e9, wrap_i64]
      exact ⟨m, by omega, t, nb3, i + 1, ⟨by simp [e0], by simp [e1, hv'], by simp [e2], by simp [e8]⟩, by simp, by omega, O3⟩
end Go.Proofs.Yteadogmjojeleaa
