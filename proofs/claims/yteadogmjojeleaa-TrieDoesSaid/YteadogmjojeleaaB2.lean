/- The calls' list as it came in; what many calls come to. -/
import Derived.Test.YteadogmjojeleaaB1
import Derived.Test.YteadogmjojeleaaR1
namespace Go.Proofs.Yteadogmjojeleaa
open Go
set_option linter.unusedSimpArgs false

structure OpR where
  k : Int
  pa : Nat
  pl : Int
  n : Int
  ad : Nat

def OpR.enc (x : OpR) : List Value := [.int .i64 x.k, .int .u32 x.pa, .int .i64 x.pl, .int .i64 x.n, .int .u32 x.ad]

structure OpR.Good (x : OpR) : Prop where
  pa : x.pa < 2 ^ 32
  ad : x.ad < 2 ^ 32

theorem i64_wf {n : Int} (h : (Lit.int .i64 n).wf = true) : -9223372036854775808 ≤ n ∧ n < 9223372036854775808 := by
  have e1 : IntKind.i64.min = -9223372036854775808 := by decide
  have e2 : IntKind.i64.max = 9223372036854775807 := by decide
  simp [Lit.wf, e1, e2] at h
  omega

theorem u32_wf {n : Int} (h : (Lit.int .u32 n).wf = true) : ∃ m : Nat, n = m ∧ m < 2 ^ 32 := by
  have e1 : IntKind.u32.min = 0 := by decide
  have e2 : IntKind.u32.max = 4294967295 := by decide
  simp [Lit.wf, e1, e2] at h
  exact ⟨n.toNat, by omega, by omega⟩

theorem Has.at {α : Type} {h : Hp} {sz : Nat} {enc : α → List Value} {good : α → Prop} {v : Value} {xs : List α} {i : Nat} {x : α} (A : ArgSl h sz enc good v xs) (hx : xs[i]? = some x) :
    good x ∧ ∃ b o cap c E fr, v = .slice (some ⟨b, o, none⟩) xs.length cap ∧ h b = some (.cells c E fr) ∧ ∀ j, j < sz → c[o + i * sz + j]? = (enc x)[j]? := by
  refine ⟨A.1 x (List.mem_of_getElem? hx), ?_⟩
  rcases A.2 with ⟨p, cap, rfl, rfl⟩ | ⟨b, o, cap, c, E, fr, rfl, h1, h2, hb, he⟩
  · simp at hx
  · exact ⟨b, o, cap, c, E, fr, rfl, hb, he i x hx⟩

def argOps (h : Hp) (v : Value) (xs : List OpR) : Prop := ArgSl h 5 OpR.enc OpR.Good v xs

theorem argOps.get {h : Hp} {v : Value} {xs : List OpR} {i : Nat} {x : OpR} (A : argOps h v xs) (hx : xs[i]? = some x) :
    ∃ b o cap c E fr, v = .slice (some ⟨b, o, none⟩) xs.length cap ∧ h b = some (.cells c E fr) ∧ c[o + i * 5]? = some (.int .i64 x.k) ∧ c[o + i * 5 + 1]? = some (.int .u32 x.pa) ∧ c[o + i * 5 + 2]? = some (.int .i64 x.pl) ∧
      c[o + i * 5 + 3]? = some (.int .i64 x.n) ∧ c[o + i * 5 + 4]? = some (.int .u32 x.ad) := by
  obtain ⟨_, b, o, cap, c, E, fr, e, hb, he⟩ := Has.at A hx
  exact ⟨b, o, cap, c, E, fr, e, hb, he 0 (by omega), he 1 (by omega), he 2 (by omega), he 3 (by omega), he 4 (by omega)⟩

theorem putR_length (most : Int) (L : PL) (a : Nat) (n k : Int) : (putR most L a n k).2.length ≤ L.length + 1 ∧ L.length ≤ (putR most L a n k).2.length := by
  unfold putR
  split
  · split
    · simp [setL_length]
    · split
      · simp
      · simp [insL_length]
  · simp

theorem takeR_length (L : PL) (a : Nat) (n : Int) : (takeR L a n).2.length ≤ L.length := by
  unfold takeR
  split
  · exact (delL_sub _ _).length_le
  · simp

def putAll (most : Int) (val : OpR → Int) (L : PL) (ops : List OpR) : PL := ops.foldl (fun L o => (putR most L o.pa o.pl (val o)).2) L

theorem putAll_length (most : Int) (val : OpR → Int) : ∀ (ops : List OpR) (L : PL), (putAll most val L ops).length ≤ L.length + ops.length
  | [], L => Nat.le_refl _
  | o :: ops, L => by
    have h1 := putAll_length most val ops (putR most L o.pa o.pl (val o)).2
    have h2 := (putR_length most L o.pa o.pl (val o)).1
    simp only [putAll, List.foldl_cons, List.length_cons] at h1 ⊢
    omega

theorem take_succ' {α : Type} {xs : List α} {i : Nat} {x : α} (h : xs[i]? = some x) : xs.take (i + 1) = xs.take i ++ [x] := by
  rw [List.take_add_one, h]; rfl

theorem putAll_succ (most : Int) (val : OpR → Int) {ops : List OpR} {i : Nat} {x : OpR} (h : ops[i]? = some x) (L : PL) :
    putAll most val L (ops.take (i + 1)) = (putR most (putAll most val L (ops.take i)) x.pa x.pl (val x)).2 := by
  rw [take_succ' h, putAll, List.foldl_append]; rfl

theorem TrieM.srt {h : Hp} {t nb : Nat} {most : Int} {L : PL} {N : Nat} (M : TrieM h t nb most L N) : Srt L ∧ ∀ x ∈ L, Pok x.1 := by
  obtain ⟨ns, cap, c, T, R, _⟩ := M; exact ⟨R.srt, R.pok⟩

/-- A trie, made behind an older heap. -/
structure Own (h0 g : Hp) (t nb : Nat) (most : Int) (L : PL) (N : Nat) : Prop where
  m : TrieM g t nb most L N
  le : Le h0 g
  t0 : h0 t = none
  nb0 : h0 nb = none

theorem Own.chg {h0 g g' : Hp} {t nb nb' : Nat} {most most' : Int} {L L' : PL} {N N' : Nat} (O : Own h0 g t nb most L N) (C : Chg g g' t nb nb') (M : TrieM g' t nb' most' L' N') : Own h0 g' t nb' most' L' N' :=
  ⟨M, C.le O.le O.t0 O.nb0, O.t0, C.fresh2 O.le O.nb0⟩

theorem Own.more {h0 g g' : Hp} {t nb : Nat} {most : Int} {L : PL} {N : Nat} (O : Own h0 g t nb most L N) (l : Le g g') : Own h0 g' t nb most L N :=
  ⟨O.m.le l (Nat.le_refl _), O.le.trans l, O.t0, O.nb0⟩

def RootInv (h0 : Hp) (v : Value) (ops : List OpR) (n : Int) (addr : Nat) (m : Nat) (env : Env) (g : Hp) : Prop :=
  ∃ t nb i, env 0 = v ∧ env 1 = .int .i64 n ∧ env 2 = .int .u32 addr ∧ env 8 = .pointer (some ⟨t, 0, none⟩) ∧ env 9 = .int .i64 (i : Nat) ∧ i + m = ops.length ∧ i ≤ ops.length ∧
    Own h0 g t nb 1000 (putAll 1000 OpR.n [] (ops.take i)) (1 + 32 * i)

theorem root_law {L : PL} (hs : Srt L) (hp : ∀ x ∈ L, Pok x.1) (hl : L.length ≤ 200) (n : Int) {addr : Nat} (ha : addr < 2 ^ 32) :
    (putR 1000 L 0 0 n).1 = 0 ∧ ∃ x, findL (putR 1000 L 0 0 n).2 addr = some x ∧ Pok x.1 ∧ ((0 < x.1.2 ∧ hasB x.1 addr = true) ∨ (x.1 = (0, 0) ∧ x.2 = n)) := by
  have hm : mayB 0 0 = true := by decide
  have hR : (putR 1000 L 0 0 n).1 = 0 ∧ (∀ q, getL (putR 1000 L 0 0 n).2 q = if q = (0, 0) then some n else getL L q) ∧ Srt (putR 1000 L 0 0 n).2 ∧ ∀ x ∈ (putR 1000 L 0 0 n).2, Pok x.1 := by
    have p0 : Pok (0, 0) := ⟨by decide, by decide, by decide⟩
    unfold putR
    rw [if_pos hm]
    cases hg : getL L (0, Int.toNat 0) with
    | none =>
      simp only [Option.isSome_none, Bool.false_eq_true, if_false]
      rw [if_neg (by omega)]
      refine ⟨rfl, fun q => getL_insL L _ q n hg, insL_srt hs n hg, fun x hx => ?_⟩
      rcases insL_mem hx with e | e
      · subst e; exact p0
      · exact hp x e
    | some k =>
      simp only [Option.isSome_some, if_true]
      refine ⟨trivial, fun q => getL_setL L _ q n (by rw [hg]; simp), setL_srt hs _ n, fun x hx => ?_⟩
      rcases setL_mem hx with e | e
      · subst e; exact p0
      · exact hp x e
  obtain ⟨h1, h2, h3, h4⟩ := hR
  refine ⟨h1, ?_⟩
  generalize (putR 1000 L 0 0 n).2 = L' at *
  have hmem : ((0, 0), n) ∈ L' := getL_mem (by rw [h2, if_pos rfl])
  have hF := found_find L' addr
  have hc0 : cutA addr 0 = 0 := by unfold cutA; simp; omega
  generalize findL L' addr = r at *
  cases hF with
  | none h => exact absurd hc0.symm (h _ hmem)
  | some x hx hx2 hx3 =>
    refine ⟨x, rfl, h4 x hx, ?_⟩
    rcases Nat.eq_zero_or_pos x.1.2 with e | e
    · right
      have e1 : x.1 = (0, 0) := Prod.ext (by rw [hx2, e, hc0]) e
      refine ⟨e1, ?_⟩
      have := getL_of_mem h3 (p := x.1) (k := x.2) hx
      rw [e1, h2, if_pos rfl] at this
      simpa using this.symm
    · left
      refine ⟨e, ?_⟩
      unfold hasB
      rw [hx2, cutA_div]
      simp

theorem TrieRoot_walk {h0 : Hp} {v : Value} {ops : List OpR} {n : Int} {addr : Nat} (A : argOps h0 v ops) (ha : addr < 2 ^ 32) :
    Ok Try.prog F_octroilaw08_TrieRoot #[v, .int .i64 n, .int .u32 addr] h0 (fun r g => r = .bool true ∧ Le h0 g) := by
  obtain ⟨p, cap, hv⟩ := ArgSl.shape A
  have hlen := ArgSl.len A
  have hmax : maxLen < 2 ^ 63 := by decide
  refine octroilaw08_TrieRoot_ok (by simp) ?_
  unfold octroilaw08_TrieRoot_D
  simp (disch := omega) [octroilaw08_TrieRoot_r0, octroilaw08_TrieRoot_r1]
  refine awake_spec (fun h1 L1 => ?_)
  simp (disch := omega) [octroilaw08_TrieRoot_r2]
  refine newM (fun t nb h2 ht hnb L2 M2 => ?_)
  have O2 : Own h0 h2 t nb 1000 [] 1 := by
    refine ⟨M2, L1.trans L2, ?_, ?_⟩
    · cases hh : h0 t with
      | none => rfl
      | some o => rw [L1 _ _ hh] at ht; cases ht
    · cases hh : h0 nb with
      | none => rfl
      | some o => rw [L1 _ _ hh] at hnb; cases hnb
  clear M2
  by_cases hbig : (200 : Int) < (ops.length : Int)
  · simp (disch := omega) [octroilaw08_TrieRoot_r3, octroilaw08_TrieRoot_r4, hv, hbig]
    exact .to _ (.refl _) ⟨rfl, O2.le⟩
  · simp (disch := omega) [octroilaw08_TrieRoot_r3, octroilaw08_TrieRoot_r5, hv, hbig]
    refine ⟨RootInv h0 v ops n addr, ⟨ops.length, t, nb, 0, by simp [hv], by simp, by simp, by simp, by simp, by omega, by omega, by simpa [putAll] using O2⟩, ?_⟩
    clear O2 L1 L2 ht hnb
    rintro m env g ⟨t, nb, i, e0, e1, e2, e8, e9, him, hi, O⟩
    unfold octroilaw08_TrieRoot_L0
    by_cases hm : m = 0
    · have hin : i = ops.length := by omega
      subst hin
      have hl := putAll_length 1000 OpR.n ops []
      simp only [List.take_length, List.length_nil] at O hl
      obtain ⟨hs, hp⟩ := O.m.srt
      obtain ⟨r1, x, r2, r3, r4⟩ := root_law hs hp (by omega) n ha
      simp (disch := omega) [octroilaw08_TrieRoot_r6, octroilaw08_TrieRoot_r9, e0, e1, e2, e8, e9, hv]
      refine putM (a := 0) O.m (by omega) (by omega) (fun h3 nb3 C3 M3 => ?_)
      have O3 := O.chg C3 M3
      simp (disch := omega) [octroilaw08_TrieRoot_r10, r1, e2, e8]
      refine findM O3.m ha ?_
      simp (disch := omega) [r2, fa, fl, fn]
      intro b hb
      simp (disch := omega) [octroilaw08_TrieRoot_r11, r1]
      have L4 : Le h0 (h3.upd b (.cells #[.int .u32 x.1.1, .int .i64 x.1.2] 30)) := O3.le.trans (.new hb)
      have hbb : (h3.upd b (.cells #[.int .u32 x.1.1, .int .i64 x.1.2] 30)) b = some (.cells #[.int .u32 x.1.1, .int .i64 x.1.2] 30) := by simp
      generalize h3.upd b (.cells #[.int .u32 x.1.1, .int .i64 x.1.2] 30) = g2 at *
      rcases r4 with ⟨q1, q2⟩ | ⟨q1, q2⟩
      · have hne : ¬ x.1.2 = 0 := by omega
        simp (disch := omega) [octroilaw08_TrieRoot_r13, e0, e1, e2, e8, e9, hbb, q1]
        refine has_spec r3.a ha ?_
        have hmay := pok_mayB r3
        simp (disch := omega) [q2, hmay, hbb, q1]
        exact .to _ (.refl _) ⟨rfl, L4⟩
      · simp (disch := omega) [octroilaw08_TrieRoot_r13, e0, e1, e2, e8, e9, hbb, q1, q2]
        exact .to _ (.refl _) ⟨rfl, L4⟩
    · obtain ⟨m, rfl⟩ : ∃ k, m = k + 1 := ⟨m - 1, by omega⟩
      have hlt : (i : Int) < (ops.length : Int) := by omega
      obtain ⟨x, hx⟩ : ∃ x, ops[i]? = some x := ⟨_, List.getElem?_eq_getElem (by omega)⟩
      obtain ⟨b, o, cap', c, E, fr, hv', hb, c0, c1, c2, c3, c4⟩ := (argOps.get (ArgSl.le A O.le) hx)
      have hpa := (A.1 x (List.mem_of_getElem? hx)).pa
      have hsucc := putAll_succ 1000 OpR.n hx []
      simp (disch := omega) [octroilaw08_TrieRoot_r6, octroilaw08_TrieRoot_r7, e0, e1, e2, e8, e9, hv', hlt, hb, c1, c2, c3]
      refine putM O.m hpa (by omega) (fun h3 nb3 C3 M3 => ?_)
      have O3 := O.chg C3 M3
      rw [← hsucc] at O3
      simp (disch := omega) [octroilaw08_TrieRoot_r8, e0, e1, e2, e8, e9, wrap_i64]
      exact ⟨m, by omega, t, nb3, i + 1, by simp [e0, hv'], by simp [e1], by simp [e2], by simp [e8], by simp, by omega, by omega, O3⟩
end Go.Proofs.Yteadogmjojeleaa
