/- TrieOrder: prefixes that are put in another order are the same ones: the walk. -/
import Derived.Test.YteadogmjojeleaaB2
namespace Go.Proofs.Yteadogmjojeleaa
open Go
set_option linter.unusedSimpArgs false

/-! ### The order does not matter -/
theorem srt_ext : ∀ {L L' : PL}, Srt L → Srt L' → (∀ q, getL L q = getL L' q) → L = L'
  | L, L', hs, hs', h => by
    have e : L.map (·.1) = L'.map (·.1) := by
      refine sorted_ext (List.pairwise_map.2 hs) (List.pairwise_map.2 hs') (fun q => ?_)
      have mem : ∀ {L : PL} {q : Nat × Nat}, Srt L → (q ∈ L.map (·.1) ↔ getL L q ≠ none) := by
        intro L q hs
        constructor
        · intro hq
          obtain ⟨x, hx, rfl⟩ := List.mem_map.1 hq
          rw [getL_of_mem hs (k := x.2) hx]; simp
        · intro hq
          cases hg : getL L q with
          | none => exact absurd hg hq
          | some k => exact List.mem_map.2 ⟨(q, k), getL_mem hg, rfl⟩
      rw [mem hs, mem hs', h]
    refine List.ext_getElem? (fun i => ?_)
    have hi := congrArg (fun l => l[i]?) e
    simp only [List.getElem?_map] at hi
    cases h1 : L[i]? with
    | none => cases h2 : L'[i]? with
      | none => rfl
      | some y => simp [h1, h2] at hi
    | some x => cases h2 : L'[i]? with
      | none => simp [h1, h2] at hi
      | some y =>
        simp [h1, h2] at hi
        have e1 := getL_of_mem hs (p := x.1) (k := x.2) (List.mem_of_getElem? h1)
        have e2 := getL_of_mem hs' (p := y.1) (k := y.2) (List.mem_of_getElem? h2)
        rw [h, hi, e2] at e1
        exact congrArg some (Prod.ext hi (by simpa using e1.symm))

theorem putAll_get (q : Nat × Nat) (k : Int) : ∀ (ops : List OpR) (L : PL), L.length + ops.length ≤ 1000 →
    (getL (putAll 1000 OpR.pl L ops) q = some k ↔ ((∃ o ∈ ops, mayB o.pa o.pl = true ∧ (o.pa, o.pl.toNat) = q) ∧ k = q.2) ∨ ((¬ ∃ o ∈ ops, mayB o.pa o.pl = true ∧ (o.pa, o.pl.toNat) = q) ∧ getL L q = some k))
  | [], L, _ => by simp [putAll]
  | o :: ops, L, hl => by
    have h1 := (putR_length 1000 L o.pa o.pl o.pl).1
    simp only [List.length_cons] at hl
    have ih := putAll_get q k ops (putR 1000 L o.pa o.pl o.pl).2 (by omega)
    have e : putAll 1000 OpR.pl L (o :: ops) = putAll 1000 OpR.pl (putR 1000 L o.pa o.pl o.pl).2 ops := rfl
    have hg : getL (putR 1000 L o.pa o.pl o.pl).2 q = if mayB o.pa o.pl = true ∧ (o.pa, o.pl.toNat) = q then some (q.2 : Int) else getL L q := by
      unfold putR
      by_cases hm : mayB o.pa o.pl = true
      · rw [if_pos hm]
        have h0 := (mayB_le hm).1
        have hq : ∀ r, (if q = (o.pa, o.pl.toNat) then some o.pl else r) = if mayB o.pa o.pl = true ∧ (o.pa, o.pl.toNat) = q then some (q.2 : Int) else r := by
          intro r
          by_cases e : q = (o.pa, o.pl.toNat)
          · rw [if_pos e, if_pos ⟨hm, e.symm⟩, e]; simp only; congr 1; omega
          · rw [if_neg e, if_neg (fun h => e h.2.symm)]
        cases hgl : getL L (o.pa, o.pl.toNat) with
        | none =>
          simp only [Option.isSome_none, Bool.false_eq_true, if_false]
          rw [if_neg (by omega), getL_insL L _ q _ hgl, hq]
        | some j =>
          simp only [Option.isSome_some, if_true]
          rw [getL_setL L _ q _ (by rw [hgl]; simp), hq]
      · rw [if_neg hm, if_neg (fun h => hm h.1)]
    rw [e, ih, hg]
    by_cases h : mayB o.pa o.pl = true ∧ (o.pa, o.pl.toNat) = q
    · rw [if_pos h]
      have hex : ∃ o' ∈ o :: ops, mayB o'.pa o'.pl = true ∧ (o'.pa, o'.pl.toNat) = q := ⟨o, by simp, h⟩
      simp only [hex, not_true_eq_false, false_and, or_false, true_and]
      constructor
      · rintro (⟨_, h⟩ | ⟨_, h⟩)
        · exact h
        · simpa using h.symm
      · intro h
        by_cases h2 : ∃ o ∈ ops, mayB o.pa o.pl = true ∧ (o.pa, o.pl.toNat) = q
        · exact .inl ⟨h2, h⟩
        · exact .inr ⟨h2, by rw [h]⟩
    · rw [if_neg h]
      have : (∃ o' ∈ o :: ops, mayB o'.pa o'.pl = true ∧ (o'.pa, o'.pl.toNat) = q) ↔ ∃ o' ∈ ops, mayB o'.pa o'.pl = true ∧ (o'.pa, o'.pl.toNat) = q := by
        simp only [List.mem_cons, exists_eq_or_imp, h, false_or]
      rw [this]

theorem putAll_rev {ops : List OpR} (hl : ops.length ≤ 200) (h1 : Srt (putAll 1000 OpR.pl [] ops)) (h2 : Srt (putAll 1000 OpR.pl [] ops.reverse)) : putAll 1000 OpR.pl [] ops.reverse = putAll 1000 OpR.pl [] ops := by
  refine srt_ext h2 h1 (fun q => ?_)
  have e : ∀ k, getL (putAll 1000 OpR.pl [] ops.reverse) q = some k ↔ getL (putAll 1000 OpR.pl [] ops) q = some k := by
    intro k
    rw [putAll_get q k ops [] (by simp only [List.length_nil]; omega), putAll_get q k ops.reverse [] (by simp only [List.length_nil, List.length_reverse]; omega)]
    simp only [List.mem_reverse]
  cases h3 : getL (putAll 1000 OpR.pl [] ops) q with
  | some k => exact (e k).2 h3
  | none =>
    cases h4 : getL (putAll 1000 OpR.pl [] ops.reverse) q with
    | none => rfl
    | some k => rw [(e k).1 h4] at h3; cases h3

/-! ### Two tries side by side -/
structure Apart4 (s ns t nt : Nat) : Prop where
  a : s ≠ t
  b : s ≠ nt
  c : ns ≠ t
  d : ns ≠ nt

theorem Apart4.symm {s ns t nt : Nat} (A : Apart4 s ns t nt) : Apart4 t nt s ns := ⟨A.a.symm, A.c.symm, A.b.symm, A.d.symm⟩

theorem Own.beside {h0 g g' : Hp} {s ns ns' t nt : Nat} {most : Int} {L : PL} {N : Nat} (O : Own h0 g t nt most L N) (C : Chg g g' s ns ns') (A : Apart4 s ns t nt) (l : Le h0 g') : Own h0 g' t nt most L N ∧ Apart4 s ns' t nt := by
  refine ⟨⟨O.m.mono (fun o h => C.keep _ _ h A.a.symm A.c.symm) (fun o h => C.keep _ _ h A.b.symm A.d.symm) (Nat.le_refl _), l, O.t0, O.nb0⟩, A.a, A.b, ?_, ?_⟩
  · rcases C.fresh with e | e
    · rw [e]; exact A.c
    · rintro rfl
      obtain ⟨o, ho⟩ := O.m.has_t
      rw [ho] at e; cases e
  · rcases C.fresh with e | e
    · rw [e]; exact A.d
    · rintro rfl
      obtain ⟨o, ho⟩ := O.m.has_nb
      rw [ho] at e; cases e

/-- The place of an element of a slice. -/
theorem SlAt.at {α : Type} {h : Hp} {E sz : Nat} {enc : α → List Value} {v : Value} {xs : List α} {i : Nat} {x : α} (S : SlAt h E sz enc v xs) (hx : xs[i]? = some x) :
    ∃ b cap c, v = .slice (some ⟨b, 0, none⟩) xs.length cap ∧ h b = some (.cells c E (0, 0)) ∧ ∀ j, j < sz → c[i * sz + j]? = (enc x)[j]? := by
  rcases S with ⟨_, rfl⟩ | ⟨b, cap, c, rfl, hb, h1, h2, h3⟩
  · simp at hx
  · exact ⟨b, cap, c, rfl, hb, fun j hj => by have := h3 i x hx j hj; rwa [Nat.zero_add] at this⟩

theorem SlAt.pre {h : Hp} {v : Value} {xs : List (Nat × Nat)} {i : Nat} {x : Nat × Nat} (S : SlAt h T_api_Prefix 2 pe v xs) (hx : xs[i]? = some x) :
    ∃ b cap c, v = .slice (some ⟨b, 0, none⟩) xs.length cap ∧ h b = some (.cells c T_api_Prefix (0, 0)) ∧ c[i * 2]? = some (.int .u32 x.1) ∧ c[i * 2 + 1]? = some (.int .i64 x.2) := by
  obtain ⟨b, cap, c, e, hb, H⟩ := SlAt.at S hx
  exact ⟨b, cap, c, e, hb, H 0 (by omega), H 1 (by omega)⟩

theorem SlAt.shape {α : Type} {h : Hp} {E sz : Nat} {enc : α → List Value} {v : Value} {xs : List α} (S : SlAt h E sz enc v xs) : ∃ p cap, v = .slice p xs.length cap := by
  rcases S with ⟨rfl, rfl⟩ | ⟨b, cap, c, rfl, _⟩
  · exact ⟨_, _, rfl⟩
  · exact ⟨_, _, rfl⟩

theorem SlAt.le {α : Type} {h h' : Hp} {E sz : Nat} {enc : α → List Value} {v : Value} {xs : List α} (S : SlAt h E sz enc v xs) (l : Le h h') : SlAt h' E sz enc v xs := S.keep (fun _ _ _ e => l _ _ e)

structure OrdEnv (v : Value) (addr s t : Nat) (env : Env) : Prop where
  e0 : env 0 = v
  e1 : env 1 = .int .u32 addr
  e6 : env 6 = .pointer (some ⟨s, 0, none⟩)
  e7 : env 7 = .pointer (some ⟨t, 0, none⟩)

def OrdInv0 (h0 : Hp) (v : Value) (ops : List OpR) (addr : Nat) (m : Nat) (env : Env) (g : Hp) : Prop :=
  ∃ s ns t nt i, OrdEnv v addr s t env ∧ env 8 = .int .i64 (i : Nat) ∧ i + m = ops.length ∧
    Own h0 g s ns 1000 (putAll 1000 OpR.pl [] (ops.take i)) (1 + 32 * i) ∧ Own h0 g t nt 1000 [] 1 ∧ Apart4 s ns t nt

def OrdInv1 (h0 : Hp) (v : Value) (ops : List OpR) (addr : Nat) (L : PL) (m : Nat) (env : Env) (g : Hp) : Prop :=
  ∃ s ns t nt i, OrdEnv v addr s t env ∧ env 9 = .int .i64 ((m : Int) - 1) ∧ i + m = ops.length ∧
    Own h0 g s ns 1000 L (1 + 32 * ops.length) ∧ Own h0 g t nt 1000 (putAll 1000 OpR.pl [] (ops.reverse.take i)) (1 + 32 * i) ∧ Apart4 s ns t nt

def OrdInv2 (h0 : Hp) (v : Value) (N addr : Nat) (L : PL) (m : Nat) (env : Env) (g : Hp) : Prop :=
  ∃ s ns t nt va vb i, OrdEnv v addr s t env ∧ env 10 = va ∧ env 11 = vb ∧ env 12 = .int .i64 (i : Nat) ∧ i + m = L.length ∧
    Own h0 g s ns 1000 L N ∧ Own h0 g t nt 1000 L N ∧ SlAt g T_api_Prefix 2 pe va (L.map (·.1)) ∧ SlAt g T_api_Prefix 2 pe vb (L.map (·.1))

theorem TrieOrder_tail {h0 g : Hp} {v : Value} {addr N s ns t nt : Nat} {L : PL} {env : Env} (ha : addr < 2 ^ 32) (hN : N ≤ 10000) (E : OrdEnv v addr s t env)
    (Os : Own h0 g s ns 1000 L N) (Ot : Own h0 g t nt 1000 L N) :
    sq (rg octroilaw08_TrieOrder_r14) (sq (rg octroilaw08_TrieOrder_r15) (sq (sq (rg octroilaw08_TrieOrder_r16) (cnd (.tmp 93) (sq (rg octroilaw08_TrieOrder_r17) (ex .ret)) (ex .normal))) (sq (sq (rg octroilaw08_TrieOrder_r18) (blk 4 (lp octroilaw08_TrieOrder_L2))) (sq (rg octroilaw08_TrieOrder_r23) (sq (rg octroilaw08_TrieOrder_r24) (sq (rg octroilaw08_TrieOrder_r25) (ex .ret)))))))
      (fin Try.prog [ResultVar.tmp 4] (fun r g => r = .bool true ∧ Le h0 g)) env g := by
  obtain ⟨e0, e1, e6, e7⟩ := E
  have hlN : L.length ≤ 10000 := by
    obtain ⟨_, _, _, _, _, _, h⟩ := Os.m
    omega
  simp (disch := omega) [octroilaw08_TrieOrder_r14, e0, e1, e6, e7]
  refine allM Os.m (fun va g1 Sa La _ => ?_)
  simp (disch := omega) [octroilaw08_TrieOrder_r15, e0, e1, e6, e7]
  refine allM (Ot.more La).m (fun vb g2 Sb Lb _ => ?_)
  have Sa2 := SlAt.le Sa Lb
  obtain ⟨pa, ca, hva⟩ := SlAt.shape Sa
  obtain ⟨pb, cb, hvb⟩ := SlAt.shape Sb
  rw [List.length_map] at hva hvb
  have Os2 := (Os.more La).more Lb
  have Ot2 := (Ot.more La).more Lb
  simp (disch := omega) [octroilaw08_TrieOrder_r16, octroilaw08_TrieOrder_r18, hva, hvb]
  refine ⟨OrdInv2 h0 v N addr L, ⟨L.length, s, ns, t, nt, va, vb, 0, ⟨by simp [e0], by simp [e1], by simp [e6], by simp [e7]⟩, by simp [hva], by simp [hvb], by simp, by omega, Os2, Ot2, Sa2, Sb⟩, ?_⟩
  clear Os Ot Sa Sb Sa2 Os2 Ot2 La Lb hva hvb e0 e1 e6 e7
  rintro m env g ⟨s, ns, t, nt, va, vb, i, ⟨e0, e1, e6, e7⟩, e10, e11, e12, him, Os, Ot, Sa, Sb⟩
  unfold octroilaw08_TrieOrder_L2
  obtain ⟨pa, ca, hva⟩ := SlAt.shape Sa
  obtain ⟨pb, cb, hvb⟩ := SlAt.shape Sb
  rw [List.length_map] at hva hvb
  by_cases hm : m = 0
  · have hin : i = L.length := by omega
    subst hin
    simp (disch := omega) [octroilaw08_TrieOrder_r19, octroilaw08_TrieOrder_r23, e0, e1, e6, e7, e10, e11, e12, hva, hvb]
    refine findM Os.m ha ?_
    simp (disch := omega)
    intro b hb
    simp (disch := omega) [octroilaw08_TrieOrder_r24, e0, e1, e6, e7, e10, e11, e12]
    have hbb : (g.upd b (.cells #[.int .u32 (fa (findL L addr)), .int .i64 (fl (findL L addr))] 30)) b = some (.cells #[.int .u32 (fa (findL L addr)), .int .i64 (fl (findL L addr))] 30) := by simp
    have Ot3 := Ot.more (Le.new (o := .cells #[.int .u32 (fa (findL L addr)), .int .i64 (fl (findL L addr))] 30) hb)
    generalize g.upd b (.cells #[.int .u32 (fa (findL L addr)), .int .i64 (fl (findL L addr))] 30) = g1 at *
    refine findM Ot3.m ha ?_
    simp (disch := omega)
    intro b2 hb2
    have hne := ne_new hbb hb2
    simp (disch := omega) [octroilaw08_TrieOrder_r25, hbb, hne, Ne.symm hne]
    exact .to _ (.refl _) ⟨rfl, Ot3.le.trans (.new hb2)⟩
  · obtain ⟨m, rfl⟩ : ∃ k, m = k + 1 := ⟨m - 1, by omega⟩
    have hlt : (i : Int) < (L.length : Int) := by omega
    obtain ⟨x, hx⟩ : ∃ x, (L.map (·.1))[i]? = some x := ⟨_, List.getElem?_eq_getElem (by rw [List.length_map]; omega)⟩
    obtain ⟨b1, cap1, c1, hva', hb1, c10, c11⟩ := SlAt.pre Sa hx
    obtain ⟨b2, cap2, c2, hvb', hb2, c20, c21⟩ := SlAt.pre Sb hx
    rw [List.length_map] at hva' hvb'
    simp (disch := omega) [octroilaw08_TrieOrder_r19, octroilaw08_TrieOrder_r20, octroilaw08_TrieOrder_r22, e0, e1, e6, e7, e10, e11, e12, hva', hvb', hlt, hb1, hb2, c10, c11, c20, c21, wrap_i64]
    exact ⟨m, by omega, s, ns, t, nt, va, vb, i + 1, ⟨by simp [e0], by simp [e1], by simp [e6], by simp [e7]⟩, by simp [e10, hva'], by simp [e11, hvb'], by simp, by omega, Os, Ot, Sa, Sb⟩
end Go.Proofs.Yteadogmjojeleaa
