/- The trie in memory: gather, All. -/
import Derived.Test.YtmbhlbohbpepaaaA4
namespace Go.Proofs.Ytmbhlbohbpepaaa
open Go
set_option linter.unusedSimpArgs false

def pe (p : Nat × Nat) : List Value := [.int .u32 p.1, .int .i64 p.2]

/-- The prefixes below a node, that one first. -/
def gath (ns : List Nd) : Nat → Nat → Nat → Nat → List (Nat × Nat)
  | 0, at_, a, n => match ns[at_]? with
    | none => []
    | some x => if x.has = true then [(a, n)] else []
  | d + 1, at_, a, n => match ns[at_]? with
    | none => []
    | some x => (if x.has = true then [(a, n)] else []) ++ (if x.l = 0 then [] else gath ns d x.l a (n + 1)) ++ (if x.r = 0 then [] else gath ns d x.r (a + 2 ^ (31 - n)) (n + 1))

/-- No way goes on for more than so many bits. -/
def Fit (ns : List Nd) : Nat → Nat → Prop
  | 0, at_ => ∀ x, ns[at_]? = some x → x.l = 0 ∧ x.r = 0
  | d + 1, at_ => ∀ x, ns[at_]? = some x → (x.l = 0 ∨ Fit ns d x.l) ∧ (x.r = 0 ∨ Fit ns d x.r)

structure GKeep (h h' : Hp) (v v' : Value) : Prop where
  keep : ∀ y o, h y = some o → some y ≠ blkOf v → h' y = some o
  fresh : blkOf v' = blkOf v ∨ ∀ b, blkOf v' = some b → h b = none

theorem GKeep.trans {h h1 h2 : Hp} {v v1 v2 : Value} (a : GKeep h h1 v v1) (b : GKeep h1 h2 v1 v2) : GKeep h h2 v v2 where
  keep := fun y o hy hne => by
    refine b.keep y o (a.keep y o hy hne) ?_
    rcases a.fresh with e | e
    · rw [e]; exact hne
    · intro e2
      have := e y e2.symm
      rw [hy] at this; cases this
  fresh := by
    rcases b.fresh with e | e
    · rw [e]; exact a.fresh
    · cases hv2 : blkOf v2 with
      | none => exact .inr (fun y hy => by cases hy)
      | some y =>
        by_cases hyv : some y = blkOf v
        · exact .inl hyv
        · refine .inr fun y' hy => ?_
          cases hy
          have h1n := e y hv2
          cases hh : h y with
          | none => rfl
          | some o =>
            have := a.keep y o hh hyv
            rw [h1n] at this; cases this

theorem TrieAt.mono {h g : Hp} {t nb : Nat} {most many : Int} {ns : List Nd} {cap : Nat} {c : Array Value} (T : TrieAt h t nb most many ns cap c) (l : ∀ o, h t = some o → g t = some o) (l2 : ∀ o, h nb = some o → g nb = some o) : TrieAt g t nb most many ns cap c :=
  ⟨l _ T.t, l2 _ T.nb, T.le, T.size, T.enc⟩

theorem gath_len (ns : List Nd) : ∀ d at_ a n, (gath ns d at_ a n).length < 2 ^ (d + 1)
  | 0, at_, a, n => by
    simp only [gath]; split
    · simp
    · split <;> simp
  | d + 1, at_, a, n => by
    have hp : 0 < 2 ^ (d + 1) := Nat.two_pow_pos _
    have h0 : 2 ^ (d + 1 + 1) = 2 * 2 ^ (d + 1) := by rw [Nat.pow_succ]; omega
    simp only [gath]; split
    · simp only [List.length_nil]; omega
    · rename_i x _
      have h1 := gath_len ns d x.l a (n + 1)
      have h2 := gath_len ns d x.r (a + 2 ^ (31 - n)) (n + 1)
      have h3 : (if x.l = 0 then [] else gath ns d x.l a (n + 1)).length < 2 ^ (d + 1) := by
        split
        · exact hp
        · exact h1
      have h4 : (if x.r = 0 then [] else gath ns d x.r (a + 2 ^ (31 - n)) (n + 1)).length < 2 ^ (d + 1) := by
        split
        · exact hp
        · exact h2
      have h5 : (if x.has = true then [(a, n)] else []).length ≤ 1 := by split <;> simp
      simp only [List.length_append]
      omega

theorem or_bit {a n : Nat} (hn : n ≤ 31) (hm : a % 2 ^ (32 - n) = 0) : a ||| 2 ^ (31 - n) = a + 2 ^ (31 - n) := by
  have hp : 2 ^ (31 - n) < 2 ^ (32 - n) := Nat.pow_lt_pow_right (by omega) (by omega)
  have := Nat.two_pow_add_eq_or_of_lt hp (a / 2 ^ (32 - n))
  have e : 2 ^ (32 - n) * (a / 2 ^ (32 - n)) = a := by
    have := Nat.div_add_mod a (2 ^ (32 - n)); omega
  rw [e] at this
  exact this.symm

theorem step_bit {a n : Nat} (hn : n ≤ 31) (ha : a < 2 ^ 32) (hm : a % 2 ^ (32 - n) = 0) : a + 2 ^ (31 - n) < 2 ^ 32 ∧ (a + 2 ^ (31 - n)) % 2 ^ (32 - (n + 1)) = 0 ∧ a % 2 ^ (32 - (n + 1)) = 0 := by
  have e1 : 32 - (n + 1) = 31 - n := by omega
  have e2 : 2 ^ (32 - n) = 2 * 2 ^ (31 - n) := by
    have : 32 - n = (31 - n) + 1 := by omega
    rw [this, Nat.pow_succ]; omega
  have e3 : (2 : Nat) ^ 32 = 2 ^ n * 2 ^ (32 - n) := by rw [← Nat.pow_add]; congr 1; omega
  rw [e1]
  have hp : 0 < 2 ^ (31 - n) := Nat.two_pow_pos _
  obtain ⟨q, rfl⟩ : ∃ q, a = 2 ^ (32 - n) * q := ⟨a / 2 ^ (32 - n), by have := Nat.div_add_mod a (2 ^ (32 - n)); omega⟩
  have hq : q < 2 ^ n := by
    rw [e3, Nat.mul_comm (2 ^ n)] at ha
    exact Nat.lt_of_mul_lt_mul_left ha
  refine ⟨?_, ?_, ?_⟩
  · have : 2 ^ (32 - n) * (q + 1) ≤ 2 ^ (32 - n) * 2 ^ n := Nat.mul_le_mul_left _ hq
    rw [Nat.mul_comm (2 ^ (32 - n)) (2 ^ n), ← e3, Nat.mul_add] at this
    omega
  · rw [e2]
    have : 2 * 2 ^ (31 - n) * q + 2 ^ (31 - n) = 2 ^ (31 - n) * (2 * q + 1) := by rw [Nat.mul_add, Nat.mul_one]; congr 1; rw [Nat.mul_comm 2, Nat.mul_assoc]
    rw [this]; exact Nat.mul_mod_right _ _
  · rw [e2]
    have : 2 * 2 ^ (31 - n) * q = 2 ^ (31 - n) * (2 * q) := by rw [Nat.mul_comm 2, Nat.mul_assoc]
    rw [this]; exact Nat.mul_mod_right _ _

def GPart (ns : List Nd) (d a n : Nat) (x : Nd) (xs : List (Nat × Nat)) (j : Nat) : List (Nat × Nat) :=
  xs ++ (if x.has = true then [(a, n)] else []) ++ (if 1 ≤ j then (match d with | 0 => [] | d + 1 => if x.l = 0 then [] else gath ns d x.l a (n + 1)) else []) ++
    (if 2 ≤ j then (match d with | 0 => [] | d + 1 => if x.r = 0 then [] else gath ns d x.r (a + 2 ^ (31 - n)) (n + 1)) else [])

def GInv (h : Hp) (t b7 : Nat) (ns : List Nd) (d a n : Nat) (x : Nd) (xs : List (Nat × Nat)) (v : Value) (m : Nat) (env : Env) (g : Hp) : Prop :=
  env 0 = .pointer (some ⟨t, 0, none⟩) ∧ env 7 = .pointer (some ⟨b7, 0, none⟩) ∧ env 26 = .agg #[.int .i64 x.l, .int .i64 x.r] ∧
    ∃ (j : Nat) (v' : Value), j + m = 2 ∧ env 27 = .int .i64 j ∧ env 1 = v' ∧ g b7 = some (.cells #[.int .u32 a, .int .i64 n] 24 (0, 0)) ∧ some b7 ≠ blkOf v' ∧ GKeep h g v v' ∧ SlAt g T_api_Prefix 2 pe v' (GPart ns d a n x xs j)

def GSpec (d : Nat) : Prop := ∀ (h : Hp) (t nb : Nat) (most many : Int) (ns : List Nd) (cap : Nat) (c : Array Value) (at_ a n : Nat) (xs : List (Nat × Nat)) (v : Value) (Q : Value → Hp → Prop),
  TrieAt h t nb most many ns cap c → NsOk ns → Fit ns d at_ → at_ < ns.length → n + d = 32 → a < 2 ^ 32 → a % 2 ^ (32 - n) = 0 → SlAt h T_api_Prefix 2 pe v xs → some t ≠ blkOf v → some nb ≠ blkOf v → xs.length + 2 ^ (d + 1) ≤ 2 ^ 36 →
  (∀ v' h', SlAt h' T_api_Prefix 2 pe v' (xs ++ gath ns d at_ a n) → GKeep h h' v v' → Q v' h') →
  Ok Try.prog F_trie_Trie_gather #[.pointer (some ⟨t, 0, none⟩), v, .int .i64 at_, .agg #[.int .u32 a, .int .i64 n]] h Q

theorem slice_shape {α : Type} {h : Hp} {E sz : Nat} {enc : α → List Value} {v : Value} {xs : List α} (S : SlAt h E sz enc v xs) : ∃ p l k, v = .slice p l k := by
  rcases S with ⟨rfl, _⟩ | ⟨b, cap, c, rfl, _⟩
  · exact ⟨_, _, _, rfl⟩
  · exact ⟨_, _, _, rfl⟩

theorem gather_step (d : Nat) (IH : ∀ d', d = d' + 1 → GSpec d') : GSpec d := by
  intro h t nb most many ns cap c at_ a n xs v Q T O hfit hat hnd ha hmod S htv hnv hlen hQ
  have hpos : 0 < 2 ^ (d + 1) := Nat.two_pow_pos _
  have hlt32 : 2 ^ (d + 1) ≤ 2 ^ 33 := Nat.pow_le_pow_right (by omega) (by omega)
  refine trie_Trie_gather_ok (by simp) ?_
  unfold trie_Trie_gather_D
  simp (disch := omega) [trie_Trie_gather_r0]
  intro b7 hb7
  have l : Le h (h.upd b7 (.cells #[.int .u32 a, .int .i64 n] 24)) := .new hb7
  have hb7' : (h.upd b7 (.cells #[.int .u32 a, .int .i64 n] 24)) b7 = some (.cells #[.int .u32 a, .int .i64 n] 24) := by simp
  generalize h.upd b7 (.cells #[.int .u32 a, .int .i64 n] 24) = g at *
  obtain ⟨x, hx⟩ : ∃ x, ns[at_]? = some x := ⟨_, List.getElem?_eq_getElem hat⟩
  obtain ⟨f0, f1, f2, f3⟩ := T.get hx
  have ht := l _ _ T.t
  have hnb := l _ _ T.nb
  simp (disch := omega) [trie_Trie_gather_r1, ht, hnb, f0, f1, f2, f3]
  intro b9 hb9
  have n79 : b7 ≠ b9 := ne_new hb7' hb9
  simp (disch := omega)
  have hb9n : ∀ o, h b9 ≠ some o := fun o ho => by rw [l _ _ ho] at hb9; cases hb9
  have hb9' : (g.upd b9 (.cells #[.int .i64 x.l, .int .i64 x.r, .int .i64 x.n, .bool x.has] 87)) b9 = some (.cells #[.int .i64 x.l, .int .i64 x.r, .int .i64 x.n, .bool x.has] 87) := by simp
  have hb71 := Le.new (o := .cells #[.int .i64 x.l, .int .i64 x.r, .int .i64 x.n, .bool x.has] 87) hb9 _ _ hb7'
  have l1 := l.trans (Le.new (o := .cells #[.int .i64 x.l, .int .i64 x.r, .int .i64 x.n, .bool x.has] 87) hb9)
  generalize g.upd b9 (.cells #[.int .i64 x.l, .int .i64 x.r, .int .i64 x.n, .bool x.has] 87) = g1 at *
  clear hb7' l ht hnb hb9 g
  have vblk : ∀ b, blkOf v = some b → ∃ o, h b = some o := by
    intro b hb
    rcases S with ⟨rfl, _⟩ | ⟨b', cap', c', rfl, hh, _⟩
    · cases hb
    · cases hb; exact ⟨_, hh⟩
  have hb7v : some b7 ≠ blkOf v := by
    intro e
    obtain ⟨o, ho⟩ := vblk b7 e.symm
    rw [hb7] at ho; cases ho
  have cont : ∀ (env' : Env) (g' : Hp) (v' : Value), env' 0 = .pointer (some ⟨t, 0, none⟩) → env' 7 = .pointer (some ⟨b7, 0, none⟩) → env' 9 = .pointer (some ⟨b9, 0, none⟩) → env' 1 = v' →
      g' b7 = some (.cells #[.int .u32 a, .int .i64 n] 24 (0, 0)) → g' b9 = some (.cells #[.int .i64 x.l, .int .i64 x.r, .int .i64 x.n, .bool x.has] 87 (0, 0)) → some b7 ≠ blkOf v' → GKeep h g' v v' →
      SlAt g' T_api_Prefix 2 pe v' (GPart ns d a n x xs 0) →
      (sq (sq (rg trie_Trie_gather_r4) (blk 0 (lp trie_Trie_gather_L0))) (sq (rg trie_Trie_gather_r10) (ex .ret))) (fin Try.prog [ResultVar.tmp 8] Q) env' g' := by
    intro env' g' v' e0 e7 e9 e1 h7 h9 hne7 K' S'
    simp (disch := omega) [trie_Trie_gather_r4, e0, e7, e9, h9]
    refine ⟨GInv h t b7 ns d a n x xs v, ⟨2, by simp [e0], by simp [e7], by simp, 0, v', rfl, by simp, by simp [e1], h7, hne7, K', S'⟩, ?_⟩
    clear e0 e7 e9 e1 h7 h9 hne7 K' S' env' g' v'
    rintro m env' g' ⟨e0, e7, e26, j, v', hjm, e27, e1, h7, hne7, K', S'⟩
    have htv' : some t ≠ blkOf v' := by
      rcases K'.fresh with e | e
      · rw [e]; exact htv
      · intro e2; have := e t e2.symm; rw [T.t] at this; cases this
    have hnv' : some nb ≠ blkOf v' := by
      rcases K'.fresh with e | e
      · rw [e]; exact hnv
      · intro e2; have := e nb e2.symm; rw [T.nb] at this; cases this
    have T' : TrieAt g' t nb most many ns cap c := T.mono (fun o ho => K'.keep t o ho htv) (fun o ho => K'.keep nb o ho hnv)
    unfold trie_Trie_gather_L0
    by_cases hm : m = 0
    · subst hm
      have : j = 2 := by omega
      subst this
      simp (disch := omega) [trie_Trie_gather_r5, trie_Trie_gather_r10, e0, e7, e26, e27, e1]
      refine .to g' (.refl _) (hQ v' g' ?_ K')
      have : GPart ns d a n x xs 2 = xs ++ gath ns d at_ a n := by
        cases d <;> simp [GPart, gath, hx]
      rw [← this]; exact S'
    · have hj2 : (j : Int) < 2 := by omega
      obtain ⟨ch, hch, hcs⟩ : ∃ ch : Nat, #[Value.int .i64 x.l, Value.int .i64 x.r][j]? = some (.int .i64 ch) ∧ (ch = if j = 0 then x.l else x.r) := by
        have : j = 0 ∨ j = 1 := by omega
        rcases this with rfl | rfl
        · exact ⟨x.l, rfl, rfl⟩
        · exact ⟨x.r, rfl, rfl⟩
      by_cases hc0 : ch = 0
      · simp (disch := omega) [trie_Trie_gather_r5, trie_Trie_gather_r6, trie_Trie_gather_r7, trie_Trie_gather_r9, e0, e7, e26, e27, e1, hj2, hch, hc0, wrap_i64]
        refine ⟨m - 1, by omega, by simp [e0], by simp [e7], by simp [e26], j + 1, v', by omega, by simp, by simp [e1], h7, hne7, K', ?_⟩
        have : GPart ns d a n x xs (j + 1) = GPart ns d a n x xs j := by
          have hj : j = 0 ∨ j = 1 := by omega
          rcases hj with rfl | rfl
          · simp only [if_true] at hcs
            cases d <;> simp [GPart, ← hcs, hc0]
          · simp at hcs
            cases d <;> simp [GPart, ← hcs, hc0]
        rw [this]; exact S'
      · obtain ⟨d', rfl⟩ : ∃ d', d = d' + 1 := by
          cases d with
          | zero =>
            have := hfit x hx
            split at hcs <;> omega
          | succ d' => exact ⟨d', rfl⟩
        have hf2 := hfit x hx
        have hch2 : Fit ns d' ch ∧ at_ < ch ∧ ch < ns.length := by
          have h1 := O.l at_ x hx
          have h2 := O.r at_ x hx
          split at hcs
          · subst hcs; exact ⟨hf2.1.resolve_left hc0, h1.resolve_left hc0⟩
          · subst hcs; exact ⟨hf2.2.resolve_left hc0, h2.resolve_left hc0⟩
        obtain ⟨sb1, sb2, sb3⟩ := step_bit (by omega : n ≤ 31) ha hmod
        have hj : j = 0 ∨ j = 1 := by omega
        obtain ⟨a', ha', haddr⟩ : ∃ a' : Nat, (a' = if j = 0 then a else a + 2 ^ (31 - n)) ∧ bits_or .u32 (a : Int) (IntKind.u32.wrap (IntKind.u32.wrap (j : Int) * 2 ^ (31 - n))) = (a' : Nat) := by
          rcases hj with rfl | rfl
          · refine ⟨a, rfl, ?_⟩
            rw [wrap_u32 (x := ((0 : Nat) : Int)) (by omega) (by omega)]
            have := bits_or_u32 (b := 0) ha (by omega)
            simpa [wrap_u32] using this
          · refine ⟨a + 2 ^ (31 - n), rfl, ?_⟩
            have hp : 2 ^ (31 - n) < 2 ^ 32 := Nat.pow_lt_pow_right (by omega) (by omega)
            have := bits_or_u32 (b := 2 ^ (31 - n)) ha hp
            rw [or_bit (by omega) hmod] at this
            rw [← this]
            congr 1
            rw [wrap_u32 (x := ((1 : Nat) : Int)) (by omega) (by omega)]
            have e : ((1 : Nat) : Int) * 2 ^ (31 - n) = ((2 ^ (31 - n) : Nat) : Int) := by simp
            have hp0 : (0 : Int) ≤ ((2 ^ (31 - n) : Nat) : Int) := Int.natCast_nonneg _
            have hp1 : ((2 ^ (31 - n) : Nat) : Int) < ((4294967296 : Nat) : Int) := Int.ofNat_lt.2 hp
            rw [e, wrap_u32 hp0 hp1]
        have haz : a' < 2 ^ 32 ∧ a' % 2 ^ (32 - (n + 1)) = 0 := by
          rcases hj with rfl | rfl
          · rw [ha']; exact ⟨ha, sb3⟩
          · rw [ha']; exact ⟨sb1, sb2⟩
        have hpart : GPart ns (d' + 1) a n x xs (j + 1) = GPart ns (d' + 1) a n x xs j ++ gath ns d' ch a' (n + 1) := by
          rcases hj with rfl | rfl
          · simp only [if_true] at hcs ha'
            subst ha'
            simp [GPart, ← hcs, hc0]
          · simp at hcs ha'
            subst ha'
            simp [GPart, ← hcs, hc0]
        have hc0' : ¬ (ch : Int) = 0 := by omega
        have hn1 : IntKind.i64.wrap ((n : Int) + 1) = ((n + 1 : Nat) : Int) := by rw [wrap_i64] <;> omega
        simp (disch := omega) [trie_Trie_gather_r5, trie_Trie_gather_r6, trie_Trie_gather_r7, trie_Trie_gather_r8, e0, e7, e26, e27, e1, hj2, hch, hc0, h7]
        rw [wrap_i64 (x := 31 - (n : Int)) (by omega) (by omega)]
        simp (disch := omega) [haddr, hn1]
        have hlen' : (GPart ns (d' + 1) a n x xs j).length + 2 ^ (d' + 1) ≤ 2 ^ 36 := by
          have h1 := gath_len ns d' x.l a (n + 1)
          have h2 : 2 ^ (d' + 1 + 1) = 2 * 2 ^ (d' + 1) := by rw [Nat.pow_succ]; omega
          have h3 : (if x.l = 0 then [] else gath ns d' x.l a (n + 1)).length < 2 ^ (d' + 1) := by
            split
            · exact Nat.two_pow_pos _
            · exact h1
          have h5 : (if x.has = true then [(a, n)] else []).length ≤ 1 := by split <;> simp
          rcases hj with rfl | rfl
          · simp only [GPart, List.length_append]; simp; omega
          · simp only [GPart, List.length_append]; simp; omega
        refine IH d' rfl g' t nb most many ns cap c ch a' (n + 1) _ v' _ T' O hch2.1 hch2.2.2 (by omega) haz.1 haz.2 S' htv' hnv' hlen' (fun v2 h2 S2 K2 => ?_)
        have K2' := K'.trans K2
        have h7' := K2.keep b7 _ h7 hne7
        have hne72 : some b7 ≠ blkOf v2 := by
          rcases K2.fresh with e | e
          · rw [e]; exact hne7
          · intro e2; have := e b7 e2.symm; rw [h7] at this; cases this
        simp (disch := omega) [trie_Trie_gather_r9, e0, e7, e26, e27, e1, wrap_i64]
        exact ⟨m - 1, by omega, by simp [e0], by simp [e7], by simp [e26], j + 1, v2, by omega, by simp, by simp, h7', hne72, K2', by rw [hpart]; exact S2⟩
  have hg0 : ∀ o : List (Nat × Nat), o = (if x.has = true then [(a, n)] else []) → xs ++ o = GPart ns d a n x xs 0 := by intro o ho; simp [GPart, ho]
  cases hh : x.has with
  | false =>
    simp (disch := omega) [trie_Trie_gather_r2, hb9', hh]
    refine cont _ _ v (by simp) (by simp) (by simp) (by simp) hb71 (by rw [hb9', hh]) hb7v ⟨fun y o hy _ => l1 y o hy, .inl rfl⟩ ?_
    rw [← hg0 [] (by simp [hh]), List.append_nil]
    exact S.keep (fun b o _ hb => l1 b o hb)
  | true =>
    simp (disch := omega) [trie_Trie_gather_r2, trie_Trie_gather_r3, hb9', hb71, hh]
    intro b3 hb3
    have e3 : ∀ y o, h y = some o → y ≠ b3 := fun y o hy => ne_new (l1 y o hy) hb3
    have S3 : SlAt (g1.upd b3 (.cells #[.int .u32 a, .int .i64 n] 24)) T_api_Prefix 2 pe v xs := S.keep (fun b o _ ho => by simp [e3 b o ho, l1 b o ho])
    refine push_api_Prefix (xs := xs) (y := (a, n)) (enc := pe) S3 (by simp [pe]) rfl (by simp [pe]) (by omega) ?_
    intro b4 c4 cap4 hb4 hcap hsz4 henc
    have h4 : some b4 = blkOf v ∨ (b4 ≠ b3 ∧ g1 b4 = none) := hb4.imp id upd_none
    have n73 : b7 ≠ b3 := ne_new hb71 hb3
    have n93 : b9 ≠ b3 := ne_new hb9' hb3
    have n74 : b7 ≠ b4 := by
      rcases h4 with e | e
      · rintro rfl; exact hb7v e
      · exact ne_new hb71 e.2
    have n94 : b9 ≠ b4 := by
      rcases h4 with e | e
      · rintro rfl
        obtain ⟨o, ho⟩ := vblk b9 e.symm
        exact hb9n o ho
      · exact ne_new hb9' e.2
    refine cont _ _ (.slice (some ⟨b4, 0, none⟩) (xs.length + 1) cap4) (by simp) (by simp) (by simp) (by simp) (by simp [n74, n73, hb71]) (by simp [n94, n93, hb9', hh]) (by simpa [blkOf] using n74) ⟨fun y o hy hne => ?_, ?_⟩ ?_
    · have : y ≠ b4 := by
        rcases h4 with e | e
        · rintro rfl; exact hne e
        · exact ne_new (l1 y o hy) e.2
      simp [this, e3 y o hy, l1 y o hy]
    · rcases h4 with e | e
      · exact .inl (by simpa [blkOf] using e)
      · refine .inr fun b hb => ?_
        simp [blkOf] at hb
        subst hb
        cases hq : h b4 with
        | none => rfl
        | some o => rw [l1 b4 o hq] at e; cases e.2
    · rw [← hg0 [(a, n)] (by simp [hh])]
      exact .inr ⟨b4, cap4, c4, by simp, by simp, by simpa using hcap, hsz4, henc⟩

theorem gather_spec (d : Nat) : GSpec d := by
  induction d with
  | zero => exact gather_step 0 (fun d' h => by omega)
  | succ d ih => exact gather_step (d + 1) (fun d' h => by have : d' = d := by omega
                                                           subst this; exact ih)

theorem all_spec {h : Hp} {t nb : Nat} {most many : Int} {ns : List Nd} {cap : Nat} {c : Array Value} {Q : Value → Hp → Prop} (T : TrieAt h t nb most many ns cap c) (O : NsOk ns) (hfit : Fit ns 32 0)
    (hQ : ∀ v h', SlAt h' T_api_Prefix 2 pe v (gath ns 32 0 0 0) → (∀ y o, h y = some o → h' y = some o) → (∀ b, blkOf v = some b → h b = none) → Q v h') :
    Ok Try.prog F_trie_Trie_All #[.pointer (some ⟨t, 0, none⟩)] h Q := by
  refine trie_Trie_All_ok (by simp) ?_
  unfold trie_Trie_All_D
  simp (disch := omega) [trie_Trie_All_r0, trie_Trie_All_r1]
  refine gather_spec 32 h t nb most many ns cap c 0 0 0 [] (.slice none 0 0) _ T O hfit O.pos (by omega) (by omega) (by simp) (.inl ⟨rfl, rfl⟩) (by simp [blkOf]) (by simp [blkOf]) (by simp) (fun v h' S K => ?_)
  refine .to h' (.refl _) (hQ v h' (by simpa using S) (fun y o hy => K.keep y o hy (by simp [blkOf])) (fun b hb => ?_))
  rcases K.fresh with e | e
  · rw [hb] at e; simp [blkOf] at e
  · exact e b hb
end Go.Proofs.Ytmbhlbohbpepaaa
