/- The trie in memory: Find. -/
import Derived.Test.YtmbhlbohbpepaaaA3
namespace Go.Proofs.Ytmbhlbohbpepaaa
open Go
set_option linter.unusedSimpArgs false

/-- The longest one on the way down that has something: its length, what it has. -/
def best (ns : List Nd) (addr : Nat) : Nat → Nat → Nat → Option (Nat × Int) → Option (Nat × Int)
  | 0, at_, i, cur =>
    match ns[at_]? with
    | none => cur
    | some x => if x.has = true then some (i, x.n) else cur
  | d + 1, at_, i, cur =>
    match ns[at_]? with
    | none => cur
    | some x =>
      if child x (bitAt addr i) = 0 then (if x.has = true then some (i, x.n) else cur)
      else best ns addr d (child x (bitAt addr i)) (i + 1) (if x.has = true then some (i, x.n) else cur)

def bestOf (ns : List Nd) (addr : Nat) : Option (Nat × Int) := best ns addr 32 0 0 none
def cutA (addr l : Nat) : Nat := addr / 2 ^ (32 - l) * 2 ^ (32 - l)
def curA (addr : Nat) : Option (Nat × Int) → Nat
  | none => 0
  | some (l, _) => cutA addr l
def curL : Option (Nat × Int) → Nat
  | none => 0
  | some (l, _) => l
def curN : Option (Nat × Int) → Int
  | none => 0
  | some (_, n) => n

def FindInv (h : Hp) (t b : Nat) (ns : List Nd) (addr : Nat) (m : Nat) (env : Env) (g : Hp) : Prop :=
  (∀ x o, h x = some o → g x = some o) ∧ env 0 = .pointer (some ⟨t, 0, none⟩) ∧ env 1 = .int .u32 addr ∧ env 4 = .pointer (some ⟨b, 0, none⟩) ∧
    ∃ (at_ i : Nat) (cur : Option (Nat × Int)), env 7 = .int .i64 at_ ∧ env 8 = .int .i64 i ∧ i + m = 32 ∧ at_ < ns.length ∧ (∀ l k, cur = some (l, k) → l ≤ 32) ∧
      g b = some (.cells #[.int .u32 (curA addr cur), .int .i64 (curL cur)] 24 (0, 0)) ∧ env 5 = .int .i64 (curN cur) ∧ env 6 = .bool cur.isSome ∧
      best ns addr m at_ i cur = bestOf ns addr

theorem Find_spec {h : Hp} {t nb : Nat} {most many : Int} {ns : List Nd} {cap : Nat} {c : Array Value} {addr : Nat} {Q : Value → Hp → Prop} (T : TrieAt h t nb most many ns cap c) (O : NsOk ns) (ha : addr < 2 ^ 32)
    (hQ : Q (.tuple #[.agg #[.int .u32 (curA addr (bestOf ns addr)), .int .i64 (curL (bestOf ns addr))], .int .i64 (curN (bestOf ns addr)), .bool (bestOf ns addr).isSome]) h) :
    Ok Try.prog F_trie_Trie_Find #[.pointer (some ⟨t, 0, none⟩), .int .u32 addr] h Q := by
  refine trie_Trie_Find_ok (by simp) ?_
  unfold trie_Trie_Find_D
  simp (disch := omega) [trie_Trie_Find_r0]
  intro b hb
  have l : Le h (h.upd b (.cells #[.int .u32 0, .int .i64 0] 24)) := .new hb
  have hbb : (h.upd b (.cells #[.int .u32 0, .int .i64 0] 24)) b = some (.cells #[.int .u32 0, .int .i64 0] 24) := by simp
  generalize h.upd b (.cells #[.int .u32 0, .int .i64 0] 24) = g0 at *
  refine scp_one trie_Trie_Find_S0_lab0 rfl (FindInv h t b ns addr) ?_ ?_
  · intro K hK
    simp (disch := omega) [trie_Trie_Find_r1]
    exact hK 32 _ _ ⟨l, by simp, by simp, by simp, 0, 0, none, by simp, by simp, by omega, O.pos, by simp, by simpa [curA, curL] using hbb, by simp [curN], by simp, rfl⟩
  · rintro m env g ⟨lg, e0, e1, e4, at_, i, cur, e7, e8, him, hat, hcl, hbb', e5, e6, hd⟩
    have ht := lg _ _ T.t
    have hnb := lg _ _ T.nb
    obtain ⟨x, hx⟩ : ∃ x, ns[at_]? = some x := ⟨_, List.getElem?_eq_getElem hat⟩
    obtain ⟨f0, f1, f2, f3⟩ := T.get hx
    have f0' := T.below hx (bitAt_lt addr i)
    unfold trie_Trie_Find_S0_at0
    simp (disch := omega) [trie_Trie_Find_r2, e0, e1, e4, e5, e6, e7, e8, ht, hnb, f0, f1, f2, f3]
    intro b9 hb9
    have n94 : b ≠ b9 := ne_new hbb' hb9
    have cont : ∀ (env' : Env) (g' : Hp) (cur' : Option (Nat × Int)), (∀ x o, h x = some o → g' x = some o) → env' 0 = .pointer (some ⟨t, 0, none⟩) → env' 1 = .int .u32 addr → env' 4 = .pointer (some ⟨b, 0, none⟩) →
        env' 7 = .int .i64 at_ → env' 8 = .int .i64 i → (∀ l k, cur' = some (l, k) → l ≤ 32) → g' b = some (.cells #[.int .u32 (curA addr cur'), .int .i64 (curL cur')] 24 (0, 0)) →
        env' 5 = .int .i64 (curN cur') → env' 6 = .bool cur'.isSome → cur' = (if x.has = true then some (i, x.n) else cur) →
        (sq (sq (rg trie_Trie_Find_r5) (cnd (Operand.tmp 28) (sq (rg trie_Trie_Find_r6) (sq (rg trie_Trie_Find_r7) (cnd (Operand.tmp 42) (sq (rg trie_Trie_Find_r8) (ex (.goto 0))) (ex .normal)))) (ex .normal))) (sq (rg trie_Trie_Find_r9) (ex .ret)))
          (jumpK (fun l' env h_1 => l' = 0 ∧ ∃ k, k < m ∧ FindInv h t b ns addr k env h_1) (fin Try.prog [ResultVar.cell 4 24, ResultVar.tmp 5, ResultVar.tmp 6] Q)) env' g' := by
      intro env' g' cur' lg e0 e1 e4 e7 e8 hcl hbb e5 e6 hcur
      have ht := lg _ _ T.t
      have hnb := lg _ _ T.nb
      cases m with
      | zero =>
        have : i = 32 := by omega
        subst this
        simp only [best, hx] at hd
        rw [← hcur] at hd
        rw [← hd] at hQ
        simp (disch := omega) [trie_Trie_Find_r5, trie_Trie_Find_r9, e0, e1, e4, e5, e6, e7, e8, hbb]
        exact .to h (Le.put lg hb) hQ
      | succ m =>
        have hi31 : (i : Int) ≤ 31 := by omega
        simp only [best, hx] at hd
        rw [← hcur] at hd
        simp (disch := omega) [trie_Trie_Find_r5, trie_Trie_Find_r6, e0, e1, e4, e5, e6, e7, e8, ht, hi31]
        refine bit_spec ha (by omega) ?_
        rw [show addr / 2 ^ (31 - i) % 2 = bitAt addr i from rfl]
        have hlt := bitAt_lt addr i
        generalize bitAt addr i = bt at *
        by_cases hc : child x bt = 0
        · rw [if_pos hc] at hd
          rw [← hd] at hQ
          simp (disch := omega) [trie_Trie_Find_r7, trie_Trie_Find_r9, e0, e1, e4, e5, e6, e7, e8, ht, hnb, f0', hbb, hc]
          exact .to h (Le.put lg hb) hQ
        · rw [if_neg hc] at hd
          have hlt2 := (O.child hx (b := bt)).resolve_left hc
          have hc' : ¬ (child x bt : Int) = 0 := by omega
          simp (disch := omega) [trie_Trie_Find_r7, trie_Trie_Find_r8, e0, e1, e4, e5, e6, e7, e8, ht, hnb, f0', hbb, hc, wrap_i64]
          exact ⟨m, by omega, lg, by simp [e0], by simp [e1], by simp [e4], child x bt, i + 1, cur', by simp, by simp, by omega, hlt2.2, hcl, hbb, by simp [e5], by simp [e6], hd⟩
    have lg9 : ∀ u, ∀ y o, h y = some o → (g.upd b9 u) y = some o := by
      intro u y o hy
      have := lg y o hy
      simp [ne_new this hb9, this]
    cases hh : x.has with
    | false =>
      simp (disch := omega) [trie_Trie_Find_r3, hh]
      refine cont _ _ cur (lg9 _) (by simp [e0]) (by simp [e1]) (by simp [e4]) (by simp [e7]) (by simp [e8]) hcl (by simp [n94, hbb']) (by simp [e5]) (by simp [e6]) (by simp [hh])
    | true =>
      simp (disch := omega) [trie_Trie_Find_r3, trie_Trie_Find_r4, hh, e1, e8]
      refine mask_spec ?_
      rw [maskI_nat (by omega)]
      simp (disch := omega) [bits_and_u32 ha (msk_lt i), e4, e8, n94, Ne.symm n94, hbb']
      have hv : ((addr &&& msk i : Nat) : Int) = (cutA addr i : Nat) := by rw [and_msk ha (by omega)]; rfl
      rw [hv]
      refine cont _ _ (some (i, x.n)) (fun y o hy => ?_) (by simp [e0]) (by simp [e1]) (by simp [e4]) (by simp [e7]) (by simp [e8]) (by intro l k e; cases e; omega) (by simp [n94, curA, curL]) (by simp [curN]) (by simp) (by simp [hh])
      have hyb : y ≠ b := ne_new hy hb
      have := lg9 (.cells #[.int .i64 x.l, .int .i64 x.r, .int .i64 x.n, .bool true] 87) y o hy
      simpa [hyb] using this
end Go.Proofs.Ytmbhlbohbpepaaa
