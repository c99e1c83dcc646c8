/- The trie in memory: walk, find. -/
import Derived.Test.YtmbhlbohbpepaaaA1
namespace Go.Proofs.Ytmbhlbohbpepaaa
open Go
set_option linter.unusedSimpArgs false

/-- A node: those below, what it has. -/
structure Nd where
  l : Nat
  r : Nat
  n : Int
  has : Bool

def Nd.enc (x : Nd) : List Value := [.int .i64 x.l, .int .i64 x.r, .int .i64 x.n, .bool x.has]
def child (x : Nd) (b : Nat) : Nat := if b = 0 then x.l else x.r

def down (ns : List Nd) : Nat → List Nat → Option Nat
  | at_, [] => some at_
  | at_, b :: bs =>
    match ns[at_]? with
    | some x => if child x b = 0 then none else down ns (child x b) bs
    | none => none

def bitAt (a i : Nat) : Nat := a / 2 ^ (31 - i) % 2
def bitsFrom (a i k : Nat) : List Nat := (List.range' i k).map (bitAt a)

theorem bitAt_lt (a i : Nat) : bitAt a i < 2 := Nat.mod_lt _ (by omega)
theorem bitsFrom_succ (a i k : Nat) : bitsFrom a i (k + 1) = bitAt a i :: bitsFrom a (i + 1) k := by
  simp [bitsFrom, List.range'_succ]

structure TrieAt (h : Hp) (t nb : Nat) (most many : Int) (ns : List Nd) (cap : Nat) (c : Array Value) : Prop where
  t : h t = some (.cells #[.int .i64 most, .int .i64 many, .slice (some ⟨nb, 0, none⟩) ns.length cap] T_trie_Trie (0, 0))
  nb : h nb = some (.cells c T_trie_node (0, 0))
  le : ns.length ≤ cap
  size : cap * 4 ≤ c.size
  enc : Enc c 0 4 Nd.enc ns

theorem TrieAt.ne {h : Hp} {t nb : Nat} {most many : Int} {ns : List Nd} {cap : Nat} {c : Array Value} (T : TrieAt h t nb most many ns cap c) : t ≠ nb := by
  rintro rfl
  have h1 := T.t
  rw [T.nb] at h1
  simp at h1
  exact absurd h1.2 (by decide)

theorem TrieAt.get {h : Hp} {t nb : Nat} {most many : Int} {ns : List Nd} {cap : Nat} {c : Array Value} (T : TrieAt h t nb most many ns cap c) {i : Nat} {x : Nd} (hx : ns[i]? = some x) :
    c[i * 4]? = some (.int .i64 x.l) ∧ c[i * 4 + 1]? = some (.int .i64 x.r) ∧ c[i * 4 + 2]? = some (.int .i64 x.n) ∧ c[i * 4 + 3]? = some (.bool x.has) := by
  have e := T.enc i x hx
  have e0 := e 0 (by omega); have e1 := e 1 (by omega); have e2 := e 2 (by omega); have e3 := e 3 (by omega)
  simp [Nd.enc] at e0 e1 e2 e3
  exact ⟨e0, e1, e2, e3⟩

/-- The child's cell. -/
theorem TrieAt.below {h : Hp} {t nb : Nat} {most many : Int} {ns : List Nd} {cap : Nat} {c : Array Value} (T : TrieAt h t nb most many ns cap c) {i b : Nat} {x : Nd} (hx : ns[i]? = some x) (hb : b < 2) :
    c[i * 4 + b]? = some (.int .i64 (child x b)) := by
  obtain ⟨e0, e1, _, _⟩ := T.get hx
  have : b = 0 ∨ b = 1 := by omega
  rcases this with rfl | rfl
  · simpa [child] using e0
  · simpa [child] using e1

/-- What all nodes keep to. -/
structure NsOk (ns : List Nd) : Prop where
  pos : 0 < ns.length
  few : ns.length ≤ 1000000
  l : ∀ (i : Nat) (x : Nd), ns[i]? = some x → x.l = 0 ∨ i < x.l ∧ x.l < ns.length
  r : ∀ (i : Nat) (x : Nd), ns[i]? = some x → x.r = 0 ∨ i < x.r ∧ x.r < ns.length

theorem NsOk.child {ns : List Nd} (o : NsOk ns) {i b : Nat} {x : Nd} (hx : ns[i]? = some x) : child x b = 0 ∨ i < child x b ∧ child x b < ns.length := by
  unfold Go.Proofs.Ytmbhlbohbpepaaa.child; split
  · exact o.l i x hx
  · exact o.r i x hx

def WalkInv (g : Hp) (t b : Nat) (ns : List Nd) (a n : Nat) (m : Nat) (env : Env) (g' : Hp) : Prop :=
  g' = g ∧ env 0 = .pointer (some ⟨t, 0, none⟩) ∧ env 2 = .bool false ∧ env 4 = .pointer (some ⟨b, 0, none⟩) ∧
    ∃ at_ i : Nat, env 8 = .int .i64 at_ ∧ env 9 = .int .i64 i ∧ i + m = n ∧ at_ < ns.length ∧ down ns at_ (bitsFrom a i m) = down ns 0 (bitsFrom a 0 n)

theorem walk_spec {h : Hp} {t nb : Nat} {most many : Int} {ns : List Nd} {cap : Nat} {c : Array Value} {a n : Nat} {Q : Value → Hp → Prop} (T : TrieAt h t nb most many ns cap c) (O : NsOk ns) (ha : a < 2 ^ 32) (hn : n ≤ 32)
    (h1 : ∀ at_, at_ < ns.length → down ns 0 (bitsFrom a 0 n) = some at_ → Q (.tuple #[.int .i64 at_, .bool true]) h)
    (h2 : down ns 0 (bitsFrom a 0 n) = none → Q (.tuple #[.int .i64 0, .bool false]) h) :
    Ok Try.prog F_trie_Trie_walk #[.pointer (some ⟨t, 0, none⟩), .agg #[.int .u32 a, .int .i64 n], .bool false] h Q := by
  refine trie_Trie_walk_ok (by simp) ?_
  unfold trie_Trie_walk_D
  simp (disch := omega) [trie_Trie_walk_r0]
  intro b hb
  have l : Le h (h.upd b (.cells #[.int .u32 a, .int .i64 n] 24)) := .new hb
  have ht := l _ _ T.t
  have hnb := l _ _ T.nb
  have hbb : (h.upd b (.cells #[.int .u32 a, .int .i64 n] 24)) b = some (.cells #[.int .u32 a, .int .i64 n] 24) := by simp
  generalize h.upd b (.cells #[.int .u32 a, .int .i64 n] 24) = g at *
  have fin1 : ∀ v, Q v h → drp Q v g := fun v q => .to h l q
  refine scp_one trie_Trie_walk_S0_lab0 rfl (WalkInv g t b ns a n) ?_ ?_
  · intro K hK
    simp (disch := omega) [trie_Trie_walk_r1]
    refine hK n _ _ ⟨rfl, by simp, by simp, by simp, 0, 0, by simp, by simp, by omega, O.pos, rfl⟩
  · rintro m env g' ⟨rfl, e0, e2, e4, at_, i, e8, e9, him, hat, hd⟩
    unfold trie_Trie_walk_S0_at0
    by_cases hm : m = 0
    · subst hm
      have : i = n := by omega
      subst this
      simp (disch := omega) [trie_Trie_walk_r2, trie_Trie_walk_r3, e0, e2, e4, e8, e9, hbb]
      exact fin1 _ (h1 at_ hat hd.symm)
    · obtain ⟨m, rfl⟩ : ∃ k, m = k + 1 := ⟨m - 1, by omega⟩
      have hin : ¬ (i : Int) = n := by omega
      simp (disch := omega) [trie_Trie_walk_r2, trie_Trie_walk_r4, e0, e2, e4, e8, e9, hbb, hin]
      refine bit_spec ha (by omega) ?_
      obtain ⟨x, hx⟩ : ∃ x, ns[at_]? = some x := ⟨_, List.getElem?_eq_getElem hat⟩
      have hbt := T.below hx (bitAt_lt a i)
      have hlt := bitAt_lt a i
      rw [bitsFrom_succ] at hd
      simp only [down, hx] at hd
      rw [show a / 2 ^ (31 - i) % 2 = bitAt a i from rfl]
      generalize bitAt a i = bt at *
      by_cases hc : child x bt = 0
      · rw [if_pos hc] at hd
        simp (disch := omega) [trie_Trie_walk_r5, trie_Trie_walk_r6, trie_Trie_walk_r7, e0, e2, e4, e8, e9, hbb, ht, hnb, hbt, hc]
        exact fin1 _ (h2 hd.symm)
      · rw [if_neg hc] at hd
        have hc' : ¬ (child x bt : Int) = 0 := by omega
        have hlt2 := (O.child hx (b := bt)).resolve_left hc
        simp (disch := omega) [trie_Trie_walk_r5, trie_Trie_walk_r10, trie_Trie_walk_r11, e0, e2, e4, e8, e9, hbb, ht, hnb, hbt, hc, hc', wrap_i64]
        exact ⟨m, by omega, rfl, by simp [e0], by simp [e2], by simp [e4], child x bt, i + 1, by simp, by simp, by omega, hlt2.2, hd⟩

/-! ### Making a way -/
def setC (x : Nd) (b k : Nat) : Nd := if b = 0 then { x with l := k } else { x with r := k }
def nd0 : Nd := ⟨0, 0, 0, false⟩
def grow (ns : List Nd) (at_ b : Nat) (x : Nd) : List Nd := (ns ++ [nd0]).set at_ (setC x b ns.length)

def mkDown (ns : List Nd) : Nat → List Nat → Nat × List Nd
  | at_, [] => (at_, ns)
  | at_, b :: bs =>
    match ns[at_]? with
    | some x => if child x b = 0 then mkDown (grow ns at_ b x) ns.length bs else mkDown ns (child x b) bs
    | none => (at_, ns)

theorem NsOk.grow {ns : List Nd} (O : NsOk ns) {at_ b : Nat} {x : Nd} (hx : ns[at_]? = some x) (hf : ns.length + 1 ≤ 1000000) : NsOk (grow ns at_ b x) := by
  have hat : at_ < ns.length := (List.getElem?_eq_some_iff.1 hx).1
  have hl : (Go.Proofs.Ytmbhlbohbpepaaa.grow ns at_ b x).length = ns.length + 1 := by simp [Go.Proofs.Ytmbhlbohbpepaaa.grow]
  have key : ∀ (i : Nat) (y : Nd), (Go.Proofs.Ytmbhlbohbpepaaa.grow ns at_ b x)[i]? = some y → (y.l = 0 ∨ i < y.l ∧ y.l < ns.length + 1) ∧ (y.r = 0 ∨ i < y.r ∧ y.r < ns.length + 1) := by
    intro i y hy
    unfold Go.Proofs.Ytmbhlbohbpepaaa.grow at hy
    by_cases hi : i = at_
    · subst hi
      rw [List.getElem?_set_self (by simp; omega)] at hy
      cases hy
      have h1 := O.l i x hx
      have h2 := O.r i x hx
      unfold setC
      split <;> simp only <;> omega
    · rw [List.getElem?_set_ne (Ne.symm hi)] at hy
      rcases Nat.lt_or_ge i ns.length with h | h
      · rw [List.getElem?_append_left h] at hy
        have h1 := O.l i y hy
        have h2 := O.r i y hy
        omega
      · rw [List.getElem?_append_right h] at hy
        have : i - ns.length = 0 := by
          rcases Nat.eq_zero_or_pos (i - ns.length) with h0 | h0
          · exact h0
          · rw [List.getElem?_eq_none (by simp; omega)] at hy; cases hy
        rw [this] at hy
        simp at hy
        subst hy
        exact ⟨.inl rfl, .inl rfl⟩
  exact ⟨by omega, by omega, fun i y hy => hl ▸ (key i y hy).1, fun i y hy => hl ▸ (key i y hy).2⟩

theorem Enc.set {α : Type} {c c' : Array Value} {o sz : Nat} {enc : α → List Value} {xs : List α} {i : Nat} {y : α} (H : Enc c o sz enc xs)
    (h1 : ∀ k j, k ≠ i → j < sz → c'[o + k * sz + j]? = c[o + k * sz + j]?) (h2 : ∀ j, j < sz → c'[o + i * sz + j]? = (enc y)[j]?) : Enc c' o sz enc (xs.set i y) := by
  intro k x hx j hj
  by_cases hk : k = i
  · subst hk
    have : k < xs.length := by
      rcases Nat.lt_or_ge k xs.length with h | h
      · exact h
      · rw [List.getElem?_eq_none (by simpa using h)] at hx; cases hx
    rw [List.getElem?_set_self this] at hx
    cases hx
    exact h2 j hj
  · rw [List.getElem?_set_ne (Ne.symm hk)] at hx
    rw [h1 k j hk hj]
    exact H k x hx j hj

/-- One cell of one element is written. -/
theorem Enc.setCell {α : Type} {c : Array Value} {sz : Nat} {enc : α → List Value} {xs : List α} {i j0 : Nat} {x y : α} {v : Value} (H : Enc c 0 sz enc xs) (hx : xs[i]? = some x) (hj0 : j0 < sz) (hlt : i * sz + j0 < c.size)
    (hy : ∀ j, j < sz → (enc y)[j]? = if j = j0 then some v else (enc x)[j]?) : Enc (c.setIfInBounds (i * sz + j0) v) 0 sz enc (xs.set i y) := by
  have aux : ∀ k j, j < sz → k ≠ i → k * sz + j ≠ i * sz + j0 := by
    intro k j hj hk e
    have h1 : (k * sz + j) / sz = k := by rw [Nat.mul_comm, Nat.mul_add_div (by omega), Nat.div_eq_of_lt hj]; omega
    have h2 : (i * sz + j0) / sz = i := by rw [Nat.mul_comm, Nat.mul_add_div (by omega), Nat.div_eq_of_lt hj0]; omega
    rw [e, h2] at h1
    exact hk h1.symm
  refine H.set (fun k j hk hj => ?_) (fun j hj => ?_)
  · rw [Array.getElem?_setIfInBounds_ne]
    have := aux k j hj hk
    omega
  · rw [hy j hj]
    by_cases e : j = j0
    · subst e; rw [if_pos rfl]; simp [hlt]
    · rw [if_neg e, Array.getElem?_setIfInBounds_ne (by omega)]
      exact H i x hx j hj

structure Chg (h h' : Hp) (t nb nb' : Nat) : Prop where
  keep : ∀ x o, h x = some o → x ≠ t → x ≠ nb → h' x = some o
  fresh : nb' = nb ∨ h nb' = none

def MkInv (h : Hp) (t b nb : Nat) (most many : Int) (ns : List Nd) (a n : Nat) (m : Nat) (env : Env) (g : Hp) : Prop :=
  env 0 = .pointer (some ⟨t, 0, none⟩) ∧ env 2 = .bool true ∧ env 4 = .pointer (some ⟨b, 0, none⟩) ∧ g b = some (.cells #[.int .u32 a, .int .i64 n] 24 (0, 0)) ∧
    ∃ nb' ns' cap c, Chg h g t nb nb' ∧ TrieAt g t nb' most many ns' cap c ∧ NsOk ns' ∧ ns'.length + m ≤ 1000000 ∧ b ≠ nb' ∧
    ∃ at_ i : Nat, env 8 = .int .i64 at_ ∧ env 9 = .int .i64 i ∧ i + m = n ∧ at_ < ns'.length ∧ mkDown ns' at_ (bitsFrom a i m) = mkDown ns 0 (bitsFrom a 0 n)

theorem make_spec {h : Hp} {t nb : Nat} {most many : Int} {ns : List Nd} {cap : Nat} {c : Array Value} {a n : Nat} {Q : Value → Hp → Prop} (T : TrieAt h t nb most many ns cap c) (O : NsOk ns) (hf : ns.length + 32 ≤ 1000000) (ha : a < 2 ^ 32) (hn : n ≤ 32)
    (hQ : ∀ h' nb' cap' c', Chg h h' t nb nb' → TrieAt h' t nb' most many (mkDown ns 0 (bitsFrom a 0 n)).2 cap' c' → NsOk (mkDown ns 0 (bitsFrom a 0 n)).2 →
      (mkDown ns 0 (bitsFrom a 0 n)).1 < (mkDown ns 0 (bitsFrom a 0 n)).2.length → Q (.tuple #[.int .i64 (mkDown ns 0 (bitsFrom a 0 n)).1, .bool true]) h') :
    Ok Try.prog F_trie_Trie_walk #[.pointer (some ⟨t, 0, none⟩), .agg #[.int .u32 a, .int .i64 n], .bool true] h Q := by
  refine trie_Trie_walk_ok (by simp) ?_
  unfold trie_Trie_walk_D
  simp (disch := omega) [trie_Trie_walk_r0]
  intro b hb
  have l : Le h (h.upd b (.cells #[.int .u32 a, .int .i64 n] 24)) := .new hb
  have ht := l _ _ T.t
  have hnb := l _ _ T.nb
  have hbb : (h.upd b (.cells #[.int .u32 a, .int .i64 n] 24)) b = some (.cells #[.int .u32 a, .int .i64 n] 24) := by simp
  have nbt : t ≠ b := ne_new T.t hb
  have nbn : nb ≠ b := ne_new T.nb hb
  generalize h.upd b (.cells #[.int .u32 a, .int .i64 n] 24) = g at *
  refine scp_one trie_Trie_walk_S0_lab0 rfl (MkInv h t b nb most many ns a n) ?_ ?_
  · intro K hK
    simp (disch := omega) [trie_Trie_walk_r1]
    exact hK n _ _ ⟨by simp, by simp, by simp, hbb, nb, ns, cap, c, ⟨fun x o hx _ _ => l _ _ hx, .inl rfl⟩, ⟨ht, hnb, T.le, T.size, T.enc⟩, O, by omega, Ne.symm nbn, 0, 0, by simp, by simp, by omega, O.pos, rfl⟩
  · rintro m env g' ⟨e0, e2, e4, hbb', nb', ns', cap', c', C, T', O', hf', nbb, at_, i, e8, e9, him, hat, hd⟩
    clear ht hnb hbb
    have ht := T'.t
    have hnb := T'.nb
    unfold trie_Trie_walk_S0_at0
    by_cases hm : m = 0
    · subst hm
      have : i = n := by omega
      subst this
      simp (disch := omega) [trie_Trie_walk_r2, trie_Trie_walk_r3, e0, e2, e4, e8, e9, hbb']
      have hd : mkDown ns 0 (bitsFrom a 0 i) = (at_, ns') := by rw [← hd]; rfl
      rw [hd] at hQ
      exact .to g' (.refl _) (hQ g' nb' cap' c' C T' O' hat)
    · obtain ⟨m, rfl⟩ : ∃ k, m = k + 1 := ⟨m - 1, by omega⟩
      have hin : ¬ (i : Int) = n := by omega
      simp (disch := omega) [trie_Trie_walk_r2, trie_Trie_walk_r4, e0, e2, e4, e8, e9, hbb', hin]
      refine bit_spec ha (by omega) ?_
      obtain ⟨x, hx⟩ : ∃ x, ns'[at_]? = some x := ⟨_, List.getElem?_eq_getElem hat⟩
      have hbt := T'.below hx (bitAt_lt a i)
      have hlt := bitAt_lt a i
      rw [bitsFrom_succ] at hd
      simp only [mkDown, hx] at hd
      rw [show a / 2 ^ (31 - i) % 2 = bitAt a i from rfl]
      generalize bitAt a i = bt at *
      by_cases hc : child x bt = 0
      · rw [if_pos hc] at hd
        simp (disch := omega) [trie_Trie_walk_r5, trie_Trie_walk_r6, trie_Trie_walk_r8, e0, e2, e4, e8, e9, hbb', ht, hnb, hbt, hc]
        intro b2 hb2
        have hb2t : t ≠ b2 := ne_new ht hb2
        have hb2n : nb' ≠ b2 := ne_new hnb hb2
        have hb2b : b ≠ b2 := ne_new hbb' hb2
        refine push_trie_node (xs := ns') (y := nd0) (enc := Nd.enc) (.inr ⟨nb', cap', c', rfl, by simp [hnb, hb2n], T'.le, T'.size, T'.enc⟩) (by simp [Nd.enc, nd0]) rfl (by simp [Nd.enc]) (by omega) ?_
        intro b3 c3 cap3 hb3 hcap hsz3 henc
        have h3 : b3 = nb' ∨ (b3 ≠ b2 ∧ g' b3 = none) := by
          rcases hb3 with e | e
          · exact .inl (by simpa [blkOf] using e)
          · exact .inr (upd_none e)
        have h3t : t ≠ b3 := by
          rcases h3 with e | e
          · rw [e]; exact T'.ne
          · exact ne_new ht e.2
        have h3b : b ≠ b3 := by
          rcases h3 with e | e
          · rw [e]; exact nbb
          · exact ne_new hbb' e.2
        have G1 : ∀ o2 o3, ((g'.upd b2 o2).upd b3 o3) t = g' t := by intro o2 o3; simp [h3t, hb2t]
        have G2 : ∀ o2 o3, ((g'.upd b2 o2).upd b3 o3) b = g' b := by intro o2 o3; simp [h3b, hb2b]
        have G3 : ∀ o2 o3, ((g'.upd b2 o2).upd b3 o3) b3 = some o3 := by intro o2 o3; simp
        have G4 : ∀ o2 o3 y o, h y = some o → y ≠ t → y ≠ nb → y ≠ b3 → ((g'.upd b2 o2).upd b3 o3) y = some o := by
          intro o2 o3 y o hy h1 h2 h4
          have := C.keep y o hy h1 h2
          have h5 : y ≠ b2 := ne_new this hb2
          simp [h4, h5, this]
        have F3 : b3 = nb ∨ h b3 = none := by
          rcases h3 with e | e
          · rw [e]; exact C.fresh
          · by_cases hn3 : b3 = nb
            · exact .inl hn3
            · refine .inr ?_
              cases hq : h b3 with
              | none => rfl
              | some o =>
                have := C.keep b3 o hq (Ne.symm h3t) hn3
                rw [e.2] at this; cases this
        specialize G1 (.cells #[.int .i64 0, .int .i64 0, .int .i64 0, .bool false] 87) (.cells c3 87 (0, 0))
        specialize G2 (.cells #[.int .i64 0, .int .i64 0, .int .i64 0, .bool false] 87) (.cells c3 87 (0, 0))
        specialize G3 (.cells #[.int .i64 0, .int .i64 0, .int .i64 0, .bool false] 87) (.cells c3 87 (0, 0))
        specialize G4 (.cells #[.int .i64 0, .int .i64 0, .int .i64 0, .bool false] 87) (.cells c3 87 (0, 0))
        generalize (g'.upd b2 (.cells #[.int .i64 0, .int .i64 0, .int .i64 0, .bool false] 87)).upd b3 (.cells c3 87 (0, 0)) = G at *
        rw [ht] at G1
        rw [hbb'] at G2
        have hg : (ns' ++ [nd0])[at_]? = some x := by rw [List.getElem?_append_left hat]; exact hx
        have hat3 : at_ * 4 + bt < c3.size := by omega
        have hc3 : c3[at_ * 4 + bt]? = some (c3[at_ * 4 + bt]) := Array.getElem?_eq_getElem hat3
        have henc' : Enc (c3.setIfInBounds (at_ * 4 + bt) (.int .i64 ns'.length)) 0 4 Nd.enc (grow ns' at_ bt x) := by
          refine henc.setCell hg (by omega) hat3 (fun j hj => ?_)
          have hbc : bt = 0 ∨ bt = 1 := by omega
          have hjc : j = 0 ∨ j = 1 ∨ j = 2 ∨ j = 3 := by omega
          rcases hbc with rfl | rfl <;> rcases hjc with rfl | rfl | rfl | rfl <;> simp [Nd.enc, setC]
        have hset : (c3.setIfInBounds (at_ * 4 + bt) (.int .i64 ns'.length))[at_ * 4 + bt]? = some (.int .i64 ns'.length) := by simp [hat3]
        have hgl : (grow ns' at_ bt x).length = ns'.length + 1 := by simp [grow]
        simp (disch := omega) [trie_Trie_walk_r9, e0, e2, e4, e8, e9, G1, G2, G3, h3t, Ne.symm h3t, h3b, Ne.symm h3b, hc3, wrap_i64]
        simp (disch := omega) [trie_Trie_walk_r10, trie_Trie_walk_r11, e0, e2, e4, e8, e9, G1, G2, G3, h3t, Ne.symm h3t, h3b, Ne.symm h3b, hc3, hset, wrap_i64]
        refine ⟨m, by omega, by simp [e0], by simp [e2], by simp [e4], by simp [h3b, Ne.symm nbt, G2], b3, grow ns' at_ bt x, cap3, c3.setIfInBounds (at_ * 4 + bt) (.int .i64 ns'.length), ⟨fun y o hy h1 h2 => ?_, F3⟩,
          ⟨by simp [h3t, hgl], by simp, by omega, by simpa using hsz3, henc'⟩, O'.grow hx (by omega), by omega, h3b, ns'.length, i + 1, by simp, by simp, by omega, by omega, hd⟩
        by_cases hy3 : y = b3
        · subst hy3
          rcases F3 with e | e
          · exact absurd e h2
          · rw [hy] at e; cases e
        · simp [hy3, h1, G4 y o hy h1 h2 hy3]
      · rw [if_neg hc] at hd
        have hc' : ¬ (child x bt : Int) = 0 := by omega
        have hlt2 := (O'.child hx (b := bt)).resolve_left hc
        simp (disch := omega) [trie_Trie_walk_r5, trie_Trie_walk_r10, trie_Trie_walk_r11, e0, e2, e4, e8, e9, hbb', ht, hnb, hbt, hc, hc', wrap_i64]
        exact ⟨m, by omega, by simp [e0], by simp [e2], by simp [e4], hbb', nb', ns', cap', c', C, T', O', by omega, nbb, child x bt, i + 1, by simp, by simp, by omega, hlt2.2, hd⟩
end Go.Proofs.Ytmbhlbohbpepaaa
