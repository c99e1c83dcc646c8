/- The trie as a tree: depth; what a prefix has, behind a change. -/
import Derived.Test.YtmbhlbohbpepaaaA6
namespace Go.Proofs.Ytmbhlbohbpepaaa
set_option linter.unusedSimpArgs false
set_option linter.unusedVariables false

theorem fit_leaf {ns : List Nd} {s : Nat} (h : ∀ x, ns[s]? = some x → x.l = 0 ∧ x.r = 0) : ∀ d, Fit ns d s
  | 0 => h
  | d + 1 => fun x hx => ⟨.inl (h x hx).1, .inl (h x hx).2⟩

theorem fit_down {ns : List Nd} : ∀ (cs : List Nat) (d s k : Nat), Bits cs → Fit ns d s → down ns s cs = some k → cs.length ≤ d
  | [], d, s, k, _, _, _ => by simp
  | c :: cs, d, s, k, hb, hf, h => by
    simp only [down] at h
    cases hx : ns[s]? with
    | none => simp [hx] at h
    | some x =>
      simp only [hx] at h
      split at h
      · cases h
      · rename_i hne
        have hc2 : c < 2 := hb c (by simp)
        cases d with
        | zero =>
          have := hf x hx
          unfold child at hne; split at hne <;> omega
        | succ d =>
          have h2 := hf x hx
          have hf2 : Fit ns d (child x c) := by
            unfold child at hne ⊢; split at hne
            · rename_i hc; rw [if_pos hc]; exact h2.1.resolve_left hne
            · rename_i hc; rw [if_neg hc]; exact h2.2.resolve_left hne
          have := fit_down cs d _ k (fun y hy => hb y (by simp [hy])) hf2 h
          simp only [List.length_cons]; omega

theorem grow_fit {ns : List Nd} {at_ b : Nat} {x : Nd} (O : NsOk ns) (hx : ns[at_]? = some x) (hb : b < 2) : ∀ (d s : Nat), s < ns.length → Fit ns d s → (∀ p, Bits p → down ns s p = some at_ → p.length + 1 ≤ d) → Fit (grow ns at_ b x) d s := by
  have hat : at_ < ns.length := (List.getElem?_eq_some_iff.1 hx).1
  have hnew : ∀ d, Fit (grow ns at_ b x) d ns.length := fun d => fit_leaf (fun y hy => by
    rw [grow_get hx, if_neg (by omega), if_pos rfl] at hy; cases hy; exact ⟨rfl, rfl⟩) d
  intro d
  induction d with
  | zero =>
    intro s hs hf hp y hy
    rw [grow_get hx] at hy
    by_cases hi : s = at_
    · exact absurd (hp [] (fun y hy => by cases hy) (by simp [down, hi])) (by simp)
    · rw [if_neg hi, if_neg (by omega)] at hy; exact hf y hy
  | succ d ih =>
    intro s hs hf hp y hy
    have sub : ∀ (z : Nd) (c : Nat), ns[s]? = some z → c < 2 → child z c ≠ 0 → Fit ns d (child z c) → Fit (grow ns at_ b x) d (child z c) := by
      intro z c hz hc hne hfz
      refine ih _ ((O.child hz).resolve_left hne).2 hfz (fun p hpb hpd => ?_)
      have := hp (c :: p) (fun y hy => by rcases List.mem_cons.1 hy with rfl | h; exact hc; exact hpb y h) (by simp [down, hz, hne, hpd])
      simp only [List.length_cons] at this; omega
    rw [grow_get hx] at hy
    by_cases hi : s = at_
    · rw [if_pos hi] at hy
      cases hy
      rw [← hi] at hx
      have h2 := hf x hx
      have h0 : ∀ c, c < 2 → child (setC x b ns.length) c = 0 ∨ Fit (grow ns at_ b x) d (child (setC x b ns.length) c) := by
        intro c hc
        rw [setC_child hb c _ hc]
        split
        · exact .inr (hnew d)
        · by_cases hne : child x c = 0
          · exact .inl hne
          · refine .inr (sub x c hx hc hne ?_)
            unfold child at hne ⊢; split at hne
            · rename_i hc; rw [if_pos hc]; exact h2.1.resolve_left hne
            · rename_i hc; rw [if_neg hc]; exact h2.2.resolve_left hne
      exact ⟨by simpa [child] using h0 0 (by omega), by simpa [child] using h0 1 (by omega)⟩
    · rw [if_neg hi, if_neg (by omega)] at hy
      have h2 := hf y hy
      refine ⟨?_, ?_⟩
      · by_cases hne : y.l = 0
        · exact .inl hne
        · exact .inr (by simpa [child] using sub y 0 hy (by omega) (by simpa [child] using hne) (by simpa [child] using h2.1.resolve_left hne))
      · by_cases hne : y.r = 0
        · exact .inl hne
        · exact .inr (by simpa [child] using sub y 1 hy (by omega) (by simpa [child] using hne) (by simpa [child] using h2.2.resolve_left hne))

theorem mk_fit : ∀ (bs : List Nat) (ns : List Nd) (at_ : Nat) (pre : List Nat), NsOk ns → TreeOk ns → Bits bs → Bits pre → at_ < ns.length → ns.length + bs.length ≤ 1000000 → down ns 0 pre = some at_ → pre.length + bs.length ≤ 32 →
    Fit ns 32 0 → Fit (mkDown ns at_ bs).2 32 0
  | [], ns, at_, pre, O, T, _, _, _, _, _, _, hf => hf
  | b :: bs, ns, at_, pre, O, T, hbs, hpre, hat, hlen, hd, h32, hf => by
    obtain ⟨x, hx⟩ : ∃ x, ns[at_]? = some x := ⟨_, List.getElem?_eq_getElem hat⟩
    have hb : b < 2 := hbs b (by simp)
    have hbs' : Bits bs := fun y hy => hbs y (by simp [hy])
    have hpre' : Bits (pre ++ [b]) := fun y hy => by
      rcases List.mem_append.1 hy with h | h
      · exact hpre y h
      · simp at h; omega
    simp only [List.length_cons] at hlen h32
    simp only [mkDown, hx]
    by_cases h0 : child x b = 0
    · rw [if_pos h0]
      have O1 := O.grow (b := b) hx (by omega)
      have T1 := grow_tree O T hx hb h0
      have hf1 : Fit (grow ns at_ b x) 32 0 := grow_fit O hx hb 32 0 O.pos hf (fun p hp hpd => by
        have := down_inj O T _ p pre at_ (Nat.le_refl _) hp hpre hpd hd
        subst this; omega)
      have hl : (grow ns at_ b x).length = ns.length + 1 := grow_length
      refine mk_fit bs _ ns.length (pre ++ [b]) O1 T1 hbs' hpre' (by omega) (by omega) ?_ (by simp; omega) hf1
      rw [down_append, grow_down O hx hb h0 pre 0 at_ hpre O.pos hd]
      simp only [Option.bind_some, down]
      rw [grow_get hx, if_pos rfl]
      simp only
      rw [setC_child hb b _ hb, if_pos rfl, if_neg (by have := O.pos; omega)]
    · rw [if_neg h0]
      have hc := (O.child hx (b := b)).resolve_left h0
      refine mk_fit bs ns (child x b) (pre ++ [b]) O T hbs' hpre' hc.2 (by omega) ?_ (by simp; omega) hf
      rw [down_append, hd]
      simp [down, hx, h0]

/-! ### Prefixes -/
structure Pok (p : Nat × Nat) : Prop where
  a : p.1 < 2 ^ 32
  n : p.2 ≤ 32
  m : p.1 % 2 ^ (32 - p.2) = 0

theorem mayB_pok {a : Nat} {n : Int} (ha : a < 2 ^ 32) (h : mayB a n = true) : Pok (a, n.toNat) ∧ n = (n.toNat : Nat) := by
  have := mayB_le h
  simp [mayB] at h
  exact ⟨⟨ha, by simp; omega, h.2⟩, by omega⟩

theorem pok_mayB {p : Nat × Nat} (h : Pok p) : mayB p.1 (p.2 : Int) = true := by
  have := h.n
  have := h.m
  simp [mayB]; omega

/-- The bits of a number, from a place on, tell it between two powers. -/
theorem bits_eq {a b : Nat} : ∀ (k i : Nat), i + k ≤ 32 → a / 2 ^ (32 - i) = b / 2 ^ (32 - i) → bitsFrom a i k = bitsFrom b i k → a / 2 ^ (32 - (i + k)) = b / 2 ^ (32 - (i + k))
  | 0, i, _, h, _ => h
  | k + 1, i, hik, h, hb => by
    rw [bitsFrom_succ, bitsFrom_succ] at hb
    obtain ⟨h1, h2⟩ := List.cons.inj hb
    have e : i + (k + 1) = (i + 1) + k := by omega
    rw [e]
    refine bits_eq k (i + 1) (by omega) ?_ h2
    have e2 : 2 ^ (32 - i) = 2 ^ (31 - i) * 2 := by rw [← Nat.pow_succ]; congr 1; omega
    have e3 : 32 - (i + 1) = 31 - i := by omega
    rw [e2, ← Nat.div_div_eq_div_mul, ← Nat.div_div_eq_div_mul] at h
    unfold bitAt at h1
    rw [e3]
    omega

theorem bits_of_eq {a b : Nat} : ∀ (k i : Nat), i + k ≤ 32 → a / 2 ^ (32 - (i + k)) = b / 2 ^ (32 - (i + k)) → bitsFrom a i k = bitsFrom b i k
  | 0, i, _, _ => rfl
  | k + 1, i, hik, h => by
    rw [bitsFrom_succ, bitsFrom_succ]
    have e : i + (k + 1) = (i + 1) + k := by omega
    rw [e] at h
    rw [bits_of_eq k (i + 1) (by omega) h]
    congr 1
    unfold bitAt
    have e2 : 2 ^ (31 - i) = 2 ^ (32 - (i + 1 + k)) * 2 ^ k := by rw [← Nat.pow_add]; congr 1; omega
    rw [e2, ← Nat.div_div_eq_div_mul, ← Nat.div_div_eq_div_mul, h]

theorem pok_inj {p q : Nat × Nat} (hp : Pok p) (hq : Pok q) (h : bitsFrom p.1 0 p.2 = bitsFrom q.1 0 q.2) : p = q := by
  have hl : p.2 = q.2 := by
    have := congrArg List.length h
    simpa [bitsFrom_length] using this
  obtain ⟨a, n⟩ := p
  obtain ⟨b, m⟩ := q
  simp only at hl h
  subst hl
  have ha := hp.a; have hb := hq.a; have hn := hp.n; have h1 := hp.m; have h2 := hq.m
  simp only at ha hb hn h1 h2
  have := bits_eq n 0 (by omega) (by rw [Nat.div_eq_of_lt ha, Nat.div_eq_of_lt hb]) h
  rw [Nat.zero_add] at this
  have e1 := Nat.div_add_mod a (2 ^ (32 - n))
  have e2 := Nat.div_add_mod b (2 ^ (32 - n))
  rw [h1, this] at e1
  rw [h2] at e2
  have : a = b := by omega
  rw [this]

/-- What a prefix has. -/
def valOf (ns : List Nd) (p : Nat × Nat) : Option Int :=
  match down ns 0 (bitsFrom p.1 0 p.2) with
  | some k => match ns[k]? with
    | some x => if x.has = true then some x.n else none
    | none => none
  | none => none

theorem look_val {ns : List Nd} {a : Nat} {n : Int} (h : mayB a n = true) : (look ns a n).map (·.2.n) = valOf ns (a, n.toNat) := by
  unfold look valOf
  rw [if_pos h]
  cases down ns 0 (bitsFrom a 0 n.toNat) with
  | none => rfl
  | some k =>
    simp only
    cases ns[k]? with
    | none => rfl
    | some x => simp only; split <;> rfl

structure Tri (ns : List Nd) : Prop where
  ok : NsOk ns
  tree : TreeOk ns
  fit : Fit ns 32 0

theorem tri_new : Tri [nd0] := by
  have h : ∀ (i : Nat) (x : Nd), [nd0][i]? = some x → x = nd0 := by
    intro i x hx
    cases i with
    | zero => simpa using hx.symm
    | succ i => simp at hx
  refine ⟨⟨by simp, by simp, fun i x hx => .inl (by rw [h i x hx]; rfl), fun i x hx => .inl (by rw [h i x hx]; rfl)⟩, ?_, fit_leaf (fun x hx => by rw [h 0 x hx]; exact ⟨rfl, rfl⟩) 32⟩
  intro i i' b b' x x' _ _ hx _ hne
  rw [h i x hx] at hne
  exact absurd (by unfold child nd0; split <;> rfl) hne

/-- One node is told anew. -/
theorem val_set {ns : List Nd} (T : Tri ns) {p : Nat × Nat} (hp : Pok p) {k : Nat} {x y : Nd} (hd : down ns 0 (bitsFrom p.1 0 p.2) = some k) (hx : ns[k]? = some x) (hl : y.l = x.l) (hr : y.r = x.r) :
    Tri (ns.set k y) ∧ ∀ q, Pok q → valOf (ns.set k y) q = if q = p then (if y.has = true then some y.n else none) else valOf ns q := by
  have hk : k < ns.length := (List.getElem?_eq_some_iff.1 hx).1
  refine ⟨⟨T.ok.set hx hl hr, T.tree.set hx hl hr, Fit.set hx hl hr 32 0 T.fit⟩, fun q hq => ?_⟩
  unfold valOf
  rw [down_set hx hl hr]
  by_cases hqp : q = p
  · subst hqp
    rw [if_pos rfl, hd]
    simp only
    rw [List.getElem?_set_self hk]
  · rw [if_neg hqp]
    cases hdq : down ns 0 (bitsFrom q.1 0 q.2) with
    | none => rfl
    | some k' =>
      simp only
      have : k' ≠ k := by
        rintro rfl
        exact hqp (pok_inj hq hp (down_inj T.ok T.tree _ _ _ _ (Nat.le_refl _) (bits_from _ _ _) (bits_from _ _ _) hdq hd))
      rw [List.getElem?_set_ne (Ne.symm this)]

/-- A way is made. -/
theorem val_make {ns : List Nd} (T : Tri ns) {p : Nat × Nat} (hp : Pok p) (hlen : ns.length + 32 ≤ 1000000) (hv : valOf ns p = none) :
    Tri (mkDown ns 0 (bitsFrom p.1 0 p.2)).2 ∧ (mkDown ns 0 (bitsFrom p.1 0 p.2)).2.length ≤ ns.length + 32 ∧ (mkDown ns 0 (bitsFrom p.1 0 p.2)).1 < (mkDown ns 0 (bitsFrom p.1 0 p.2)).2.length ∧
      down (mkDown ns 0 (bitsFrom p.1 0 p.2)).2 0 (bitsFrom p.1 0 p.2) = some (mkDown ns 0 (bitsFrom p.1 0 p.2)).1 ∧ ∀ q, Pok q → valOf (mkDown ns 0 (bitsFrom p.1 0 p.2)).2 q = valOf ns q := by
  have hbl := bitsFrom_length p.1 0 p.2
  have hn := hp.n
  have M := mk_made (bitsFrom p.1 0 p.2) ns 0 T.ok T.tree (bits_from _ _ _) T.ok.pos (by omega)
  have hfit := mk_fit (bitsFrom p.1 0 p.2) ns 0 [] T.ok T.tree (bits_from _ _ _) (fun y hy => by cases hy) T.ok.pos (by omega) rfl (by simp only [List.length_nil]; omega) T.fit
  generalize mkDown ns 0 (bitsFrom p.1 0 p.2) = r at *
  obtain ⟨at', ns'⟩ := r
  simp only at *
  refine ⟨⟨M.ok, M.tree, hfit⟩, by have := M.few; omega, M.lt, M.way, fun q hq => ?_⟩
  unfold valOf
  cases hd : down ns 0 (bitsFrom q.1 0 q.2) with
  | some k =>
    have hk := (down_lt T.ok _ _ _ T.ok.pos hd).1
    rw [M.on _ _ _ (bits_from _ _ _) T.ok.pos hd]
    obtain ⟨x, hx⟩ : ∃ x, ns[k]? = some x := ⟨_, List.getElem?_eq_getElem hk⟩
    obtain ⟨y, hy, h1, h2⟩ := M.same k x hx
    simp only [hx, hy, h1, h2]
  | none =>
    simp only
    cases hd' : down ns' 0 (bitsFrom q.1 0 q.2) with
    | none => rfl
    | some k =>
      simp only
      rcases Nat.lt_or_ge k ns.length with h | h
      · have := M.back _ _ _ (bits_from _ _ _) T.ok.pos h hd'
        rw [hd] at this; cases this
      · cases hy : ns'[k]? with
        | none => rfl
        | some y => simp only; rw [M.fresh k y h hy]; rfl

end Go.Proofs.Ytmbhlbohbpepaaa
