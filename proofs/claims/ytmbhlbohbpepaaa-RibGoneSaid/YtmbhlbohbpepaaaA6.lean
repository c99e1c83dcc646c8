/- The trie as a tree: what ways there are, behind a change. -/
import Derived.Test.YtmbhlbohbpepaaaA5
namespace Go.Proofs.Ytmbhlbohbpepaaa
set_option linter.unusedSimpArgs false
set_option linter.unusedVariables false

/-- No node is below two. -/
def TreeOk (ns : List Nd) : Prop := ∀ (i i' b b' : Nat) (x x' : Nd), b < 2 → b' < 2 → ns[i]? = some x → ns[i']? = some x' → child x b ≠ 0 → child x b = child x' b' → i = i' ∧ b = b'

def Bits (bs : List Nat) : Prop := ∀ b ∈ bs, b < 2

theorem bits_from (a i k : Nat) : Bits (bitsFrom a i k) := by
  intro b hb
  simp only [bitsFrom, List.mem_map] at hb
  obtain ⟨j, _, rfl⟩ := hb
  exact bitAt_lt a j

theorem bitsFrom_length (a i k : Nat) : (bitsFrom a i k).length = k := by simp [bitsFrom]

theorem down_append (ns : List Nd) : ∀ (bs cs : List Nat) (s : Nat), down ns s (bs ++ cs) = (down ns s bs).bind fun k => down ns k cs
  | [], cs, s => by simp [down]
  | b :: bs, cs, s => by
    simp only [List.cons_append, down]
    cases ns[s]? with
    | none => rfl
    | some x =>
      simp only
      split
      · rfl
      · exact down_append ns bs cs _

theorem down_lt {ns : List Nd} (O : NsOk ns) : ∀ (bs : List Nat) (s k : Nat), s < ns.length → down ns s bs = some k → k < ns.length ∧ s ≤ k ∧ (bs ≠ [] → s < k)
  | [], s, k, hs, h => by simp [down] at h; subst h; exact ⟨hs, Nat.le_refl _, by simp⟩
  | b :: bs, s, k, hs, h => by
    simp only [down] at h
    cases hx : ns[s]? with
    | none => simp [hx] at h
    | some x =>
      simp only [hx] at h
      split at h
      · cases h
      · rename_i hc
        have h1 := (O.child hx (b := b)).resolve_left hc
        have h2 := down_lt O bs _ k h1.2 h
        exact ⟨h2.1, by omega, fun _ => by omega⟩

theorem down_inj {ns : List Nd} (O : NsOk ns) (T : TreeOk ns) : ∀ (n : Nat) (bs cs : List Nat) (k : Nat), bs.length ≤ n → Bits bs → Bits cs → down ns 0 bs = some k → down ns 0 cs = some k → bs = cs := by
  intro n
  induction n with
  | zero =>
    intro bs cs k hn hb hc h1 h2
    have : bs = [] := by simpa using hn
    subst this
    simp [down] at h1
    subst h1
    cases cs with
    | nil => rfl
    | cons c cs => exact absurd ((down_lt O _ _ _ O.pos h2).2.2 (by simp)) (by omega)
  | succ n ih =>
    intro bs cs k hn hb hc h1 h2
    rcases List.eq_nil_or_concat bs with rfl | ⟨bs', b, rfl⟩
    · simp [down] at h1
      subst h1
      cases cs with
      | nil => rfl
      | cons c cs => exact absurd ((down_lt O _ _ _ O.pos h2).2.2 (by simp)) (by omega)
    · rcases List.eq_nil_or_concat cs with rfl | ⟨cs', c, rfl⟩
      · simp [down] at h2
        subst h2
        exact absurd ((down_lt O _ _ _ O.pos h1).2.2 (by simp)) (by omega)
      · simp only [List.concat_eq_append] at *
        rw [down_append] at h1 h2
        cases h3 : down ns 0 bs' with
        | none => simp [h3] at h1
        | some i =>
          cases h4 : down ns 0 cs' with
          | none => simp [h4] at h2
          | some i' =>
            simp only [h3, h4, Option.bind_some, down] at h1 h2
            cases hx : ns[i]? with
            | none => simp [hx] at h1
            | some x =>
              cases hx' : ns[i']? with
              | none => simp [hx'] at h2
              | some x' =>
                simp only [hx, hx'] at h1 h2
                split at h1
                · cases h1
                · rename_i hne
                  split at h2
                  · cases h2
                  · simp at h1 h2
                    have := T i i' b c x x' (hb b (by simp)) (hc c (by simp)) hx hx' hne (by rw [h1, h2])
                    obtain ⟨rfl, rfl⟩ := this
                    rw [ih bs' cs' i (by simp at hn; omega) (fun y hy => hb y (by simp [hy])) (fun y hy => hc y (by simp [hy])) h3 h4]

/-- A node with the same ones below. -/
theorem down_set {ns : List Nd} {at_ : Nat} {x y : Nd} (hx : ns[at_]? = some x) (hl : y.l = x.l) (hr : y.r = x.r) : ∀ (bs : List Nat) (s : Nat), down (ns.set at_ y) s bs = down ns s bs
  | [], s => rfl
  | b :: bs, s => by
    have hat : at_ < ns.length := (List.getElem?_eq_some_iff.1 hx).1
    have hc : child y b = child x b := by unfold child; rw [hl, hr]
    simp only [down]
    by_cases hs : s = at_
    · subst hs
      rw [List.getElem?_set_self hat, hx]
      simp only [hc]
      split
      · rfl
      · exact down_set hx hl hr bs _
    · rw [List.getElem?_set_ne (Ne.symm hs)]
      cases ns[s]? with
      | none => rfl
      | some z =>
        simp only
        split
        · rfl
        · exact down_set hx hl hr bs _

theorem NsOk.set {ns : List Nd} (O : NsOk ns) {at_ : Nat} {x y : Nd} (hx : ns[at_]? = some x) (hl : y.l = x.l) (hr : y.r = x.r) : NsOk (ns.set at_ y) := by
  have hat : at_ < ns.length := (List.getElem?_eq_some_iff.1 hx).1
  have key : ∀ (i : Nat) (z : Nd), (ns.set at_ y)[i]? = some z → ∃ z', ns[i]? = some z' ∧ z.l = z'.l ∧ z.r = z'.r := by
    intro i z hz
    by_cases hi : i = at_
    · subst hi; rw [List.getElem?_set_self hat] at hz; cases hz; exact ⟨x, hx, hl, hr⟩
    · rw [List.getElem?_set_ne (Ne.symm hi)] at hz; exact ⟨z, hz, rfl, rfl⟩
  refine ⟨by simpa using O.pos, by simpa using O.few, fun i z hz => ?_, fun i z hz => ?_⟩
  · obtain ⟨z', h1, h2, _⟩ := key i z hz; rw [h2]; simpa using O.l i z' h1
  · obtain ⟨z', h1, _, h2⟩ := key i z hz; rw [h2]; simpa using O.r i z' h1

theorem TreeOk.set {ns : List Nd} (T : TreeOk ns) {at_ : Nat} {x y : Nd} (hx : ns[at_]? = some x) (hl : y.l = x.l) (hr : y.r = x.r) : TreeOk (ns.set at_ y) := by
  have hat : at_ < ns.length := (List.getElem?_eq_some_iff.1 hx).1
  have key : ∀ (i : Nat) (z : Nd), (ns.set at_ y)[i]? = some z → ∃ z', ns[i]? = some z' ∧ ∀ b, child z b = child z' b := by
    intro i z hz
    by_cases hi : i = at_
    · subst hi; rw [List.getElem?_set_self hat] at hz; cases hz; exact ⟨x, hx, fun b => by unfold child; rw [hl, hr]⟩
    · rw [List.getElem?_set_ne (Ne.symm hi)] at hz; exact ⟨z, hz, fun _ => rfl⟩
  intro i i' b b' z z' hb hb' hz hz' h0 he
  obtain ⟨w, h1, h2⟩ := key i z hz
  obtain ⟨w', h1', h2'⟩ := key i' z' hz'
  exact T i i' b b' w w' hb hb' h1 h1' (by rw [← h2]; exact h0) (by rw [← h2, ← h2']; exact he)

theorem Fit.set {ns : List Nd} {at_ : Nat} {x y : Nd} (hx : ns[at_]? = some x) (hl : y.l = x.l) (hr : y.r = x.r) : ∀ (d s : Nat), Fit ns d s → Fit (ns.set at_ y) d s := by
  have hat : at_ < ns.length := (List.getElem?_eq_some_iff.1 hx).1
  have key : ∀ (i : Nat) (z : Nd), (ns.set at_ y)[i]? = some z → ∃ z', ns[i]? = some z' ∧ z.l = z'.l ∧ z.r = z'.r := by
    intro i z hz
    by_cases hi : i = at_
    · subst hi; rw [List.getElem?_set_self hat] at hz; cases hz; exact ⟨x, hx, hl, hr⟩
    · rw [List.getElem?_set_ne (Ne.symm hi)] at hz; exact ⟨z, hz, rfl, rfl⟩
  intro d
  induction d with
  | zero => intro s h z hz; obtain ⟨z', h1, h2, h3⟩ := key s z hz; rw [h2, h3]; exact h z' h1
  | succ d ih =>
    intro s h z hz
    obtain ⟨z', h1, h2, h3⟩ := key s z hz
    rw [h2, h3]
    have := h z' h1
    exact ⟨this.1.imp id (ih _), this.2.imp id (ih _)⟩

/-! ### One node more -/
section
variable {ns : List Nd} {at_ b : Nat} {x : Nd}

theorem grow_get (hx : ns[at_]? = some x) (i : Nat) : (grow ns at_ b x)[i]? = if i = at_ then some (setC x b ns.length) else if i = ns.length then some nd0 else ns[i]? := by
  have hat : at_ < ns.length := (List.getElem?_eq_some_iff.1 hx).1
  unfold grow
  by_cases hi : i = at_
  · subst hi; rw [if_pos rfl, List.getElem?_set_self (by simp; omega)]
  · rw [if_neg hi, List.getElem?_set_ne (Ne.symm hi)]
    by_cases h2 : i = ns.length
    · subst h2; simp
    · rw [if_neg h2]
      rcases Nat.lt_or_ge i ns.length with h | h
      · rw [List.getElem?_append_left h]
      · rw [List.getElem?_eq_none (by simp; omega), List.getElem?_eq_none h]

theorem grow_length : (grow ns at_ b x).length = ns.length + 1 := by simp [grow]

theorem setC_child (hb : b < 2) (c k : Nat) (hc : c < 2) : child (setC x b k) c = if c = b then k else child x c := by
  have h1 : b = 0 ∨ b = 1 := by omega
  have h2 : c = 0 ∨ c = 1 := by omega
  rcases h1 with rfl | rfl <;> rcases h2 with rfl | rfl <;> simp [child, setC]

theorem grow_tree (O : NsOk ns) (T : TreeOk ns) (hx : ns[at_]? = some x) (hb : b < 2) (h0 : child x b = 0) : TreeOk (grow ns at_ b x) := by
  have hat : at_ < ns.length := (List.getElem?_eq_some_iff.1 hx).1
  have key : ∀ (i c : Nat) (z : Nd), c < 2 → (grow ns at_ b x)[i]? = some z → child z c ≠ 0 → (i = at_ ∧ c = b ∧ child z c = ns.length) ∨ (∃ z', ns[i]? = some z' ∧ child z c = child z' c ∧ child z c < ns.length) := by
    intro i c z hc hz hne
    rw [grow_get hx] at hz
    split at hz
    · rename_i hi
      cases hz
      rw [setC_child hb c _ hc] at hne ⊢
      split at hne
      · rename_i hcb; left; exact ⟨hi, hcb, by simp [hcb]⟩
      · rename_i hcb; right; rw [if_neg hcb]; exact ⟨x, hi ▸ hx, rfl, ((O.child hx).resolve_left hne).2⟩
    · split at hz
      · cases hz; exact absurd (by unfold child nd0; split <;> rfl) hne
      · right; exact ⟨z, hz, rfl, ((O.child hz).resolve_left hne).2⟩
  intro i i' c c' z z' hc hc' hz hz' hne he
  rcases key i c z hc hz hne with ⟨h1, h2, h3⟩ | ⟨w, h1, h2, h3⟩ <;> rcases key i' c' z' hc' hz' (he ▸ hne) with ⟨h1', h2', h3'⟩ | ⟨w', h1', h2', h3'⟩
  · exact ⟨by omega, by omega⟩
  · rw [he] at h3; omega
  · rw [he] at h3; omega
  · exact T i i' c c' w w' hc hc' h1 h1' (h2 ▸ hne) (by rw [← h2, ← h2']; exact he)

theorem grow_down (O : NsOk ns) (hx : ns[at_]? = some x) (hb : b < 2) (h0 : child x b = 0) : ∀ (cs : List Nat) (s k : Nat), Bits cs → s < ns.length → down ns s cs = some k → down (grow ns at_ b x) s cs = some k := by
  intro cs
  induction cs with
  | nil => intro s k _ _ h; exact h
  | cons c cs ih =>
    intro s k hcs hs h
    simp only [down] at h ⊢
    rw [grow_get hx]
    have hc2 : c < 2 := hcs c (by simp)
    by_cases hi : s = at_
    · rw [if_pos hi]
      subst hi
      rw [hx] at h
      simp only at h ⊢
      split at h
      · cases h
      · rename_i hne
        have hcb : c ≠ b := fun e => hne (e ▸ h0)
        rw [setC_child hb c _ hc2, if_neg hcb, if_neg hne]
        exact ih _ k (fun y hy => hcs y (by simp [hy])) ((O.child hx).resolve_left hne).2 h
    · rw [if_neg hi, if_neg (by omega)]
      cases hz : ns[s]? with
      | none => simp [hz] at h
      | some z =>
        simp only [hz] at h ⊢
        split at h
        · cases h
        · rename_i hne
          rw [if_neg hne]
          exact ih _ k (fun y hy => hcs y (by simp [hy])) ((O.child hz).resolve_left hne).2 h

theorem grow_back (O : NsOk ns) (hx : ns[at_]? = some x) (hb : b < 2) : ∀ (cs : List Nat) (s k : Nat), Bits cs → s < ns.length → k < ns.length → down (grow ns at_ b x) s cs = some k → down ns s cs = some k := by
  intro cs
  induction cs with
  | nil => intro s k _ _ _ h; exact h
  | cons c cs ih =>
    intro s k hcs hs hk h
    simp only [down] at h ⊢
    rw [grow_get hx] at h
    have hc2 : c < 2 := hcs c (by simp)
    have new : ∀ cs, down (grow ns at_ b x) ns.length cs = some k → False := by
      intro cs h
      cases cs with
      | nil => simp [down] at h; omega
      | cons d cs =>
        simp only [down] at h
        have hat : at_ < ns.length := (List.getElem?_eq_some_iff.1 hx).1
        rw [grow_get hx, if_neg (by omega), if_pos rfl] at h
        have hz : child nd0 d = 0 := by unfold child nd0; split <;> rfl
        simp only at h
        rw [if_pos hz] at h
        cases h
    by_cases hi : s = at_
    · rw [if_pos hi] at h
      subst hi
      rw [hx]
      simp only at h ⊢
      rw [setC_child hb c _ hc2] at h
      by_cases hcb : c = b
      · rw [if_pos hcb] at h
        split at h
        · cases h
        · exact (new cs h).elim
      · rw [if_neg hcb] at h
        split at h
        · cases h
        · rename_i hne
          rw [if_neg hne]
          exact ih _ k (fun y hy => hcs y (by simp [hy])) ((O.child hx).resolve_left hne).2 hk h
    · rw [if_neg hi, if_neg (by omega)] at h
      cases hz : ns[s]? with
      | none => simp [hz] at h
      | some z =>
        simp only [hz] at h ⊢
        split at h
        · cases h
        · rename_i hne
          rw [if_neg hne]
          exact ih _ k (fun y hy => hcs y (by simp [hy])) ((O.child hz).resolve_left hne).2 hk h

end

/-! ### A whole way -/
structure Made (ns ns' : List Nd) (at_ at' : Nat) (bs : List Nat) : Prop where
  ok : NsOk ns'
  tree : TreeOk ns'
  le : ns.length ≤ ns'.length
  few : ns'.length ≤ ns.length + bs.length
  same : ∀ (i : Nat) (x : Nd), ns[i]? = some x → ∃ y, ns'[i]? = some y ∧ y.n = x.n ∧ y.has = x.has
  fresh : ∀ (i : Nat) (y : Nd), ns.length ≤ i → ns'[i]? = some y → y.has = false
  on : ∀ cs s k, Bits cs → s < ns.length → down ns s cs = some k → down ns' s cs = some k
  back : ∀ cs s k, Bits cs → s < ns.length → k < ns.length → down ns' s cs = some k → down ns s cs = some k
  way : down ns' at_ bs = some at'
  lt : at' < ns'.length

theorem mk_made : ∀ (bs : List Nat) (ns : List Nd) (at_ : Nat), NsOk ns → TreeOk ns → Bits bs → at_ < ns.length → ns.length + bs.length ≤ 1000000 → Made ns (mkDown ns at_ bs).2 at_ (mkDown ns at_ bs).1 bs
  | [], ns, at_, O, T, _, hat, _ => ⟨O, T, Nat.le_refl _, by simp [mkDown], fun i x hx => ⟨x, hx, rfl, rfl⟩, (fun i y hi hy => by
      simp only [mkDown] at hy
      rw [List.getElem?_eq_none hi] at hy; cases hy), fun cs s k _ _ h => h, fun cs s k _ _ _ h => h, rfl, hat⟩
  | b :: bs, ns, at_, O, T, hbs, hat, hf => by
    obtain ⟨x, hx⟩ : ∃ x, ns[at_]? = some x := ⟨_, List.getElem?_eq_getElem hat⟩
    have hb : b < 2 := hbs b (by simp)
    have hbs' : Bits bs := fun y hy => hbs y (by simp [hy])
    simp only [List.length_cons] at hf
    simp only [mkDown, hx]
    by_cases h0 : child x b = 0
    · rw [if_pos h0]
      have O1 := O.grow (b := b) hx (by omega)
      have T1 := grow_tree O T hx hb h0
      have hl : (grow ns at_ b x).length = ns.length + 1 := grow_length
      have M := mk_made bs (grow ns at_ b x) ns.length O1 T1 hbs' (by omega) (by omega)
      refine ⟨M.ok, M.tree, by have := M.le; omega, by have := M.few; simp only [List.length_cons]; omega, fun i y hy => ?_, fun i y hi hy => ?_, fun cs s k hc hs h => ?_, fun cs s k hc hs hk h => ?_, ?_, M.lt⟩
      · have hi : i < ns.length := (List.getElem?_eq_some_iff.1 hy).1
        have hg : ∃ z, (grow ns at_ b x)[i]? = some z ∧ z.n = y.n ∧ z.has = y.has := by
          rw [grow_get hx]
          by_cases hia : i = at_
          · subst hia; rw [hx] at hy; cases hy
            exact ⟨_, if_pos rfl, by unfold setC; split <;> rfl, by unfold setC; split <;> rfl⟩
          · exact ⟨y, by rw [if_neg hia, if_neg (by omega)]; exact hy, rfl, rfl⟩
        obtain ⟨z, hz, h1, h2⟩ := hg
        obtain ⟨w, hw, h3, h4⟩ := M.same i z hz
        exact ⟨w, hw, by rw [h3, h1], by rw [h4, h2]⟩
      · rcases Nat.eq_or_lt_of_le hi with e | e
        · subst e
          obtain ⟨w, hw, h3, h4⟩ := M.same ns.length nd0 (by rw [grow_get hx, if_neg (by omega), if_pos rfl])
          rw [hy] at hw; cases hw
          rw [h4]; rfl
        · exact M.fresh i y (by omega) hy
      · exact M.on cs s k hc (by omega) (grow_down O hx hb h0 cs s k hc hs h)
      · exact grow_back O hx hb cs s k hc hs hk (M.back cs s k hc (by omega) (by omega) h)
      · have h1 : down (grow ns at_ b x) at_ [b] = some ns.length := by
          simp only [down]
          rw [grow_get hx, if_pos rfl]
          simp only
          rw [setC_child hb b _ hb, if_pos rfl, if_neg (by have := O.pos; omega)]
        have h2 := M.on [b] at_ ns.length (fun y hy => by simp at hy; omega) (by omega) h1
        have := down_append (mkDown (grow ns at_ b x) ns.length bs).2 [b] bs at_
        simp only [List.singleton_append] at this
        rw [this, h2]
        exact M.way
    · rw [if_neg h0]
      have hc := (O.child hx (b := b)).resolve_left h0
      have M := mk_made bs ns (child x b) O T hbs' hc.2 (by omega)
      refine ⟨M.ok, M.tree, M.le, by have := M.few; simp only [List.length_cons]; omega, M.same, M.fresh, M.on, M.back, ?_, M.lt⟩
      have h1 : down ns at_ [b] = some (child x b) := by simp [down, hx, h0]
      have h2 := M.on [b] at_ _ (fun y hy => by simp at hy; omega) hat h1
      have := down_append (mkDown ns (child x b) bs).2 [b] bs at_
      simp only [List.singleton_append] at this
      rw [this, h2]
      exact M.way

end Go.Proofs.Ytmbhlbohbpepaaa
