/- The trie's laws on lists of pairs; each call's answer. -/
import Derived.Test.YtmbhlbohbpepaaaA8
namespace Go.Proofs.Ytmbhlbohbpepaaa
open Go
set_option linter.unusedSimpArgs false

abbrev PL := List ((Nat × Nat) × Int)

def getL : PL → Nat × Nat → Option Int
  | [], _ => none
  | x :: xs, p => if x.1 = p then some x.2 else getL xs p

def insL : PL → Nat × Nat → Int → PL
  | [], p, n => [(p, n)]
  | x :: xs, p, n => if plt p x.1 then (p, n) :: x :: xs else x :: insL xs p n

def setL : PL → Nat × Nat → Int → PL
  | [], _, _ => []
  | x :: xs, p, n => if x.1 = p then (p, n) :: xs else x :: setL xs p n

def delL : PL → Nat × Nat → PL
  | [], _ => []
  | x :: xs, p => if x.1 = p then xs else x :: delL xs p

def Srt (L : PL) : Prop := L.Pairwise fun x y => plt x.1 y.1

theorem getL_mem {L : PL} {p : Nat × Nat} {k : Int} (h : getL L p = some k) : (p, k) ∈ L := by
  induction L with
  | nil => cases h
  | cons x xs ih =>
    simp only [getL] at h
    split at h
    · rename_i e; cases h; subst e; simp
    · simp [ih h]

theorem getL_of_mem {L : PL} (hs : Srt L) {p : Nat × Nat} {k : Int} (h : (p, k) ∈ L) : getL L p = some k := by
  induction L with
  | nil => cases h
  | cons x xs ih =>
    obtain ⟨h1, h2⟩ := List.pairwise_cons.1 hs
    simp only [getL]
    rcases List.mem_cons.1 h with e | e
    · subst e; simp
    · rw [if_neg (fun e2 => plt_irrefl p (by have := h1 _ e; rw [e2] at this; exact this)), ih h2 e]

theorem getL_insL (L : PL) (p q : Nat × Nat) (n : Int) (h : getL L p = none) : getL (insL L p n) q = if q = p then some n else getL L q := by
  induction L with
  | nil => simp only [insL, getL, eq_comm]
  | cons x xs ih =>
    simp only [getL] at h
    split at h
    · cases h
    · rename_i hx
      simp only [insL]
      split
      · simp only [getL, eq_comm]
      · simp only [getL, ih h]
        by_cases e : x.1 = q
        · rw [if_pos e, if_pos e, if_neg (fun e2 => hx (e.trans e2))]
        · rw [if_neg e, if_neg e]

theorem getL_setL (L : PL) (p q : Nat × Nat) (n : Int) (h : getL L p ≠ none) : getL (setL L p n) q = if q = p then some n else getL L q := by
  induction L with
  | nil => exact absurd rfl h
  | cons x xs ih =>
    simp only [getL] at h
    simp only [setL]
    by_cases hx : x.1 = p
    · rw [if_pos hx]
      simp only [getL, hx, eq_comm (a := p)]
      split <;> rfl
    · rw [if_neg hx] at h ⊢
      simp only [getL, ih h]
      by_cases e : x.1 = q
      · rw [if_pos e, if_pos e, if_neg (fun e2 => hx (e.trans e2))]
      · rw [if_neg e, if_neg e]

theorem getL_none_of {L : PL} {p : Nat × Nat} (h : ∀ x ∈ L, x.1 ≠ p) : getL L p = none := by
  induction L with
  | nil => rfl
  | cons x xs ih => simp only [getL]; rw [if_neg (h x (by simp)), ih (fun y hy => h y (by simp [hy]))]

theorem getL_delL {L : PL} (hs : Srt L) (p q : Nat × Nat) : getL (delL L p) q = if q = p then none else getL L q := by
  induction L with
  | nil => simp [delL, getL]
  | cons x xs ih =>
    obtain ⟨h1, h2⟩ := List.pairwise_cons.1 hs
    simp only [delL]
    by_cases hx : x.1 = p
    · rw [if_pos hx]
      by_cases e : q = p
      · rw [if_pos e]
        exact getL_none_of (fun y hy e2 => plt_irrefl p (by have := h1 y hy; rw [e2, hx, e] at this; exact this))
      · rw [if_neg e]; simp only [getL]; rw [if_neg (fun e2 => e (e2.symm.trans hx))]
    · rw [if_neg hx]
      simp only [getL, ih h2]
      by_cases e : x.1 = q
      · rw [if_pos e, if_pos e, if_neg (fun e2 => hx (e.trans e2))]
      · rw [if_neg e, if_neg e]

theorem insL_mem {L : PL} {p : Nat × Nat} {n : Int} {x : (Nat × Nat) × Int} (h : x ∈ insL L p n) : x = (p, n) ∨ x ∈ L := by
  induction L with
  | nil => simpa [insL] using h
  | cons y ys ih =>
    simp only [insL] at h
    split at h
    · simpa using h
    · rcases List.mem_cons.1 h with e | e
      · right; simp [e]
      · rcases ih e with e | e
        · exact .inl e
        · right; simp [e]

theorem setL_mem {L : PL} {p : Nat × Nat} {n : Int} {x : (Nat × Nat) × Int} (h : x ∈ setL L p n) : x = (p, n) ∨ x ∈ L := by
  induction L with
  | nil => cases h
  | cons y ys ih =>
    simp only [setL] at h
    split at h
    · rcases List.mem_cons.1 h with e | e
      · exact .inl e
      · right; simp [e]
    · rcases List.mem_cons.1 h with e | e
      · right; simp [e]
      · rcases ih e with e | e
        · exact .inl e
        · right; simp [e]

theorem setL_fst (L : PL) (p : Nat × Nat) (n : Int) : (setL L p n).map (·.1) = L.map (·.1) := by
  induction L with
  | nil => rfl
  | cons y ys ih =>
    simp only [setL]
    split
    · rename_i e; simp [e]
    · simp [ih]

theorem delL_sub (L : PL) (p : Nat × Nat) : (delL L p).Sublist L := by
  induction L with
  | nil => exact .slnil
  | cons y ys ih =>
    simp only [delL]
    split
    · exact List.sublist_cons_self _ _
    · exact ih.cons_cons _

theorem insL_srt {L : PL} (hs : Srt L) {p : Nat × Nat} (n : Int) (h : getL L p = none) : Srt (insL L p n) := by
  induction L with
  | nil => simp [insL, Srt]
  | cons y ys ih =>
    obtain ⟨h1, h2⟩ := List.pairwise_cons.1 hs
    simp only [getL] at h
    split at h
    · cases h
    · rename_i hy
      simp only [insL]
      split
      · rename_i hlt
        refine List.pairwise_cons.2 ⟨fun x hx => ?_, hs⟩
        rcases List.mem_cons.1 hx with e | e
        · subst e; exact hlt
        · exact plt_trans hlt (h1 x e)
      · rename_i hlt
        refine List.pairwise_cons.2 ⟨fun x hx => ?_, ih h2 h⟩
        rcases insL_mem hx with e | e
        · subst e
          rcases plt_tri y.1 p with t | t | t
          · exact t
          · exact absurd t hy
          · exact absurd t hlt
        · exact h1 x e

theorem setL_srt {L : PL} (hs : Srt L) (p : Nat × Nat) (n : Int) : Srt (setL L p n) := by
  have h := (List.pairwise_map (f := fun x : (Nat × Nat) × Int => x.1) (R := plt)).2 hs
  rw [← setL_fst L p n] at h
  exact (List.pairwise_map (f := fun x : (Nat × Nat) × Int => x.1) (R := plt)).1 h

theorem insL_length (L : PL) (p : Nat × Nat) (n : Int) : (insL L p n).length = L.length + 1 := by
  induction L with
  | nil => rfl
  | cons y ys ih => simp only [insL]; split <;> simp [ih]

theorem setL_length (L : PL) (p : Nat × Nat) (n : Int) : (setL L p n).length = L.length := by
  have := congrArg List.length (setL_fst L p n)
  simpa using this

theorem delL_length (L : PL) (p : Nat × Nat) (h : getL L p ≠ none) : (delL L p).length + 1 = L.length := by
  induction L with
  | nil => exact absurd rfl h
  | cons y ys ih =>
    simp only [getL] at h
    simp only [delL]
    split
    · simp
    · rename_i e; rw [if_neg e] at h; have := ih h; simp only [List.length_cons]; omega

/-! ### The trie and the list -/
structure Rep (ns : List Nd) (L : PL) : Prop where
  tri : Tri ns
  srt : Srt L
  pok : ∀ x ∈ L, Pok x.1
  val : ∀ p, Pok p → valOf ns p = getL L p

theorem rep_new : Rep [nd0] [] := by
  refine ⟨tri_new, .nil, fun x hx => by simp at hx, fun p hp => ?_⟩
  rw [valOf_hasN]
  cases h : bitsFrom p.1 0 p.2 with
  | nil => rfl
  | cons b cs =>
    rw [hasN_cons (x := nd0) (by rfl), if_pos (by unfold child nd0; split <;> rfl)]
    rfl

theorem Rep.gath {ns : List Nd} {L : PL} (R : Rep ns L) : gath ns 32 0 0 0 = L.map (·.1) := by
  refine sorted_ext (gath_sorted ns 32 0 0 0 rfl (by simp)) (List.pairwise_map.2 R.srt) (fun q => ?_)
  rw [gath_mem ns q 32 0 0 0 rfl (by simp)]
  simp only [Nat.sub_zero, Nat.zero_le, true_and]
  constructor
  · rintro ⟨h1, h2, h3, h4⟩
    have h5 : q.1 < 2 ^ 32 := by
      have := Nat.div_add_mod q.1 (2 ^ 32)
      have := Nat.mod_lt q.1 (Nat.two_pow_pos 32)
      omega
    rw [← valOf_hasN, R.val q ⟨h5, h1, h2⟩] at h4
    cases hg : getL L q with
    | none => exact absurd hg h4
    | some k => exact List.mem_map.2 ⟨(q, k), getL_mem hg, rfl⟩
  · intro h
    obtain ⟨x, hx, rfl⟩ := List.mem_map.1 h
    have hp := R.pok x hx
    refine ⟨hp.n, hp.m, ?_, ?_⟩
    · simp [Nat.div_eq_of_lt hp.a]
    · rw [← valOf_hasN, R.val _ hp, getL_of_mem R.srt (k := x.2) hx]; simp

/-- The longest of the list that has an address. -/
def findL (L : PL) (addr : Nat) : Option ((Nat × Nat) × Int) :=
  L.foldl (fun b x => if x.1.1 = cutA addr x.1.2 ∧ (∀ y ∈ b, y.1.2 < x.1.2) then some x else b) none

theorem find_law (addr : Nat) : ∀ (L : PL) (b : Option ((Nat × Nat) × Int)), (∀ y ∈ b, y.1.1 = cutA addr y.1.2) →
    (∃ x, L.foldl (fun b x => if x.1.1 = cutA addr x.1.2 ∧ (∀ y ∈ b, y.1.2 < x.1.2) then some x else b) b = some x ∧ (x ∈ L ∨ b = some x) ∧ x.1.1 = cutA addr x.1.2 ∧ (∀ y ∈ b, y.1.2 ≤ x.1.2) ∧ ∀ y ∈ L, y.1.1 = cutA addr y.1.2 → y.1.2 ≤ x.1.2) ∨
    (L.foldl (fun b x => if x.1.1 = cutA addr x.1.2 ∧ (∀ y ∈ b, y.1.2 < x.1.2) then some x else b) b = none ∧ b = none ∧ ∀ y ∈ L, y.1.1 ≠ cutA addr y.1.2)
  | [], b, hb => by
    cases b with
    | none => exact .inr ⟨rfl, rfl, by simp⟩
    | some x => exact .inl ⟨x, rfl, .inr rfl, hb x rfl, fun y hy => by cases hy; exact Nat.le_refl _, by simp⟩
  | z :: L, b, hb => by
    simp only [List.foldl_cons]
    by_cases hz : z.1.1 = cutA addr z.1.2 ∧ (∀ y ∈ b, y.1.2 < z.1.2)
    · rw [if_pos hz]
      rcases find_law addr L (some z) (fun y hy => by cases hy; exact hz.1) with ⟨x, h1, h2, h3, h4, h5⟩ | ⟨_, h2, _⟩
      · have h6 := h4 z rfl
        refine .inl ⟨x, h1, .inl ?_, h3, fun y hy => by have := hz.2 y hy; omega, fun y hy hya => ?_⟩
        · rcases h2 with h2 | h2
          · simp [h2]
          · cases h2; simp
        · rcases List.mem_cons.1 hy with e | e
          · subst e; exact h6
          · exact h5 y e hya
      · cases h2
    · rw [if_neg hz]
      rcases find_law addr L b hb with ⟨x, h1, h2, h3, h4, h5⟩ | ⟨h1, h2, h3⟩
      · refine .inl ⟨x, h1, h2.imp (fun h => by simp [h]) id, h3, h4, fun y hy hya => ?_⟩
        rcases List.mem_cons.1 hy with e | e
        · subst e
          apply Classical.byContradiction
          intro hgt
          exact hz ⟨hya, fun w hw => by have := h4 w hw; omega⟩
        · exact h5 y e hya
      · refine .inr ⟨h1, h2, fun y hy => ?_⟩
        rcases List.mem_cons.1 hy with e | e
        · subst e
          intro hya
          exact hz ⟨hya, fun w hw => by rw [h2] at hw; cases hw⟩
        · exact h3 y e

/-- What is found, told by the list. -/
inductive Found (L : PL) (addr : Nat) : Option ((Nat × Nat) × Int) → Prop where
  | some (x : (Nat × Nat) × Int) : x ∈ L → x.1.1 = cutA addr x.1.2 → (∀ y ∈ L, y.1.1 = cutA addr y.1.2 → y.1.2 ≤ x.1.2) → Found L addr (some x)
  | none : (∀ y ∈ L, y.1.1 ≠ cutA addr y.1.2) → Found L addr none

theorem found_find (L : PL) (addr : Nat) : Found L addr (findL L addr) := by
  unfold findL
  rcases find_law addr L none (fun y hy => by cases hy) with ⟨x, h1, h2, h3, _, h5⟩ | ⟨h1, _, h3⟩
  · rw [h1]; exact .some x (h2.resolve_right (by simp)) h3 h5
  · rw [h1]; exact .none h3

theorem Found.uniq {L : PL} (hs : Srt L) {addr : Nat} {a b : Option ((Nat × Nat) × Int)} (h : Found L addr a) (h' : Found L addr b) : a = b := by
  cases h with
  | some x h1 h2 h3 =>
    cases h' with
    | some y h4 h5 h6 =>
      have e : x.1.2 = y.1.2 := Nat.le_antisymm (h6 x h1 h2) (h3 y h4 h5)
      have e1 : x.1 = y.1 := Prod.ext (by rw [h2, h5, e]) e
      have e2 := getL_of_mem hs (p := x.1) (k := x.2) h1
      rw [e1, getL_of_mem hs (p := y.1) (k := y.2) h4] at e2
      exact congrArg Option.some (Prod.ext e1 (by simpa using e2.symm))
    | none h4 => exact absurd h2 (h4 x h1)
  | none h1 =>
    cases h' with
    | some y h4 h5 h6 => exact absurd h5 (h1 y h4)
    | none => rfl

theorem Rep.best {ns : List Nd} {L : PL} (R : Rep ns L) {addr : Nat} (ha : addr < 2 ^ 32) :
    Found L addr ((bestOf ns addr).map fun x => ((cutA addr x.1, x.1), x.2)) := by
  have none_of : ∀ l', l' ≤ 32 → valOf ns (cutA addr l', l') = Option.none → ∀ y ∈ L, y.1.1 = cutA addr y.1.2 → y.1.2 ≠ l' := by
    intro l' hl h y hy hya e
    rw [R.val _ (pok_cut ha hl), ← e, ← hya, getL_of_mem R.srt (k := y.2) hy] at h
    cases h
  rcases bestOf_law ns addr with ⟨l, k, h1, h2, h3, h4⟩ | ⟨h1, h2⟩
  · rw [h1]
    rw [R.val _ (pok_cut ha h2)] at h3
    refine .some _ (getL_mem h3) rfl (fun y hy hya => ?_)
    apply Classical.byContradiction
    intro hgt
    have hl := (R.pok y hy).n
    exact none_of y.1.2 hl (h4 _ (by simp only at hgt; omega) hl) y hy hya rfl
  · rw [h1]
    exact .none (fun y hy hya => none_of y.1.2 (R.pok y hy).n (h2 _ (R.pok y hy).n) y hy hya rfl)

theorem Rep.find {ns : List Nd} {L : PL} (R : Rep ns L) {addr : Nat} (ha : addr < 2 ^ 32) : ((bestOf ns addr).map fun x => ((cutA addr x.1, x.1), x.2)) = findL L addr :=
  (R.best ha).uniq R.srt (found_find L addr)

/-- A look, told by the list. -/
theorem Rep.look {ns : List Nd} {L : PL} (R : Rep ns L) {a : Nat} (ha : a < 2 ^ 32) (n : Int) : (look ns a n).map (·.2.n) = if mayB a n = true then getL L (a, n.toNat) else none := by
  by_cases h : mayB a n = true
  · rw [if_pos h, look_val h, R.val _ (mayB_pok ha h).1]
  · rw [if_neg h]; unfold Go.Proofs.Ytmbhlbohbpepaaa.look; rw [if_neg h]; rfl

/-! ### The calls on a list -/
def getR (L : PL) (a : Nat) (n : Int) : Option Int := if mayB a n = true then getL L (a, n.toNat) else none

def putR (most : Int) (L : PL) (a : Nat) (n k : Int) : Int × PL :=
  if mayB a n = true then
    if (getL L (a, n.toNat)).isSome then (0, setL L (a, n.toNat) k)
    else if most ≤ (L.length : Int) then (4, L) else (0, insL L (a, n.toNat) k)
  else (1, L)

def takeR (L : PL) (a : Nat) (n : Int) : Int × PL :=
  if (getR L a n).isSome then (0, delL L (a, n.toNat)) else (5, L)

theorem Rep.set {ns : List Nd} {L : PL} (R : Rep ns L) {p : Nat × Nat} (hp : Pok p) {k : Nat} {x y : Nd} (hd : down ns 0 (bitsFrom p.1 0 p.2) = some k) (hx : ns[k]? = some x) (hl : y.l = x.l) (hr : y.r = x.r)
    {L' : PL} (hs : Srt L') (hpk : ∀ x ∈ L', Pok x.1) (hv : ∀ q, getL L' q = if q = p then (if y.has = true then some y.n else none) else getL L q) : Rep (ns.set k y) L' := by
  obtain ⟨T, V⟩ := val_set R.tri hp hd hx hl hr
  refine ⟨T, hs, hpk, fun q hq => ?_⟩
  rw [V q hq, hv q, R.val q hq]

end Go.Proofs.Ytmbhlbohbpepaaa
