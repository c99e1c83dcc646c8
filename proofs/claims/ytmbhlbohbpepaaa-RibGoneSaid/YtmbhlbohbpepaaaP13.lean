/- The table's plain law: all routes, in order. -/
import Derived.Test.YtmbhlbohbpepaaaP12
namespace Go.Proofs.Ytmbhlbohbpepaaa
open Go
set_option linter.unusedSimpArgs false
set_option linter.unusedVariables false

def rpf (x : Rt) : Nat × Nat := (x.a, x.l.toNat)
def rlt (x y : Rt) : Prop := plt (rpf x) (rpf y) ∨ rpf x = rpf y ∧ x.d < y.d

theorem rlt_irrefl (x : Rt) : ¬ rlt x x := by
  rintro (h | ⟨_, h⟩)
  · exact plt_irrefl _ h
  · omega
theorem rlt_asymm {x y : Rt} (h : rlt x y) : ¬ rlt y x := by
  rintro (h2 | ⟨e2, h2⟩)
  · rcases h with h | ⟨e, h⟩
    · exact plt_asymm h h2
    · rw [e] at h2; exact plt_irrefl _ h2
  · rcases h with h | ⟨e, h⟩
    · rw [e2] at h; exact plt_irrefl _ h
    · omega
theorem rlt_trans {x y z : Rt} (h : rlt x y) (h' : rlt y z) : rlt x z := by
  rcases h with h | ⟨e, h⟩
  · rcases h' with h' | ⟨e', h'⟩
    · exact .inl (plt_trans h h')
    · exact .inl (by rw [← e']; exact h)
  · rcases h' with h' | ⟨e', h'⟩
    · exact .inl (by rw [e]; exact h')
    · exact .inr ⟨e.trans e', by omega⟩

theorem pw_ext {α : Type} {R : α → α → Prop} (irr : ∀ x, ¬ R x x) (asym : ∀ {x y}, R x y → ¬ R y x) : ∀ {l l' : List α}, l.Pairwise R → l'.Pairwise R → (∀ q, q ∈ l ↔ q ∈ l') → l = l'
  | [], [], _, _, _ => rfl
  | [], y :: ys, _, _, h => by have := (h y).2 (by simp); simp at this
  | x :: xs, [], _, _, h => by have := (h x).1 (by simp); simp at this
  | x :: xs, y :: ys, p, p', h => by
    rw [List.pairwise_cons] at p p'
    have e : x = y := by
      have h1 := (h x).1 (by simp)
      have h2 := (h y).2 (by simp)
      rcases List.mem_cons.1 h1 with e | m1
      · exact e
      · rcases List.mem_cons.1 h2 with e | m2
        · exact e.symm
        · exact (asym (p.1 y m2) (p'.1 x m1)).elim
    subst e
    congr 1
    refine pw_ext irr asym p.2 p'.2 fun q => ⟨fun m => ?_, fun m => ?_⟩
    · rcases List.mem_cons.1 ((h q).1 (List.mem_cons_of_mem _ m)) with e | m'
      · subst e; exact (irr _ (p.1 _ m)).elim
      · exact m'
    · rcases List.mem_cons.1 ((h q).2 (List.mem_cons_of_mem _ m)) with e | m'
      · subst e; exact (irr _ (p'.1 _ m)).elim
      · exact m'

theorem mayR_parts {x : Rt} (h : mayR x = true) : mayB x.a x.l = true ∧ 0 ≤ x.d ∧ x.d < 16 ∧ 0 ≤ x.ds ∧ x.ds ≤ 255 ∧ 0 ≤ x.m ∧ x.m ≤ 4294967295 ∧ 0 ≤ x.nx ∧ x.nx ≤ 32 := by
  unfold mayR at h
  simp only [Bool.and_eq_true, decide_eq_true_eq] at h
  exact h

theorem mayB_nn {a : Nat} {n : Int} (h : mayB a n = true) : 0 ≤ n ∧ n ≤ 32 := by
  unfold mayB at h
  simp only [Bool.and_eq_true, decide_eq_true_eq] at h
  exact h.1

theorem ofN_mem_iff {m : List (RK × Rt)} {T : PL} (R : RInv m T) {a : Nat} {l : Int} {x : Rt} : x ∈ ofN m a l 16 ↔ getM m x.key = some x ∧ x.a = a ∧ x.l = l := by
  constructor
  · intro h
    obtain ⟨d, _, e⟩ := ofN_mem h
    have hk := (R.key _ (getM_mem e)).1
    simp only [Rt.key, Prod.mk.injEq] at hk
    obtain ⟨⟨rfl, rfl⟩, hd⟩ := hk
    exact ⟨by unfold Rt.key; rw [← hd]; exact e, rfl, rfl⟩
  · rintro ⟨h, rfl, rfl⟩
    obtain ⟨_, hm, hg⟩ := R.key _ (getM_mem h)
    simp only [] at hm hg
    obtain ⟨_, h0, h1, _⟩ := mayR_parts hm
    unfold ofN
    refine List.mem_filterMap.2 ⟨x.d.toNat, List.mem_range.2 (by omega), ?_⟩
    rw [show ((x.d.toNat : Nat) : Int) = x.d by omega]
    exact h

theorem RInv.has_pf {m : List (RK × Rt)} {T : PL} (R : RInv m T) {p : Nat × Nat} : p ∈ T.map (·.1) ↔ ∃ x, getM m x.key = some x ∧ rpf x = p := by
  constructor
  · intro h
    obtain ⟨⟨p', n⟩, hm, rfl⟩ := List.mem_map.1 h
    have h1 := getL_of_mem R.srt hm
    rw [R.cnt] at h1
    have h2 : cntP m p' ≠ 0 := by intro e; rw [if_pos e] at h1; cases h1
    unfold cntP at h2
    obtain ⟨k', hk, e⟩ := List.countP_pos_iff.1 (Nat.pos_of_ne_zero h2)
    obtain ⟨⟨k2, x⟩, hx, rfl⟩ := List.mem_map.1 hk
    have hkey := (R.key _ hx).1
    simp only at hkey e
    refine ⟨x, ?_, ?_⟩
    · rw [← hkey]; exact getM_of_mem R.uniq hx
    · subst hkey; exact of_decide_eq_true e
  · rintro ⟨x, hx, rfl⟩
    have := cnt_pos (m := m) (k := x.key) (by rw [hx]; simp)
    have h2 : getL T (rpf x) ≠ none := by
      rw [R.cnt]
      have e : pf x.key = rpf x := rfl
      rw [e] at this
      rw [if_neg (by omega)]; simp
    obtain ⟨n, hn⟩ := Option.ne_none_iff_exists'.1 h2
    exact List.mem_map.2 ⟨_, getL_mem hn, rfl⟩

theorem allR_mem {m : List (RK × Rt)} {T : PL} (R : RInv m T) {x : Rt} : x ∈ allR m (T.map (·.1)) ↔ getM m x.key = some x := by
  unfold allR
  rw [List.mem_flatMap]
  constructor
  · rintro ⟨p, _, h⟩
    exact ((ofN_mem_iff R).1 h).1
  · intro h
    obtain ⟨_, hm, hg⟩ := R.key _ (getM_mem h)
    simp only [] at hm hg
    have := (mayB_nn (mayR_mayB hm)).1
    exact ⟨rpf x, R.has_pf.2 ⟨x, h, rfl⟩, (ofN_mem_iff R).2 ⟨h, rfl, by simp only [rpf]; omega⟩⟩

theorem ofN_sorted {m : List (RK × Rt)} {T : PL} (R : RInv m T) {a : Nat} {l : Int} {n : Nat} : (ofN m a l n).Pairwise fun x y => x.d < y.d := by
  unfold ofN
  rw [List.pairwise_filterMap]
  refine List.pairwise_lt_range.imp fun {i j} hij x hx y hy => ?_
  have h1 := (R.key _ (getM_mem hx)).1
  have h2 := (R.key _ (getM_mem hy)).1
  simp only [Rt.key, Prod.mk.injEq] at h1 h2
  omega

theorem allR_sorted {m : List (RK × Rt)} {T : PL} (R : RInv m T) : (allR m (T.map (·.1))).Pairwise rlt := by
  unfold allR
  rw [List.pairwise_flatMap]
  have key : ∀ {p : Nat × Nat} {x : Rt}, x ∈ ofN m p.1 (p.2 : Nat) 16 → rpf x = p := by
    intro p x h
    obtain ⟨_, e1, e2⟩ := (ofN_mem_iff R).1 h
    unfold rpf
    rw [e1, e2]; simp
  refine ⟨fun p _ => (ofN_sorted R).imp_of_mem fun {x y} hx hy h => .inr ⟨by rw [key hx, key hy], h⟩, ?_⟩
  rw [List.pairwise_map]
  have := R.srt
  unfold Srt at this
  refine this.imp fun {p q} hpq x hx y hy => .inl ?_
  rw [key hx, key hy]; exact hpq

theorem allR_length_eq {m : List (RK × Rt)} {T : PL} (R : RInv m T) : (allR m (T.map (·.1))).length = m.length := by
  have nd : (allR m (T.map (·.1))).Nodup := by
    rw [List.nodup_iff_pairwise_ne]
    exact (allR_sorted R).imp fun {a b} h e => by subst e; exact rlt_irrefl _ h
  have nd2 : (m.map (·.2)).Nodup := by
    have u := R.uniq
    unfold Uniq at u
    rw [List.nodup_iff_pairwise_ne, List.pairwise_map] at u ⊢
    refine u.imp_of_mem fun {x y} hx hy h e => h ?_
    rw [(R.key _ hx).1, (R.key _ hy).1, e]
  have h1 := nodup_sub nd (ys := m.map (·.2)) (fun x hx => List.mem_map.2 ⟨_, getM_mem ((allR_mem R).1 hx), rfl⟩)
  have h2 := nodup_sub nd2 (ys := allR m (T.map (·.1))) (fun x hx => by
    obtain ⟨e, he, rfl⟩ := List.mem_map.1 hx
    refine (allR_mem R).2 ?_
    rw [← (R.key _ he).1]
    exact getM_of_mem R.uniq he)
  rw [List.length_map] at h1 h2
  omega

/-- What two tables with the same routes answer is the same. -/
theorem allR_ext {m m' : List (RK × Rt)} {T T' : PL} (R : RInv m T) (R' : RInv m' T') (h : ∀ k, getM m k = getM m' k) : allR m (T.map (·.1)) = allR m' (T'.map (·.1)) :=
  pw_ext rlt_irrefl rlt_asymm (allR_sorted R) (allR_sorted R') fun x => by rw [allR_mem R, allR_mem R', h]
end Go.Proofs.Ytmbhlbohbpepaaa
