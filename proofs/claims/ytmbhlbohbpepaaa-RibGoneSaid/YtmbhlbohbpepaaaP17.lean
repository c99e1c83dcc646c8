/- RibGone: a route that is taken away is not taken any more for its prefix: the walk. -/
import Derived.Test.YtmbhlbohbpepaaaP16
import Derived.Test.YtmbhlbohbpepaaaP15
namespace Go.Proofs.Ytmbhlbohbpepaaa
open Go
set_option linter.unusedSimpArgs false
set_option linter.unusedVariables false

/-- A table of one's own, behind an older heap. -/
structure ROwn (h0 g : Hp) (r : Nat) (most rf : Int) (m : List (RK × Rt)) (T : PL) (k : Nat) (O : List Nat) : Prop where
  m : RibM g r most rf m T k O
  le : Le h0 g
  new : ∀ x, x ∈ O → h0 x = none

theorem ROwn.fr {h0 g g' : Hp} {r : Nat} {most rf rf' : Int} {m m' : List (RK × Rt)} {T T' : PL} {k k' : Nat} {O O' : List Nat} (A : ROwn h0 g r most rf m T k O) (F : Fr g g' O O') (M : RibM g' r most rf' m' T' k' O') : ROwn h0 g' r most rf' m' T' k' O' :=
  ⟨M, F.le A.le A.new, F.new A.le A.new⟩
theorem ROwn.le2 {h0 g g' : Hp} {r : Nat} {most rf : Int} {m : List (RK × Rt)} {T : PL} {k : Nat} {O : List Nat} (A : ROwn h0 g r most rf m T k O) (l : Le g g') : ROwn h0 g' r most rf m T k O := ⟨A.m.le l, A.le.trans l, A.new⟩

/-- A box of the older heap is written. -/
theorem ROwn.box {h0 g : Hp} {r : Nat} {most rf : Int} {m : List (RK × Rt)} {T : PL} {k : Nat} {O : List Nat} {b : Nat} {o o' : Obj} (A : ROwn h0 g r most rf m T k O) (hb : h0 b = some o) : ROwn (h0.upd b o') (g.upd b o') r most rf m T k O := by
  have nb : ∀ x, x ∈ O → x ≠ b := fun x hx e => by have := A.new x hx; rw [e, hb] at this; cases this
  refine ⟨A.m.keep fun x o e e2 => by rw [upd_ne (nb x e)]; exact e2, fun x o e => ?_, fun x hx => by rw [upd_ne (nb x hx)]; exact A.new x hx⟩
  by_cases hx : x = b
  · subst hx; rw [upd_same] at e ⊢; exact e
  · rw [upd_ne hx] at e ⊢; exact A.le _ _ e

theorem rtake0 {h : Hp} {r : Nat} {most rf : Int} {m : List (RK × Rt)} {T : PL} {k : Nat} {O : List Nat} {a : Nat} {l d : Int} {Q : Value → Hp → Prop} (M : RibM h r most rf m T k O) (ha : a < 2 ^ 32) (hk : k ≤ 30000) (hn : getM m ((a, l), d) ≠ none)
    (hQ : ∀ h' O' T', Fr h h' O O' → RibM h' r most rf (delM ((a, l), d) m) T' (k + 1) O' → Q (.int .i64 0) h') :
    Ok Try.prog F_rib_Rib_Take #[.pointer (some ⟨r, 0, none⟩), .agg #[.int .u32 (a : Nat), .int .i64 l], .int .i64 d] h Q :=
  rtakeM M ha hk (fun e => (hn e).elim) (fun _ => hQ)

/-- Two routes to a prefix: one is taken, then the other, then none. -/
theorem gone_law {x y : Rt} {T : PL} (hxy : x.key ≠ y.key) (ha : y.a = x.a) (hl : y.l = x.l) (R : RInv (setM y.key y (setM x.key x [])) T) :
    ∃ b c, ((b = x ∧ c = y) ∨ (b = y ∧ c = x)) ∧ bestR (setM y.key y (setM x.key x [])) x.a x.l = some b ∧ ¬ cmpR c b < 0 ∧ (b.a = x.a ∧ b.l = x.l ∧ c.a = x.a ∧ c.l = x.l) ∧ getM (setM y.key y (setM x.key x [])) b.key ≠ none ∧
      (∀ T2, RInv (delM b.key (setM y.key y (setM x.key x []))) T2 → bestR (delM b.key (setM y.key y (setM x.key x []))) x.a x.l = some c ∧ getM (delM b.key (setM y.key y (setM x.key x []))) c.key ≠ none ∧
        ∀ T3, (RInv (delM c.key (delM b.key (setM y.key y (setM x.key x [])))) T3 → bestR (delM c.key (delM b.key (setM y.key y (setM x.key x [])))) x.a x.l = none ∧ (delM c.key (delM b.key (setM y.key y (setM x.key x [])))).length = 0)) := by
  generalize hm : setM y.key y (setM x.key x []) = m at *
  have hget : ∀ k, getM m k = if k = y.key then some y else if k = x.key then some x else none := fun k => by rw [← hm, getM_setM, getM_setM]; rfl
  have gx : getM m x.key = some x := by rw [hget, if_neg hxy, if_pos rfl]
  have gy : getM m y.key = some y := by rw [hget, if_pos rfl]
  obtain ⟨b, hb⟩ := best_some R gx
  obtain ⟨b1, b2, b3, b4⟩ := best_is R hb
  have key : ∀ c : Rt, ((b = x ∧ c = y) ∨ (b = y ∧ c = x)) → ∃ b c, ((b = x ∧ c = y) ∨ (b = y ∧ c = x)) ∧ bestR m x.a x.l = some b ∧ ¬ cmpR c b < 0 ∧ (b.a = x.a ∧ b.l = x.l ∧ c.a = x.a ∧ c.l = x.l) ∧ getM m b.key ≠ none ∧
      (∀ T2, RInv (delM b.key m) T2 → bestR (delM b.key m) x.a x.l = some c ∧ getM (delM b.key m) c.key ≠ none ∧ ∀ T3, (RInv (delM c.key (delM b.key m)) T3 → bestR (delM c.key (delM b.key m)) x.a x.l = none ∧ (delM c.key (delM b.key m)).length = 0)) := by
    intro c hc
    have hcb : c.key ≠ b.key := by rcases hc with ⟨rfl, rfl⟩ | ⟨rfl, rfl⟩; exact Ne.symm hxy; exact hxy
    have gc : getM m c.key = some c := by rcases hc with ⟨rfl, rfl⟩ | ⟨rfl, rfl⟩; exact gy; exact gx
    have ca : c.a = x.a ∧ c.l = x.l := by rcases hc with ⟨_, rfl⟩ | ⟨_, rfl⟩; exact ⟨ha, hl⟩; exact ⟨rfl, rfl⟩
    have only : ∀ z, getM m z.key = some z → z = b ∨ z = c := by
      intro z hz
      rw [hget] at hz
      split at hz
      · cases hz; rcases hc with ⟨rfl, rfl⟩ | ⟨rfl, rfl⟩; exact .inr rfl; exact .inl rfl
      · split at hz
        · cases hz; rcases hc with ⟨rfl, rfl⟩ | ⟨rfl, rfl⟩; exact .inl rfl; exact .inr rfl
        · cases hz
    refine ⟨b, c, hc, hb, fun q => b4 c gc ca.1 ca.2 (cmpR_lt.1 q), ⟨b2, b3, ca.1, ca.2⟩, by rw [b1]; simp, fun T2 R2 => ?_⟩
    have gc2 : getM (delM b.key m) c.key = some c := by rw [getM_delM R.uniq, if_neg hcb]; exact gc
    refine ⟨?_, by rw [gc2]; simp, fun T3 R3 => ?_⟩
    · obtain ⟨z, hz⟩ := best_some R2 gc2
      rw [ca.1, ca.2] at hz
      obtain ⟨z1, _⟩ := best_is R2 hz
      rw [getM_delM R.uniq] at z1
      split at z1
      · cases z1
      · rename_i hne
        rcases only z z1 with rfl | rfl
        · exact (hne rfl).elim
        · exact hz
    · constructor
      · cases hz : bestR (delM c.key (delM b.key m)) x.a x.l with
        | none => rfl
        | some z =>
          obtain ⟨z1, _⟩ := best_is R3 hz
          rw [getM_delM R2.uniq] at z1
          split at z1
          · cases z1
          · rename_i hne
            rw [getM_delM R.uniq] at z1
            split at z1
            · cases z1
            · rename_i hne2
              rcases only z z1 with rfl | rfl
              · exact (hne2 rfl).elim
              · exact (hne rfl).elim
      · rw [delM_length, gc2, delM_length, b1, ← hm, setM_length, setM_length]
        simp [getM_setM, getM_nil, Ne.symm hxy]
  rw [hget] at b1
  split at b1
  · cases b1; exact key x (.inr ⟨rfl, rfl⟩)
  · split at b1
    · cases b1; exact key y (.inl ⟨rfl, rfl⟩)
    · cases b1
end Go.Proofs.Ytmbhlbohbpepaaa
