/- The table's answers: of, Best. -/
import Derived.Test.YtmbhlbohbpepaaaP8
namespace Go.Proofs.Ytmbhlbohbpepaaa
open Go
set_option linter.unusedSimpArgs false
set_option linter.unusedVariables false

theorem rt_len (L : List Rt) : ∀ y ∈ L, y.enc.length = 7 ∧ ∀ u ∈ y.enc, oneCell u = true := fun y _ => ⟨rfl, by simp [Rt.enc]⟩

theorem cat_routes {h : Hp} {v w : Value} {xs ys : List Rt} {k : Value → Hp → Prop} (S : SlAt h T_api_Route 7 Rt.enc v xs) (R0 : Src h 7 Rt.enc w ys) (hbd : xs.length + ys.length ≤ 1000000)
    (K : ∀ v' h', SlAt h' T_api_Route 7 Rt.enc v' (xs ++ ys) → Grew h h' v v' → k v' h') : arun Try.prog (Builtin.append_ #[39, 39] 39 #[v, w]) h k :=
  arun_cat und_39 und_39 size_27 bytes_27 zero_27 (by decide) rfl S R0 (by omega) K

def ofN (m : List (RK × Rt)) (a : Nat) (l : Int) (n : Nat) : List Rt := (List.range n).filterMap fun (d : Nat) => getM m ((a, l), (d : Int))

theorem ofN_succ (m : List (RK × Rt)) (a : Nat) (l : Int) (n : Nat) : ofN m a l (n + 1) = ofN m a l n ++ (getM m ((a, l), (n : Int))).toList := by
  unfold ofN
  rw [List.range_succ, List.filterMap_append]
  congr 1

theorem ofN_length (m : List (RK × Rt)) (a : Nat) (l : Int) (n : Nat) : (ofN m a l n).length ≤ n := by
  unfold ofN
  have := List.length_filterMap_le (fun d : Nat => getM m ((a, l), (d : Int))) (List.range n)
  simpa using this

section
variable {h : Hp} {r : Nat} {most rf : Int} {m : List (RK × Rt)} {T : PL} {k : Nat} {O : List Nat} {a : Nat} {l : Int} {Q : Value → Hp → Prop}

def OfInv (h0 : Hp) (r b3 : Nat) (m : List (RK × Rt)) (a : Nat) (l : Int) (mm : Nat) (env : Env) (g : Hp) : Prop :=
  ∃ (i : Nat) (v : Value), i + mm = 16 ∧ env 0 = .pointer (some ⟨r, 0, none⟩) ∧ env 3 = .pointer (some ⟨b3, 0, none⟩) ∧ env 5 = v ∧ env 9 = .int .i64 (i : Nat) ∧ Le h0 g ∧ SlAt g T_api_Route 7 Rt.enc v (ofN m a l i) ∧ ∀ b, blkOf v = some b → h0 b = none

set_option maxRecDepth 20000 in
set_option maxHeartbeats 2000000 in
theorem rofM (M : RibM h r most rf m T k O) (hQ : ∀ v h', Le h h' → SlAt h' T_api_Route 7 Rt.enc v (ofN m a l 16) → (∀ b, blkOf v = some b → h b = none) → Q v h') :
    Ok Try.prog F_rib_Rib_of #[.pointer (some ⟨r, 0, none⟩), .agg #[.int .u32 (a : Nat), .int .i64 l]] h Q := by
  refine rib_Rib_of_ok (by simp) ?_
  unfold rib_Rib_of_D
  simp (disch := omega) [rib_Rib_of_r0, rib_Rib_of_r1, rib_Rib_of_r2]
  intro b3 hb3
  have L1 : Le h (h.upd b3 (.cells #[.int .u32 (a : Nat), .int .i64 l] 24)) := .new hb3
  have f3 : (h.upd b3 (.cells #[.int .u32 (a : Nat), .int .i64 l] 24)) b3 = some (.cells #[.int .u32 (a : Nat), .int .i64 l] 24) := upd_same
  generalize h.upd b3 (.cells #[.int .u32 (a : Nat), .int .i64 l] 24) = g1 at *
  have M1 := M.le L1
  refine ⟨OfInv g1 r b3 m a l, ⟨16, 0, .slice none 0 0, by omega, by simp, by simp, by simp, by simp, .refl _, .inl ⟨rfl, rfl⟩, by simp [blkOf]⟩, ?_⟩
  rintro mm env g ⟨i, v, him, e0, e3, e5, e9, lg, S, nv⟩
  unfold rib_Rib_of_L0
  by_cases hm0 : mm = 0
  · have : i = 16 := by omega
    subst this
    simp (disch := omega) [rib_Rib_of_r3, rib_Rib_of_r9, e0, e3, e5, e9]
    exact .to _ (.refl _) (hQ v _ (L1.trans lg) S (fun b e => none_of_le L1 (nv b e)))
  · have hi : i < 16 := by omega
    have hi' : (i : Int) < 16 := by omega
    obtain ⟨mr, t, nb, N, hr, hm, hT, hN, h0, h1, hO, hmo, R⟩ := M1.le lg
    have f3' := lg _ _ f3
    obtain ⟨y, hy⟩ : ∃ y, y = (getM m ((a, l), (i : Int))).getD rz := ⟨_, rfl⟩
    obtain ⟨s, hs⟩ : ∃ s, s = (getM m ((a, l), (i : Int))).isSome := ⟨_, rfl⟩
    have lk := fun h M => rk_look (p := ((a, l), (i : Int))) (h := h) (r := mr) (m := m) M
    rw [← hy, ← hs] at lk
    simp only [] at lk
    have lk2 := lk _ hm
    simp (disch := omega) [rib_Rib_of_r3, rib_Rib_of_r4, rib_Rib_of_r5, e0, e3, e5, e9, hi, hi', hr, f3', lk2]
    intro b7 hb7
    have lk7 := lk (g.upd b7 (.cells #[.int .u32 0, .int .i64 0, .int .i64 0, .int .i64 0, .int .i64 0, .int .i64 0, .int .u16 0] 27)) (by
      obtain ⟨es, cl, em, hE⟩ := hm
      exact ⟨es, cl, by rw [upd_ne (ne_new em hb7)]; exact em, hE⟩)
    have n3 : b3 ≠ b7 := ne_new f3' hb7
    have nr : r ≠ b7 := ne_new hr hb7
    simp (disch := omega) [lk7, hr, f3', n3, nr]
    clear lk lk2 lk7
    have L7 := Le.new (o := rcl y) hb7
    have f7 : (g.upd b7 (rcl y)) b7 = some (rcl y) := upd_same
    have S7 := S.le' L7
    replace lg := lg.trans L7
    clear L7 hr hm hT f3' n3 nr
    generalize g.upd b7 (rcl y) = g7 at *
    have tk := ofN_succ m a l i
    cases s with
    | false =>
      have hsm : getM m ((a, l), (i : Int)) = none := Option.not_isSome_iff_eq_none.1 (by rw [← hs]; simp)
      rw [hsm, Option.toList_none, List.append_nil] at tk
      simp (disch := omega) [rib_Rib_of_r6, rib_Rib_of_r8, e0, e3, e5, e9, wrap_i64]
      exact ⟨mm - 1, by omega, i + 1, v, by omega, by simp [e0], by simp [e3], by simp [e5], by simp, lg, by rw [tk]; exact S7, nv⟩
    | true =>
      obtain ⟨z, hz⟩ := Option.isSome_iff_exists.1 hs.symm
      rw [hz] at hy tk
      simp only [Option.getD_some] at hy
      subst hy
      simp (disch := omega) [rib_Rib_of_r6, rib_Rib_of_r7, e0, e3, e5, e9, f7]
      intro b8 hb8
      have L8 := Le.new (o := rcl y) hb8
      have f8 : (g7.upd b8 (rcl y)) b8 = some (rcl y) := upd_same
      have S8 := S7.le' L8
      have o8 : SlAt (g7.upd b8 (rcl y)) T_api_Route 7 Rt.enc (.slice (some ⟨b8, 0, none⟩) 1 1) [y] := one_sl f8 rfl
      have := ofN_length m a l i
      refine cat_routes S8 (o8.toSrc (rt_len _)) (by simp; omega) (fun v' g' S' G => ?_)
      simp (disch := omega) [rib_Rib_of_r8, e0, e3, e5, e9, wrap_i64]
      refine ⟨mm - 1, by omega, i + 1, v', by omega, by simp [e0], by simp [e3], by simp, by simp, fun x o e => G.keep x o (L8 _ _ (lg _ _ e)) (fun q => ?_), by rw [tk]; exact S', fun b e => ?_⟩
      · rw [nv x q.symm] at e; cases e
      · rcases G.fresh with q | q
        · exact nv b (by rw [← q]; exact e)
        · exact none_of_le (lg.trans L8) (q b e)
end
end Go.Proofs.Ytmbhlbohbpepaaa
