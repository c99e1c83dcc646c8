/- The table's calls: New, Put, Take, Refused. -/
import Derived.Test.YtmbhlbohbpepaaaP5
namespace Go.Proofs.Ytmbhlbohbpepaaa
open Go
set_option linter.unusedSimpArgs false
set_option linter.unusedVariables false

/-- A table in memory: its bound, how many were refused, its routes, its prefixes, how much it has been written; the blocks that are its own. -/
def RibM (h : Hp) (r : Nat) (most rf : Int) (m : List (RK × Rt)) (T : PL) (k : Nat) (O : List Nat) : Prop :=
  ∃ mr t nb N, h r = some (.cells #[.int .i64 most, .int .i64 rf, .map (some mr), .pointer (some ⟨t, 0, none⟩)] 63 (0, 0)) ∧ MapAt h mr rk rve m ∧ TrieM h t nb 64 T N ∧ N ≤ 1 + 32 * k ∧ 0 ≤ rf ∧ rf ≤ k ∧ O = [r, mr, t, nb] ∧ most ≤ 64 ∧ RInv m T

theorem TrieM.cells {h : Hp} {t nb : Nat} {most : Int} {T : PL} {N : Nat} (M : TrieM h t nb most T N) : (∃ c, h t = some (.cells c 82 (0, 0))) ∧ ∃ c, h nb = some (.cells c 87 (0, 0)) := by
  obtain ⟨ns, cap, c, A, _⟩ := M
  exact ⟨⟨_, A.t⟩, ⟨_, A.nb⟩⟩

theorem TrieM.srt' {h : Hp} {t nb : Nat} {most : Int} {L : PL} {N : Nat} (M : TrieM h t nb most L N) : Srt L ∧ ∀ x ∈ L, Pok x.1 := by
  obtain ⟨ns, cap, c, T, R, _⟩ := M; exact ⟨R.srt, R.pok⟩

structure RibNe (h : Hp) (r mr t nb : Nat) : Prop where
  rm : r ≠ mr
  rt : r ≠ t
  rn : r ≠ nb
  mt : mr ≠ t
  mn : mr ≠ nb
  tn : t ≠ nb

theorem ribNe {h : Hp} {r mr t nb : Nat} {c : Array Value} {m : List (RK × Rt)} {most : Int} {T : PL} {N : Nat} (hr : h r = some (.cells c 63 (0, 0))) (hm : MapAt h mr rk rve m) (M : TrieM h t nb most T N) : RibNe h r mr t nb := by
  obtain ⟨es, cl, em, _⟩ := hm
  obtain ⟨⟨c1, e1⟩, ⟨c2, e2⟩⟩ := M.cells
  refine ⟨?_, ?_, ?_, ?_, ?_, M.ne⟩ <;> intro q <;> subst q
  · rw [hr] at em; cases em
  · rw [hr] at e1; cases e1
  · rw [hr] at e2; cases e2
  · rw [em] at e1; cases e1
  · rw [em] at e2; cases e2

theorem RibM.keep {h h' : Hp} {r : Nat} {most rf : Int} {m : List (RK × Rt)} {T : PL} {k : Nat} {O : List Nat} (M : RibM h r most rf m T k O) (l : ∀ x o, x ∈ O → h x = some o → h' x = some o) : RibM h' r most rf m T k O := by
  obtain ⟨mr, t, nb, N, hr, ⟨es, cl, em, hE⟩, hT, hN, h0, hk, rfl, hmo, R⟩ := M
  exact ⟨mr, t, nb, N, l _ _ (by simp) hr, ⟨es, cl, l _ _ (by simp) em, hE⟩, hT.mono (fun o e => l _ _ (by simp) e) (fun o e => l _ _ (by simp) e) (Nat.le_refl _), hN, h0, hk, rfl, hmo, R⟩

theorem RibM.le {h h' : Hp} {r : Nat} {most rf : Int} {m : List (RK × Rt)} {T : PL} {k : Nat} {O : List Nat} (M : RibM h r most rf m T k O) (l : Le h h') : RibM h' r most rf m T k O := M.keep fun _ _ _ e => l _ _ e

theorem RibM.alive {h : Hp} {r : Nat} {most rf : Int} {m : List (RK × Rt)} {T : PL} {k : Nat} {O : List Nat} (M : RibM h r most rf m T k O) : ∀ x, x ∈ O → ∃ o, h x = some o := by
  obtain ⟨mr, t, nb, N, hr, ⟨es, cl, em, hE⟩, hT, hN, h0, hk, rfl, hmo, R⟩ := M
  obtain ⟨⟨c1, e1⟩, ⟨c2, e2⟩⟩ := hT.cells
  intro x hx
  simp only [List.mem_cons, List.not_mem_nil, or_false] at hx
  rcases hx with rfl | rfl | rfl | rfl
  · exact ⟨_, hr⟩
  · exact ⟨_, em⟩
  · exact ⟨_, e1⟩
  · exact ⟨_, e2⟩

theorem RibM.inv {h : Hp} {r : Nat} {most rf : Int} {m : List (RK × Rt)} {T : PL} {k : Nat} {O : List Nat} (M : RibM h r most rf m T k O) : RInv m T := by
  obtain ⟨mr, t, nb, N, hr, ⟨es, cl, em, hE⟩, hT, hN, h0, hk, rfl, hmo, R⟩ := M
  exact R

section
variable {h : Hp} {r : Nat} {most rf : Int} {m : List (RK × Rt)} {T : PL} {k : Nat} {O : List Nat} {Q : Value → Hp → Prop}

theorem rnewM (hQ : ∀ r h' O, Le h h' → (∀ x, x ∈ O → h x = none) → RibM h' r (min most 64) 0 [] [] 0 O → Q (.pointer (some ⟨r, 0, none⟩)) h') : Ok Try.prog F_rib_New #[.int .i64 most] h Q := by
  refine rib_New_ok (by simp) ?_
  unfold rib_New_D
  simp (disch := omega) [rib_New_r0, rib_New_r1]
  refine arun_makeMap (fun b hb => ?_)
  have l1 : Le h (h.upd b (.map #[] 0)) := .new hb
  have eb : (h.upd b (.map #[] 0)) b = some (.map #[] 0) := upd_same
  generalize h.upd b (.map #[] 0) = g1 at *
  refine tNewM (fun t nb g2 ht hnb l2 M2 => ?_)
  have eb2 := l2 _ _ eb
  simp (disch := omega)
  intro r hr
  have l3 := Le.new (o := .cells #[.int .i64 (min most 64), .int .i64 0, .map (some b), .pointer (some ⟨t, 0, none⟩)] 63) hr
  refine .to _ (.refl _) (hQ r _ [r, b, t, nb] ((l1.trans l2).trans l3) ?_ ⟨b, t, nb, 1, upd_same, ⟨#[], 0, l3 _ _ eb2, .nil⟩, M2.le l3 (Nat.le_refl _), by omega, by omega, by omega, rfl, by omega, ⟨by simp [Uniq], by simp, fun p => by simp [cntP, getL], by simp, by simp [Srt]⟩⟩)
  intro x hx
  simp only [List.mem_cons, List.not_mem_nil, or_false] at hx
  rcases hx with rfl | rfl | rfl | rfl
  · exact none_of_le (l1.trans l2) hr
  · exact hb
  · exact none_of_le l1 ht
  · exact none_of_le l1 hnb

theorem rrefM (M : RibM h r most rf m T k O) (hQ : Q (.int .i64 rf) h) : Ok Try.prog F_rib_Rib_Refused #[.pointer (some ⟨r, 0, none⟩)] h Q := by
  obtain ⟨mr, t, nb, N, hr, _⟩ := M
  refine rib_Rib_Refused_ok (by simp) ?_
  unfold rib_Rib_Refused_D
  simp (disch := omega) [rib_Rib_Refused_r0, rib_Rib_Refused_r1, hr]
  exact .to _ (.refl _) hQ
end
end Go.Proofs.Ytmbhlbohbpepaaa
