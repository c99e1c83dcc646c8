/- The table's Take. -/
import Derived.Test.YtmbhlbohbpepaaaP7
namespace Go.Proofs.Ytmbhlbohbpepaaa
open Go
set_option linter.unusedSimpArgs false
set_option linter.unusedVariables false

section
variable {h : Hp} {r : Nat} {most rf : Int} {m : List (RK × Rt)} {T : PL} {k : Nat} {O : List Nat} {a : Nat} {l d : Int} {Q : Value → Hp → Prop}

set_option maxRecDepth 20000 in
set_option maxHeartbeats 2000000 in
theorem rtakeM (M : RibM h r most rf m T k O) (ha : a < 2 ^ 32) (hk : k ≤ 30000)
    (hQ5 : getM m ((a, l), d) = none → ∀ h', Le h h' → RibM h' r most rf m T k O → Q (.int .i64 5) h')
    (hQ0 : getM m ((a, l), d) ≠ none → ∀ h' O' T', Fr h h' O O' → RibM h' r most rf (delM ((a, l), d) m) T' (k + 1) O' → Q (.int .i64 0) h') :
    Ok Try.prog F_rib_Rib_Take #[.pointer (some ⟨r, 0, none⟩), .agg #[.int .u32 (a : Nat), .int .i64 l], .int .i64 d] h Q := by
  refine rib_Rib_Take_ok (by simp) ?_
  unfold rib_Rib_Take_D
  simp (disch := omega) [rib_Rib_Take_r0]
  intro b4 hb4
  have L1 : Le h (h.upd b4 (.cells #[.int .u32 (a : Nat), .int .i64 l] 24)) := .new hb4
  have f4 : (h.upd b4 (.cells #[.int .u32 (a : Nat), .int .i64 l] 24)) b4 = some (.cells #[.int .u32 (a : Nat), .int .i64 l] 24) := upd_same
  generalize h.upd b4 (.cells #[.int .u32 (a : Nat), .int .i64 l] 24) = g1 at *
  simp (disch := omega) [rib_Rib_Take_r1, f4]
  intro b7 hb7
  simp (disch := omega)
  have L2 := Le.new (o := .cells #[.int .u32 (a : Nat), .int .i64 l, .int .i64 d] 65) hb7
  have f7 : (g1.upd b7 (.cells #[.int .u32 (a : Nat), .int .i64 l, .int .i64 d] 65)) b7 = some (.cells #[.int .u32 (a : Nat), .int .i64 l, .int .i64 d] 65) := upd_same
  replace f4 := L2 _ _ f4
  have L12 := L1.trans L2
  have o4 : b4 ∉ O := fun q => by obtain ⟨o, e⟩ := M.alive _ q; rw [hb4] at e; cases e
  have o7 : b7 ∉ O := fun q => by obtain ⟨o, e⟩ := (M.le L1).alive _ q; rw [hb7] at e; cases e
  clear L1 L2 hb7
  generalize g1.upd b7 (.cells #[.int .u32 (a : Nat), .int .i64 l, .int .i64 d] 65) = g2 at *
  obtain ⟨mr, t, nb, N, hr, hm, hT, hN, h0, h1, hO, hmo, R⟩ := M.le L12
  obtain ⟨y, hy⟩ : ∃ y, y = (getM m ((a, l), d)).getD rz := ⟨_, rfl⟩
  obtain ⟨s, hs⟩ : ∃ s, s = (getM m ((a, l), d)).isSome := ⟨_, rfl⟩
  have lk := fun h M => rk_look (p := ((a, l), d)) (h := h) (r := mr) (m := m) M
  rw [← hy, ← hs] at lk
  simp only [] at lk
  have lk2 := lk _ hm
  simp (disch := omega) [rib_Rib_Take_r2, hr, f7, lk2]
  intro b6 hb6
  have lk6 := lk (g2.upd b6 (.cells #[.int .u32 0, .int .i64 0, .int .i64 0, .int .i64 0, .int .i64 0, .int .i64 0, .int .u16 0] 27)) (by
    obtain ⟨es, cl, em, hE⟩ := hm
    exact ⟨es, cl, by rw [upd_ne (ne_new em hb6)]; exact em, hE⟩)
  have n7 : b7 ≠ b6 := ne_new f7 hb6
  have n4 : b4 ≠ b6 := ne_new f4 hb6
  have nr : r ≠ b6 := ne_new hr hb6
  simp (disch := omega) [lk6, hr, f7, n7, nr]
  clear lk6 lk lk2
  have L3 := Le.new (o := rcl y) hb6
  replace f4 := L3 _ _ f4
  replace f7 := L3 _ _ f7
  have L := L12.trans L3
  clear L12 L3 hr hm hT hb6 nr n7 n4
  generalize g2.upd b6 (rcl y) = g3 at *
  have M3 := M.le L
  have M3' := M3
  obtain ⟨mr', t', nb', N', hr, hm, hT, hN', _, _, hO', _, _⟩ := M3'
  rw [hO] at hO'
  simp only [List.cons.injEq, true_and, and_true] at hO'
  obtain ⟨rfl, rfl, rfl⟩ := hO'
  rw [hO] at hQ0 o4 o7
  have ne := ribNe hr hm hT
  cases s with
  | false =>
    have hsm : getM m ((a, l), d) = none := Option.not_isSome_iff_eq_none.1 (by rw [← hs]; simp)
    simp (disch := omega) [rib_Rib_Take_r3, rib_Rib_Take_r4]
    exact .to _ (.refl _) (hQ5 hsm _ L M3)
  | true =>
    have hsm : getM m ((a, l), d) ≠ none := Option.isSome_iff_ne_none.1 hs.symm
    simp (disch := omega) [rib_Rib_Take_r3]
    simp (disch := omega) [rib_Rib_Take_r5, hr, f7]
    refine rk_del hm (fun es cl hE => ?_)
    have F4 : Fr g3 (g3.upd mr (.map es cl)) [r, mr, t, nb] [r, mr, t, nb] := .upd (by simp)
    have hr4 : (g3.upd mr (.map es cl)) r = _ := (upd_ne ne.rm).trans hr
    have hm4 : MapAt (g3.upd mr (.map es cl)) mr rk rve (delM ((a, l), d) m) := ⟨es, cl, upd_same, hE⟩
    have hT4 : TrieM (g3.upd mr (.map es cl)) t nb 64 T N' := hT.mono (fun o e => by rw [upd_ne (Ne.symm ne.mt)]; exact e) (fun o e => by rw [upd_ne (Ne.symm ne.mn)]; exact e) (Nat.le_refl _)
    have f44 := F4.keep _ _ f4 o4
    generalize g3.upd mr (.map es cl) = g4 at *
    have ne4 := ribNe hr4 hm4 hT4
    simp (disch := omega) [rib_Rib_Take_r6, hr4, f44]
    refine tGetM hT4 ha ?_
    have hdel := R.del hsm
    simp only [] at hdel
    have hcn : (getR T a l).getD 0 ≤ 64 := by
      unfold getR
      split
      · rw [R.cnt]
        have : cntP m (a, l.toNat) ≤ m.length := by unfold cntP; have := List.countP_le_length (p := fun k => decide (pf k = (a, l.toNat))) (l := m.map (·.1)); simpa using this
        have := R.len
        split <;> simp; omega
      · simp
    by_cases h1n : (getR T a l).getD 0 > 1
    · rw [if_pos h1n] at hdel
      have h1n' : 1 < (getR T a l).getD 0 := h1n
      generalize (getR T a l).getD 0 = n at *
      simp (disch := omega) [rib_Rib_Take_r7, h1n']
      simp (disch := omega) [rib_Rib_Take_r8, hr4, f44, wrap_i64]
      refine tPutM hT4 ha (by omega) (fun g5 nb5 C5 T5 => ?_)
      have hr5 := C5.keep _ _ hr4 ne4.rt ne4.rn
      have F5 : Fr g4 g5 [r, mr, t, nb] [r, mr, t, nb5] := C5.fr
      have hm5 : MapAt g5 mr rk rve (delM ((a, l), d) m) := by
        obtain ⟨es, cl, em, hE⟩ := hm4
        exact ⟨es, cl, C5.keep _ _ em ne4.mt ne4.mn, hE⟩
      simp (disch := omega) [rib_Rib_Take_r10]
      exact .to _ (.refl _) (hQ0 hsm _ _ _ (((Fr.of_le L fun _ q => .inl q).trans F4).trans F5) ⟨mr, t, nb5, _, hr5, hm5, T5, by omega, h0, by omega, rfl, hmo, hdel⟩)
    · rw [if_neg h1n] at hdel
      have h1n' : ¬ 1 < (getR T a l).getD 0 := h1n
      simp (disch := omega) [rib_Rib_Take_r7, h1n']
      simp (disch := omega) [rib_Rib_Take_r9, hr4, f44]
      refine tTakeM hT4 ha (by omega) (fun g5 C5 T5 => ?_)
      have hr5 := C5.keep _ _ hr4 ne4.rt ne4.rn
      have F5 : Fr g4 g5 [r, mr, t, nb] [r, mr, t, nb] := C5.fr
      have hm5 : MapAt g5 mr rk rve (delM ((a, l), d) m) := by
        obtain ⟨es, cl, em, hE⟩ := hm4
        exact ⟨es, cl, C5.keep _ _ em ne4.mt ne4.mn, hE⟩
      simp (disch := omega) [rib_Rib_Take_r10]
      exact .to _ (.refl _) (hQ0 hsm _ _ _ (((Fr.of_le L fun _ q => .inl q).trans F4).trans F5) ⟨mr, t, nb, _, hr5, hm5, T5, by omega, h0, by omega, rfl, hmo, hdel⟩)
end
end Go.Proofs.Ytmbhlbohbpepaaa
