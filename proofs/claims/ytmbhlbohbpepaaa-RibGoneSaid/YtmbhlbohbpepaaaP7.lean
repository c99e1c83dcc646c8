/- The table's Put. -/
import Derived.Test.YtmbhlbohbpepaaaP6
namespace Go.Proofs.Ytmbhlbohbpepaaa
open Go
set_option linter.unusedSimpArgs false
set_option linter.unusedVariables false

def putS (most rf : Int) (m : List (RK × Rt)) (x : Rt) : Int × Int × List (RK × Rt) :=
  if mayR x = false then (1, rf, m) else if getM m x.key = none ∧ most ≤ (m.length : Int) then (4, rf + 1, m) else (0, rf, setM x.key x m)

theorem RibM.more {h : Hp} {r : Nat} {most rf : Int} {m : List (RK × Rt)} {T : PL} {k k' : Nat} {O : List Nat} (M : RibM h r most rf m T k O) (hk : k ≤ k') : RibM h r most rf m T k' O := by
  obtain ⟨mr, t, nb, N, hr, hm, hT, hN, h0, hk, rfl, hmo, R⟩ := M
  exact ⟨mr, t, nb, N, hr, hm, hT, by omega, h0, by omega, rfl, hmo, R⟩

abbrev rcl (x : Rt) : Obj := .cells #[.int .u32 (x.a : Nat), .int .i64 x.l, .int .i64 x.d, .int .i64 x.ds, .int .i64 x.m, .int .i64 x.nx, .int .u16 (x.tg : Nat)] 27

section
variable {h : Hp} {r : Nat} {most rf : Int} {m : List (RK × Rt)} {T : PL} {k : Nat} {O : List Nat} {x : Rt} {Q : Value → Hp → Prop}

/-- The last step of Put: the route is put into the map. -/
theorem rput_end {mr t nb N : Nat} {T' : PL} (hr : h r = some (.cells #[.int .i64 most, .int .i64 rf, .map (some mr), .pointer (some ⟨t, 0, none⟩)] 63 (0, 0))) (hm : MapAt h mr rk rve m) (hT : TrieM h t nb 64 T' N) (hN : N ≤ 1 + 32 * k) (h0 : 0 ≤ rf) (h1 : rf ≤ k) (hmo : most ≤ 64)
    (R : RInv (setM x.key x m) T') (es : Array MapEntry) (cl : Nat) (hE : Ents rk rve es.toList (setM x.key x m)) : Fr h (h.upd mr (.map es cl)) [r, mr, t, nb] [r, mr, t, nb] ∧ RibM (h.upd mr (.map es cl)) r most rf (setM x.key x m) T' k [r, mr, t, nb] := by
  have ne := ribNe hr hm hT
  refine ⟨.upd (by simp), mr, t, nb, N, ?_, ⟨es, cl, upd_same, hE⟩, hT.mono (fun o e => ?_) (fun o e => ?_) (Nat.le_refl _), hN, h0, h1, rfl, hmo, R⟩
  · rw [upd_ne ne.rm]; exact hr
  · rw [upd_ne (Ne.symm ne.mt)]; exact e
  · rw [upd_ne (Ne.symm ne.mn)]; exact e

theorem Chg.fr {h h' : Hp} {t nb nb' r mr : Nat} (C : Chg h h' t nb nb') : Fr h h' [r, mr, t, nb] [r, mr, t, nb'] := by
  refine ⟨fun x o e n => ?_, fun x e => ?_⟩
  · simp only [List.mem_cons, List.not_mem_nil, or_false, not_or] at n
    exact C.keep x o e n.2.2.1 n.2.2.2
  · simp only [List.mem_cons, List.not_mem_nil, or_false] at e ⊢
    rcases e with e | e | e | e
    · exact .inl (.inl e)
    · exact .inl (.inr (.inl e))
    · exact .inl (.inr (.inr (.inl e)))
    · rcases C.fresh with q | q
      · exact .inl (.inr (.inr (.inr (by rw [e, q]))))
      · exact .inr (by rw [e]; exact q)

set_option maxRecDepth 20000 in
set_option maxHeartbeats 2000000 in
theorem rputM (M : RibM h r most rf m T k O) (hx : x.Good) (hk : k ≤ 30000)
    (hQ : ∀ h' O' T', Fr h h' O O' → RibM h' r most (putS most rf m x).2.1 (putS most rf m x).2.2 T' (k + 1) O' → Q (.int .i64 (putS most rf m x).1) h') : Ok Try.prog F_rib_Rib_Put #[.pointer (some ⟨r, 0, none⟩), rv x] h Q := by
  refine rib_Rib_Put_ok (by simp) ?_
  unfold rib_Rib_Put_D
  simp (disch := omega) [rib_Rib_Put_r0]
  intro b3 hb3
  have L1 : Le h (h.upd b3 (rcl x)) := .new hb3
  have f3 : (h.upd b3 (rcl x)) b3 = some (rcl x) := upd_same
  generalize h.upd b3 (rcl x) = g1 at *
  simp (disch := omega) [rib_Rib_Put_r1, f3]
  intro b5 hb5
  simp (disch := omega)
  have L2 := Le.new (o := .cells #[.int .u32 (x.a : Nat), .int .i64 x.l, .int .i64 x.d] 65) hb5
  have f5 : (g1.upd b5 (.cells #[.int .u32 (x.a : Nat), .int .i64 x.l, .int .i64 x.d] 65)) b5 = some (.cells #[.int .u32 (x.a : Nat), .int .i64 x.l, .int .i64 x.d] 65) := upd_same
  replace f3 := L2 _ _ f3
  have L12 := L1.trans L2
  have o3 : b3 ∉ O := fun q => by obtain ⟨o, e⟩ := M.alive _ q; rw [hb3] at e; cases e
  have o5 : b5 ∉ O := fun q => by obtain ⟨o, e⟩ := (M.le L1).alive _ q; rw [hb5] at e; cases e
  clear L1 L2 hb5
  generalize g1.upd b5 (.cells #[.int .u32 (x.a : Nat), .int .i64 x.l, .int .i64 x.d] 65) = g2 at *
  obtain ⟨mr, t, nb, N, hr, hm, hT, hN, h0, h1, hO, hmo, R⟩ := M.le L12
  obtain ⟨y, hy⟩ : ∃ y, y = (getM m x.key).getD rz := ⟨_, rfl⟩
  obtain ⟨s, hs⟩ : ∃ s, s = (getM m x.key).isSome := ⟨_, rfl⟩
  have lk := fun h M => rk_look (p := x.key) (h := h) (r := mr) (m := m) M
  rw [← hy, ← hs] at lk
  simp only [Rt.key] at lk
  have lk2 := lk _ hm
  simp (disch := omega) [rib_Rib_Put_r2, hr, f5, lk2]
  intro b6 hb6
  have lk6 := lk (g2.upd b6 (.cells #[.int .u32 0, .int .i64 0, .int .i64 0, .int .i64 0, .int .i64 0, .int .i64 0, .int .u16 0] 27)) (by
    obtain ⟨es, cl, em, hE⟩ := hm
    exact ⟨es, cl, by rw [upd_ne (ne_new em hb6)]; exact em, hE⟩)
  have n5 : b5 ≠ b6 := ne_new f5 hb6
  have n3 : b3 ≠ b6 := ne_new f3 hb6
  have nr : r ≠ b6 := ne_new hr hb6
  simp (disch := omega) [lk6, hr, f5, n5, nr]
  clear lk6 lk lk2
  have L3 := Le.new (o := rcl y) hb6
  replace f3 := L3 _ _ f3
  replace f5 := L3 _ _ f5
  have L := L12.trans L3
  clear L12 L3 hr hm hT hb6 nr n5 n3
  generalize g2.upd b6 (rcl y) = g3 at *
  have M3 := M.le L
  have M3' := M3
  obtain ⟨mr', t', nb', N', hr, hm, hT, hN', _, _, hO', _, _⟩ := M3'
  rw [hO] at hO'
  simp only [List.cons.injEq, true_and, and_true] at hO'
  obtain ⟨rfl, rfl, rfl⟩ := hO'
  have al := M3.alive
  rw [hO] at al hQ o3 o5
  have ne := ribNe hr hm hT
  simp (disch := omega) [rib_Rib_Put_r3, f3]
  refine mayR_spec hx ?_
  by_cases hmay : mayR x = false
  · have e : putS most rf m x = (1, rf, m) := by unfold putS; rw [if_pos hmay]
    rw [e] at hQ
    simp only [] at hQ
    simp (disch := omega) [rib_Rib_Put_r4, hmay]
    exact .to _ (.refl _) (hQ _ _ T (.of_le L fun _ q => .inl q) (by rw [← hO]; exact M3.more (by omega)))
  have hmay' : mayR x = true := by simpa using hmay
  have ml := rk_len (R := 3) hm
  simp (disch := omega) [hmay']
  have hlen := R.len
  cases s with
  | true =>
    have hsm : getM m x.key ≠ none := Option.isSome_iff_ne_none.1 hs.symm
    have e : putS most rf m x = (0, rf, setM x.key x m) := by unfold putS; rw [hmay', if_neg (by simp), if_neg (fun q => hsm q.1)]
    rw [e] at hQ
    simp only [] at hQ
    simp (disch := omega) [rib_Rib_Put_r5, rib_Rib_Put_r8]
    simp (disch := omega) [rib_Rib_Put_r11, rib_Rib_Put_r12, hr, f3, f5]
    refine rk_put hm (fun es cl hE => ?_)
    obtain ⟨F, M'⟩ := rput_end (x := x) (k := k + 1) hr hm hT (by omega) h0 (by omega) hmo (R.swap hmay' hx hsm) es cl hE
    exact .to _ (.refl _) (hQ _ _ _ ((Fr.of_le L fun _ q => .inl q).trans F) M')
  | false =>
    have hsm : getM m x.key = none := Option.not_isSome_iff_eq_none.1 (by rw [← hs]; simp)
    by_cases hfull : most ≤ (m.length : Int)
    · have e : putS most rf m x = (4, rf + 1, m) := by unfold putS; rw [hmay', if_neg (by simp), if_pos ⟨hsm, hfull⟩]
      rw [e] at hQ
      simp only [] at hQ
      simp (disch := omega) [rib_Rib_Put_r5, hr, ml, hfull]
      simp (disch := omega) [rib_Rib_Put_r6, rib_Rib_Put_r7, hr, wrap_i64]
      refine .to _ (.refl _) (hQ _ _ T ((Fr.of_le L fun _ q => .inl q).trans (.upd (by simp))) ⟨mr, t, nb, N', upd_same, ?_, hT.mono (fun o e => ?_) (fun o e => ?_) (Nat.le_refl _), by omega, by omega, by omega, rfl, hmo, R⟩)
      · obtain ⟨es, cl, em, hE⟩ := hm
        exact ⟨es, cl, by rw [upd_ne (Ne.symm ne.rm)]; exact em, hE⟩
      · rw [upd_ne (Ne.symm ne.rt)]; exact e
      · rw [upd_ne (Ne.symm ne.rn)]; exact e
    · have e : putS most rf m x = (0, rf, setM x.key x m) := by unfold putS; rw [hmay', if_neg (by simp), if_neg (fun q => hfull q.2)]
      rw [e] at hQ
      simp only [] at hQ
      have hfull' : ¬ most ≤ (m.length : Int) := hfull
      simp (disch := omega) [rib_Rib_Put_r5, hr, ml, hfull]
      simp (disch := omega) [rib_Rib_Put_r8]
      simp (disch := omega) [rib_Rib_Put_r9, hr, f3]
      refine tGetM hT hx.a ?_
      simp (disch := omega)
      have hadd := R.add hmay' hx hsm (by omega)
      have hcn : (getR T x.a x.l).getD 0 ≤ 64 ∧ 0 ≤ (getR T x.a x.l).getD 0 := by
        have hgr : getR T x.a x.l = getL T (pf x.key) := by unfold getR; rw [if_pos (mayR_mayB hmay')]; rfl
        rw [hgr, R.cnt]
        have : cntP m (pf x.key) ≤ m.length := by unfold cntP; have := List.countP_le_length (p := fun k => decide (pf k = pf x.key)) (l := m.map (·.1)); simpa using this
        split <;> simp <;> omega
      generalize (getR T x.a x.l).getD 0 = n at *
      simp (disch := omega) [rib_Rib_Put_r10, hr, f3, wrap_i64]
      refine tPutM hT hx.a (by omega) (fun g4 nb4 C4 T4 => ?_)
      have F4 : Fr g3 g4 [r, mr, t, nb] [r, mr, t, nb4] := C4.fr
      have hr4 := C4.keep _ _ hr ne.rt ne.rn
      have hm4 : MapAt g4 mr rk rve m := by
        obtain ⟨es, cl, em, hE⟩ := hm
        exact ⟨es, cl, C4.keep _ _ em ne.mt ne.mn, hE⟩
      have f34 := F4.keep _ _ f3 o3
      have f54 := F4.keep _ _ f5 o5
      simp (disch := omega) [rib_Rib_Put_r11, rib_Rib_Put_r12, hr4, f34, f54]
      refine rk_put hm4 (fun es cl hE => ?_)
      obtain ⟨F, M'⟩ := rput_end (x := x) (k := k + 1) hr4 hm4 T4 (by omega) h0 (by omega) hmo hadd es cl hE
      exact .to _ (.refl _) (hQ _ _ _ (((Fr.of_le L fun _ q => .inl q).trans F4).trans F) M')
end
end Go.Proofs.Ytmbhlbohbpepaaa
