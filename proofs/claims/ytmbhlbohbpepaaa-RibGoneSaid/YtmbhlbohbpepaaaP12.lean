/- The table's answers: Find, All. -/
import Derived.Test.YtmbhlbohbpepaaaP11
namespace Go.Proofs.Ytmbhlbohbpepaaa
open Go
set_option linter.unusedSimpArgs false
set_option linter.unusedVariables false

theorem RibM.trie {h : Hp} {r : Nat} {most rf : Int} {m : List (RK × Rt)} {T : PL} {k : Nat} {O : List Nat} (M : RibM h r most rf m T k O) :
    ∃ mr t nb N, h r = some (.cells #[.int .i64 most, .int .i64 rf, .map (some mr), .pointer (some ⟨t, 0, none⟩)] 63 (0, 0)) ∧ TrieM h t nb 64 T N := by
  obtain ⟨mr, t, nb, N, hr, hm, hT, _⟩ := M
  exact ⟨mr, t, nb, N, hr, hT⟩

section
variable {h : Hp} {r : Nat} {most rf : Int} {m : List (RK × Rt)} {T : PL} {k : Nat} {O : List Nat} {Q : Value → Hp → Prop}

set_option maxRecDepth 20000 in
set_option maxHeartbeats 2000000 in
theorem rfindM {addr : Nat} (M : RibM h r most rf m T k O) (ha : addr < 2 ^ 32) (hQ : ∀ h', Le h h' → Q (.tuple #[rv ((findR m T addr).getD rz), .bool (findR m T addr).isSome]) h') :
    Ok Try.prog F_rib_Rib_Find #[.pointer (some ⟨r, 0, none⟩), .int .u32 (addr : Nat)] h Q := by
  refine rib_Rib_Find_ok (by simp) ?_
  unfold rib_Rib_Find_D
  simp (disch := omega) [rib_Rib_Find_r0]
  intro b4 hb4
  have L1 : Le h (h.upd b4 (.cells #[.int .u32 0, .int .i64 0, .int .i64 0, .int .i64 0, .int .i64 0, .int .i64 0, .int .u16 0] 27)) := .new hb4
  have f4 : (h.upd b4 (.cells #[.int .u32 0, .int .i64 0, .int .i64 0, .int .i64 0, .int .i64 0, .int .i64 0, .int .u16 0] 27)) b4 = some (rcl rz) := upd_same
  generalize h.upd b4 (.cells #[.int .u32 0, .int .i64 0, .int .i64 0, .int .i64 0, .int .i64 0, .int .i64 0, .int .u16 0] 27) = g1 at *
  have M1 := M.le L1
  obtain ⟨mr, t, nb, N, hr, hT⟩ := M1.trie
  simp (disch := omega) [rib_Rib_Find_r1, hr]
  refine tFindM hT ha ?_
  simp (disch := omega)
  intro b6 hb6
  simp (disch := omega)
  have L6 := Le.new (o := .cells #[.int .u32 (fa (findL T addr)), .int .i64 (fl (findL T addr))] 24) hb6
  have f6 : (g1.upd b6 (.cells #[.int .u32 (fa (findL T addr)), .int .i64 (fl (findL T addr))] 24)) b6 = some (.cells #[.int .u32 (fa (findL T addr)), .int .i64 (fl (findL T addr))] 24) := upd_same
  replace f4 := L6 _ _ f4
  have M6 := M1.le L6
  generalize g1.upd b6 (.cells #[.int .u32 (fa (findL T addr)), .int .i64 (fl (findL T addr))] 24) = g2 at *
  unfold findR at hQ
  cases hF : findL T addr with
  | none =>
    rw [hF] at hQ
    simp only [Option.getD_none, Option.isSome_none] at hQ
    simp (disch := omega) [rib_Rib_Find_r2, rib_Rib_Find_r3]
    rw [stA_of (vals := [.int .u32 0, .int .i64 0, .int .i64 0, .int .i64 0, .int .i64 0, .int .i64 0, .int .u16 0]) f4 rfl rfl]
    simp (disch := omega)
    exact .to h (Le.put (L1.trans L6) hb4) (hQ _ (.refl _))
  | some p =>
    rw [hF] at hQ f6
    simp only [] at hQ
    simp only [fa, fl] at f6
    simp (disch := omega) [rib_Rib_Find_r2, rib_Rib_Find_r4, f6, fa, fl]
    refine rbestM M6 (fun g3 l3 => ?_)
    replace f4 := l3 _ _ f4
    simp (disch := omega)
    rw [stA_of (vals := rls ((bestR m p.1.1 (p.1.2 : Nat)).getD rz)) f4 rfl rfl]
    simp (disch := omega)
    exact .to h (Le.put ((L1.trans L6).trans l3) hb4) (hQ _ (.refl _))

def AllInv (h0 : Hp) (r : Nat) (m : List (RK × Rt)) (ps : List (Nat × Nat)) (w : Value) (mm : Nat) (env : Env) (g : Hp) : Prop :=
  ∃ (i : Nat) (v : Value), i + mm = ps.length ∧ env 0 = .pointer (some ⟨r, 0, none⟩) ∧ env 3 = v ∧ env 10 = w ∧ env 11 = .int .i64 (ps.length : Nat) ∧ env 12 = .int .i64 (i : Nat) ∧ Le h0 g ∧ SlAt g T_api_Route 7 Rt.enc v (allR m (ps.take i)) ∧ ∀ b, blkOf v = some b → h0 b = none

theorem allR_length (m : List (RK × Rt)) : ∀ (ps : List (Nat × Nat)), (allR m ps).length ≤ 16 * ps.length
  | [] => by simp [allR]
  | p :: ps => by
    have h1 := allR_length m ps
    have h2 := ofN_length m p.1 (p.2 : Nat) 16
    have e : allR m (p :: ps) = ofN m p.1 (p.2 : Nat) 16 ++ allR m ps := by simp [allR]
    rw [e, List.length_append, List.length_cons]; omega

set_option maxRecDepth 20000 in
set_option maxHeartbeats 2000000 in
theorem rallM (M : RibM h r most rf m T k O) (hQ : ∀ v h', Le h h' → SlAt h' T_api_Route 7 Rt.enc v (allR m (T.map (·.1))) → (∀ b, blkOf v = some b → h b = none) → Q v h') :
    Ok Try.prog F_rib_Rib_All #[.pointer (some ⟨r, 0, none⟩)] h Q := by
  refine rib_Rib_All_ok (by simp) ?_
  unfold rib_Rib_All_D
  obtain ⟨mr, t, nb, N, hr, hT⟩ := M.trie
  simp (disch := omega) [rib_Rib_All_r0, rib_Rib_All_r1, rib_Rib_All_r2, hr]
  refine tAllM hT (fun w g1 W l1 nw => ?_)
  obtain ⟨p, cap, hw⟩ := W.shape'
  have L1 : Le h g1 := l1
  have M1 := M.le L1
  have htl := M.inv.tlen
  have hml := M.inv.len
  have hps : (T.map (·.1)).length ≤ 64 := by rw [List.length_map]; omega
  generalize T.map (·.1) = ps at *
  simp (disch := omega) [hw]
  refine ⟨AllInv g1 r m ps w, ⟨ps.length, 0, .slice none 0 0, by omega, by simp, by simp, by simp [hw], by simp, by simp, .refl _, .inl ⟨rfl, rfl⟩, by simp [blkOf]⟩, ?_⟩
  rintro mm env g ⟨i, v, him, e0, e3, e10, e11, e12, lg, S, nv⟩
  unfold rib_Rib_All_L0
  by_cases hm0 : mm = 0
  · have : i = ps.length := by omega
    subst this
    rw [List.take_length] at S
    simp (disch := omega) [rib_Rib_All_r3, rib_Rib_All_r7, e0, e3, e10, e11, e12]
    exact .to _ (.refl _) (hQ v _ (L1.trans lg) S (fun b e => none_of_le L1 (nv b e)))
  · obtain ⟨q, hq⟩ : ∃ q, ps[i]? = some q := ⟨_, List.getElem?_eq_getElem (by omega)⟩
    obtain ⟨b, cap', c, hw', hb, hc⟩ := SlAt.at' W hq
    have c0 := hc 0 (by omega)
    have c1 := hc 1 (by omega)
    simp [pe] at c0 c1
    have hb' := lg _ _ hb
    have hi : i < ps.length := by omega
    rw [hw'] at e10
    simp (disch := omega) [rib_Rib_All_r3, rib_Rib_All_r4, e0, e3, e10, e11, e12, hi, hb', c0, c1]
    intro b5 hb5
    simp (disch := omega)
    have L5 := Le.new (o := .cells #[.int .u32 (q.1 : Nat), .int .i64 (q.2 : Nat)] 24) hb5
    have f5 : (g.upd b5 (.cells #[.int .u32 (q.1 : Nat), .int .i64 (q.2 : Nat)] 24)) b5 = some (.cells #[.int .u32 (q.1 : Nat), .int .i64 (q.2 : Nat)] 24) := upd_same
    have M5 := (M1.le lg).le L5
    have S5 := S.le' L5
    have lg5 := lg.trans L5
    generalize g.upd b5 (.cells #[.int .u32 (q.1 : Nat), .int .i64 (q.2 : Nat)] 24) = g5 at *
    simp (disch := omega) [rib_Rib_All_r5, e0, e3, e10, e11, e12, f5]
    refine rofM M5 (fun v2 g6 l6 S6 nv2 => ?_)
    have hl1 := allR_length m (ps.take i)
    have hl2 := ofN_length m q.1 (q.2 : Nat) 16
    rw [List.length_take] at hl1
    refine cat_routes (S5.le' l6) (S6.toSrc (rt_len _)) (by omega) (fun v3 g7 S7 G => ?_)
    have tk : allR m (ps.take (i + 1)) = allR m (ps.take i) ++ ofN m q.1 (q.2 : Nat) 16 := by
      rw [List.take_add_one, hq]; simp [allR]
    simp (disch := omega) [rib_Rib_All_r6, e0, e3, e10, e11, e12, wrap_i64]
    refine ⟨mm - 1, by omega, i + 1, v3, by omega, by simp [e0], by simp, by simp [e10, hw'], by simp [e11], by simp, fun x o e => G.keep x o (l6 _ _ (lg5 _ _ e)) (fun q => ?_), by rw [tk]; exact S7, fun b e => ?_⟩
    · rw [nv x q.symm] at e; cases e
    · rcases G.fresh with q | q
      · exact nv b (by rw [← q]; exact e)
      · exact none_of_le (lg5.trans l6) (q b e)
end
end Go.Proofs.Ytmbhlbohbpepaaa
