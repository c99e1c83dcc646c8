/- The document's RIP: what it tells, all that it has. -/
import Derived.Test.YtpfenhikoajghaaRows
import Derived.Test.YtpfenhikoajghaaZ6

set_option linter.unusedSimpArgs false
set_option linter.unusedVariables false

namespace Go.Proofs.Ytpfenhikoajghaa
open Go
set_option linter.unusedSimpArgs false
set_option linter.unusedVariables false

section
variable {h h' : Hp} {q : Nat} {v : Value} {dom most : Int} {L : RS} {Q : Value → Hp → Prop}

def ftellL (t : Int) (L : RS) : List REnt := L.map fun e => tellX t e.1 e.2
def fallL (dom : Int) (L : RS) : List Rt := L.filterMap fun e => if e.2.m < 16 then some (allX dom e.1 e.2) else none
theorem ftell_snoc {t : Int} {A : RS} {e : PK × Rr} : ftellL t (A ++ [e]) = ftellL t A ++ [tellX t e.1 e.2] := by unfold ftellL; rw [List.map_append]; rfl

def FeInv (h0 : Hp) (q : Nat) (L : RS) (t : Int) (n : Nat) (env : Env) (g : Hp) : Prop :=
  ∃ (i : Nat) (w : Value), i + n = L.length ∧ Le h0 g ∧ SlAt g 33 5 REnt.enc w (ftellL t (L.take i)) ∧ (∀ b, blkOf w = some b → h0 b = none) ∧
    env 0 = .pointer (some ⟨q, 0, none⟩) ∧ env 1 = .int .i64 t ∧ env 5 = w ∧ env 6 = .int .i64 (i : Nat)

set_option maxHeartbeats 1000000 in
set_option maxRecDepth 20000 in
theorem ftellM {t : Int} (M : FfM h q v dom most L) (hQ : ∀ w h', Le h h' → SlAt h' 33 5 REnt.enc w (ftellL t L) → (∀ b, blkOf w = some b → h b = none) → Q w h') : Ok Try.prog F_octroiref16_Rip_Tell #[.pointer (some ⟨q, 0, none⟩), .int .i64 t] h Q := by
  refine octroiref16_Rip_Tell_ok (by simp) ?_
  unfold octroiref16_Rip_Tell_D
  obtain ⟨ap, acap, hv⟩ := M.sl.shape'
  have hle := M.le
  simp (disch := omega) [octroiref16_Rip_Tell_r0, octroiref16_Rip_Tell_r1, octroiref16_Rip_Tell_r2]
  refine ⟨FeInv h q L t, ⟨L.length, 0, .slice none 0 0, by omega, .refl _, .inl ⟨rfl, rfl⟩, by simp [blkOf], by simp, by simp, by simp, by simp⟩, ?_⟩
  rintro n env g ⟨i, w, hin, lg, S, nw, e0, e1, e5, e6⟩
  unfold octroiref16_Rip_Tell_L0
  have hq := lg _ _ M.pt
  have hsl : (ftellL t (L.take i)).length ≤ L.length := by unfold ftellL; rw [List.length_map, List.length_take]; omega
  by_cases hm : n = 0
  · have : i = L.length := by omega
    subst this
    rw [List.take_of_length_le (Nat.le_refl _)] at S
    obtain ⟨sp, cap, hw⟩ := S.shape'
    simp (disch := omega) [octroiref16_Rip_Tell_r3, octroiref16_Rip_Tell_r9, e0, e1, e5, e6, hq, hv]
    exact .to _ (.refl _) (hQ _ _ lg S nw)
  · obtain ⟨x, hx⟩ : ∃ x, L[i]? = some x := ⟨_, List.getElem?_eq_getElem (by omega)⟩
    obtain ⟨b, cap, c, hv', hb, c0, c1, c2, c3, c4, c5⟩ := fr_at (M.sl.le' lg) hx
    have hi' : i < L.length := by omega
    have tk := take_snoc hx
    simp (disch := omega) [octroiref16_Rip_Tell_r3, octroiref16_Rip_Tell_r4, e0, e1, e5, e6, hq, hv', hb, c0, c1, c2, c3, c4, c5, hi']
    intro b7 hb7
    have l7 : Le g (g.upd b7 (.cells (fcells x) 78)) := .new hb7
    have f7 : (g.upd b7 (.cells (fcells x) 78)) b7 = some (.cells (fcells x) 78 (0, 0)) := upd_same
    have nb7 : blkOf w ≠ some b7 := fun e => by obtain ⟨o, e2⟩ := S.alive e; rw [hb7] at e2; cases e2
    have h7 := none_of_le lg hb7
    simp (disch := omega)
    show octroiref16_Rip_Tell_r5 _ (g.upd b7 (.cells (fcells x) 78)) _
    generalize g.upd b7 (.cells (fcells x) 78) = g1 at *
    have S1 := S.le' l7
    have lg1 := lg.trans l7
    have last : ∀ (env : Env) (g1 : Hp) (m : Int), Le h g1 → SlAt g1 33 5 REnt.enc w (ftellL t (L.take i)) → tellX t x.1 x.2 = ⟨x.1.1, x.1.2, x.2.tag, 0, m⟩ → g1 b7 = some (.cells (fcells (x.1, { x.2 with m := m })) 78 (0, 0)) → env 0 = .pointer (some ⟨q, 0, none⟩) → env 1 = .int .i64 t → env 5 = w → env 6 = .int .i64 (i : Nat) → env 7 = .pointer (some ⟨b7, 0, none⟩) →
        octroiref16_Rip_Tell_r7 env g1 (inBlk 1 (thenK (rg octroiref16_Rip_Tell_r8) (roundK (FeInv h q L t) n (inBlk 0 (thenK (sq (rg octroiref16_Rip_Tell_r9) (ex .ret)) (fin Try.prog [.tmp 4] Q))))) .normal) := by
      intro env g1 m lg1 S1 hx f7 e0 e1 e5 e6 e7
      have hs : ftellL t (L.take (i + 1)) = ftellL t (L.take i) ++ [⟨x.1.1, x.1.2, x.2.tag, 0, m⟩] := by rw [tk, ftell_snoc, hx]
      simp (disch := omega) [octroiref16_Rip_Tell_r7, e0, e1, e5, e6, e7, f7]
      refine snoc_api_RipEntry S1 (y := ⟨x.1.1, x.1.2, x.2.tag, 0, m⟩) rfl (by simp [REnt.enc]) (by omega) (fun b9 w' g' S' G hb9 => ?_)
      obtain ⟨lg', nw'⟩ := G.news lg1 nw
      simp (disch := omega) [octroiref16_Rip_Tell_r8, e6, wrap_i64]
      exact ⟨n - 1, by omega, i + 1, w', by omega, lg', by rw [hs]; exact S', nw', by simp [e0], by simp [e1], by simp, by simp⟩
    by_cases p : t ≠ 0 ∧ x.2.n = t
    · have S1u : ∀ o, SlAt (g1.upd b7 o) 33 5 REnt.enc w (ftellL t (L.take i)) := fun o => S1.keep fun b o' e e2 => by rw [upd_ne (fun q => nb7 (by rw [← q]; exact e))]; exact e2
      have lgu : ∀ o, Le h (g1.upd b7 o) := fun o y o' e => by rw [upd_ne (by rintro rfl; rw [h7] at e; cases e)]; exact lg1 _ _ e
      have hX : tellX t x.1 x.2 = ⟨x.1.1, x.1.2, x.2.tag, 0, 16⟩ := by unfold tellX; rw [if_pos p]
      simp (disch := omega) [octroiref16_Rip_Tell_r5, octroiref16_Rip_Tell_r6, e1, f7, p.1, p.2]
      refine last _ _ 16 (lgu _) (S1u _) hX ?_ ?_ ?_ ?_ ?_ ?_
      · simp [upd_same]; exact p.2.symm
      all_goals simp [e0, e1, e5, e6]
    · have hX : tellX t x.1 x.2 = ⟨x.1.1, x.1.2, x.2.tag, 0, x.2.m⟩ := by unfold tellX; rw [if_neg p]
      by_cases z : t = 0
      · subst z
        simp (disch := omega) [octroiref16_Rip_Tell_r5, e1, f7]
        refine last _ g1 x.2.m lg1 S1 hX f7 ?_ ?_ ?_ ?_ ?_ <;> simp [e0, e1, e5, e6]
      · have z2 : ¬ x.2.n = t := fun k => p ⟨z, k⟩
        simp (disch := omega) [octroiref16_Rip_Tell_r5, e1, f7, z, z2]
        refine last _ g1 x.2.m lg1 S1 hX f7 ?_ ?_ ?_ ?_ ?_ <;> simp [e0, e1, e5, e6]

def FaInv (h0 : Hp) (q : Nat) (dom : Int) (L : RS) (n : Nat) (env : Env) (g : Hp) : Prop :=
  ∃ (i : Nat) (w : Value), i + n = L.length ∧ Le h0 g ∧ SlAt g 38 7 Rt.enc w (fallL dom (L.take i)) ∧ (∀ b, blkOf w = some b → h0 b = none) ∧
    env 0 = .pointer (some ⟨q, 0, none⟩) ∧ env 3 = w ∧ env 4 = .int .i64 (i : Nat)

theorem fall_snoc {dom : Int} {A : RS} {e : PK × Rr} : fallL dom (A ++ [e]) = fallL dom A ++ (if e.2.m < 16 then [allX dom e.1 e.2] else []) := by
  unfold fallL; rw [List.filterMap_append]
  split <;> rename_i hh <;> simp [List.filterMap, hh]

set_option maxHeartbeats 1000000 in
set_option maxRecDepth 20000 in
theorem fallM (M : FfM h q v dom most L) (hQ : ∀ w h', Le h h' → SlAt h' 38 7 Rt.enc w (fallL dom L) → (∀ b, blkOf w = some b → h b = none) → Q w h') : Ok Try.prog F_octroiref16_Rip_All #[.pointer (some ⟨q, 0, none⟩)] h Q := by
  refine octroiref16_Rip_All_ok (by simp) ?_
  unfold octroiref16_Rip_All_D
  obtain ⟨ap, acap, hv⟩ := M.sl.shape'
  have hle := M.le
  simp (disch := omega) [octroiref16_Rip_All_r0, octroiref16_Rip_All_r1, octroiref16_Rip_All_r2]
  refine ⟨FaInv h q dom L, ⟨L.length, 0, .slice none 0 0, by omega, .refl _, .inl ⟨rfl, rfl⟩, by simp [blkOf], by simp, by simp, by simp⟩, ?_⟩
  rintro n env g ⟨i, w, hin, lg, S, nw, e0, e3, e4⟩
  unfold octroiref16_Rip_All_L0
  have hq := lg _ _ M.pt
  have hsl : (fallL dom (L.take i)).length ≤ L.length := by unfold fallL; exact Nat.le_trans (List.length_filterMap_le _ _) (by rw [List.length_take]; omega)
  by_cases hm : n = 0
  · have : i = L.length := by omega
    subst this
    rw [List.take_of_length_le (Nat.le_refl _)] at S
    simp (disch := omega) [octroiref16_Rip_All_r3, octroiref16_Rip_All_r8, e0, e3, e4, hq, hv]
    exact .to _ (.refl _) (hQ _ _ lg S nw)
  · obtain ⟨x, hx⟩ : ∃ x, L[i]? = some x := ⟨_, List.getElem?_eq_getElem (by omega)⟩
    obtain ⟨b, cap, c, hv', hb, c0, c1, c2, c3, c4, c5⟩ := fr_at (M.sl.le' lg) hx
    have hi' : i < L.length := by omega
    have tk := take_snoc hx
    simp (disch := omega) [octroiref16_Rip_All_r3, octroiref16_Rip_All_r4, e0, e3, e4, hq, hv', hb, c0, c1, c2, c3, c4, c5, hi']
    intro b7 hb7
    have l7 : Le g (g.upd b7 (.cells (fcells x) 78)) := .new hb7
    have f7 : (g.upd b7 (.cells (fcells x) 78)) b7 = some (.cells (fcells x) 78 (0, 0)) := upd_same
    simp (disch := omega)
    show octroiref16_Rip_All_r5 _ (g.upd b7 (.cells (fcells x) 78)) _
    generalize g.upd b7 (.cells (fcells x) 78) = g1 at *
    have S1 := S.le' l7
    have lg1 := lg.trans l7
    have hq1 := l7 _ _ hq
    by_cases p : x.2.m < 16
    · have hs : fallL dom (L.take (i + 1)) = fallL dom (L.take i) ++ [allX dom x.1 x.2] := by rw [tk, fall_snoc, if_pos p]
      simp (disch := omega) [octroiref16_Rip_All_r5, octroiref16_Rip_All_r6, e0, e3, e4, f7, p, hq1]
      refine snoc_api_Route S1 (y := allX dom x.1 x.2) rfl (by simp [Rt.enc]) (by omega) (fun b9 w' g' S' G hb9 => ?_)
      obtain ⟨lg', nw'⟩ := G.news lg1 nw
      simp (disch := omega) [octroiref16_Rip_All_r7, e4, wrap_i64]
      exact ⟨n - 1, by omega, i + 1, w', by omega, lg', by rw [hs]; exact S', nw', by simp [e0], by simp, by simp⟩
    · have hs : fallL dom (L.take (i + 1)) = fallL dom (L.take i) := by rw [tk, fall_snoc, if_neg p, List.append_nil]
      simp (disch := omega) [octroiref16_Rip_All_r5, octroiref16_Rip_All_r7, e0, e3, e4, f7, p, hq1, wrap_i64]
      exact ⟨n - 1, by omega, i + 1, w, by omega, lg1, by rw [hs]; exact S1, nw, by simp [e0], by simp [e3], by simp⟩
end
end Go.Proofs.Ytpfenhikoajghaa

/- RIP: a call of the document's; what the two have is the same. -/
namespace Go.Proofs.Ytpfenhikoajghaa
open Go
set_option linter.unusedSimpArgs false
set_option linter.unusedVariables false

def fdoesR (S : RS) (dom most : Int) (o : Op16) : Bool × Int × RS :=
  if o.k = 0 then (false, ownE S dom most (o.a, o.l) o.n o.tag, fownS S dom most (o.a, o.l) o.n o.tag)
  else if o.k = 1 then (false, fdropE S (o.a, o.l), fdropS S (o.a, o.l) o.now)
  else if o.k = 2 then fhearR S dom most o.f o.c (o.a, o.l) o.tag o.n o.now
  else if o.k = 3 then (tickB S o.now, 0, tickS S o.now)
  else if o.k = 4 then (flB S o.f, 0, flS S o.f o.now)
  else (false, 0, S)

section
variable {h h' : Hp} {q : Nat} {v : Value} {dom most : Int} {L : RS} {Q : Value → Hp → Prop}

set_option maxHeartbeats 1000000 in
set_option maxRecDepth 20000 in
theorem fdoesM {o : Op16} (M : FfM h q v dom most L) (hle : L.length < 100000) (og : o.Good) (n1 : 0 ≤ o.now) (n2 : o.now ≤ 1099511627776)
    (hQ : ∀ h', FQ h q v dom most (fdoesR L dom most o).2.2 h' → Q (.tuple #[.bool (fdoesR L dom most o).1, .int .i64 (fdoesR L dom most o).2.1]) h') :
    Ok Try.prog F_octroilaw16_refDoes #[.pointer (some ⟨q, 0, none⟩), Op16v o] h Q := by
  refine octroilaw16_refDoes_ok (by simp) ?_
  unfold octroilaw16_refDoes_D
  simp (disch := omega) [octroilaw16_refDoes_r0]
  intro b6 hb6
  have l1 : Le h (h.upd b6 (.cells o.cells 48)) := .new hb6
  have f6 : (h.upd b6 (.cells o.cells 48)) b6 = some (.cells o.cells 48 (0, 0)) := upd_same
  show octroilaw16_refDoes_r1 _ (h.upd b6 (.cells o.cells 48)) _
  generalize h.upd b6 (.cells o.cells 48) = h1 at *
  have M1 := M.le' l1
  replace hQ : ∀ h', FQ h1 q v dom most (fdoesR L dom most o).2.2 h' → Q (.tuple #[.bool (fdoesR L dom most o).1, .int .i64 (fdoesR L dom most o).2.1]) h' := fun h' q => hQ h' (q.le' l1)
  unfold fdoesR at hQ
  by_cases k0 : o.k = 0
  · rw [if_pos k0] at hQ
    simp (disch := omega) [octroilaw16_refDoes_r1, octroilaw16_refDoes_r2, octroilaw16_refDoes_r3, f6, k0]
    refine fownM (k := (o.a, o.l)) M1 hle og.a og.tag (fun h' q => ?_)
    simp (disch := omega)
    exact .to _ (.refl _) (hQ _ q)
  rw [if_neg k0] at hQ
  by_cases k1 : o.k = 1
  · rw [if_pos k1] at hQ
    simp (disch := omega) [octroilaw16_refDoes_r1, octroilaw16_refDoes_r2, octroilaw16_refDoes_r4, octroilaw16_refDoes_r5, f6, k0, k1]
    refine fdropM (k := (o.a, o.l)) M1 n1 n2 (fun h' q => ?_)
    simp (disch := omega)
    exact .to _ (.refl _) (hQ _ q)
  rw [if_neg k1] at hQ
  by_cases k2 : o.k = 2
  · rw [if_pos k2] at hQ
    simp (disch := omega) [octroilaw16_refDoes_r1, octroilaw16_refDoes_r2, octroilaw16_refDoes_r4, octroilaw16_refDoes_r6, octroilaw16_refDoes_r7, f6, k0, k1, k2]
    refine fhearM (k := (o.a, o.l)) (nx := 0) M1 hle og.a og.tag n1 n2 (fun h' q => ?_)
    simp (disch := omega) [octroilaw16_refDoes_r8]
    exact .to _ (.refl _) (hQ _ q)
  rw [if_neg k2] at hQ
  by_cases k3 : o.k = 3
  · rw [if_pos k3] at hQ
    simp (disch := omega) [octroilaw16_refDoes_r1, octroilaw16_refDoes_r2, octroilaw16_refDoes_r4, octroilaw16_refDoes_r6, octroilaw16_refDoes_r9, octroilaw16_refDoes_r10, f6, k0, k1, k2, k3]
    refine ftickM M1 n1 n2 (fun h' q => ?_)
    simp (disch := omega)
    exact .to _ (.refl _) (hQ _ q)
  rw [if_neg k3] at hQ
  by_cases k4 : o.k = 4
  · rw [if_pos k4] at hQ
    simp (disch := omega) [octroilaw16_refDoes_r1, octroilaw16_refDoes_r2, octroilaw16_refDoes_r4, octroilaw16_refDoes_r6, octroilaw16_refDoes_r9, octroilaw16_refDoes_r11, octroilaw16_refDoes_r12, f6, k0, k1, k2, k3, k4]
    refine floseM M1 n1 n2 (fun h' q => ?_)
    simp (disch := omega)
    exact .to _ (.refl _) (hQ _ q)
  rw [if_neg k4] at hQ
  simp (disch := omega) [octroilaw16_refDoes_r1, octroilaw16_refDoes_r2, octroilaw16_refDoes_r4, octroilaw16_refDoes_r6, octroilaw16_refDoes_r9, octroilaw16_refDoes_r11, octroilaw16_refDoes_r13, f6, k0, k1, k2, k3, k4]
  exact .to _ (.refl _) (hQ _ (FQ.same M1 (.refl _)))
end

/-! ### The same routes -/
def SaneF (S : RS) : Prop := ∀ e ∈ S, 0 ≤ e.2.n ∧ e.2.m ≤ 16
structure RelF (S L : RS) : Prop where
  pm : S.Perm L
  un : Uniq S
  sr : SrtP (L.map (·.1))
  sn : SaneF S

section
variable {S L : RS} {dom most : Int}
theorem RelF.unL (R : RelF S L) : Uniq L := by have := R.un; unfold Uniq at *; exact (R.pm.map _).nodup_iff.1 this
theorem RelF.get (R : RelF S L) (k : PK) : getM S k = getM L k := getM_perm R.un R.pm k
theorem RelF.len (R : RelF S L) : S.length = L.length := R.pm.length_eq
theorem RelF.ok (R : RelF S L) {k : PK} {x : Rr} (h : getM S k = some x) : 0 ≤ x.n ∧ x.m ≤ 16 := R.sn _ (getM_mem h)

theorem Uniq_perm {A B : RS} (p : A.Perm B) (u : Uniq A) : Uniq B := by unfold Uniq at *; exact (p.map _).nodup_iff.1 u

theorem insP_srt {x : PK × Rr} : ∀ {L : RS}, SrtP (L.map (·.1)) → SrtP ((insP x L).map (·.1))
  | [], _ => by simp [insP, SrtP]
  | y :: ys, s => by
    unfold SrtP at *
    rw [List.map_cons, List.pairwise_cons] at s
    by_cases h : plt x.1 y.1
    · rw [insP_pos h, List.map_cons, List.pairwise_cons, List.map_cons, List.pairwise_cons]
      refine ⟨fun z hz => ?_, s.1, s.2⟩
      rcases List.mem_cons.1 hz with rfl | hz
      · exact plt_asym h
      · exact fun q => s.1 z hz (plt_trans q h)
    · rw [insP_neg h, List.map_cons, List.pairwise_cons]
      refine ⟨fun z hz => ?_, insP_srt s.2⟩
      obtain ⟨e, he, rfl⟩ := List.mem_map.1 hz
      rcases List.mem_cons.1 (insP_perm.mem_iff.1 he) with rfl | he
      · exact h
      · exact s.1 _ (List.mem_map_of_mem he)

theorem RelF.put (R : RelF S L) {k : PK} {x : Rr} (hx : 0 ≤ x.n ∧ x.m ≤ 16) : RelF (setM k x S) (putR k x L) := by
  have uS : Uniq (setM k x S) := R.un.set
  refine ⟨?_, uS, ?_, fun e he => ?_⟩
  · refine perm_of_getM uS ?_ (fun a => ?_)
    · unfold putR; split
      · exact R.unL.set
      · rename_i hn
        refine Uniq_perm insP_perm.symm ?_
        have hn2 : getM L k = none := by cases q : getM L k with | none => rfl | some _ => rw [q] at hn; simp at hn
        unfold Uniq
        rw [List.map_cons, List.nodup_cons]
        exact ⟨getM_none.1 hn2, R.unL⟩
    · rw [getM_setM]
      unfold putR
      by_cases hn : (getM L k).isSome = true
      · rw [if_pos hn, getM_setM, R.get]
      · rw [if_neg hn]
        have hn2 : getM L k = none := by cases q : getM L k with | none => rfl | some _ => rw [q] at hn; simp at hn
        rw [← getM_perm (m := (k, x) :: L) (by unfold Uniq; rw [List.map_cons, List.nodup_cons]; exact ⟨getM_none.1 hn2, R.unL⟩) insP_perm.symm a, getM_cons, R.get]
  · unfold putR; split
    · rename_i hs
      have : k ∈ L.map (·.1) := by rw [getM_isSome] at hs; simpa using hs
      rw [setM_keys, if_pos this]; exact R.sr
    · exact insP_srt R.sr
  · rcases setM_mem he with rfl | q
    · exact hx
    · exact R.sn e q

theorem RelF.set (R : RelF S L) {k : PK} {x : Rr} (hx : 0 ≤ x.n ∧ x.m ≤ 16) (hs : (getM L k).isSome = true) : RelF (setM k x S) (setM k x L) := by
  have := R.put (k := k) hx
  unfold putR at this
  rw [if_pos hs] at this; exact this
theorem RelF.ins (R : RelF S L) {k : PK} {x : Rr} (hx : 0 ≤ x.n ∧ x.m ≤ 16) (hs : getM L k = none) : RelF (setM k x S) (insP (k, x) L) := by
  have := R.put (k := k) hx
  unfold putR at this
  rw [if_neg (by rw [hs]; simp)] at this; exact this

theorem fm_keys {f : Rr → Option Rr} : ∀ {A : RS}, ((A.filterMap fun e => (f e.2).map fun x => (e.1, x)).map (·.1)).Sublist (A.map (·.1))
  | [] => by simp
  | e :: A => by
    rw [List.filterMap_cons]
    cases h : f e.2 with
    | none => simp only [Option.map_none]; exact .cons _ fm_keys
    | some x => simp only [Option.map_some]; exact .cons_cons _ fm_keys
theorem RelF.fm (R : RelF S L) {f : Rr → Option Rr} (hf : ∀ x y, 0 ≤ x.n → x.m ≤ 16 → f x = some y → 0 ≤ y.n ∧ y.m ≤ 16) : RelF (S.filterMap fun e => (f e.2).map fun x => (e.1, x)) (L.filterMap fun e => (f e.2).map fun x => (e.1, x)) := by
  refine ⟨R.pm.filterMap _, List.Sublist.nodup fm_keys R.un, R.sr.sublist fm_keys, fun e he => ?_⟩
  obtain ⟨e', h1, h2⟩ := List.mem_filterMap.1 he
  cases h : f e'.2 with
  | none => rw [h] at h2; cases h2
  | some y => rw [h] at h2; simp at h2; rw [← h2]; exact hf _ _ (R.sn _ h1).1 (R.sn _ h1).2 h
theorem any_perm {α : Type} {A B : List α} {f : α → Bool} (p : A.Perm B) : A.any f = B.any f := by
  rw [Bool.eq_iff_iff, List.any_eq_true, List.any_eq_true]
  exact ⟨fun ⟨x, h1, h2⟩ => ⟨x, p.mem_iff.1 h1, h2⟩, fun ⟨x, h1, h2⟩ => ⟨x, p.mem_iff.2 h1, h2⟩⟩

theorem RelF.tick (R : RelF S L) {now : Int} : tickB S now = tickB L now ∧ RelF (tickS S now) (tickS L now) := by
  refine ⟨any_perm R.pm, R.fm fun x y h1 h2 h => ?_⟩
  unfold tickX at h
  split at h
  · split at h
    · simp at h; subst h; exact ⟨h1, by simp [spoilR]⟩
    · cases h
  · simp at h; subst h; exact ⟨h1, h2⟩

theorem flP_eq {f : Int} {x : Rr} (h : 0 ≤ x.n) : flP f x = loseP f x := by
  unfold flP loseP
  rw [Bool.eq_iff_iff]; simp only [Bool.and_eq_true, decide_eq_true_eq]
  omega
theorem RelF.lose (R : RelF S L) {f now : Int} : loseB S f = flB L f ∧ RelF (loseS S f now) (flS L f now) := by
  have hL : ∀ e ∈ L, 0 ≤ e.2.n := fun e he => (R.sn e (R.pm.mem_iff.2 he)).1
  have e1 : flB L f = loseB L f := by
    unfold flB loseB
    rw [Bool.eq_iff_iff, List.any_eq_true, List.any_eq_true]
    exact ⟨fun ⟨x, h1, h2⟩ => ⟨x, h1, by rw [← flP_eq (hL x h1)]; exact h2⟩, fun ⟨x, h1, h2⟩ => ⟨x, h1, by rw [flP_eq (hL x h1)]; exact h2⟩⟩
  have e2 : flS L f now = loseS L f now := by
    unfold flS loseS
    refine List.map_congr_left fun e he => ?_
    unfold flX loseX
    rw [flP_eq (hL e he)]
  rw [e1, e2]
  refine ⟨any_perm R.pm, ?_⟩
  rw [loseS_eq, loseS_eq]
  refine R.fm (f := fun x => some (loseX f now x)) fun x y h1 h2 h => ?_
  simp at h
  subst h
  unfold loseX
  split
  · exact ⟨h1, by simp [spoilR]⟩
  · exact ⟨h1, h2⟩

theorem hearX_sane {x : Rr} {f m : Int} {tag : Nat} {now : Int} (h : 0 ≤ x.n ∧ x.m ≤ 16) (hf : 1 ≤ f) (hm : m ≤ 16) : 0 ≤ (hearX x f m tag now).2.n ∧ (hearX x f m tag now).2.m ≤ 16 := by
  unfold hearX spoilR
  split
  · exact h
  · split
    · split
      · exact ⟨h.1, by simp⟩
      · exact ⟨h.1, hm⟩
    · split
      · exact ⟨by simp; omega, hm⟩
      · exact h

theorem RelF.does (R : RelF S L) {o : Op16} : (doesR S dom most o).1 = (fdoesR L dom most o).1 ∧ (doesR S dom most o).2.1 = (fdoesR L dom most o).2.1 ∧ RelF (doesR S dom most o).2.2 (fdoesR L dom most o).2.2 := by
  unfold doesR fdoesR
  by_cases k0 : o.k = 0
  · rw [if_pos k0, if_pos k0]
    have e : ownE S dom most (o.a, o.l) o.n o.tag = ownE L dom most (o.a, o.l) o.n o.tag := by unfold ownE; rw [R.get, R.len]
    refine ⟨rfl, e, ?_⟩
    unfold ownS fownS
    simp only
    rw [e]
    split
    · rename_i h0
      refine R.put ⟨by simp, ?_⟩
      unfold ownE at h0
      split at h0
      · cases h0
      · simp; omega
    · exact R
  rw [if_neg k0, if_neg k0]
  by_cases k1 : o.k = 1
  · rw [if_pos k1, if_pos k1]
    unfold dropE fdropE dropS fdropS
    simp only
    cases hg : getM L (o.a, o.l) with
    | none => rw [R.get, hg]; exact ⟨trivial, rfl, R⟩
    | some x =>
      have hx := R.ok (by rw [R.get]; exact hg)
      rw [R.get, hg]
      simp only
      by_cases c : x.n ≠ 0 ∨ x.m = 16
      · rw [if_pos c, if_pos c, if_pos (by omega), if_pos (by omega)]; exact ⟨trivial, rfl, R⟩
      · rw [if_neg c, if_neg c, if_neg (by omega), if_neg (by omega)]
        exact ⟨trivial, rfl, R.set ⟨hx.1, by simp [spoilR]⟩ (by rw [hg]; rfl)⟩
  rw [if_neg k1, if_neg k1]
  by_cases k2 : o.k = 2
  · rw [if_pos k2, if_pos k2]
    unfold hearR fhearR
    by_cases arg : o.f < 1 ∨ 32 < o.f ∨ o.c < 1 ∨ 16 < o.c ∨ mayB (o.a, o.l).1 (o.a, o.l).2 = false ∨ o.n < 1 ∨ 16 < o.n
    · rw [if_pos arg, if_pos arg]; exact ⟨rfl, rfl, R⟩
    rw [if_neg arg, if_neg arg]
    by_cases t : hasT o.tag dom = true
    · rw [if_pos t, if_pos t]; exact ⟨rfl, rfl, R⟩
    rw [if_neg t, if_neg t]
    have am : addM o.n o.c 16 ≤ 16 := by unfold addM; omega
    cases hg : getM L (o.a, o.l) with
    | none =>
      rw [R.get, hg, R.len]
      simp only
      split
      · exact ⟨rfl, rfl, R⟩
      · split
        · exact ⟨rfl, rfl, R⟩
        · exact ⟨rfl, rfl, R.ins ⟨by simp; omega, am⟩ hg⟩
    | some x =>
      have hx := R.ok (by rw [R.get]; exact hg)
      rw [R.get, hg]
      exact ⟨rfl, rfl, R.set (hearX_sane hx (by omega) am) (by rw [hg]; rfl)⟩
  rw [if_neg k2, if_neg k2]
  by_cases k3 : o.k = 3
  · rw [if_pos k3, if_pos k3]; exact ⟨R.tick.1, rfl, R.tick.2⟩
  rw [if_neg k3, if_neg k3]
  by_cases k4 : o.k = 4
  · rw [if_pos k4, if_pos k4]; exact ⟨(R.lose (now := o.now)).1, rfl, R.lose.2⟩
  rw [if_neg k4, if_neg k4]; exact ⟨rfl, rfl, R⟩

theorem RelF.tell (R : RelF S L) {t : Int} {ks : List PK} (hp : ks.Perm (S.map (·.1))) (hs : SrtP ks) : tellL t S ks = ftellL t L := by
  obtain rfl := srtP_unique hs R.sr (hp.trans (R.pm.map _))
  unfold tellL ftellL
  rw [List.filterMap_map]
  rw [← List.filterMap_eq_map]
  refine fm_congr fun e he => ?_
  simp only [Function.comp]
  rw [R.get, getM_of_mem (a := e.1) (v := e.2) R.unL he]; rfl
theorem RelF.all (R : RelF S L) {ks : List PK} (hp : ks.Perm (S.map (·.1))) (hs : SrtP ks) : allL dom S ks = fallL dom L := by
  obtain rfl := srtP_unique hs R.sr (hp.trans (R.pm.map _))
  unfold allL fallL
  rw [List.filterMap_map]
  refine fm_congr fun e he => ?_
  simp only [Function.comp]
  rw [R.get, getM_of_mem (a := e.1) (v := e.2) R.unL he]; rfl
end

/-! ### The two in memory -/
structure TwoF (h0 g : Hp) (p r q : Nat) (dom most : Int) (m : RM) (v : Value) (L : RS) : Prop where
  a : RipAt g p r dom most m
  f : FfM g q v dom most L
  d : ∀ x, x ∈ ownF q v → x ∉ ownR p r m
  le : Le h0 g
  nr : ∀ x, x ∈ ownR p r m → h0 x = none
  nf : ∀ x, x ∈ ownF q v → h0 x = none

section
variable {h0 g g' : Hp} {p r q : Nat} {dom most : Int} {m : RM} {v : Value} {L : RS}
theorem TwoF.to (T : TwoF h0 g p r q dom most m v L) (l : Le g g') : TwoF h0 g' p r q dom most m v L := ⟨T.a.le' l, T.f.le' l, T.d, T.le.trans l, T.nr, T.nf⟩
theorem TwoF.rip (T : TwoF h0 g p r q dom most m v L) {S' : RS} (k : RQ g p r dom most m S' g') : ∃ m', strip m' = S' ∧ TwoF h0 g' p r q dom most m' v L := by
  obtain ⟨m', A, e, F⟩ := k
  exact ⟨m', e, A, T.f.keep fun x o hx e => F.keep x o e (T.d x hx), F.apart T.f.alive T.d, F.le T.le T.nr, F.new T.le T.nr, T.nf⟩
theorem TwoF.ref (T : TwoF h0 g p r q dom most m v L) {L' : RS} (k : FQ g q v dom most L' g') : ∃ v', TwoF h0 g' p r q dom most m v' L' := by
  obtain ⟨v', M, F⟩ := k
  have d' := F.apart T.a.alive (fun x hx hx2 => T.d x hx2 hx)
  exact ⟨v', T.a.keep (fun x o hx e => F.keep x o e (fun hx2 => T.d x hx2 hx)), M, fun x hx hx2 => d' x hx2 hx, F.le T.le T.nf, T.nr, F.new T.le T.nf⟩
end
end Go.Proofs.Ytpfenhikoajghaa

/- RIP: awake; Few; what a neighbour tells of a prefix that is not known. -/
namespace Go.Proofs.Ytpfenhikoajghaa
open Go
set_option linter.unusedSimpArgs false
set_option linter.unusedVariables false

set_option maxHeartbeats 1000000 in
set_option maxRecDepth 20000 in
theorem awake16 {h : Hp} {Q : Value → Hp → Prop} (hQ : ∀ h', Le h h' → Q (.bool true) h') : Ok Try.prog F_octroilaw16_awake #[] h Q := by
  refine octroilaw16_awake_ok (by simp) ?_
  unfold octroilaw16_awake_D
  simp (disch := omega) [octroilaw16_awake_r0, octroilaw16_awake_r1]
  refine newO (by omega) (fun p r g1 R1 => ?_)
  simp (disch := omega) [octroilaw16_awake_r2, octroilaw16_awake_r4]
  intro b2 hb2
  have l2 : Le g1 (g1.upd b2 (.cells #[.int .u32 167772160, .int .i64 8] 24)) := .new hb2
  have f2 : (g1.upd b2 (.cells #[.int .u32 167772160, .int .i64 8] 24)) b2 = some (.cells #[.int .u32 167772160, .int .i64 8] 24) := upd_same
  have R2 := R1.to l2
  simp (disch := omega)
  show octroilaw16_awake_r5 _ (g1.upd b2 (.cells #[.int .u32 167772160, .int .i64 8] 24)) _
  generalize g1.upd b2 (.cells #[.int .u32 167772160, .int .i64 8] 24) = g2 at *
  simp (disch := omega) [octroilaw16_awake_r5, f2]
  refine hearO (k := (167772160, 8)) (tag := 0) (nx := 0) R2 (by omega) (by decide) (by decide) (by omega) (by omega) (fun g3 R3 => ?_)
  rw [show hearR [] 0 (min 10 64) 2 1 (167772160, 8) 0 3 0 = (true, 0, [((167772160, 8), ⟨4, 2, 180, 0⟩)]) by decide] at *
  simp only at R3
  simp (disch := omega) [octroilaw16_awake_r6]
  refine allO R3 (fun w1 ks1 B4 g4 l4 R4 S4 hp4 hs4 u4 => ?_)
  have hk1 : ks1 = [(167772160, 8)] := List.perm_singleton.1 hp4
  subst hk1
  rw [show allL 0 [((167772160, 8), ⟨4, 2, 180, 0⟩)] [(167772160, 8)] = [⟨167772160, 8, 0, 120, 4, 2, 0⟩] by decide] at S4
  simp (disch := omega) [octroilaw16_awake_r7]
  refine tellO R4 (fun w2 ks2 B5 g5 l5 R5 S5 hp5 hs5 u5 => ?_)
  have hk2 : ks2 = [(167772160, 8)] := List.perm_singleton.1 hp5
  subst hk2
  rw [show tellL 2 [((167772160, 8), ⟨4, 2, 180, 0⟩)] [(167772160, 8)] = [⟨167772160, 8, 0, 0, 16⟩] by decide] at S5
  simp (disch := omega) [octroilaw16_awake_r8]
  refine tellO R5 (fun w3 ks3 B6 g6 l6 R6 S6 hp6 hs6 u6 => ?_)
  have hk3 : ks3 = [(167772160, 8)] := List.perm_singleton.1 hp6
  subst hk3
  rw [show tellL 3 [((167772160, 8), ⟨4, 2, 180, 0⟩)] [(167772160, 8)] = [⟨167772160, 8, 0, 0, 4⟩] by decide] at S6
  obtain ⟨b1, c1, d1, e1, hb1, q1⟩ := rt_at (i := 0) S4 rfl
  obtain ⟨b2', c2, d2, e2, hb2', q2⟩ := REnt_at (i := 0) S5 rfl
  obtain ⟨b3, c3, d3, e3, hb3, q3⟩ := REnt_at (i := 0) S6 rfl
  simp only [List.length_singleton] at e1 e2 e3
  subst e1 e2 e3
  simp at q1 q2 q3
  simp (disch := omega) [octroilaw16_awake_r9]
  simp (disch := omega) [octroilaw16_awake_r11]
  refine tickO R6 (by omega) (by omega) (fun g7 R7 => ?_)
  rw [show tickB [((167772160, 8), ⟨4, 2, 180, 0⟩)] 180 = true by decide]
  rw [show tickS [((167772160, 8), ⟨4, 2, 180, 0⟩)] 180 = [((167772160, 8), ⟨16, 2, 300, 0⟩)] by decide] at R7
  have t1 := R7.le _ _ (l6 _ _ (l5 _ _ hb1))
  have t2 := R7.le _ _ (l6 _ _ hb2')
  have t3 := R7.le _ _ hb3
  simp (disch := omega) [octroilaw16_awake_r12, t1, t2, t3, q1, q2, q3]
  refine allO R7 (fun w4 ks4 B8 g8 l8 R8 S8 hp8 hs8 u8 => ?_)
  have hk4 : ks4 = [(167772160, 8)] := List.perm_singleton.1 hp8
  subst hk4
  rw [show allL 0 [((167772160, 8), ⟨16, 2, 300, 0⟩)] [(167772160, 8)] = [] by decide] at S8
  obtain ⟨sp, cap, hw⟩ := S8.shape'
  subst hw
  simp (disch := omega)
  refine lenO R8 ?_
  simp (disch := omega)
  exact .to _ (.refl _) (hQ _ ((((l4.trans l5).trans l6).trans l8).trans R8.le))

/-- All calls are at times that may be. -/
def fewT (l : List Op16) : Prop := l.length ≤ 150 ∧ ∀ o ∈ l, 0 ≤ o.now ∧ o.now ≤ 1099511627776
instance (l : List Op16) : Decidable (fewT l) := by unfold fewT; infer_instance

theorem op16_at {h : Hp} {v : Value} {xs : List Op16} {i : Nat} {x : Op16} (A : ArgSl h 8 Op16.enc Op16.Good v xs) (hx : xs[i]? = some x) :
    x.Good ∧ ∃ b o cap c E fr, v = .slice (some ⟨b, o, none⟩) xs.length cap ∧ h b = some (.cells c E fr) ∧ c[o + i * 8]? = some (.int .i64 x.k) ∧ c[o + i * 8 + 1]? = some (.int .i64 x.f) ∧ c[o + i * 8 + 2]? = some (.int .i64 x.c) ∧ c[o + i * 8 + 3]? = some (.int .i64 x.n) ∧
      c[o + i * 8 + 4]? = some (.int .i64 x.now) ∧ c[o + i * 8 + 5]? = some (.int .u32 (x.a : Nat)) ∧ c[o + i * 8 + 6]? = some (.int .i64 x.l) ∧ c[o + i * 8 + 7]? = some (.int .u16 (x.tag : Nat)) := by
  obtain ⟨g, b, o, cap, c, E, fr, e, hb, H⟩ := A.at hx
  exact ⟨g, b, o, cap, c, E, fr, e, hb, H 0 (by omega), H 1 (by omega), H 2 (by omega), H 3 (by omega), H 4 (by omega), H 5 (by omega), H 6 (by omega), H 7 (by omega)⟩

def FewInv (h : Hp) (v : Value) (l : List Op16) (n : Nat) (env : Env) (g : Hp) : Prop :=
  ∃ i : Nat, g = h ∧ i + n = l.length ∧ (∀ o ∈ l.take i, 0 ≤ o.now ∧ o.now ≤ 1099511627776) ∧ env 0 = v ∧ env 3 = .int .i64 (i : Nat)

set_option maxRecDepth 20000 in
theorem fewM {h : Hp} {v : Value} {l : List Op16} {Q : Value → Hp → Prop} (A : ArgSl h 8 Op16.enc Op16.Good v l) (hQ : Q (.bool (decide (fewT l))) h) : Ok Try.prog F_octroilaw16_Few #[v] h Q := by
  refine octroilaw16_Few_ok (by simp) ?_
  unfold octroilaw16_Few_D
  obtain ⟨ap, acap, hv⟩ := A.shape
  by_cases g1 : 150 < (l.length : Int)
  · rw [decide_eq_false (fun q : fewT l => by have := q.1; omega)] at hQ
    simp (disch := omega) [octroilaw16_Few_r0, octroilaw16_Few_r1, octroilaw16_Few_r2, hv, g1]
    exact .to _ (.refl _) hQ
  · simp (disch := omega) [octroilaw16_Few_r0, octroilaw16_Few_r1, octroilaw16_Few_r3, hv, g1]
    refine ⟨FewInv h v l, ⟨l.length, 0, rfl, by omega, by simp, by simp [hv], by simp⟩, ?_⟩
    rintro n env g ⟨i, rfl, hin, hall, e0, e3⟩
    unfold octroilaw16_Few_L0
    by_cases hm : n = 0
    · have : i = l.length := by omega
      subst this
      rw [List.take_of_length_le (Nat.le_refl _)] at hall
      have hf : fewT l := ⟨by omega, hall⟩
      rw [decide_eq_true hf] at hQ
      simp (disch := omega) [octroilaw16_Few_r4, octroilaw16_Few_r8, e0, e3, hv]
      exact .to _ (.refl _) hQ
    · obtain ⟨x, hx⟩ : ∃ x, l[i]? = some x := ⟨_, List.getElem?_eq_getElem (by omega)⟩
      obtain ⟨og, b, o, cap, c, E, fr, hv', hb, q⟩ := op16_at A hx
      have hi' : i < l.length := by omega
      have bad : ¬ (0 ≤ x.now ∧ x.now ≤ 1099511627776) → ¬ fewT l := fun q1 q2 => q1 (q2.2 x (List.mem_of_getElem? hx))
      by_cases c1 : x.now < 0
      · rw [decide_eq_false (bad (by omega))] at hQ
        simp (disch := omega) [octroilaw16_Few_r4, octroilaw16_Few_r5, octroilaw16_Few_r6, e0, e3, hv', hb, q, hi', c1]
        exact .to _ (.refl _) hQ
      by_cases c2 : 1099511627776 < x.now
      · rw [decide_eq_false (bad (by omega))] at hQ
        simp (disch := omega) [octroilaw16_Few_r4, octroilaw16_Few_r5, octroilaw16_Few_r6, e0, e3, hv', hb, q, hi', c1, c2]
        exact .to _ (.refl _) hQ
      simp (disch := omega) [octroilaw16_Few_r4, octroilaw16_Few_r5, octroilaw16_Few_r7, e0, e3, hv', hb, q, hi', c1, c2, wrap_i64]
      refine ⟨n - 1, by omega, i + 1, rfl, by omega, fun o ho => ?_, by simp [e0, hv'], by simp⟩
      rw [take_snoc hx] at ho
      rcases List.mem_append.1 ho with q1 | q1
      · exact hall o q1
      · simp at q1; subst q1; omega
end Go.Proofs.Ytpfenhikoajghaa

/- The document's comparing of two lists of routes. -/
namespace Go.Proofs.Ytpfenhikoajghaa
open Go
set_option linter.unusedSimpArgs false
set_option linter.unusedVariables false

def SameInv (g0 : Hp) (v w : Value) (L : List Rt) (mm : Nat) (env : Env) (g : Hp) : Prop :=
  g = g0 ∧ ∃ i : Nat, env 0 = v ∧ env 1 = w ∧ env 5 = .int .i64 (i : Nat) ∧ i + mm = L.length ∧ i ≤ L.length

set_option maxRecDepth 20000 in
theorem same_spec {h : Hp} {v w : Value} {L : List Rt} {Q : Value → Hp → Prop} (S : SlAt h 38 7 Rt.enc v L) (S' : SlAt h 38 7 Rt.enc w L) (hl : L.length ≤ 1000000) (hQ : Q (.bool true) h) : Ok Try.prog F_octroiref09_Same #[v, w] h Q := by
  obtain ⟨p, cap, hv⟩ := S.shape'
  obtain ⟨p', cap', hw⟩ := S'.shape'
  refine octroiref09_Same_ok (by simp) ?_
  unfold octroiref09_Same_D
  simp (disch := omega) [octroiref09_Same_r0, octroiref09_Same_r1, octroiref09_Same_r3, hv, hw]
  refine ⟨SameInv h v w L, ⟨L.length, rfl, 0, by simp [hv], by simp [hw], by simp, by omega, by omega⟩, ?_⟩
  rintro mm env g ⟨rfl, i, e0, e1, e5, him, hi⟩
  unfold octroiref09_Same_L0
  by_cases hm : mm = 0
  · have : i = L.length := by omega
    subst this
    simp (disch := omega) [octroiref09_Same_r4, octroiref09_Same_r8, e0, e1, e5, hv]
    exact .to _ (.refl _) hQ
  · obtain ⟨y, hy⟩ : ∃ y, L[i]? = some y := ⟨_, List.getElem?_eq_getElem (by omega)⟩
    obtain ⟨b, c1, c, ev, hb, q0, q1, q2, q3, q4, q5, q6⟩ := rt_at S hy
    obtain ⟨b', c1', c', ew, hb', t0, t1, t2, t3, t4, t5, t6⟩ := rt_at S' hy
    have hi' : i < L.length := by omega
    rw [ev] at e0
    rw [ew] at e1
    simp (disch := omega) [octroiref09_Same_r4, octroiref09_Same_r5, octroiref09_Same_r7, e0, e1, e5, hi', hb, hb', q0, q1, q2, q3, q4, q5, q6, t0, t1, t2, t3, t4, t5, t6, wrap_i64]
    exact ⟨mm - 1, by omega, rfl, i + 1, by simp [e0, ev], by simp [e1, ew], by simp, by omega, by omega⟩
end Go.Proofs.Ytpfenhikoajghaa

/- RIP: what a router knows, and tells, behind any calls, is what the document says. -/
namespace Go.Proofs.Ytpfenhikoajghaa
open Go
set_option linter.unusedSimpArgs false
set_option linter.unusedVariables false

def RdInv (h : Hp) (p r q : Nat) (dom most t : Int) (lv : Value) (l : List Op16) (n : Nat) (env : Env) (g : Hp) : Prop :=
  ∃ (i : Nat) (m : RM) (v : Value) (L : RS), i + n = l.length ∧ TwoF h g p r q dom most m v L ∧ RelF (strip m) L ∧ env 2 = lv ∧ env 3 = .int .i64 t ∧ env 11 = .pointer (some ⟨p, 0, none⟩) ∧ env 12 = .pointer (some ⟨q, 0, none⟩) ∧ env 13 = .int .i64 (i : Nat)

set_option maxHeartbeats 1000000 in
set_option maxRecDepth 20000 in
theorem RipDoes_walk {h : Hp} {dom most t : Int} {lv : Value} {l : List Op16} (hmost : most < 9223372036854775808) (A : ArgSl h 8 Op16.enc Op16.Good lv l) :
    Ok Try.prog F_octroilaw16_RipDoes #[.int .i64 dom, .int .i64 most, lv, .int .i64 t] h (fun v g => v = .bool true ∧ Le h g) := by
  refine octroilaw16_RipDoes_ok (by simp) ?_
  unfold octroilaw16_RipDoes_D
  simp (disch := omega) [octroilaw16_RipDoes_r0, octroilaw16_RipDoes_r1]
  refine awake16 (fun h1 l1 => ?_)
  simp (disch := omega) [octroilaw16_RipDoes_r2]
  refine fewM (A.le l1) ?_
  simp (disch := omega) [octroilaw16_RipDoes_r3]
  refine rnewM hmost (fun p r h2 l2 np nr hpr A2 => ?_)
  replace np := none_of_le l1 np
  replace nr := none_of_le l1 nr
  replace l2 := l1.trans l2
  clear l1 h1
  by_cases hf : fewT l
  · rw [decide_eq_true hf]
    obtain ⟨hf1, hf2⟩ := hf
    simp (disch := omega) [octroilaw16_RipDoes_r4, octroilaw16_RipDoes_r6]
    refine fnewM (fun q h3 l3 nq A3 => ?_)
    simp (disch := omega) [octroilaw16_RipDoes_r7]
    have hqp : q ≠ p := by rintro rfl; have := A2.pt; rw [nq] at this; cases this
    have hqr : q ≠ r := by rintro rfl; obtain ⟨o, e⟩ := A2.mp.alive; rw [nq] at e; cases e
    have T0 : TwoF h h3 p r q dom (min most 64) [] (.slice none 0 0) [] := ⟨A2.le' l3, A3, by simp [ownF, ownR, blkOf, hqp, hqr], l2.trans l3, by simp [ownR, np, nr], by simp [ownF, blkOf, none_of_le l2 nq]⟩
    refine ⟨RdInv h p r q dom (min most 64) t lv l, ⟨l.length, 0, [], _, [], by omega, T0, ⟨.nil, by simp [Uniq, strip], by simp [SrtP], by simp [SaneF, strip]⟩, by simp, by simp, by simp, by simp, by simp⟩, ?_⟩
    obtain ⟨ap, acap, hlv⟩ := A.shape
    have hmo : min most 64 ≤ 64 := by omega
    generalize min most 64 = most' at *
    rintro n env g ⟨i, m, v, L, hin, T, R, e2, e3, e11, e12, e13⟩
    unfold octroilaw16_RipDoes_L0
    by_cases hm : n = 0
    · have : i = l.length := by omega
      subst this
      simp (disch := omega) [octroilaw16_RipDoes_r8, octroilaw16_RipDoes_r16, e2, e3, e11, e12, e13, hlv]
      exact .to _ (.refl _) ⟨rfl, T.le⟩
    · obtain ⟨x, hx⟩ : ∃ x, l[i]? = some x := ⟨_, List.getElem?_eq_getElem (by omega)⟩
      obtain ⟨og, b, o, cap, c, E, fr, hv', hb, q0, q1, q2, q3, q4, q5, q6, q7⟩ := op16_at A hx
      have hi' : i < l.length := by omega
      have hbg := T.le _ _ hb
      have hnow := hf2 x (List.mem_of_getElem? hx)
      have hL : L.length ≤ 64 := by rw [← R.len, strip_length]; exact T.a.le
      obtain ⟨d1, d2, R'⟩ := R.does (dom := dom) (most := most') (o := x)
      simp (disch := omega) [octroilaw16_RipDoes_r8, octroilaw16_RipDoes_r9, e2, e3, e11, e12, e13, hv', hbg, hi', q0, q1, q2, q3, q4, q5, q6, q7]
      refine rdoesM (o := x) T.a hmo og hnow.1 hnow.2 (fun g2 k2 => ?_)
      obtain ⟨m2, em2, T2⟩ := T.rip k2
      have hbg2 := T2.le _ _ hb
      simp (disch := omega) [octroilaw16_RipDoes_r10, e2, e3, e11, e12, e13, hv', hbg2, hi', q0, q1, q2, q3, q4, q5, q6, q7]
      refine fdoesM (o := x) T2.f (by omega) og hnow.1 hnow.2 (fun g3 k3 => ?_)
      obtain ⟨v3, T3⟩ := T2.ref k3
      rw [← em2] at R'
      rw [d1, d2]
      generalize fdoesR L dom most' x = Z at *
      clear em2 d1 d2 k2 k3 T T2 R
      simp (disch := omega) [octroilaw16_RipDoes_r11, e11, e12]
      refine rallM T3.a (fun w1 ks1 g4 l4 hp1 hs1 S1 nw1 => ?_)
      have T4 := T3.to l4
      simp (disch := omega) [e11, e12]
      refine fallM T4.f (fun w2 g5 l5 S2 nw2 => ?_)
      have T5 := T4.to l5
      rw [R'.all (by rw [strip_keys]; exact hp1) hs1] at S1
      have hlen := R'.len
      rw [strip_length] at hlen
      have hml := T5.a.le
      have hal : (fallL dom Z.2.2).length ≤ 64 := by unfold fallL; exact Nat.le_trans (List.length_filterMap_le _ _) (by omega)
      simp (disch := omega)
      refine same_spec (S1.le' l5) S2 (by omega) ?_
      simp (disch := omega) [octroilaw16_RipDoes_r12, e3, e11, e12]
      refine rtellM T5.a (fun w3 ks3 g6 l6 hp3 hs3 S3 nw3 => ?_)
      have T6 := T5.to l6
      simp (disch := omega) [e3, e11, e12]
      refine ftellM T6.f (fun w4 g7 l7 S4 nw4 => ?_)
      have T7 := T6.to l7
      rw [R'.tell (by rw [strip_keys]; exact hp3) hs3] at S3
      have htl : (ftellL t Z.2.2).length ≤ 64 := by unfold ftellL; rw [List.length_map]; omega
      simp (disch := omega)
      refine same_REnt (S3.le' l7) S4 (by omega) ?_
      have hqq := T7.f.pt
      obtain ⟨sp, scap, hsv⟩ := T7.f.sl.shape'
      simp (disch := omega) [octroilaw16_RipDoes_r13, e3, e11, e12, hqq, hsv]
      refine rlenM T7.a ?_
      rw [hlen]
      simp (disch := omega) [octroilaw16_RipDoes_r15, e13, hqq, hsv, wrap_i64]
      exact ⟨n - 1, by omega, i + 1, m2, v3, Z.2.2, by omega, T7, R', by simp [e2, hv'], by simp [e3], by simp [e11], by simp [e12], by simp⟩
  · rw [decide_eq_false hf]
    simp (disch := omega) [octroilaw16_RipDoes_r4, octroilaw16_RipDoes_r5]
    exact .to _ (.refl _) ⟨rfl, l2⟩
end Go.Proofs.Ytpfenhikoajghaa

/- RipDoes: what a router knows by RIP, behind any calls at any times, and what it tells any neighbour, is what the document says: the row. No condition. -/
namespace Go.Proofs.Ytpfenhikoajghaa.RipDoes_row
open Go Go.ChangeShapes Go.WideShapes Go.RowKit
theorem own_knob : ownKnob Try.prog.godebug = none := by kernel_rfl
theorem laid_out : laidOutB Try.prog = true := by kernel_rfl
set_option maxRecDepth 100000 in
theorem lifted (os : Os) (started : os.Started) (H : Type) (enc : TypeId × Value → H) :
    ReturnsInHanded {} Try.checked os 5 .any (Rows.ripDoesSpec.pre6 enc Try.prog Try.f5 Rows.ripDoesRow.domain false) (Rows.ripDoesSpec.post enc Try.prog Try.f5 false true false false) := by
  refine returnsInHanded_of_change_sized (C := Try.checked) own_knob started (by kernel_rfl) Try.func5
    (ChangeSpec.witness6 (enc := enc) (C := Try.checked) false ⟨#[], #[.int .i64 0, .int .i64 0, .slice none 0 0, .int .i64 0], []⟩ 8 (by kernel_rfl) (by kernel_rfl) (by kernel_rfl) (by kernel_rfl)) ?_
  intro W base args ds gs before hval hW hcnd hsz _
  have hW' := hW
  obtain ⟨p, q, hA, hV, rfl, hfz, hnd⟩ := hW
  obtain ⟨rfl, rfl⟩ := trodVars_none hV
  have hA' : DataW.TrodAll enc Try.prog W 0 (fun _ => true) true Try.f5.params.toList args.toList ds p := hA
  have hval' : ∀ (j : Nat) t v, Try.f5.params[j]? = some t → args[j]? = some v → Value.okWide Try.prog W .any base t v := hval
  rw [Try.params5] at hA' hval'
  obtain ⟨v0, vs0, d0, ds0, p0, q0, hargs, rfl, rfl, h0, r0⟩ := trodAll_cons hA'
  obtain ⟨v1, vs1, d1, ds1, p1, q1, rfl, rfl, rfl, h1, r1⟩ := trodAll_cons r0
  obtain ⟨v2, vs2, d2, ds2, p2, q2, rfl, rfl, rfl, h2, r2⟩ := trodAll_cons r1
  obtain ⟨v3, vs3, d3, ds3, p3, q3, rfl, rfl, rfl, h3, r3⟩ := trodAll_cons r2
  obtain ⟨rfl, rfl, rfl⟩ := trodAll_nil r3
  obtain rfl : args = #[v0, v1, v2, v3] := by cases args; simp_all
  obtain ⟨n0, rfl, rfl, rfl, w0⟩ := open_int Try.underlying3 (hval' 0 _ v0 rfl rfl) h0
  obtain ⟨n1, rfl, rfl, rfl, w1⟩ := open_int Try.underlying3 (hval' 1 _ v1 rfl rfl) h1
  obtain ⟨xs2, A2⟩ := open_argSl (ks := Op16Ks) (sz := 8) 4 Try.underlying42 (by kernel_rfl) (by kernel_rfl) (by decide) dec_Op16 (hval' 2 _ v2 rfl rfl) h2
  obtain ⟨n3, rfl, rfl, rfl, w3⟩ := open_int Try.underlying3 (hval' 3 _ v3 rfl rfl) h3
  refine (below_of (RipDoes_walk (i64_wf w1).2 A2)).mono fun e W' ⟨he, bel⟩ => ?_
  subst he
  exact ⟨_, rfl, _, _, _, [], _, [], hW', trodAll_mk1 (shut_bool (by kernel_rfl) _), trodAll_below laid_out bel (by kernel_rfl) hA, rfl, bel.frame _, fun h => by cases h⟩
theorem over : Rows.ripDoesRow.holds Try.pinned (OpenSpec.ofChange Rows.ripDoesSpec) :=
  OpenClaim.holds_of_wide 5 Try.f5 rfl rfl rfl rfl rfl rfl rfl ⟨rfl, rfl, rfl, rfl, rfl⟩ rfl rfl rfl rfl rfl (by kernel_rfl) Try.func5 (by kernel_rfl)
    (of_decide_eq_true (by kernel_rfl)) (by unfold Func.isWrapper; first | (rw [if_pos (by decide +kernel)]; kernel_rfl) | (rw [if_neg (by decide +kernel)]; exact ⟨rfl, rfl⟩))
    (fun os started H enc _ => lifted os started H enc)
end Go.Proofs.Ytpfenhikoajghaa.RipDoes_row
namespace Go.Proofs.Ytpfenhikoajghaa
theorem ripDoes_holds : Rows.RipDoesSaid := RipDoes_row.over
#print axioms ripDoes_holds
end Go.Proofs.Ytpfenhikoajghaa
