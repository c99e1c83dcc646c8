/- Babel: all routes that are taken; their sources. -/
import Derived.Test.YtchbipkoifmmdaaZ7

set_option linter.unusedSimpArgs false
set_option linter.unusedVariables false

namespace Go.Proofs.Ytchbipkoifmmdaa
open Go
set_option linter.unusedSimpArgs false
set_option linter.unusedVariables false

def allX (s : BS) (k : PK) (y : Tlv × Int) : Rt := ⟨k.1, k.2, s.dom, 115, y.1.c, y.2, y.1.tg⟩
def allB (s : BS) (ks : List PK) : List Rt := ks.filterMap fun k => (wayB s k).map (allX s k)
theorem allB_snoc {s : BS} {A : List PK} {k : PK} : allB s (A ++ [k]) = allB s A ++ ((wayB s k).map (allX s k)).toList := by
  unfold allB; rw [List.filterMap_append]
  cases h : wayB s k <;> simp [List.filterMap, h]

section
variable {h h' : Hp} {x : BP} {s : BS} {Q : Value → Hp → Prop}

/-- A slice is one longer, and new. -/
theorem Grew.news {h0 g g' : Hp} {w w' : Value} (G : Grew g g' w w') (lg : Le h0 g) (nw : ∀ b, blkOf w = some b → h0 b = none) : Le h0 g' ∧ ∀ b, blkOf w' = some b → h0 b = none := by
  refine ⟨fun x o e => G.keep x o (lg _ _ e) (fun q => by rw [nw x q.symm] at e; cases e), fun b e => ?_⟩
  rcases G.fresh with q1 | q1
  · exact nw b (by rw [← q1]; exact e)
  · exact none_of_le lg (q1 b e)

def AlInv (h0 : Hp) (x : BP) (s : BS) (wk : Value) (ks : List PK) (n : Nat) (env : Env) (g : Hp) : Prop :=
  ∃ (i : Nat) (w : Value), i + n = ks.length ∧ Le h0 g ∧ SlAt g 38 7 Rt.enc w (allB s (ks.take i)) ∧ (∀ b, blkOf w = some b → h0 b = none) ∧
    env 0 = .pointer (some ⟨x.p, 0, none⟩) ∧ env 3 = w ∧ env 10 = wk ∧ env 11 = .int .i64 (ks.length : Nat) ∧ env 12 = .int .i64 (i : Nat)

set_option maxHeartbeats 1000000 in
set_option maxRecDepth 20000 in
theorem ballM (A : BabAt h x s) (hM : SeqOk s.M) (hT : TldOk s.T) (hl : s.O.length + s.S.length + s.T.length ≤ 100000) (hQ : ∀ w h', Le h h' → SlAt h' 38 7 Rt.enc w (allB s (prefL s)) → (∀ b, blkOf w = some b → h b = none) → Q w h') :
    Ok Try.prog F_babel_Babel_All #[.pointer (some ⟨x.p, 0, none⟩)] h Q := by
  refine babel_Babel_All_ok (by simp) ?_
  unfold babel_Babel_All_D
  simp (disch := omega) [babel_Babel_All_r0, babel_Babel_All_r1, babel_Babel_All_r2]
  refine bprefM A hl (fun wk h1 l1 Sk nk => ?_)
  have hkl := prefL_length (s := s)
  generalize prefL s = ks at *
  obtain ⟨sp, scap, hwk⟩ := Sk.shape'
  have A1 := A.le' l1
  simp (disch := omega) [hwk]
  refine ⟨AlInv h1 x s wk ks, ⟨ks.length, 0, .slice none 0 0, by omega, .refl _, .inl ⟨rfl, rfl⟩, by simp [blkOf], by simp, by simp, by simp [hwk], by simp, by simp⟩, ?_⟩
  rintro n env g ⟨i, w, hin, lg, S, nw, e0, e3, e10, e11, e12⟩
  unfold babel_Babel_All_L0
  have hsl : (allB s (ks.take i)).length ≤ ks.length := by unfold allB; exact Nat.le_trans (List.length_filterMap_le _ _) (by rw [List.length_take]; omega)
  by_cases hm : n = 0
  · have : i = ks.length := by omega
    subst this
    rw [List.take_of_length_le (Nat.le_refl _)] at S
    simp (disch := omega) [babel_Babel_All_r3, babel_Babel_All_r9, e0, e3, e10, e11, e12]
    exact .to _ (.refl _) (hQ _ _ (l1.trans lg) S (fun b e => none_of_le l1 (nw b e)))
  · obtain ⟨k, hk⟩ : ∃ x, ks[i]? = some x := ⟨_, List.getElem?_eq_getElem (by omega)⟩
    obtain ⟨b, cap, c, hv', hb, c0, c1⟩ := kq_at (Sk.le' lg) hk
    have hi' : i < ks.length := by omega
    have tk := take_snoc hk
    simp (disch := omega) [babel_Babel_All_r3, babel_Babel_All_r4, e0, e3, e10, e11, e12, hv', hb, c0, c1, hi']
    intro b5 hb5
    have L5 : Le g (g.upd b5 (.cells (kencP k).toArray 24)) := .new hb5
    have f5 : (g.upd b5 (.cells (kencP k).toArray 24)) b5 = some (.cells (kencP k).toArray 24 (0, 0)) := upd_same
    simp (disch := omega)
    show babel_Babel_All_r5 _ (g.upd b5 (.cells (kencP k).toArray 24)) _
    generalize g.upd b5 (.cells (kencP k).toArray 24) = g1 at *
    have lg1 := lg.trans L5
    simp (disch := omega) [babel_Babel_All_r5, e0, f5]
    refine bwayM (k := k) (A1.le' lg1) hM hT (fun g2 l2 => ?_)
    simp (disch := omega)
    intro b6 hb6
    have lg2 := lg1.trans l2
    have L6 : Le g2 (g2.upd b6 (.cells tc0 31)) := .new hb6
    have f6 : (g2.upd b6 (.cells tc0 31)) b6 = some (.cells tc0 31 (0, 0)) := upd_same
    have h6 : h1 b6 = none := none_of_le lg2 hb6
    have L7 : ∀ o2, Le g2 ((g2.upd b6 (.cells tc0 31)).upd b6 o2) := fun o2 y o e => by
      have : y ≠ b6 := by rintro rfl; rw [hb6] at e; cases e
      rw [upd_ne this]; exact L6 _ _ e
    generalize g2.upd b6 (.cells tc0 31) = g3 at *
    simp (disch := omega)
    refine (stA_of f6 (by rfl) (by rfl)).mpr ?_
    have L8 := L7 (.cells (bestT (wayB s k)).cells 31 (0, 0))
    have f8 : (g3.upd b6 (.cells (bestT (wayB s k)).cells 31 (0, 0))) b6 = some (.cells (bestT (wayB s k)).cells 31 (0, 0)) := upd_same
    show thenK _ _ _ _ (g3.upd b6 (.cells (bestT (wayB s k)).cells 31 (0, 0)))
    generalize g3.upd b6 (.cells (bestT (wayB s k)).cells 31 (0, 0)) = g4 at *
    have lg4 := lg2.trans L8
    have S4 := ((S.le' L5).le' l2).le' L8
    have f54 := L8 _ _ (l2 _ _ f5)
    have hp4 := (A1.le' lg4).pt
    rw [← hv']
    cases hw : wayB s k with
    | none =>
      have hs : allB s (ks.take (i + 1)) = allB s (ks.take i) := by rw [tk, allB_snoc, hw]; simp
      simp (disch := omega) [babel_Babel_All_r6, babel_Babel_All_r8, e12, wrap_i64]
      exact ⟨n - 1, by omega, i + 1, w, by omega, lg4, by rw [hs]; exact S4, nw, by simp [e0], by simp [e3], by simp [e10], by simp [e11], by simp⟩
    | some y =>
      have hs : allB s (ks.take (i + 1)) = allB s (ks.take i) ++ [allX s k y] := by rw [tk, allB_snoc, hw]; simp
      rw [hw] at f8
      simp (disch := omega) [babel_Babel_All_r6, babel_Babel_All_r7, e0, e3, hp4, f54, f8]
      refine snoc_api_Route S4 (y := allX s k y) rfl (by simp [Rt.enc]) (by omega) (fun b9 w' g' S' G hb9 => ?_)
      obtain ⟨lg', nw'⟩ := G.news lg4 nw
      simp (disch := omega) [babel_Babel_All_r8, e12, wrap_i64]
      exact ⟨n - 1, by omega, i + 1, w', by omega, lg', by rw [hs]; exact S', nw', by simp [e0], by simp, by simp [e10], by simp [e11], by simp⟩

set_option maxHeartbeats 1000000 in
set_option maxRecDepth 20000 in
theorem bsourceM {k : PK} (A : BabAt h x s) (hM : SeqOk s.M) (hT : TldOk s.T) (hQ : ∀ h', Le h h' → Q (.tuple #[.int .u64 (((wayB s k).map (·.1.rt)).getD 0 : Nat), .bool (wayB s k).isSome]) h') :
    Ok Try.prog F_babel_Babel_Source #[.pointer (some ⟨x.p, 0, none⟩), .agg #[.int .u32 (k.1 : Nat), .int .i64 k.2]] h Q := by
  refine babel_Babel_Source_ok (by simp) ?_
  unfold babel_Babel_Source_D
  simp (disch := omega) [babel_Babel_Source_r0]
  intro b3 hb3
  have L1 : Le h (h.upd b3 (.cells #[.int .u32 (k.1 : Nat), .int .i64 k.2] 24)) := .new hb3
  have f3 : (h.upd b3 (.cells #[.int .u32 (k.1 : Nat), .int .i64 k.2] 24)) b3 = some (.cells #[.int .u32 (k.1 : Nat), .int .i64 k.2] 24) := upd_same
  generalize h.upd b3 (.cells #[.int .u32 (k.1 : Nat), .int .i64 k.2] 24) = h1 at *
  simp (disch := omega) [babel_Babel_Source_r1, f3]
  refine bwayM (k := k) (A.le' L1) hM hT (fun g2 l2 => ?_)
  simp (disch := omega)
  intro b6 hb6
  have lg2 := L1.trans l2
  have L6 : Le g2 (g2.upd b6 (.cells tc0 31)) := .new hb6
  have f6 : (g2.upd b6 (.cells tc0 31)) b6 = some (.cells tc0 31 (0, 0)) := upd_same
  have L7 : ∀ o2, Le g2 ((g2.upd b6 (.cells tc0 31)).upd b6 o2) := fun o2 y o e => by
    have : y ≠ b6 := by rintro rfl; rw [hb6] at e; cases e
    rw [upd_ne this]; exact L6 _ _ e
  generalize g2.upd b6 (.cells tc0 31) = g3 at *
  simp (disch := omega)
  refine (stA_of f6 (by rfl) (by rfl)).mpr ?_
  have L8 := L7 (.cells (bestT (wayB s k)).cells 31 (0, 0))
  have f8 : (g3.upd b6 (.cells (bestT (wayB s k)).cells 31 (0, 0))) b6 = some (.cells (bestT (wayB s k)).cells 31 (0, 0)) := upd_same
  cases hw : wayB s k with
  | none =>
    rw [hw] at hQ
    simp (disch := omega) [babel_Babel_Source_r2, babel_Babel_Source_r3]
    rw [hw] at L8
    exact .to _ (.refl _) (hQ _ (lg2.trans L8))
  | some y =>
    rw [hw] at hQ L8
    simp (disch := omega) [babel_Babel_Source_r2, babel_Babel_Source_r4]
    exact .to _ (.refl _) (hQ _ (lg2.trans L8))
end
end Go.Proofs.Ytchbipkoifmmdaa

/- Babel: what it tells. -/
namespace Go.Proofs.Ytchbipkoifmmdaa
open Go
set_option linter.unusedSimpArgs false
set_option linter.unusedVariables false

abbrev goneX (t : Tlv) : Tlv := ⟨t.k, t.s, t.iv, 65535, t.a, t.l, t.rt, 0, t.hp⟩
def waysL (s : BS) (ks : List PK) : List Tlv := ks.filterMap fun k => (wayB s k).map (·.1)
def goneL (s : BS) (ks : List PK) : List Tlv := ks.filterMap fun k => if (wayB s k).isSome then none else (getM s.S k).map goneX
def tellStep (s : BS) (t : Tlv) : BS := knowB { s with S := setM (t.a, t.l) t s.S } (t.a, t.l) t.rt t.s t.c
def tellS (s : BS) : BS := (waysL s (prefL s)).foldl tellStep { s with S := [] }
def tellL (s : BS) : List Tlv := waysL s (prefL s) ++ goneL s (prefL s)

theorem ways_snoc {s : BS} {A : List PK} {k : PK} : waysL s (A ++ [k]) = waysL s A ++ ((wayB s k).map (·.1)).toList := by
  unfold waysL; rw [List.filterMap_append]
  cases h : wayB s k <;> simp [List.filterMap, h]
theorem gone_snoc {s : BS} {A : List PK} {k : PK} : goneL s (A ++ [k]) = goneL s A ++ (if (wayB s k).isSome then none else (getM s.S k).map goneX).toList := by
  unfold goneL; rw [List.filterMap_append]
  cases h : (if (wayB s k).isSome then none else (getM s.S k).map goneX) <;> simp [List.filterMap, h]
theorem waysL_length {s : BS} {ks : List PK} : (waysL s ks).length ≤ ks.length := List.length_filterMap_le _ _
theorem goneL_length {s : BS} {ks : List PK} : (goneL s ks).length ≤ ks.length := List.length_filterMap_le _ _

/-- Numbers that are, in all that is known. -/
structure BNum (s : BS) : Prop where
  q : s.seq < 65536
  m : SeqOk s.M
  t : ∀ e ∈ s.T, e.2.2.s < 65536 ∧ e.2.2.a < 2 ^ 32
  o : ∀ e ∈ s.O, e.2.a < 2 ^ 32
theorem BNum.tld {s : BS} (N : BNum s) : TldOk s.T := fun e he => (N.t e he).1
theorem wayN_ok {s : BS} (N : BNum s) {k : PK} : ∀ {n : Nat} {y : Tlv × Int}, wayN s k n = some y → y.1.s < 65536 ∧ y.1.a < 2 ^ 32
  | 0, y, h => by cases h
  | n + 1, y, h => by
    rw [wayN] at h
    unfold wayStep at h
    cases hg : getM s.T (k, ((n + 1 : Nat) : Int)) with
    | none => rw [hg] at h; exact wayN_ok N h
    | some z =>
      rw [hg] at h
      simp only at h
      split at h
      · simp at h; subst h; exact N.t _ (getM_mem hg)
      · exact wayN_ok N h
theorem wayB_ok {s : BS} (N : BNum s) {k : PK} {y : Tlv × Int} (h : wayB s k = some y) : y.1.s < 65536 ∧ y.1.a < 2 ^ 32 := by
  unfold wayB at h
  cases hg : getM s.O k with
  | none => rw [hg] at h; exact wayN_ok N h
  | some t => rw [hg] at h; simp at h; subst h; exact ⟨N.q, N.o _ (getM_mem hg)⟩
theorem waysL_ok {s : BS} (N : BNum s) {ks : List PK} : ∀ t ∈ waysL s ks, t.s < 65536 ∧ t.a < 2 ^ 32 := by
  intro t ht
  obtain ⟨k, hk, h2⟩ := List.mem_filterMap.1 ht
  cases h : wayB s k with
  | none => rw [h] at h2; cases h2
  | some y => rw [h] at h2; simp at h2; subst h2; exact wayB_ok N h
theorem knowB_seq {s : BS} {k : PK} {rt sn : Nat} {n : Int} (h : SeqOk s.M) (hs : sn < 65536) : SeqOk (knowB s k rt sn n).M := by
  unfold knowB
  split
  · intro e he
    rcases setM_mem he with rfl | q
    · exact hs
    · exact h e q
  · exact h

section
variable {h h' : Hp} {x : BP} {s : BS} {Q : Value → Hp → Prop}

def Te0 (h0 : Hp) (x : BP) (s : BS) (wk : Value) (ks : List PK) (n : Nat) (env : Env) (g : Hp) : Prop :=
  ∃ (i : Nat) (wv gv : Value), i + n = ks.length ∧ Le h0 g ∧ SlAt g 31 9 Tlv.enc wv (waysL s (ks.take i)) ∧ SlAt g 31 9 Tlv.enc gv (goneL s (ks.take i)) ∧ (∀ b, blkOf wv = some b → h0 b = none) ∧ (∀ b, blkOf gv = some b → h0 b = none) ∧ (∀ b, blkOf wv = some b → blkOf gv ≠ some b) ∧
    env 0 = .pointer (some ⟨x.p, 0, none⟩) ∧ env 3 = wv ∧ env 4 = gv ∧ env 15 = wk ∧ env 16 = .int .i64 (ks.length : Nat) ∧ env 17 = .int .i64 (i : Nat)

def Te1 (h0 : Hp) (x : BP) (s0 : BS) (wv gv : Value) (ws gs : List Tlv) (n : Nat) (env : Env) (g : Hp) : Prop :=
  ∃ i : Nat, i + n = ws.length ∧ BQ h0 x ((ws.take i).foldl tellStep s0) g ∧ SeqOk ((ws.take i).foldl tellStep s0).M ∧ SlAt g 31 9 Tlv.enc wv ws ∧ SlAt g 31 9 Tlv.enc gv gs ∧
    env 0 = .pointer (some ⟨x.p, 0, none⟩) ∧ env 3 = wv ∧ env 4 = gv ∧ env 54 = wv ∧ env 55 = .int .i64 (ws.length : Nat) ∧ env 56 = .int .i64 (i : Nat)

set_option maxHeartbeats 2000000 in
set_option maxRecDepth 20000 in
theorem btellM (A : BabAt h x s) (N : BNum s) (hl : s.O.length + s.S.length + s.T.length ≤ 100000) (hQ : ∀ w h', BQ h x (tellS s) h' → SlAt h' 31 9 Tlv.enc w (tellL s) → (∀ b, blkOf w = some b → h b = none) → Q w h') :
    Ok Try.prog F_babel_Babel_Tell #[.pointer (some ⟨x.p, 0, none⟩)] h Q := by
  refine babel_Babel_Tell_ok (by simp) ?_
  unfold babel_Babel_Tell_D
  simp (disch := omega) [babel_Babel_Tell_r0, babel_Babel_Tell_r1, babel_Babel_Tell_r2]
  refine bprefM A hl (fun wk h1 l1 Sk nk => ?_)
  have hkl := prefL_length (s := s)
  unfold tellS tellL at hQ
  generalize prefL s = ks at *
  obtain ⟨sp, scap, hwk⟩ := Sk.shape'
  have A1 := A.le' l1
  simp (disch := omega) [hwk]
  refine ⟨Te0 h1 x s wk ks, ⟨ks.length, 0, .slice none 0 0, .slice none 0 0, by omega, .refl _, .inl ⟨rfl, rfl⟩, .inl ⟨rfl, rfl⟩, by simp [blkOf], by simp [blkOf], by simp [blkOf], by simp, by simp, by simp, by simp [hwk], by simp, by simp⟩, ?_⟩
  rintro n env g ⟨i, wv, gv, hin, lg, Sw, Sg, nw, ng, dis, e0, e3, e4, e15, e16, e17⟩
  unfold babel_Babel_Tell_L0
  have hwl : (waysL s (ks.take i)).length ≤ ks.length := Nat.le_trans waysL_length (by rw [List.length_take]; omega)
  have hgl : (goneL s (ks.take i)).length ≤ ks.length := Nat.le_trans goneL_length (by rw [List.length_take]; omega)
  by_cases hm : n = 0
  · have : i = ks.length := by omega
    subst this
    rw [List.take_of_length_le (Nat.le_refl _)] at Sw Sg
    have Ag := A1.le' lg
    have hp := Ag.pt
    simp (disch := omega) [babel_Babel_Tell_r3, babel_Babel_Tell_r13, e0, e3, e4, e15, e16, e17, hp]
    refine clearP Ag.md (fun o M5 => ?_)
    have B0 := BQ.le' (l1.trans lg) (Ag.setS M5 .nil)
    generalize hg2 : g.upd x.d o = g2 at *
    have offW : ∀ y ∈ ownB x, blkOf wv ≠ some y := fun y hy e => by obtain ⟨o, e2⟩ := A1.alive y hy; rw [nw y e] at e2; cases e2
    have offG : ∀ y ∈ ownB x, blkOf gv ≠ some y := fun y hy e => by obtain ⟨o, e2⟩ := A1.alive y hy; rw [ng y e] at e2; cases e2
    have md : x.d ∈ ownB x := mem_ownB.2 (.inr (.inr (.inr (.inr rfl))))
    replace Sw : SlAt g2 31 9 Tlv.enc wv (waysL s ks) := Sw.keep fun b o' e e2 => by rw [← hg2, upd_ne (fun q => offW _ md (by rw [← q]; exact e))]; exact e2
    replace Sg : SlAt g2 31 9 Tlv.enc gv (goneL s ks) := Sg.keep fun b o' e e2 => by rw [← hg2, upd_ne (fun q => offG _ md (by rw [← q]; exact e))]; exact e2
    have hok := waysL_ok N (ks := ks)
    have hwsl := waysL_length (s := s) (ks := ks)
    have hgsl := goneL_length (s := s) (ks := ks)
    have nw' : ∀ b, blkOf wv = some b → h b = none := fun b e => none_of_le l1 (nw b e)
    generalize waysL s ks = ws at *
    generalize goneL s ks = gs at *
    obtain ⟨wp, wcap, hwv⟩ := Sw.shape'
    simp (disch := omega) [babel_Babel_Tell_r14, e3, hwv]
    refine ⟨Te1 h x { s with S := [] } wv gv ws gs, ⟨ws.length, 0, by omega, by simpa using B0, N.m, Sw, Sg, by simp [e0], by simp [e3, hwv], by simp [e4], by simp [hwv], by simp, by simp⟩, ?_⟩
    clear e0 e3 e4 e15 e16 e17
    rintro n env g3 ⟨i, hin, B, hM, Sw3, Sg3, e0, e3, e4, e54, e55, e56⟩
    unfold babel_Babel_Tell_L1
    by_cases hm2 : n = 0
    · have : i = ws.length := by omega
      subst this
      rw [List.take_of_length_le (Nat.le_refl _)] at B
      simp (disch := omega) [babel_Babel_Tell_r15, babel_Babel_Tell_r20, e0, e3, e4, e54, e55, e56]
      refine cat_api_BabelTlv Sw3 (Sg3.toSrc (fun y _ => Tlv.one y)) (by omega) (fun w' g4 S4 G4 => ?_)
      simp (disch := omega)
      have F4 := G4.fr
      have B4 : BQ h x (ws.foldl tellStep { s with S := [] }) g4 := ⟨B.at_.keep (fun y o' hy e => G4.keep y o' e (fun q => offW y hy q.symm)), ⟨fun y o' e nn => G4.keep y o' (B.fr.keep y o' e nn) (fun q => by rw [nw' y q.symm] at e; cases e), fun _ m => .inl m⟩⟩
      refine .to _ (.refl _) (hQ _ _ B4 S4 (fun b e => ?_))
      rcases G4.fresh with q1 | q1
      · exact nw' b (by rw [← q1]; exact e)
      · have := q1 b e
        cases hb : h b with
        | none => rfl
        | some o' =>
          by_cases hm : b ∈ ownB x
          · obtain ⟨o2, e2⟩ := B.at_.alive b hm; rw [this] at e2; cases e2
          · rw [B.fr.keep b o' hb hm] at this; cases this
    · obtain ⟨t, ht⟩ : ∃ t, ws[i]? = some t := ⟨_, List.getElem?_eq_getElem (by omega)⟩
      obtain ⟨b, cap, c, hv', hb, c0, c1, c2, c3, c4, c5, c6, c7, c8⟩ := Tlv_at Sw3 ht
      have hi' : i < ws.length := by omega
      have tok := hok t (List.mem_of_getElem? ht)
      have hfold : (ws.take (i + 1)).foldl tellStep { s with S := [] } = tellStep ((ws.take i).foldl tellStep { s with S := [] }) t := by rw [take_snoc ht, List.foldl_append]; rfl
      generalize (ws.take i).foldl tellStep { s with S := [] } = si at *
      simp (disch := omega) [babel_Babel_Tell_r15, babel_Babel_Tell_r16, e0, e3, e4, e54, e55, e56, hv', hb, c0, c1, c2, c3, c4, c5, c6, c7, c8, hi']
      intro b13 hb13
      have L13 : Le g3 (g3.upd b13 (.cells t.cells 31)) := .new hb13
      have f13 : (g3.upd b13 (.cells t.cells 31)) b13 = some (.cells t.cells 31 (0, 0)) := upd_same
      have n13 : b13 ∉ ownB x := fun q => by obtain ⟨o, e⟩ := B.at_.alive _ q; rw [hb13] at e; cases e
      simp (disch := omega)
      show babel_Babel_Tell_r17 _ (g3.upd b13 (.cells t.cells 31)) _
      generalize g3.upd b13 (.cells t.cells 31) = g4 at *
      have B4 : BQ h x si g4 := ⟨B.at_.le' L13, ⟨fun y o' e nn => L13 _ _ (B.fr.keep y o' e nn), fun _ m => .inl m⟩⟩
      have hp4 := B4.at_.pt
      have Sw4 := Sw3.le' L13
      have Sg4 := Sg3.le' L13
      simp (disch := omega) [babel_Babel_Tell_r17, e0, hp4, f13]
      refine putP (p := (t.a, t.l)) (v := t) B4.at_.md (fun o5 M5 => ?_)
      have B5 := B4.at_.setS M5 B4.at_.ud.set
      have f135 : (g4.upd x.d o5) b13 = some (.cells t.cells 31 (0, 0)) := by rw [upd_ne (fun q => n13 (by rw [q]; exact md))]; exact f13
      have Sw5 : SlAt (g4.upd x.d o5) 31 9 Tlv.enc wv ws := Sw4.keep fun b o' e e2 => by rw [upd_ne (fun q => offW _ md (by rw [← q]; exact e))]; exact e2
      have Sg5 : SlAt (g4.upd x.d o5) 31 9 Tlv.enc gv gs := Sg4.keep fun b o' e e2 => by rw [upd_ne (fun q => offG _ md (by rw [← q]; exact e))]; exact e2
      have BB5 := B4.trans B5
      simp (disch := omega)
      show babel_Babel_Tell_r18 _ (g4.upd x.d o5) _
      generalize g4.upd x.d o5 = g5 at *
      simp (disch := omega) [babel_Babel_Tell_r18, e0, f135]
      refine bKnowM (k := (t.a, t.l)) B5.at_ hM tok.1 tok.2 (fun g6 B6 => ?_)
      have BB6 := BB5.trans B6
      have Sw6 : SlAt g6 31 9 Tlv.enc wv ws := Sw5.keep fun b o' e e2 => B6.fr.keep b o' e2 (fun q => offW b q e)
      have Sg6 : SlAt g6 31 9 Tlv.enc gv gs := Sg5.keep fun b o' e e2 => B6.fr.keep b o' e2 (fun q => offG b q e)
      simp (disch := omega) [babel_Babel_Tell_r19, e56, wrap_i64]
      exact ⟨n - 1, by omega, i + 1, by omega, by rw [hfold]; exact BB6, by rw [hfold]; exact knowB_seq hM tok.1, Sw6, Sg6, by simp [e0], by simp [e3, hv'], by simp [e4], by simp [e54, hv'], by simp [e55], by simp⟩
  · obtain ⟨k, hk⟩ : ∃ x, ks[i]? = some x := ⟨_, List.getElem?_eq_getElem (by omega)⟩
    obtain ⟨b, cap, c, hv', hb, c0, c1⟩ := kq_at (Sk.le' lg) hk
    have hi' : i < ks.length := by omega
    have tk := take_snoc hk
    simp (disch := omega) [babel_Babel_Tell_r3, babel_Babel_Tell_r4, e0, e3, e4, e15, e16, e17, hv', hb, c0, c1, hi']
    intro b6 hb6
    have L6 : Le g (g.upd b6 (.cells (kencP k).toArray 24)) := .new hb6
    have f6 : (g.upd b6 (.cells (kencP k).toArray 24)) b6 = some (.cells (kencP k).toArray 24 (0, 0)) := upd_same
    simp (disch := omega)
    show babel_Babel_Tell_r5 _ (g.upd b6 (.cells (kencP k).toArray 24)) _
    generalize g.upd b6 (.cells (kencP k).toArray 24) = g1 at *
    have lg1 := lg.trans L6
    simp (disch := omega) [babel_Babel_Tell_r5, e0, f6]
    refine bwayM (k := k) (A1.le' lg1) N.m N.tld (fun g2 l2 => ?_)
    simp (disch := omega)
    intro b7 hb7
    have lg2 := lg1.trans l2
    have L7 : Le g2 (g2.upd b7 (.cells tc0 31)) := .new hb7
    have f7 : (g2.upd b7 (.cells tc0 31)) b7 = some (.cells tc0 31 (0, 0)) := upd_same
    have L7b : ∀ o2, Le g2 ((g2.upd b7 (.cells tc0 31)).upd b7 o2) := fun o2 y o e => by
      have : y ≠ b7 := by rintro rfl; rw [hb7] at e; cases e
      rw [upd_ne this]; exact L7 _ _ e
    generalize g2.upd b7 (.cells tc0 31) = g3 at *
    simp (disch := omega)
    refine (stA_of f7 (by rfl) (by rfl)).mpr ?_
    have L8 := L7b (.cells (bestT (wayB s k)).cells 31 (0, 0))
    have f8 : (g3.upd b7 (.cells (bestT (wayB s k)).cells 31 (0, 0))) b7 = some (.cells (bestT (wayB s k)).cells 31 (0, 0)) := upd_same
    show thenK _ _ _ _ (g3.upd b7 (.cells (bestT (wayB s k)).cells 31 (0, 0)))
    generalize g3.upd b7 (.cells (bestT (wayB s k)).cells 31 (0, 0)) = g4 at *
    have lg4 := lg2.trans L8
    have Sw4 := ((Sw.le' L6).le' l2).le' L8
    have Sg4 := ((Sg.le' L6).le' l2).le' L8
    have f64 := L8 _ _ (l2 _ _ f6)
    have A4 := A1.le' lg4
    have hp4 := A4.pt
    rw [← hv']
    have inv : ∀ (env : Env) (g' : Hp) (wv' gv' : Value), Le h1 g' → SlAt g' 31 9 Tlv.enc wv' (waysL s (ks.take (i + 1))) → SlAt g' 31 9 Tlv.enc gv' (goneL s (ks.take (i + 1))) → (∀ b, blkOf wv' = some b → h1 b = none) → (∀ b, blkOf gv' = some b → h1 b = none) → (∀ b, blkOf wv' = some b → blkOf gv' ≠ some b) →
        env 0 = .pointer (some ⟨x.p, 0, none⟩) → env 3 = wv' → env 4 = gv' → env 15 = wk → env 16 = .int .i64 (ks.length : Nat) → env 17 = .int .i64 (i : Nat) →
        babel_Babel_Tell_r12 env g' (roundK (Te0 h1 x s wk ks) n (inBlk 0 (thenK (sq (rg babel_Babel_Tell_r13) (sq (sq (rg babel_Babel_Tell_r14) (blk 2 (lp babel_Babel_Tell_L1))) (sq (rg babel_Babel_Tell_r20) (ex .ret)))) (fin Try.prog [.tmp 2] Q))) .normal) := by
      intro env g' wv' gv' lg' Sw' Sg' nw' ng' dis' e0 e3 e4 e15 e16 e17
      simp (disch := omega) [babel_Babel_Tell_r12, e17, wrap_i64]
      exact ⟨n - 1, by omega, i + 1, wv', gv', by omega, lg', Sw', Sg', nw', ng', dis', by simp [e0], by simp [e3], by simp [e4], by simp [e15], by simp [e16], by simp⟩
    cases hw : wayB s k with
    | some y =>
      have hs : waysL s (ks.take (i + 1)) = waysL s (ks.take i) ++ [y.1] := by rw [tk, ways_snoc, hw]; simp
      have hg : goneL s (ks.take (i + 1)) = goneL s (ks.take i) := by rw [tk, gone_snoc, hw]; simp
      rw [hw] at f8
      simp (disch := omega) [babel_Babel_Tell_r6, babel_Babel_Tell_r7, e3, f8]
      refine snoc_api_BabelTlv Sw4 (y := y.1) rfl (by simp [Tlv.enc]) (by omega) (fun b9 w' g' S' G hb9 => ?_)
      obtain ⟨lg', nw'⟩ := G.news lg4 nw
      have ne1 : ∀ b, blkOf gv = some b → b ≠ b9 ∧ blkOf wv ≠ some b := fun b e => ⟨(by rintro rfl; obtain ⟨o, e2⟩ := Sg4.alive e; rw [hb9] at e2; cases e2), fun q => dis b q e⟩
      simp (disch := omega)
      refine inv _ g' w' gv lg' (by rw [hs]; exact S') (by rw [hg]; exact Sg4.keep fun b o e e2 => G.keep b o e2 (fun q => (ne1 b e).2 q.symm)) nw' ng (fun b e q => ?_) ?_ ?_ ?_ ?_ ?_ ?_
      · rcases G.fresh with q1 | q1
        · exact dis b (by rw [← q1]; exact e) q
        · obtain ⟨o, e2⟩ := Sg4.alive q; rw [q1 b e] at e2; cases e2
      all_goals simp [e0, e4, e15, e16, e17]
    | none =>
      have hs : waysL s (ks.take (i + 1)) = waysL s (ks.take i) := by rw [tk, ways_snoc, hw]; simp
      have hg : goneL s (ks.take (i + 1)) = goneL s (ks.take i) ++ ((getM s.S k).map goneX).toList := by rw [tk, gone_snoc, hw]; simp
      have lk : ∀ h2, Le g4 h2 → _ := fun h2 l2 => lookO (k := k) (A4.le' l2).md
      have lk1 := lk g4 (.refl _)
      simp (disch := omega) [babel_Babel_Tell_r6, babel_Babel_Tell_r8, e0, hp4, f64, lk1]
      intro b10 hb10
      have L10 : Le g4 (g4.upd b10 (.cells tc0 31)) := .new hb10
      have f10 : (g4.upd b10 (.cells tc0 31)) b10 = some (.cells tc0 31 (0, 0)) := upd_same
      have L10b : ∀ o2, Le g4 ((g4.upd b10 (.cells tc0 31)).upd b10 o2) := fun o2 y o e => by
        have : y ≠ b10 := by rintro rfl; rw [hb10] at e; cases e
        rw [upd_ne this]; exact L10 _ _ e
      generalize g4.upd b10 (.cells tc0 31) = g5 at *
      have lk2 := lk g5 L10
      have f65 := L10 _ _ f64
      have hp5 := L10 _ _ hp4
      simp (disch := omega) [hp5, f65, lk2, f10]
      refine (stA_of f10 (by rfl) (by rfl)).mpr ⟨trivial, ?_⟩
      cases hgS : getM s.S k with
      | none =>
        rw [hgS] at hg
        simp only [Option.map_none, Option.toList_none, List.append_nil] at hg
        have L11 := L10b (.cells tlv0.cells 31 (0, 0))
        simp (disch := omega) [babel_Babel_Tell_r9]
        refine inv _ _ wv gv (lg4.trans L11) (by rw [hs]; exact Sw4.le' L11) (by rw [hg]; exact Sg4.le' L11) nw ng dis ?_ ?_ ?_ ?_ ?_ ?_ <;> simp [e0, e3, e4, e15, e16, e17]
      | some t =>
        rw [hgS] at hg
        simp only [Option.map_some, Option.toList_some] at hg
        have L11 := L10b (.cells (goneX t).cells 31 (0, 0))
        have f11 : (g5.upd b10 (.cells (goneX t).cells 31 (0, 0))) b10 = some (.cells (goneX t).cells 31 (0, 0)) := upd_same
        simp (disch := omega) [babel_Babel_Tell_r9, babel_Babel_Tell_r10]
        show babel_Babel_Tell_r11 _ (g5.upd b10 (.cells (goneX t).cells 31 (0, 0))) _
        have Sw5 := Sw4.le' L11
        have Sg5 := Sg4.le' L11
        have lg5 := lg4.trans L11
        generalize g5.upd b10 (.cells (goneX t).cells 31 (0, 0)) = g6 at *
        simp (disch := omega) [babel_Babel_Tell_r11, e4, f11]
        refine snoc_api_BabelTlv Sg5 (y := goneX t) rfl (by simp [Tlv.enc]) (by omega) (fun b9 w' g' S' G hb9 => ?_)
        obtain ⟨lg', ng'⟩ := G.news lg5 ng
        simp (disch := omega)
        refine inv _ g' wv w' lg' (by rw [hs]; exact Sw5.keep fun b o e e2 => G.keep b o e2 (fun q => dis b e q.symm)) (by rw [hg]; exact S') nw ng' (fun b e q => ?_) ?_ ?_ ?_ ?_ ?_ ?_
        · rcases G.fresh with q1 | q1
          · exact dis b e (by rw [← q1]; exact q)
          · obtain ⟨o, e2⟩ := Sw5.alive e; rw [q1 b q] at e2; cases e2
        all_goals simp [e0, e3, e15, e16, e17]
end
end Go.Proofs.Ytchbipkoifmmdaa

/- The document's own words on prefixes: Mask, May. -/
namespace Go.Proofs.Ytchbipkoifmmdaa
open Go
set_option linter.unusedSimpArgs false

def MaskInv (n : Nat) (g0 : Hp) (m : Nat) (env : Env) (g : Hp) : Prop :=
  ∃ i, g = g0 ∧ env 0 = .int .i64 (n : Nat) ∧ env 3 = .int .u32 (msk i : Nat) ∧ (∃ w : Nat, w = 2 ^ 31 / 2 ^ i ∧ env 4 = .int .u32 (w : Nat)) ∧ env 5 = .int .i64 (i : Nat) ∧ i + m = n

theorem rmask_spec {n : Nat} {h : Hp} {Q : Value → Hp → Prop} (hn : n ≤ 32) (hQ : Q (.int .u32 (msk n : Nat)) h) : Ok Try.prog F_octroiref02_Mask #[.int .i64 (n : Nat)] h Q := by
  refine octroiref02_Mask_ok (by simp) ?_
  unfold octroiref02_Mask_D
  simp (disch := omega) [octroiref02_Mask_r0, octroiref02_Mask_r1, octroiref02_Mask_r2, octroiref02_Mask_r3]
  refine ⟨MaskInv n h, ⟨n, 0, rfl, by simp, by simp [msk], ⟨2 ^ 31, by decide, by simp⟩, by simp, by omega⟩, ?_⟩
  rintro m env g ⟨i, rfl, e0, e3, ⟨w, hw, e4⟩, e5, him⟩
  unfold octroiref02_Mask_L0
  by_cases hm : m = 0
  · have hin : i = n := by omega
    subst hin
    simp (disch := omega) [octroiref02_Mask_r4, octroiref02_Mask_r8, e0, e3, e4, e5]
    exact .to _ (.refl _) hQ
  · obtain ⟨m, rfl⟩ : ∃ k, m = k + 1 := ⟨m - 1, by omega⟩
    have hlt : i < n := by omega
    have h32 : i < 32 := by omega
    obtain ⟨k1, k2, k3, k4⟩ := msk_step h32
    rw [← hw] at k1 k3 k4
    have h32' : (i : Int) < 32 := by omega
    have w1 : IntKind.u32.wrap ((msk i : Int) + (w : Int)) = (msk (i + 1) : Nat) := by
      rw [wrap_u32 (by omega) (by omega)]; omega
    have w2 : IntKind.u32.wrap ((w : Int).tdiv 2) = ((w / 2 : Nat) : Int) := by
      have e : (w : Int).tdiv 2 = ((w / 2 : Nat) : Int) := by rw [Int.tdiv_eq_ediv_of_nonneg (by omega)]; omega
      rw [e, wrap_u32 (by omega) (by omega)]
    simp (disch := omega) [octroiref02_Mask_r4, octroiref02_Mask_r5, octroiref02_Mask_r6, octroiref02_Mask_r7, e0, e3, e4, e5, hlt, h32, h32', w1, w2, wrap_i64]
    exact ⟨m, by omega, i + 1, rfl, by simp [e0], by simp, ⟨w / 2, k4.symm, by simp; rw [wrap_u32 (by omega) (by omega)]⟩, by simp, by omega⟩

theorem rmay_spec {a : Nat} {n : Int} {h : Hp} {Q : Value → Hp → Prop} (ha : a < 2 ^ 32) (hQ : Q (.bool (mayB a n)) h) : Ok Try.prog F_octroiref02_May #[.agg #[.int .u32 a, .int .i64 n]] h Q := by
  refine octroiref02_May_ok (by simp) ?_
  unfold octroiref02_May_D
  simp (disch := omega) [octroiref02_May_r0]
  intro b hb
  by_cases h0 : 0 ≤ n
  · by_cases h1 : n ≤ 32
    · obtain ⟨m, rfl⟩ := Int.eq_ofNat_of_zero_le h0
      simp (disch := omega) [octroiref02_May_r1, h0, h1]
      refine rmask_spec (by omega) ?_
      have hm := msk_lt m
      have hand := bits_and_u32 ha hm
      rw [and_msk ha (by omega)] at hand
      have hdec : decide (a / 2 ^ (32 - m) * 2 ^ (32 - m) = a) = mayB a (m : Int) := by
        rw [mayB_eq (by omega), Bool.eq_iff_iff]
        simp only [decide_eq_true_eq]
        have := Nat.div_add_mod a (2 ^ (32 - m))
        rw [Nat.mul_comm] at this
        rw [← cast_mod]
        omega
      generalize a / 2 ^ (32 - m) * 2 ^ (32 - m) = q at *
      simp (disch := omega) [hand]
      refine .to h (.new hb) ?_
      rw [← hdec] at hQ
      rw [cast_eq q a] at hQ
      exact hQ
    · simp (disch := omega) [octroiref02_May_r1, h0, h1]
      refine .to h (.new hb) ?_
      simpa [mayB, h0, h1] using hQ
  · simp (disch := omega) [octroiref02_May_r1, h0]
    refine .to h (.new hb) ?_
    simpa [mayB, h0] using hQ

end Go.Proofs.Ytchbipkoifmmdaa

/- The document's own words on tags: Has. -/
namespace Go.Proofs.Ytchbipkoifmmdaa
open Go
set_option linter.unusedSimpArgs false

theorem ris_spec {d : Int} {h : Hp} {Q : Value → Hp → Prop} (hQ : Q (.bool (decide (0 ≤ d) && decide (d < 16))) h) : Ok Try.prog F_octroiref03_is #[.int .i64 d] h Q := by
  refine octroiref03_is_ok (by simp) ?_
  unfold octroiref03_is_D
  by_cases h0 : 0 ≤ d
  · simp (disch := omega) [octroiref03_is_r0, octroiref03_is_r1, h0]
    exact .to _ (.refl _) (by simpa [h0] using hQ)
  · simp (disch := omega) [octroiref03_is_r0, octroiref03_is_r1, h0]
    exact .to _ (.refl _) (by simpa [h0] using hQ)

def BitInv (g0 : Hp) (d : Nat) (n : Nat) (env : Env) (g : Hp) : Prop :=
  ∃ i p : Nat, g = g0 ∧ i + n = d ∧ p = 2 ^ i ∧ env 0 = .int .i64 (d : Nat) ∧ env 3 = .int .i64 (p : Nat) ∧ env 4 = .int .i64 (i : Nat)

theorem rbit_spec {d : Nat} {h : Hp} {Q : Value → Hp → Prop} (hd : d < 16) (hQ : Q (.int .i64 ((2 ^ d : Nat) : Int)) h) : Ok Try.prog F_octroiref03_bit #[.int .i64 (d : Nat)] h Q := by
  refine octroiref03_bit_ok (by simp) ?_
  unfold octroiref03_bit_D
  simp (disch := omega) [octroiref03_bit_r0, octroiref03_bit_r1, octroiref03_bit_r2]
  refine ⟨BitInv h d, ⟨d, 0, 1, rfl, by omega, rfl, by simp, by simp, by simp⟩, ?_⟩
  rintro n env g ⟨i, p, rfl, hin, hp, e0, e3, e4⟩
  unfold octroiref03_bit_L0
  have hpl : p ≤ 65536 := by rw [hp]; exact Nat.pow_le_pow_right (by omega) (by omega : i ≤ 16)
  by_cases hm : n = 0
  · have : i = d := by omega
    subst this
    rw [← hp] at hQ
    simp (disch := omega) [octroiref03_bit_r3, octroiref03_bit_r6, e0, e3, e4]
    exact .to _ (.refl _) hQ
  · have hlt : i < d := by omega
    simp (disch := omega) [octroiref03_bit_r3, octroiref03_bit_r4, octroiref03_bit_r5, e0, e3, e4, hlt, wrap_i64]
    exact ⟨n - 1, by omega, i + 1, 2 * p, rfl, by omega, by rw [hp, Nat.pow_succ, Nat.mul_comm], by simp [e0], by simp, by simp⟩

theorem rhasT_spec {t : Nat} {d : Int} {h : Hp} {Q : Value → Hp → Prop} (ht : t < 2 ^ 16) (hQ : Q (.bool (hasT t d)) h) : Ok Try.prog F_octroiref03_Has #[.int .u16 (t : Nat), .int .i64 d] h Q := by
  refine octroiref03_Has_ok (by simp) ?_
  unfold octroiref03_Has_D
  simp (disch := omega) [octroiref03_Has_r0, octroiref03_Has_r1]
  refine ris_spec ?_
  by_cases h0 : 0 ≤ d
  · by_cases h1 : d < 16
    · obtain ⟨m, rfl⟩ := Int.eq_ofNat_of_zero_le h0
      have hm : m < 16 := by omega
      simp (disch := omega) [octroiref03_Has_r2, hm, h1]
      refine rbit_spec hm ?_
      have hp0 : 0 < 2 ^ m := Nat.two_pow_pos _
      have hpl : 2 ^ m ≤ 65536 := Nat.pow_le_pow_right (by omega) (by omega : m ≤ 16)
      have e3 : decide (((t / 2 ^ m % 2 : Nat) : Int) = 1) = hasT t (m : Int) := by
        unfold hasT
        rw [Bool.eq_iff_iff]
        simp only [decide_eq_true_eq, Bool.and_eq_true, beq_iff_eq, Int.toNat_natCast]
        omega
      generalize hq : 2 ^ m = q at *
      have ed : (t : Int).tdiv (q : Nat) = ((t / q : Nat) : Int) := by rw [Int.tdiv_eq_ediv_of_nonneg (by omega)]; rfl
      have hle : t / q ≤ t := Nat.div_le_self _ _
      have em : ((t / q : Nat) : Int).tmod 2 = ((t / q % 2 : Nat) : Int) := by rw [Int.tmod_eq_emod_of_nonneg (Int.natCast_nonneg _)]; rfl
      have hq0 : ¬ (q : Int) = 0 := by omega
      generalize t / q = z at *
      generalize z % 2 = y at *
      simp (disch := omega) [h1, hq0, ed, em, wrap_i64]
      refine .to _ (.refl _) ?_
      rw [← e3] at hQ
      exact hQ
    · simp (disch := omega) [octroiref03_Has_r2, h0, h1]
      exact .to _ (.refl _) (by simpa [hasT, h0, h1] using hQ)
  · simp (disch := omega) [octroiref03_Has_r2, h0]
    exact .to _ (.refl _) (by simpa [hasT, h0] using hQ)
end Go.Proofs.Ytchbipkoifmmdaa

/- The document's own words on prefixes: Less. -/
namespace Go.Proofs.Ytchbipkoifmmdaa
open Go
set_option linter.unusedSimpArgs false

theorem rless_spec {a b : Nat} {n m : Int} {h : Hp} {Q : Value → Hp → Prop} (hQ : Q (.bool (decide (a < b) || (decide (a = b) && decide (n < m)))) h) :
    Ok Try.prog F_octroiref02_Less #[.agg #[.int .u32 a, .int .i64 n], .agg #[.int .u32 b, .int .i64 m]] h Q := by
  refine octroiref02_Less_ok (by simp) ?_
  unfold octroiref02_Less_D
  simp (disch := omega) [octroiref02_Less_r0]
  intro b1 hb1 b2 hb2
  have hne := upd_none hb2
  by_cases h1 : a < b
  · simp (disch := omega) [octroiref02_Less_r1, hne.1, Ne.symm hne.1, h1]
    exact .to h ((Le.new hb1).trans (.new hb2)) (by simpa [h1] using hQ)
  · by_cases h2 : a = b
    · subst h2
      simp (disch := omega) [octroiref02_Less_r1, hne.1, Ne.symm hne.1]
      exact .to h ((Le.new hb1).trans (.new hb2)) (by simpa using hQ)
    · have h2' : ¬ (a : Int) = (b : Int) := by omega
      simp (disch := omega) [octroiref02_Less_r1, hne.1, Ne.symm hne.1, h1, h2, h2']
      exact .to h ((Le.new hb1).trans (.new hb2)) (by simpa [h1, h2] using hQ)

end Go.Proofs.Ytchbipkoifmmdaa

/- The document's own words on numbers: Add. -/
namespace Go.Proofs.Ytchbipkoifmmdaa
open Go
set_option linter.unusedSimpArgs false

theorem radd_spec {a b most : Int} {h : Hp} {Q : Value → Hp → Prop} (hm : most < 9223372036854775808) (hQ : Q (.int .i64 (addM a b most)) h) : Ok Try.prog F_octroiref01_Add #[.int .i64 a, .int .i64 b, .int .i64 most] h Q := by
  refine octroiref01_Add_ok (by simp) ?_
  unfold octroiref01_Add_D
  have last : ∀ (env : Env) (a' b' m' : Int), a' = max a 0 → b' = max b 0 → m' = max most 0 → env 0 = .int .i64 a' → env 1 = .int .i64 b' → env 2 = .int .i64 m' →
      octroiref01_Add_r7 env h (thenK (cnd (.tmp 22) (sq (rg octroiref01_Add_r8) (ex .ret)) (ex .normal)) (thenK (sq (rg octroiref01_Add_r9) (ex .ret)) (fin Try.prog [.tmp 6] Q)) .normal) := by
    intro env a' b' m' ha hb hm' e0 e1 e2
    by_cases c1 : m' < a'
    · have : m' = addM a b most := by unfold addM; omega
      simp (disch := omega) [octroiref01_Add_r7, octroiref01_Add_r8, e0, e1, e2, c1]
      rw [this]
      exact .to _ (.refl _) hQ
    · by_cases c2 : m' - a' < b'
      · have : m' = addM a b most := by unfold addM; omega
        simp (disch := omega) [octroiref01_Add_r7, octroiref01_Add_r8, e0, e1, e2, c1, c2, wrap_i64]
        rw [this]
        exact .to _ (.refl _) hQ
      · have : a' + b' = addM a b most := by unfold addM; omega
        simp (disch := omega) [octroiref01_Add_r7, octroiref01_Add_r9, e0, e1, e2, c1, c2, wrap_i64]
        rw [this]
        exact .to _ (.refl _) hQ
  by_cases c1 : a < 0 <;> by_cases c2 : b < 0 <;> by_cases c3 : most < 0 <;>
    (simp (disch := omega) [octroiref01_Add_r0, octroiref01_Add_r1, octroiref01_Add_r2, octroiref01_Add_r3, octroiref01_Add_r4, octroiref01_Add_r5, octroiref01_Add_r6, c1, c2, c3]
     refine last _ (max a 0) (max b 0) (max most 0) rfl rfl rfl ?_ ?_ ?_ <;> simp <;> omega)
end Go.Proofs.Ytchbipkoifmmdaa

/- The document's Babel in memory. -/
namespace Go.Proofs.Ytchbipkoifmmdaa
open Go
set_option linter.unusedSimpArgs false
set_option linter.unusedVariables false

abbrev T_fb : Nat := 67
abbrev T_fo : Nat := 112
abbrev T_ft : Nat := 116
abbrev T_fl : Nat := 99
abbrev MFO := List (PK × (Int × Nat))
def oenc (e : PK × (Int × Nat)) : List Value := [.int .u32 (e.1.1 : Nat), .int .i64 e.1.2, .int .i64 e.2.1, .int .u16 (e.2.2 : Nat)]
def lenc (e : (PK × Int) × (Int × Tlv)) : List Value := [.int .u32 (e.1.1.1 : Nat), .int .i64 e.1.1.2, .int .i64 e.1.2, .int .i64 e.2.1, .int .i64 e.2.2.k, .int .u16 (e.2.2.s : Nat), .int .i64 e.2.2.iv, .int .i64 e.2.2.c, .int .u32 (e.2.2.a : Nat), .int .i64 e.2.2.l, .int .u64 (e.2.2.rt : Nat), .int .u16 (e.2.2.tg : Nat), .int .i64 e.2.2.hp]
def menc (e : (PK × Nat) × (Nat × Int)) : List Value := [.int .u32 (e.1.1.1 : Nat), .int .i64 e.1.1.2, .int .u64 (e.1.2 : Nat), .int .u16 (e.2.1 : Nat), .int .i64 e.2.2]
theorem oenc_one (e : PK × (Int × Nat)) : (oenc e).length = 4 ∧ ∀ u ∈ oenc e, oneCell u = true := ⟨rfl, by simp [oenc]⟩
theorem lenc_one (e : (PK × Int) × (Int × Tlv)) : (lenc e).length = 13 ∧ ∀ u ∈ lenc e, oneCell u = true := ⟨rfl, by simp [lenc]⟩
theorem menc_one (e : (PK × Nat) × (Nat × Int)) : (menc e).length = 5 ∧ ∀ u ∈ menc e, oneCell u = true := ⟨rfl, by simp [menc]⟩
theorem fo_at {h : Hp} {v : Value} {xs : MFO} {i : Nat} {x : PK × (Int × Nat)} (S : SlAt h T_fo 4 oenc v xs) (hx : xs[i]? = some x) :
    ∃ b cap c, v = .slice (some ⟨b, 0, none⟩) xs.length cap ∧ h b = some (.cells c T_fo (0, 0)) ∧ c[i * 4]? = some (.int .u32 (x.1.1 : Nat)) ∧ c[i * 4 + 1]? = some (.int .i64 x.1.2) ∧ c[i * 4 + 2]? = some (.int .i64 x.2.1) ∧ c[i * 4 + 3]? = some (.int .u16 (x.2.2 : Nat)) := by
  obtain ⟨b, cap, c, e, hb, H⟩ := SlAt.at' S hx
  exact ⟨b, cap, c, e, hb, H 0 (by omega), H 1 (by omega), H 2 (by omega), H 3 (by omega)⟩
theorem fl_at {h : Hp} {v : Value} {xs : MT} {i : Nat} {x : (PK × Int) × (Int × Tlv)} (S : SlAt h T_ft 13 lenc v xs) (hx : xs[i]? = some x) :
    ∃ b cap c, v = .slice (some ⟨b, 0, none⟩) xs.length cap ∧ h b = some (.cells c T_ft (0, 0)) ∧ c[i * 13]? = some (.int .u32 (x.1.1.1 : Nat)) ∧ c[i * 13 + 1]? = some (.int .i64 x.1.1.2) ∧ c[i * 13 + 2]? = some (.int .i64 x.1.2) ∧ c[i * 13 + 3]? = some (.int .i64 x.2.1) ∧ c[i * 13 + 4]? = some (.int .i64 x.2.2.k) ∧ c[i * 13 + 5]? = some (.int .u16 (x.2.2.s : Nat)) ∧ c[i * 13 + 6]? = some (.int .i64 x.2.2.iv) ∧
      c[i * 13 + 7]? = some (.int .i64 x.2.2.c) ∧ c[i * 13 + 8]? = some (.int .u32 (x.2.2.a : Nat)) ∧ c[i * 13 + 9]? = some (.int .i64 x.2.2.l) ∧ c[i * 13 + 10]? = some (.int .u64 (x.2.2.rt : Nat)) ∧ c[i * 13 + 11]? = some (.int .u16 (x.2.2.tg : Nat)) ∧ c[i * 13 + 12]? = some (.int .i64 x.2.2.hp) := by
  obtain ⟨b, cap, c, e, hb, H⟩ := SlAt.at' S hx
  exact ⟨b, cap, c, e, hb, H 0 (by omega), H 1 (by omega), H 2 (by omega), H 3 (by omega), H 4 (by omega), H 5 (by omega), H 6 (by omega), H 7 (by omega), H 8 (by omega), H 9 (by omega), H 10 (by omega), H 11 (by omega), H 12 (by omega)⟩
theorem fm_at {h : Hp} {v : Value} {xs : MM} {i : Nat} {x : (PK × Nat) × (Nat × Int)} (S : SlAt h T_fl 5 menc v xs) (hx : xs[i]? = some x) :
    ∃ b cap c, v = .slice (some ⟨b, 0, none⟩) xs.length cap ∧ h b = some (.cells c T_fl (0, 0)) ∧ c[i * 5]? = some (.int .u32 (x.1.1.1 : Nat)) ∧ c[i * 5 + 1]? = some (.int .i64 x.1.1.2) ∧ c[i * 5 + 2]? = some (.int .u64 (x.1.2 : Nat)) ∧ c[i * 5 + 3]? = some (.int .u16 (x.2.1 : Nat)) ∧ c[i * 5 + 4]? = some (.int .i64 x.2.2) := by
  obtain ⟨b, cap, c, e, hb, H⟩ := SlAt.at' S hx
  exact ⟨b, cap, c, e, hb, H 0 (by omega), H 1 (by omega), H 2 (by omega), H 3 (by omega), H 4 (by omega)⟩

/-- What the document's Babel knows. -/
structure FS where
  id : Nat
  dom : Int
  most : Int
  seq : Nat
  O : MFO
  L : MT
  M : MM
  D : List Tlv
/-- Its slices. -/
structure FV where
  o : Value
  l : Value
  m : Value
  d : Value
abbrev fbcells (f : FS) (V : FV) : Array Value := #[.int .u64 (f.id : Nat), .int .i64 f.dom, .int .i64 f.most, .int .u16 (f.seq : Nat), V.o, V.l, V.m, V.d]
def ownF (q : Nat) (V : FV) : List Nat := [q] ++ ((blkOf V.o).toList ++ ((blkOf V.l).toList ++ ((blkOf V.m).toList ++ (blkOf V.d).toList)))
structure FbM (h : Hp) (q : Nat) (V : FV) (f : FS) : Prop where
  pt : h q = some (.cells (fbcells f V) T_fb (0, 0))
  so : SlAt h T_fo 4 oenc V.o f.O
  sl : SlAt h T_ft 13 lenc V.l f.L
  sm : SlAt h T_fl 5 menc V.m f.M
  sd : SlAt h 31 9 Tlv.enc V.d f.D
  nd : (ownF q V).Nodup
/-- What a call leaves. -/
def FQ (h : Hp) (q : Nat) (V : FV) (f' : FS) (h' : Hp) : Prop := ∃ V', FbM h' q V' f' ∧ Fr h h' (ownF q V) (ownF q V')

theorem toList_nd {α : Type} (o : Option α) : o.toList.Nodup := by cases o <;> simp
/-- One part of what is all apart is another one. -/
theorem nodup_swap {α : Type} {A B X Y : List α} (h : (A ++ (X ++ B)).Nodup) (y : Y.Nodup) (d : ∀ z ∈ Y, z ∈ X ∨ (z ∉ A ∧ z ∉ B)) : (A ++ (Y ++ B)).Nodup := by
  rw [List.nodup_append] at h ⊢
  obtain ⟨hA, hXB, hd⟩ := h
  rw [List.nodup_append] at hXB ⊢
  obtain ⟨hX, hB, hd2⟩ := hXB
  refine ⟨hA, ⟨y, hB, fun a ha b hb e => ?_⟩, fun a ha b hb e => ?_⟩
  · subst e
    rcases d a ha with q | q
    · exact hd2 a q a hb rfl
    · exact q.2 hb
  · subst e
    rcases List.mem_append.1 hb with q | q
    · rcases d a q with q | q
      · exact hd a ha a (List.mem_append_left _ q) rfl
      · exact q.1 ha
    · exact hd a ha a (List.mem_append_right _ q) rfl

section
variable {h h' : Hp} {q : Nat} {V : FV} {f : FS} {Q : Value → Hp → Prop}

theorem mem_ownF {x : Nat} : x ∈ ownF q V ↔ x = q ∨ blkOf V.o = some x ∨ blkOf V.l = some x ∨ blkOf V.m = some x ∨ blkOf V.d = some x := by unfold ownF; simp
theorem FbM.alive (M : FbM h q V f) : ∀ x, x ∈ ownF q V → ∃ o, h x = some o := fun x m => by
  rcases mem_ownF.1 m with rfl | e | e | e | e
  · exact ⟨_, M.pt⟩
  · exact M.so.alive e
  · exact M.sl.alive e
  · exact M.sm.alive e
  · exact M.sd.alive e
theorem FbM.keep (M : FbM h q V f) (k : ∀ x o, x ∈ ownF q V → h x = some o → h' x = some o) : FbM h' q V f :=
  ⟨k _ _ (mem_ownF.2 (.inl rfl)) M.pt, M.so.keep fun b o e e2 => k _ _ (mem_ownF.2 (.inr (.inl e))) e2, M.sl.keep fun b o e e2 => k _ _ (mem_ownF.2 (.inr (.inr (.inl e)))) e2,
    M.sm.keep fun b o e e2 => k _ _ (mem_ownF.2 (.inr (.inr (.inr (.inl e))))) e2, M.sd.keep fun b o e e2 => k _ _ (mem_ownF.2 (.inr (.inr (.inr (.inr e))))) e2, M.nd⟩
theorem FbM.le' (M : FbM h q V f) (l : Le h h') : FbM h' q V f := M.keep fun x o _ e => l x o e
theorem FQ.same (M : FbM h q V f) (l : Le h h') : FQ h q V f h' := ⟨V, M.le' l, .of_le l fun _ m => .inl m⟩
theorem FQ.le' {h1 : Hp} {f' : FS} (l : Le h h1) (k : FQ h1 q V f' h') : FQ h q V f' h' := by
  obtain ⟨V', M, F⟩ := k
  refine ⟨V', M, ⟨fun x o e n => F.keep x o (l _ _ e) n, fun x m => ?_⟩⟩
  rcases F.own x m with k | k
  · exact .inl k
  · exact .inr (none_of_le l k)
theorem FQ.trans {h1 : Hp} {V1 : FV} {f' : FS} (F : Fr h h1 (ownF q V) (ownF q V1)) (k : FQ h1 q V1 f' h') : FQ h q V f' h' := by
  obtain ⟨V', M, F'⟩ := k
  exact ⟨V', M, F.trans F'⟩

/-- The five are apart. -/
theorem FbM.ap (M : FbM h q V f) : (∀ b, blkOf V.o = some b → b ≠ q ∧ blkOf V.l ≠ some b ∧ blkOf V.m ≠ some b ∧ blkOf V.d ≠ some b) ∧ (∀ b, blkOf V.l = some b → b ≠ q ∧ blkOf V.m ≠ some b ∧ blkOf V.d ≠ some b) ∧ (∀ b, blkOf V.m = some b → b ≠ q ∧ blkOf V.d ≠ some b) ∧ (∀ b, blkOf V.d = some b → b ≠ q) := by
  have n := M.nd
  unfold ownF at n
  simp only [List.singleton_append, List.nodup_cons, List.nodup_append, List.mem_append, Option.mem_toList] at n
  obtain ⟨n1, n2, ⟨n3, ⟨n4, n5, n6⟩, n7⟩, n8⟩ := n
  refine ⟨fun b e => ⟨?_, ?_, ?_, ?_⟩, fun b e => ⟨?_, ?_, ?_⟩, fun b e => ⟨?_, ?_⟩, fun b e => ?_⟩
  · rintro rfl; exact n1 (.inl e)
  · exact fun e2 => n8 b e b (.inl e2) rfl
  · exact fun e2 => n8 b e b (.inr (.inl e2)) rfl
  · exact fun e2 => n8 b e b (.inr (.inr e2)) rfl
  · rintro rfl; exact n1 (.inr (.inl e))
  · exact fun e2 => n7 b e b (.inl e2) rfl
  · exact fun e2 => n7 b e b (.inr e2) rfl
  · rintro rfl; exact n1 (.inr (.inr (.inl e)))
  · exact fun e2 => n6 b e b e2 rfl
  · rintro rfl; exact n1 (.inr (.inr (.inr e)))

/-- One slice is another one, or longer. -/
structure Slot (h g : Hp) (v w : Value) : Prop where
  keep : ∀ x o, h x = some o → blkOf v ≠ some x → g x = some o
  fresh : ∀ b, blkOf w = some b → blkOf v = some b ∨ h b = none
theorem Slot.grew {g : Hp} {v w : Value} (G : Grew h g v w) : Slot h g v w := ⟨fun x o e n => G.keep x o e (fun q => n q.symm), fun b e => by
  rcases G.fresh with k | k
  · exact .inl (by rw [← k]; exact e)
  · exact .inr (k b e)⟩
theorem Slot.new {g : Hp} {v w : Value} (l : Le h g) (n : ∀ b, blkOf w = some b → h b = none) : Slot h g v w := ⟨fun x o e _ => l x o e, fun b e => .inr (n b e)⟩

theorem FbM.slotO (M : FbM h q V f) {g : Hp} {w : Value} {O' : MFO} (K : Slot h g V.o w) (S : SlAt g T_fo 4 oenc w O') : FQ h q V { f with O := O' } (g.upd q (.cells (fbcells f { V with o := w }) T_fb (0, 0))) := by
  obtain ⟨a1, a2, a3, a4⟩ := M.ap
  have wq : ∀ b, blkOf w = some b → b ≠ q := fun b e => by
    rcases K.fresh b e with k | k
    · exact (a1 b k).1
    · rintro rfl; rw [M.pt] at k; cases k
  refine ⟨{ V with o := w }, ⟨upd_same, S.keep fun b o e e2 => by rw [upd_ne (wq b e)]; exact e2, M.sl.keep fun b o e e2 => ?_, M.sm.keep fun b o e e2 => ?_, M.sd.keep fun b o e e2 => ?_, ?_⟩, ⟨fun x o e n => ?_, fun x m => ?_⟩⟩
  · rw [upd_ne (a2 b e).1]; exact K.keep b o e2 (fun k => (a1 b k).2.1 e)
  · rw [upd_ne (a3 b e).1]; exact K.keep b o e2 (fun k => (a1 b k).2.2.1 e)
  · rw [upd_ne (a4 b e)]; exact K.keep b o e2 (fun k => (a1 b k).2.2.2 e)
  · have n := M.nd
    unfold ownF at n ⊢
    refine nodup_swap n (toList_nd _) fun z hz => ?_
    rcases K.fresh z (by simpa using hz) with k | k
    · exact .inl (by simpa using k)
    · refine .inr ⟨fun m => ?_, fun m => ?_⟩
      · simp at m; subst m; rw [M.pt] at k; cases k
      · obtain ⟨o, e⟩ := M.alive z (mem_ownF.2 (by simp at m; exact .inr (.inr m))); rw [k] at e; cases e
  · rw [mem_ownF] at n
    rw [upd_ne (fun k => n (.inl k))]
    exact K.keep x o e (fun k => n (.inr (.inl k)))
  · rw [mem_ownF] at m ⊢
    rcases m with m | m | m
    · exact .inl (.inl m)
    · rcases K.fresh x m with k | k
      · exact .inl (.inr (.inl k))
      · exact .inr k
    · exact .inl (.inr (.inr m))
theorem FbM.slotL (M : FbM h q V f) {g : Hp} {w : Value} {L' : MT} (K : Slot h g V.l w) (S : SlAt g T_ft 13 lenc w L') : FQ h q V { f with L := L' } (g.upd q (.cells (fbcells f { V with l := w }) T_fb (0, 0))) := by
  obtain ⟨a1, a2, a3, a4⟩ := M.ap
  have wq : ∀ b, blkOf w = some b → b ≠ q := fun b e => by
    rcases K.fresh b e with k | k
    · exact (a2 b k).1
    · rintro rfl; rw [M.pt] at k; cases k
  refine ⟨{ V with l := w }, ⟨upd_same, M.so.keep fun b o e e2 => ?_, S.keep fun b o e e2 => by rw [upd_ne (wq b e)]; exact e2, M.sm.keep fun b o e e2 => ?_, M.sd.keep fun b o e e2 => ?_, ?_⟩, ⟨fun x o e n => ?_, fun x m => ?_⟩⟩
  · rw [upd_ne (a1 b e).1]; exact K.keep b o e2 (fun k => (a1 b e).2.1 k)
  · rw [upd_ne (a3 b e).1]; exact K.keep b o e2 (fun k => (a2 b k).2.1 e)
  · rw [upd_ne (a4 b e)]; exact K.keep b o e2 (fun k => (a2 b k).2.2 e)
  · have n := M.nd
    unfold ownF at n ⊢
    rw [← List.append_assoc] at n ⊢
    refine nodup_swap n (toList_nd _) fun z hz => ?_
    rcases K.fresh z (by simpa using hz) with k | k
    · exact .inl (by simpa using k)
    · refine .inr ⟨fun m => ?_, fun m => ?_⟩
      · obtain ⟨o, e⟩ := M.alive z (mem_ownF.2 (by simp at m; rcases m with m | m; exact .inl m; exact .inr (.inl m))); rw [k] at e; cases e
      · obtain ⟨o, e⟩ := M.alive z (mem_ownF.2 (by simp at m; exact .inr (.inr (.inr m)))); rw [k] at e; cases e
  · rw [mem_ownF] at n
    rw [upd_ne (fun k => n (.inl k))]
    exact K.keep x o e (fun k => n (.inr (.inr (.inl k))))
  · rw [mem_ownF] at m ⊢
    rcases m with m | m | m | m
    · exact .inl (.inl m)
    · exact .inl (.inr (.inl m))
    · rcases K.fresh x m with k | k
      · exact .inl (.inr (.inr (.inl k)))
      · exact .inr k
    · exact .inl (.inr (.inr (.inr m)))
theorem FbM.slotM (M : FbM h q V f) {g : Hp} {w : Value} {M' : MM} (K : Slot h g V.m w) (S : SlAt g T_fl 5 menc w M') : FQ h q V { f with M := M' } (g.upd q (.cells (fbcells f { V with m := w }) T_fb (0, 0))) := by
  obtain ⟨a1, a2, a3, a4⟩ := M.ap
  have wq : ∀ b, blkOf w = some b → b ≠ q := fun b e => by
    rcases K.fresh b e with k | k
    · exact (a3 b k).1
    · rintro rfl; rw [M.pt] at k; cases k
  refine ⟨{ V with m := w }, ⟨upd_same, M.so.keep fun b o e e2 => ?_, M.sl.keep fun b o e e2 => ?_, S.keep fun b o e e2 => by rw [upd_ne (wq b e)]; exact e2, M.sd.keep fun b o e e2 => ?_, ?_⟩, ⟨fun x o e n => ?_, fun x m => ?_⟩⟩
  · rw [upd_ne (a1 b e).1]; exact K.keep b o e2 (fun k => (a1 b e).2.2.1 k)
  · rw [upd_ne (a2 b e).1]; exact K.keep b o e2 (fun k => (a2 b e).2.1 k)
  · rw [upd_ne (a4 b e)]; exact K.keep b o e2 (fun k => (a3 b k).2 e)
  · have n := M.nd
    unfold ownF at n ⊢
    rw [← List.append_assoc, ← List.append_assoc] at n ⊢
    refine nodup_swap n (toList_nd _) fun z hz => ?_
    rcases K.fresh z (by simpa using hz) with k | k
    · exact .inl (by simpa using k)
    · refine .inr ⟨fun m => ?_, fun m => ?_⟩
      · obtain ⟨o, e⟩ := M.alive z (mem_ownF.2 (by simp at m; rcases m with m | m | m; exact .inl m; exact .inr (.inl m); exact .inr (.inr (.inl m)))); rw [k] at e; cases e
      · obtain ⟨o, e⟩ := M.alive z (mem_ownF.2 (by simp at m; exact .inr (.inr (.inr (.inr m))))); rw [k] at e; cases e
  · rw [mem_ownF] at n
    rw [upd_ne (fun k => n (.inl k))]
    exact K.keep x o e (fun k => n (.inr (.inr (.inr (.inl k)))))
  · rw [mem_ownF] at m ⊢
    rcases m with m | m | m | m | m
    · exact .inl (.inl m)
    · exact .inl (.inr (.inl m))
    · exact .inl (.inr (.inr (.inl m)))
    · rcases K.fresh x m with k | k
      · exact .inl (.inr (.inr (.inr (.inl k))))
      · exact .inr k
    · exact .inl (.inr (.inr (.inr (.inr m))))
theorem FbM.slotD (M : FbM h q V f) {g : Hp} {w : Value} {D' : List Tlv} (K : Slot h g V.d w) (S : SlAt g 31 9 Tlv.enc w D') : FQ h q V { f with D := D' } (g.upd q (.cells (fbcells f { V with d := w }) T_fb (0, 0))) := by
  obtain ⟨a1, a2, a3, a4⟩ := M.ap
  have wq : ∀ b, blkOf w = some b → b ≠ q := fun b e => by
    rcases K.fresh b e with k | k
    · exact a4 b k
    · rintro rfl; rw [M.pt] at k; cases k
  refine ⟨{ V with d := w }, ⟨upd_same, M.so.keep fun b o e e2 => ?_, M.sl.keep fun b o e e2 => ?_, M.sm.keep fun b o e e2 => ?_, S.keep fun b o e e2 => by rw [upd_ne (wq b e)]; exact e2, ?_⟩, ⟨fun x o e n => ?_, fun x m => ?_⟩⟩
  · rw [upd_ne (a1 b e).1]; exact K.keep b o e2 (fun k => (a1 b e).2.2.2 k)
  · rw [upd_ne (a2 b e).1]; exact K.keep b o e2 (fun k => (a2 b e).2.2 k)
  · rw [upd_ne (a3 b e).1]; exact K.keep b o e2 (fun k => (a3 b e).2 k)
  · have n := M.nd
    unfold ownF at n ⊢
    rw [← List.append_assoc, ← List.append_assoc, ← List.append_assoc] at n ⊢
    show ([q] ++ (blkOf V.o).toList ++ (blkOf V.l).toList ++ (blkOf V.m).toList ++ (blkOf w).toList).Nodup
    rw [← List.append_nil (blkOf w).toList]
    rw [← List.append_nil (blkOf V.d).toList] at n
    refine nodup_swap n (toList_nd _) fun z hz => ?_
    rcases K.fresh z (by simpa using hz) with k | k
    · exact .inl (by simpa using k)
    · refine .inr ⟨fun m => ?_, by simp⟩
      obtain ⟨o, e⟩ := M.alive z (mem_ownF.2 (by simp at m; rcases m with m | m | m | m; exact .inl m; exact .inr (.inl m); exact .inr (.inr (.inl m)); exact .inr (.inr (.inr (.inl m))))); rw [k] at e; cases e
  · rw [mem_ownF] at n
    rw [upd_ne (fun k => n (.inl k))]
    exact K.keep x o e (fun k => n (.inr (.inr (.inr (.inr k)))))
  · rw [mem_ownF] at m ⊢
    rcases m with m | m | m | m | m
    · exact .inl (.inl m)
    · exact .inl (.inr (.inl m))
    · exact .inl (.inr (.inr (.inl m)))
    · exact .inl (.inr (.inr (.inr (.inl m))))
    · rcases K.fresh x m with k | k
      · exact .inl (.inr (.inr (.inr (.inr k))))
      · exact .inr k

/-- One of a slice is written. -/
theorem FbM.inO (M : FbM h q V f) {g : Hp} {b : Nat} {O' : MFO} (hb : blkOf V.o = some b) (K : ∀ x o, h x = some o → x ≠ b → g x = some o) (S : SlAt g T_fo 4 oenc V.o O') : FQ h q V { f with O := O' } g := by
  obtain ⟨a1, a2, a3, a4⟩ := M.ap
  obtain ⟨b1, b2, b3, b4⟩ := a1 b hb
  refine ⟨V, ⟨K _ _ M.pt b1.symm, S, M.sl.keep fun y o e e2 => K y o e2 (by rintro rfl; exact b2 e), M.sm.keep fun y o e e2 => K y o e2 (by rintro rfl; exact b3 e), M.sd.keep fun y o e e2 => K y o e2 (by rintro rfl; exact b4 e), M.nd⟩, ⟨fun x o e n => K x o e ?_, fun x m => .inl m⟩⟩
  rintro rfl; exact n (mem_ownF.2 (.inr (.inl hb)))
theorem FbM.inM' (M : FbM h q V f) {g : Hp} {b : Nat} {M' : MM} (hb : blkOf V.m = some b) (K : ∀ x o, h x = some o → x ≠ b → g x = some o) (S : SlAt g T_fl 5 menc V.m M') : FbM g q V { f with M := M' } ∧ Fr h g (ownF q V) (ownF q V) := by
  obtain ⟨a1, a2, a3, a4⟩ := M.ap
  obtain ⟨b1, b4⟩ := a3 b hb
  refine ⟨⟨K _ _ M.pt b1.symm, M.so.keep fun y o e e2 => K y o e2 (by rintro rfl; exact (a1 y e).2.2.1 hb), M.sl.keep fun y o e e2 => K y o e2 (by rintro rfl; exact (a2 y e).2.1 hb), S, M.sd.keep fun y o e e2 => K y o e2 (by rintro rfl; exact b4 e), M.nd⟩, ⟨fun x o e n => K x o e ?_, fun x m => .inl m⟩⟩
  rintro rfl; exact n (mem_ownF.2 (.inr (.inr (.inr (.inl hb)))))
end
end Go.Proofs.Ytchbipkoifmmdaa

/- Parts of an own slice: x[:i], x[i:], to be read from. -/
namespace Go.Proofs.Ytchbipkoifmmdaa
open Go
section
variable {P : Program} {h : Hp} {α : Type} {E sz : Nat} {enc : α → List Value} {v : Value} {xs : List α} {t : TypeId}

theorem rr_slice_nil_to {t e : TypeId} {sz : Nat} {g : Hp} (hu : P.underlying t = some (.slice e)) (hs : (P.info? e).map (·.size) = some sz) :
    rrun P (Instr.sliceAt t (.slice none 0 0) none (some (.int .i64 0)) none) g = some (.slice none 0 0) := by
  unfold Instr.sliceAt
  rw [rrun_bnd, rr_underlying, hu, Option.bind_some]
  simp only
  unfold Instr.slice
  rw [rrun_bnd, rr_underlying, hu, Option.bind_some]
  simp only
  have hb : rrun P (Instr.sliceBounds true 0 0 none (some (.int .i64 0)) none) g = some (0, 0, 0) := by
    unfold Instr.sliceBounds
    simp only [rrun_bnd, rrun_pure, Option.bind_some]
    simp only [if_true]
    rw [rr_sliceBound (by omega) (by omega)]; rfl
  rw [rrun_bnd, hb, Option.bind_some]
  simp only [rrun_bnd, rr_sizeOf, hs, Option.bind_some, rrun_pure, Nat.zero_mul, Nat.sub_zero, Option.map_none, if_true]

theorem SlAt.to_rr {e : TypeId} (S : SlAt h E sz enc v xs) (hu : P.underlying t = some (.slice e)) (hs : (P.info? e).map (·.size) = some sz)
    (hl : ∀ y ∈ xs, (enc y).length = sz ∧ ∀ u ∈ enc y, oneCell u = true) {i : Nat} (hi : i ≤ xs.length) :
    ∃ w, (∀ g, rrun P (Instr.sliceAt t v none (some (.int .i64 (i : Nat))) none) g = some w) ∧ Src h sz enc w (xs.take i) := by
  rcases S with ⟨rfl, rfl⟩ | ⟨b, cap, c, rfl, hb, h1, h2, h3⟩
  · simp at hi
    subst hi
    exact ⟨_, fun g => rr_slice_nil_to hu hs, by simp, .inl ⟨none, 0, rfl, by simp⟩⟩
  · refine ⟨_, fun g => rr_slice_to hu hs (by omega) (by omega), ?_⟩
    have hx : 0 + xs.length * sz ≤ c.size := by have := Nat.mul_le_mul_right sz h1; omega
    have := Src.part (i := 0) (n := i) (cap' := cap) (by omega) hl hb hx h3
    simpa using this

theorem SlAt.from_rr {e : TypeId} (S : SlAt h E sz enc v xs) (hu : P.underlying t = some (.slice e)) (hs : (P.info? e).map (·.size) = some sz)
    (hl : ∀ y ∈ xs, (enc y).length = sz ∧ ∀ u ∈ enc y, oneCell u = true) {i : Nat} (hi : i ≤ xs.length) :
    ∃ w, (∀ g, rrun P (Instr.sliceAt t v (some (.int .i64 (i : Nat))) none none) g = some w) ∧ Src h sz enc w (xs.drop i) := by
  obtain ⟨a, cap0, hv⟩ := S.shape'
  by_cases he : i = xs.length
  · subst he
    obtain ⟨a', cap', q⟩ := rr_slice_end (h := noHp) (a := a) (cap := cap0) (len := xs.length) hu hs (i := (xs.length : Nat)) rfl
    subst hv
    refine ⟨_, fun g => ?_, by simp, .inl ⟨a', cap', rfl, by simp⟩⟩
    have hn := fun (g : Hp) => rr_slice_end (P := P) (h := g) (a := a) (cap := cap0) (len := xs.length) hu hs (i := (xs.length : Nat)) rfl
    rw [← q]
    unfold Instr.sliceAt
    simp only [rrun_bnd, rr_underlying, hu, Option.bind_some]
    unfold Instr.slice
    simp only [rrun_bnd, rr_underlying, hu, Option.bind_some]
    have hb : ∀ g, rrun P (Instr.sliceBounds true xs.length cap0 (some (.int .i64 (xs.length : Nat))) none none) g = some (xs.length, xs.length, cap0) := by
      intro g
      unfold Instr.sliceBounds
      simp only [rrun_bnd, rrun_pure, Option.bind_some]
      rw [rr_sliceBound (by omega) (by omega)]; rfl
    rw [hb, hb]
    simp only [rrun_bnd, rr_sizeOf, hs, Option.bind_some, rrun_pure]
  · rcases S with ⟨rfl, rfl⟩ | ⟨b, cap, c, rfl, hb, h1, h2, h3⟩
    · simp at hi; subst hi; simp at he
    · refine ⟨_, fun g => rr_slice_from hu hs (by omega) (by omega) (by omega), ?_⟩
      have hx : 0 + xs.length * sz ≤ c.size := by have := Nat.mul_le_mul_right sz h1; omega
      have := Src.part (i := i) (n := xs.length - i) (cap' := cap - i) (by omega) hl hb hx h3
      have e2 : (xs.drop i).take (xs.length - i) = xs.drop i := List.take_of_length_le (by simp)
      rw [e2] at this
      simpa using this
end
end Go.Proofs.Ytchbipkoifmmdaa

/- The document's Babel: New, own, Own, Drop, Raise. -/
namespace Go.Proofs.Ytchbipkoifmmdaa
open Go
set_option linter.unusedSimpArgs false
set_option linter.unusedVariables false

section
variable {h h' : Hp} {q : Nat} {V : FV} {f : FS} {Q : Value → Hp → Prop}

abbrev fv0 : FV := ⟨.slice none 0 0, .slice none 0 0, .slice none 0 0, .slice none 0 0⟩
theorem fnewM {id : Nat} {dom most : Int} (hQ : ∀ q h', Le h h' → h q = none → FbM h' q fv0 ⟨id, dom, min most 64, 0, [], [], [], []⟩ → Q (.pointer (some ⟨q, 0, none⟩)) h') : Ok Try.prog F_octroiref17_New #[.int .u64 (id : Nat), .int .i64 dom, .int .i64 most] h Q := by
  refine octroiref17_New_ok (by simp) ?_
  unfold octroiref17_New_D
  have key : ∀ (b : Nat), FbM (h.upd b (.cells (fbcells ⟨id, dom, min most 64, 0, [], [], [], []⟩ fv0) T_fb (0, 0))) b fv0 ⟨id, dom, min most 64, 0, [], [], [], []⟩ := fun b => ⟨upd_same, .inl ⟨rfl, rfl⟩, .inl ⟨rfl, rfl⟩, .inl ⟨rfl, rfl⟩, .inl ⟨rfl, rfl⟩, by simp [ownF, blkOf]⟩
  by_cases g1 : 64 < most
  · rw [show min most 64 = 64 by omega] at hQ key
    simp (disch := omega) [octroiref17_New_r0, octroiref17_New_r1, octroiref17_New_r2, octroiref17_New_r3, g1]
    intro b hb
    exact .to _ (.refl _) (hQ b _ (.new hb) hb (key b))
  · rw [show min most 64 = most by omega] at hQ key
    simp (disch := omega) [octroiref17_New_r0, octroiref17_New_r1, octroiref17_New_r3, g1]
    intro b hb
    exact .to _ (.refl _) (hQ b _ (.new hb) hb (key b))

def atF {β : Type} (L : List (PK × β)) (k : PK) : Int := match findM k L 0 with | some x => (x.1 : Int) | none => -1
theorem atF_some {β : Type} {L : List (PK × β)} {k : PK} {i : Nat} {x : β} (h : findM k L 0 = some (i, x)) : atF L k = i := by unfold atF; rw [h]
theorem atF_none {β : Type} {L : List (PK × β)} {k : PK} (h : getM L k = none) : atF L k = -1 := by
  unfold getM at h
  unfold atF
  cases hf : findM k L 0 with
  | none => rfl
  | some y => rw [hf] at h; cases h

def OwInv (h0 : Hp) (q b3 : Nat) (L : MFO) (k : PK) (n : Nat) (env : Env) (g : Hp) : Prop :=
  ∃ i : Nat, i + n = L.length ∧ g = h0 ∧ (∀ e ∈ L.take i, e.1 ≠ k) ∧ env 0 = .pointer (some ⟨q, 0, none⟩) ∧ env 3 = .pointer (some ⟨b3, 0, none⟩) ∧ env 5 = .int .i64 (i : Nat)

set_option maxRecDepth 20000 in
theorem fownM {k : PK} (M : FbM h q V f) (hle : f.O.length ≤ 100000) (hQ : ∀ h', Le h h' → Q (.int .i64 (atF f.O k)) h') : Ok Try.prog F_octroiref17_Babel_own #[.pointer (some ⟨q, 0, none⟩), .agg #[.int .u32 (k.1 : Nat), .int .i64 k.2]] h Q := by
  refine octroiref17_Babel_own_ok (by simp) ?_
  unfold octroiref17_Babel_own_D
  simp (disch := omega) [octroiref17_Babel_own_r0]
  intro b hb
  have l1 : Le h (h.upd b (.cells #[.int .u32 (k.1 : Nat), .int .i64 k.2] 24)) := .new hb
  have f3 : (h.upd b (.cells #[.int .u32 (k.1 : Nat), .int .i64 k.2] 24)) b = some (.cells #[.int .u32 (k.1 : Nat), .int .i64 k.2] 24) := upd_same
  generalize h.upd b (.cells #[.int .u32 (k.1 : Nat), .int .i64 k.2] 24) = h1 at *
  have M1 := M.le' l1
  simp (disch := omega) [octroiref17_Babel_own_r1]
  obtain ⟨sp, scap, hv⟩ := M1.so.shape'
  have hq := M1.pt
  have S1 := M1.so
  generalize f.O = L at *
  refine ⟨OwInv h1 q b L k, ⟨L.length, 0, by omega, rfl, by simp, by simp, by simp, by simp⟩, ?_⟩
  rintro n env g ⟨i, hin, rfl, hn, e0, e3, e5⟩
  unfold octroiref17_Babel_own_L0
  by_cases hm : n = 0
  · have : i = L.length := by omega
    subst this
    rw [List.take_of_length_le (Nat.le_refl _)] at hn
    have hg : getM L k = none := getM_none.2 (fun q => by obtain ⟨e, he, h2⟩ := List.mem_map.1 q; exact hn e he h2)
    rw [atF_none hg] at hQ
    simp (disch := omega) [octroiref17_Babel_own_r2, octroiref17_Babel_own_r6, e0, e3, e5, hq, hv]
    exact .to _ (.refl _) (hQ _ l1)
  · obtain ⟨x, hx⟩ : ∃ x, L[i]? = some x := ⟨_, List.getElem?_eq_getElem (by omega)⟩
    obtain ⟨b2, cap, c, hv', hb2, c0, c1, c2, c3⟩ := fo_at S1 hx
    have hi' : i < L.length := by omega
    by_cases hk : x.1 = k
    · have hf : findM k L 0 = some (0 + i, x.2) := findM_first (by rw [hx, ← hk]) hn
      rw [Nat.zero_add] at hf
      rw [atF_some hf] at hQ
      rw [hk] at c0 c1
      simp (disch := omega) [octroiref17_Babel_own_r2, octroiref17_Babel_own_r3, octroiref17_Babel_own_r4, e0, e3, e5, hq, hv', hb2, c0, c1, hi', f3]
      exact .to _ (.refl _) (hQ _ l1)
    · have hk' : ¬ ((x.1.1 : Int) = (k.1 : Int) ∧ x.1.2 = k.2) := fun q => hk (Prod.ext (by omega) q.2)
      have fin : ∀ env : Env, env 0 = .pointer (some ⟨q, 0, none⟩) → env 3 = .pointer (some ⟨b, 0, none⟩) → env 5 = .int .i64 (i : Nat) →
          octroiref17_Babel_own_r5 env g (roundK (OwInv g q b L k) n (inBlk 0 (thenK (sq (rg octroiref17_Babel_own_r6) (ex .ret)) (fin Try.prog [.tmp 4] Q))) .normal) := by
        intro env e0 e3 e5
        simp (disch := omega) [octroiref17_Babel_own_r5, e5, wrap_i64]
        refine ⟨n - 1, by omega, i + 1, by omega, rfl, fun e he => ?_, by simp [e0], by simp [e3], by simp⟩
        rw [take_snoc hx] at he
        rcases List.mem_append.1 he with q1 | q1
        · exact hn e q1
        · simp at q1; subst q1; exact hk
      by_cases s1 : (x.1.1 : Int) = (k.1 : Int)
      · have s2 : ¬ x.1.2 = k.2 := fun q => hk' ⟨s1, q⟩
        rw [s1] at c0
        simp (disch := omega) [octroiref17_Babel_own_r2, octroiref17_Babel_own_r3, e0, e3, e5, hq, hv', hb2, c0, c1, hi', f3, s2]
        refine fin _ ?_ ?_ ?_ <;> simp [e0, e3, e5]
      · simp (disch := omega) [octroiref17_Babel_own_r2, octroiref17_Babel_own_r3, e0, e3, e5, hq, hv', hb2, c0, c1, hi', f3, s1, show ¬ x.1.1 = k.1 by omega]
        refine fin _ ?_ ?_ ?_ <;> simp [e0, e3, e5]

def fownE (f : FS) (k : PK) (n : Int) (tag : Nat) : Int := if mayB k.1 k.2 = false ∨ n < 0 ∨ 65535 ≤ n then 1 else if hasT tag f.dom = true then 6 else if getM f.O k = none ∧ 64 ≤ f.O.length then 4 else 0
def fownS (f : FS) (k : PK) (n : Int) (tag : Nat) : FS := if fownE f k n tag = 0 then { f with O := setM k (n, tag) f.O } else f
theorem setM_end {α β : Type} [DecidableEq α] {a : α} {v : β} : ∀ {m : List (α × β)}, getM m a = none → setM a v m = m ++ [(a, v)]
  | [], _ => rfl
  | y :: ys, h => by
    rw [getM_cons] at h
    by_cases e : a = y.1
    · rw [if_pos e] at h; cases h
    · rw [if_neg e] at h; rw [setM, if_neg e, setM_end h]; rfl

set_option maxHeartbeats 1000000 in
set_option maxRecDepth 20000 in
theorem fOwnM {k : PK} {n : Int} {tag : Nat} (M : FbM h q V f) (hle : f.O.length ≤ 100000) (hk : k.1 < 2 ^ 32) (ht : tag < 2 ^ 16) (hQ : ∀ h', FQ h q V (fownS f k n tag) h' → Q (.int .i64 (fownE f k n tag)) h') :
    Ok Try.prog F_octroiref17_Babel_Own #[.pointer (some ⟨q, 0, none⟩), .agg #[.int .u32 (k.1 : Nat), .int .i64 k.2], .int .i64 n, .int .u16 (tag : Nat)] h Q := by
  refine octroiref17_Babel_Own_ok (by simp) ?_
  unfold octroiref17_Babel_Own_D
  simp (disch := omega) [octroiref17_Babel_Own_r0]
  intro b hb
  have l1 : Le h (h.upd b (.cells #[.int .u32 (k.1 : Nat), .int .i64 k.2] 24)) := .new hb
  have f3 : (h.upd b (.cells #[.int .u32 (k.1 : Nat), .int .i64 k.2] 24)) b = some (.cells #[.int .u32 (k.1 : Nat), .int .i64 k.2] 24) := upd_same
  generalize h.upd b (.cells #[.int .u32 (k.1 : Nat), .int .i64 k.2] 24) = h1 at *
  simp (disch := omega) [octroiref17_Babel_Own_r1, f3]
  refine rmay_spec hk ?_
  unfold fownS at hQ
  cases hm : mayB k.1 k.2 with
  | false =>
    rw [show fownE f k n tag = 1 by unfold fownE; rw [if_pos (.inl hm)], if_neg (by simp)] at hQ
    simp (disch := omega) [octroiref17_Babel_Own_r2, octroiref17_Babel_Own_r3]
    exact .to _ (.refl _) (hQ _ (.same M l1))
  | true =>
  by_cases g1 : n < 0
  · rw [show fownE f k n tag = 1 by unfold fownE; rw [if_pos (.inr (.inl g1))], if_neg (by simp)] at hQ
    simp (disch := omega) [octroiref17_Babel_Own_r2, octroiref17_Babel_Own_r3, g1]
    exact .to _ (.refl _) (hQ _ (.same M l1))
  by_cases g2 : 65535 ≤ n
  · rw [show fownE f k n tag = 1 by unfold fownE; rw [if_pos (.inr (.inr (by omega)))], if_neg (by simp)] at hQ
    simp (disch := omega) [octroiref17_Babel_Own_r2, octroiref17_Babel_Own_r3, g1, g2]
    exact .to _ (.refl _) (hQ _ (.same M l1))
  have hE0 : fownE f k n tag = if hasT tag f.dom = true then 6 else if getM f.O k = none ∧ 64 ≤ f.O.length then 4 else 0 := by unfold fownE; rw [if_neg (by rw [hm]; simp; omega)]
  have M1 := M.le' l1
  have hq1 := M1.pt
  simp (disch := omega) [octroiref17_Babel_Own_r2, octroiref17_Babel_Own_r4, g1, g2, hq1]
  refine rhasT_spec ht ?_
  cases ht' : hasT tag f.dom with
  | true =>
    rw [hE0, if_pos ht', if_neg (by simp)] at hQ
    simp (disch := omega) [octroiref17_Babel_Own_r5, octroiref17_Babel_Own_r6]
    exact .to _ (.refl _) (hQ _ (.same M l1))
  | false =>
  rw [if_neg (by rw [ht']; simp)] at hE0
  rw [hE0] at hQ
  simp (disch := omega) [octroiref17_Babel_Own_r5, octroiref17_Babel_Own_r7, f3]
  refine fownM M1 hle (fun h3 l3 => ?_)
  have M3 := M1.le' l3
  have f33 := l3 _ _ f3
  have lh : Le h h3 := l1.trans l3
  replace hQ := fun h' k => hQ h' (FQ.le' (h1 := h3) lh k)
  have hq := M3.pt
  clear l1 l3 M1 f3 hq1
  cases hg : getM f.O k with
  | some x =>
    obtain ⟨i, hf, hi⟩ := findM_getM hg
    have hil : i < f.O.length := (List.getElem?_eq_some_iff.1 hi).1
    rw [hg, show (if some x = none ∧ 64 ≤ f.O.length then (4 : Int) else 0) = 0 from if_neg (by simp), if_pos rfl] at hQ
    rw [atF_some hf]
    obtain ⟨b2, cap, c, hv, hb2, c0, c1, c2, c3⟩ := fo_at M3.so hi
    have hvb : blkOf V.o = some b2 := by rw [hv]; rfl
    simp (disch := omega) [-stN_cons, octroiref17_Babel_Own_r8, octroiref17_Babel_Own_r9, hq, hv, hb2, hil, f33]
    have S3 := M3.so
    rw [hv] at S3
    refine SlAt.setOne (y := (k, (n, tag))) S3 rfl hi rfl (by simp) rfl rfl (fun h4 K4 S4 => ?_)
    rw [show f.O.set i (k, (n, tag)) = setM k (n, tag) f.O from findM_set (i := 0) (v := x) (by rw [hf]; simp), ← hv] at S4
    simp (disch := omega) [octroiref17_Babel_Own_r10]
    exact .to _ (.refl _) (hQ _ (M3.inO hvb K4 S4))
  | none =>
    rw [hg] at hQ
    rw [atF_none hg]
    obtain ⟨sp, cap, hv⟩ := M3.so.shape'
    by_cases g3 : 64 ≤ f.O.length
    · rw [show (if (none : Option (Int × Nat)) = none ∧ 64 ≤ f.O.length then (4 : Int) else 0) = 4 from if_pos ⟨rfl, g3⟩, if_neg (by simp)] at hQ
      have g3' : (64 : Int) ≤ (f.O.length : Int) := by omega
      simp (disch := omega) [octroiref17_Babel_Own_r8, octroiref17_Babel_Own_r11, octroiref17_Babel_Own_r12, hq, hv, g3']
      exact .to _ (.refl _) (hQ _ (.same M3 (.refl _)))
    · rw [show (if (none : Option (Int × Nat)) = none ∧ 64 ≤ f.O.length then (4 : Int) else 0) = 0 from if_neg (fun q => g3 q.2), if_pos rfl, setM_end hg] at hQ
      have g3' : ¬ (64 : Int) ≤ (f.O.length : Int) := by omega
      simp (disch := omega) [octroiref17_Babel_Own_r8, octroiref17_Babel_Own_r11, octroiref17_Babel_Own_r13, hq, hv, g3', f33]
      intro b9 hb9
      have hqb : q ≠ b9 := by rintro rfl; rw [M3.pt] at hb9; cases hb9
      refine ⟨by rw [upd_ne hqb]; simp [hq, hv], ?_⟩
      rw [← hv]
      refine arun_mono _ (fun w' g' HH => ?_) (snoc_octroiref17_Own (k := fun _ v g => SlAt g T_fo 4 oenc v (f.O ++ [(k, (n, tag))]) ∧ Grew h3 g V.o v) (y := (k, (n, tag))) M3.so rfl (by simp [oenc]) (by omega) (fun b10 w' g' S' G hb10 => ⟨S', G⟩) b9 hb9)
      obtain ⟨S', G⟩ := HH
      have hq' := G.keep _ _ hq (fun e => (M3.ap.1 q e.symm).1 rfl)
      obtain ⟨wp, wcap, hw⟩ := S'.shape'
      replace hw : w' = .slice wp (f.O.length + 1) wcap := by rw [hw]; simp
      simp (disch := omega) [octroiref17_Babel_Own_r14, hq', hw]
      rw [← hw]
      exact .to _ (.refl _) (hQ _ (M3.slotO (.grew G) S'))

def fdropE (f : FS) (k : PK) : Int := if (getM f.O k).isSome then 0 else 5
def fdropS (f : FS) (k : PK) : FS := if (getM f.O k).isSome then { f with O := delM k f.O } else f
theorem delM_at {α β : Type} [DecidableEq α] {a : α} {v : β} : ∀ {m : List (α × β)} {i j : Nat}, findM a m i = some (i + j, v) → delM a m = m.take j ++ m.drop (j + 1)
  | [], i, j, h => by cases h
  | x :: xs, i, j, h => by
    simp only [findM] at h
    rw [delM]
    by_cases e : a = x.1
    · rw [if_pos e] at h ⊢
      simp only [Option.some.injEq, Prod.mk.injEq] at h
      have : j = 0 := by omega
      subst this; simp
    · rw [if_neg e] at h ⊢
      cases j with
      | zero => have := (findM_some h).1; omega
      | succ j => rw [delM_at (i := i + 1) (j := j) (by rw [h]; congr 2; omega)]; simp

set_option maxHeartbeats 1000000 in
set_option maxRecDepth 20000 in
theorem fDropM {k : PK} (M : FbM h q V f) (hle : f.O.length ≤ 100000) (hQ : ∀ h', FQ h q V (fdropS f k) h' → Q (.int .i64 (fdropE f k)) h') :
    Ok Try.prog F_octroiref17_Babel_Drop #[.pointer (some ⟨q, 0, none⟩), .agg #[.int .u32 (k.1 : Nat), .int .i64 k.2]] h Q := by
  refine octroiref17_Babel_Drop_ok (by simp) ?_
  unfold octroiref17_Babel_Drop_D
  simp (disch := omega) [octroiref17_Babel_Drop_r0]
  intro b hb
  have l1 : Le h (h.upd b (.cells #[.int .u32 (k.1 : Nat), .int .i64 k.2] 24)) := .new hb
  have f3 : (h.upd b (.cells #[.int .u32 (k.1 : Nat), .int .i64 k.2] 24)) b = some (.cells #[.int .u32 (k.1 : Nat), .int .i64 k.2] 24) := upd_same
  generalize h.upd b (.cells #[.int .u32 (k.1 : Nat), .int .i64 k.2] 24) = h1 at *
  have M1 := M.le' l1
  simp (disch := omega) [octroiref17_Babel_Drop_r1, f3]
  refine fownM M1 hle (fun h3 l3 => ?_)
  have M3 := M1.le' l3
  have lh : Le h h3 := l1.trans l3
  replace hQ := fun h' k => hQ h' (FQ.le' (h1 := h3) lh k)
  have hq := M3.pt
  clear l1 l3 M1 f3
  unfold fdropS fdropE at hQ
  cases hg : getM f.O k with
  | none =>
    rw [hg] at hQ
    rw [atF_none hg]
    simp (disch := omega) [octroiref17_Babel_Drop_r2, octroiref17_Babel_Drop_r3]
    exact .to _ (.refl _) (hQ _ (.same M3 (.refl _)))
  | some x =>
    obtain ⟨i, hf, hi⟩ := findM_getM hg
    have hil : i < f.O.length := (List.getElem?_eq_some_iff.1 hi).1
    rw [hg] at hQ
    simp only [Option.isSome_some, if_true] at hQ
    rw [delM_at (i := 0) (j := i) (v := x) (by rw [hf]; simp)] at hQ
    rw [atF_some hf]
    obtain ⟨sp, cap, hv⟩ := M3.so.shape'
    have i0 : ¬ ((i : Nat) : Int) < 0 := by omega
    obtain ⟨w1, hw1, S1⟩ := M3.so.to_rr und_63 size_112 (fun y _ => oenc_one y) (i := i) (by omega)
    obtain ⟨w2, hw2, S2⟩ := M3.so.from_rr und_63 size_112 (fun y _ => oenc_one y) (i := i + 1) (by omega)
    simp (disch := omega) [octroiref17_Babel_Drop_r2, octroiref17_Babel_Drop_r4, hq, i0, hw1]
    refine cat_octroiref17_Own (xs := []) (.inl ⟨rfl, rfl⟩) S1 (by simp; omega) (fun o1 g1 T1 G1 => ?_)
    have lg1 : Le h3 g1 := fun x o e => G1.keep x o e (by simp [blkOf])
    have hq1 := lg1 _ _ hq
    have f1 : ∀ b, blkOf o1 = some b → h3 b = none := fun b e => by
      rcases G1.fresh with q1 | q1
      · rw [q1] at e; cases e
      · exact q1 b e
    have hw2' : ∀ g, rrun Try.prog (Instr.sliceAt 63 V.o (some (.int .i64 ((i : Int) + 1))) none none) g = some w2 := hw2
    simp (disch := omega) [octroiref17_Babel_Drop_r5, hq1, hw2', wrap_i64]
    have S2' : Src g1 4 oenc w2 (f.O.drop (i + 1)) := by
      refine ⟨S2.1, ?_⟩
      rcases S2.2 with q1 | ⟨b, o, cap, c, E, fr, q1, q2, q3⟩
      · exact .inl q1
      · exact .inr ⟨b, o, cap, c, E, fr, q1, lg1 _ _ q2, q3⟩
    refine cat_octroiref17_Own T1 S2' (by simp; omega) (fun o2 g2 T2 G2 => ?_)
    have K2 : Slot h3 g2 V.o o2 := .new (fun x o e => G2.keep x o (lg1 _ _ e) (fun k => by rw [f1 x k.symm] at e; cases e)) (fun b e => by
      rcases G2.fresh with q1 | q1
      · exact f1 b (by rw [← q1]; exact e)
      · exact none_of_le lg1 (q1 b e))
    rw [List.nil_append] at T2
    have hq2 := K2.keep _ _ hq (fun e => (M3.ap.1 q e).1 rfl)
    obtain ⟨p2, c2, ho2⟩ := T2.shape'
    generalize hn : (List.take i f.O ++ List.drop (i + 1) f.O).length = nn at ho2
    simp (disch := omega) [octroiref17_Babel_Drop_r6, octroiref17_Babel_Drop_r7, hq2, ho2]
    rw [← ho2]
    exact .to _ (.refl _) (hQ _ (M3.slotO K2 T2))

set_option maxRecDepth 20000 in
theorem fRaiseM (M : FbM h q V f) (hs : f.seq < 65536) (hQ : ∀ h', FQ h q V { f with seq := raiseN f.seq } h' → Q (.int .u16 (raiseN f.seq : Nat)) h') : Ok Try.prog F_octroiref17_Babel_Raise #[.pointer (some ⟨q, 0, none⟩)] h Q := by
  refine octroiref17_Babel_Raise_ok (by simp) ?_
  unfold octroiref17_Babel_Raise_D
  have hq := M.pt
  have w := wrap_add16 hs
  simp (disch := omega) [octroiref17_Babel_Raise_r0, octroiref17_Babel_Raise_r1, octroiref17_Babel_Raise_r2, hq, w]
  obtain ⟨a1, a2, a3, a4⟩ := M.ap
  exact .to _ (.refl _) (hQ _ ⟨V, ⟨upd_same, M.so.keep fun b o e e2 => by rw [upd_ne (a1 b e).1]; exact e2, M.sl.keep fun b o e e2 => by rw [upd_ne (a2 b e).1]; exact e2, M.sm.keep fun b o e e2 => by rw [upd_ne (a3 b e).1]; exact e2, M.sd.keep fun b o e e2 => by rw [upd_ne (a4 b e)]; exact e2, M.nd⟩, .upd (mem_ownF.2 (.inl rfl))⟩)
end
end Go.Proofs.Ytchbipkoifmmdaa

/- The document's Babel: Least, better, Know. -/
namespace Go.Proofs.Ytchbipkoifmmdaa
open Go
set_option linter.unusedSimpArgs false
set_option linter.unusedVariables false

section
variable {h h' : Hp} {q : Nat} {V : FV} {f : FS} {Q : Value → Hp → Prop}

set_option maxRecDepth 20000 in
theorem rnewerM {a b : Nat} (ha : a < 65536) (hb : b < 65536) (hQ : Q (.bool (newerB a b)) h) : Ok Try.prog F_octroiref01_Newer #[.int .u16 (a : Nat), .int .u16 (b : Nat)] h Q := by
  refine octroiref01_Newer_ok (by simp) ?_
  unfold octroiref01_Newer_D
  have w := wrap_sub16 ha hb
  have e : newerB a b = (decide ((1 : Int) ≤ (((a + 65536 - b) % 65536 : Nat) : Int)) && decide ((((a + 65536 - b) % 65536 : Nat) : Int) ≤ 32767)) := by
    unfold newerB
    rw [Bool.eq_iff_iff]; simp only [Bool.and_eq_true, decide_eq_true_eq]; omega
  rw [e] at hQ
  generalize (((a + 65536 - b) % 65536 : Nat) : Int) = z at *
  by_cases c : 1 ≤ z
  · by_cases d : z ≤ 32767
    · simp [c, d] at hQ
      simp (disch := omega) [octroiref01_Newer_r0, octroiref01_Newer_r1, octroiref01_Newer_r2, w, c, d]
      exact .to _ (.refl _) hQ
    · simp [c, d] at hQ
      simp (disch := omega) [octroiref01_Newer_r0, octroiref01_Newer_r1, octroiref01_Newer_r2, w, c, d]
      exact .to _ (.refl _) hQ
  · simp [c] at hQ
    simp (disch := omega) [octroiref01_Newer_r0, octroiref01_Newer_r1, octroiref01_Newer_r2, w, c]
    exact .to _ (.refl _) hQ

def FleInv (h0 : Hp) (q b4 : Nat) (L : MM) (k : PK) (rt : Nat) (n : Nat) (env : Env) (g : Hp) : Prop :=
  ∃ i : Nat, i + n = L.length ∧ g = h0 ∧ (∀ e ∈ L.take i, e.1 ≠ (k, rt)) ∧ env 0 = .pointer (some ⟨q, 0, none⟩) ∧ env 2 = .int .u64 (rt : Nat) ∧ env 4 = .pointer (some ⟨b4, 0, none⟩) ∧ env 9 = .int .i64 (i : Nat)

set_option maxHeartbeats 1000000 in
set_option maxRecDepth 20000 in
theorem fLeastM {k : PK} {rt : Nat} (M : FbM h q V f) (hle : f.M.length ≤ 1000000) (hQ : ∀ h', Le h h' → Q (.tuple #[.int .u16 (((getM f.M (k, rt)).getD (0, 0)).1 : Nat), .int .i64 ((getM f.M (k, rt)).getD (0, 0)).2, .bool (getM f.M (k, rt)).isSome]) h') :
    Ok Try.prog F_octroiref17_Babel_Least #[.pointer (some ⟨q, 0, none⟩), .agg #[.int .u32 (k.1 : Nat), .int .i64 k.2], .int .u64 (rt : Nat)] h Q := by
  refine octroiref17_Babel_Least_ok (by simp) ?_
  unfold octroiref17_Babel_Least_D
  simp (disch := omega) [octroiref17_Babel_Least_r0]
  intro b hb
  have l1 : Le h (h.upd b (.cells #[.int .u32 (k.1 : Nat), .int .i64 k.2] 24)) := .new hb
  have f3 : (h.upd b (.cells #[.int .u32 (k.1 : Nat), .int .i64 k.2] 24)) b = some (.cells #[.int .u32 (k.1 : Nat), .int .i64 k.2] 24) := upd_same
  generalize h.upd b (.cells #[.int .u32 (k.1 : Nat), .int .i64 k.2] 24) = h1 at *
  have M1 := M.le' l1
  simp (disch := omega) [octroiref17_Babel_Least_r1]
  obtain ⟨sp, scap, hv⟩ := M1.sm.shape'
  have hq := M1.pt
  have S1 := M1.sm
  generalize f.M = L at *
  refine ⟨FleInv h1 q b L k rt, ⟨L.length, 0, by omega, rfl, by simp, by simp, by simp, by simp, by simp⟩, ?_⟩
  rintro n env g ⟨i, hin, rfl, hn, e0, e2, e4, e9⟩
  unfold octroiref17_Babel_Least_L0
  by_cases hm : n = 0
  · have : i = L.length := by omega
    subst this
    rw [List.take_of_length_le (Nat.le_refl _)] at hn
    have hg : getM L (k, rt) = none := getM_none.2 (fun q => by obtain ⟨e, he, h2⟩ := List.mem_map.1 q; exact hn e he h2)
    rw [hg] at hQ
    simp (disch := omega) [octroiref17_Babel_Least_r2, octroiref17_Babel_Least_r6, e0, e2, e4, e9, hq, hv]
    exact .to _ (.refl _) (hQ _ l1)
  · obtain ⟨x, hx⟩ : ∃ x, L[i]? = some x := ⟨_, List.getElem?_eq_getElem (by omega)⟩
    obtain ⟨b2, cap, c, hv', hb2, c0, c1, c2, c3, c4⟩ := fm_at S1 hx
    have hi' : i < L.length := by omega
    by_cases hk : x.1 = (k, rt)
    · have hf : findM (k, rt) L 0 = some (0 + i, x.2) := findM_first (by rw [hx, ← hk]) hn
      have hg : getM L (k, rt) = some x.2 := by unfold getM; rw [hf]; rfl
      rw [hg] at hQ
      rw [hk] at c0 c1 c2
      simp (disch := omega) [octroiref17_Babel_Least_r2, octroiref17_Babel_Least_r3, octroiref17_Babel_Least_r4, e0, e2, e4, e9, hq, hv', hb2, c0, c1, c2, c3, c4, hi', f3]
      exact .to _ (.refl _) (hQ _ l1)
    · have fin : ∀ env : Env, env 0 = .pointer (some ⟨q, 0, none⟩) → env 2 = .int .u64 (rt : Nat) → env 4 = .pointer (some ⟨b, 0, none⟩) → env 9 = .int .i64 (i : Nat) →
          octroiref17_Babel_Least_r5 env g (roundK (FleInv g q b L k rt) n (inBlk 0 (thenK (sq (rg octroiref17_Babel_Least_r6) (ex .ret)) (fin Try.prog [.tmp 6, .tmp 7, .tmp 8] Q))) .normal) := by
        intro env e0 e2 e4 e9
        simp (disch := omega) [octroiref17_Babel_Least_r5, e9, wrap_i64]
        refine ⟨n - 1, by omega, i + 1, by omega, rfl, fun e he => ?_, by simp [e0], by simp [e2], by simp [e4], by simp⟩
        rw [take_snoc hx] at he
        rcases List.mem_append.1 he with q1 | q1
        · exact hn e q1
        · simp at q1; subst q1; exact hk
      by_cases s1 : x.1.1.1 = k.1
      · by_cases s2 : x.1.1.2 = k.2
        · have s3 : ¬ x.1.2 = rt := fun q => hk (Prod.ext (Prod.ext s1 s2) q)
          have s3' : ¬ (x.1.2 : Int) = (rt : Int) := by omega
          rw [s1] at c0
          rw [s2] at c1
          simp (disch := omega) [octroiref17_Babel_Least_r2, octroiref17_Babel_Least_r3, e0, e2, e4, e9, hq, hv', hb2, c0, c1, c2, hi', f3, s3, s3']
          refine fin _ ?_ ?_ ?_ ?_ <;> simp [e0, e2, e4, e9]
        · rw [s1] at c0
          simp (disch := omega) [octroiref17_Babel_Least_r2, octroiref17_Babel_Least_r3, e0, e2, e4, e9, hq, hv', hb2, c0, c1, c2, hi', f3, s2]
          refine fin _ ?_ ?_ ?_ ?_ <;> simp [e0, e2, e4, e9]
      · have s1' : ¬ (x.1.1.1 : Int) = (k.1 : Int) := by omega
        simp (disch := omega) [octroiref17_Babel_Least_r2, octroiref17_Babel_Least_r3, e0, e2, e4, e9, hq, hv', hb2, c0, c1, c2, hi', f3, s1, s1']
        refine fin _ ?_ ?_ ?_ ?_ <;> simp [e0, e2, e4, e9]

set_option maxHeartbeats 1000000 in
set_option maxRecDepth 20000 in
theorem fbetterM {k : PK} {rt sn : Nat} {n : Int} (M : FbM h q V f) (hle : f.M.length ≤ 1000000) (hM : SeqOk f.M) (hs : sn < 65536) (hQ : ∀ h', Le h h' → Q (.bool (betterB f.M (k, rt) sn n)) h') :
    Ok Try.prog F_octroiref17_Babel_better #[.pointer (some ⟨q, 0, none⟩), .agg #[.int .u32 (k.1 : Nat), .int .i64 k.2], .int .u64 (rt : Nat), .int .u16 (sn : Nat), .int .i64 n] h Q := by
  refine octroiref17_Babel_better_ok (by simp) ?_
  unfold octroiref17_Babel_better_D
  simp (disch := omega) [octroiref17_Babel_better_r0]
  intro b hb
  have l1 : Le h (h.upd b (.cells #[.int .u32 (k.1 : Nat), .int .i64 k.2] 24)) := .new hb
  have f3 : (h.upd b (.cells #[.int .u32 (k.1 : Nat), .int .i64 k.2] 24)) b = some (.cells #[.int .u32 (k.1 : Nat), .int .i64 k.2] 24) := upd_same
  generalize h.upd b (.cells #[.int .u32 (k.1 : Nat), .int .i64 k.2] 24) = h1 at *
  have M1 := M.le' l1
  simp (disch := omega) [octroiref17_Babel_better_r1, f3]
  refine fLeastM M1 hle (fun h2 l2 => ?_)
  unfold betterB at hQ
  cases hz : getM f.M (k, rt) with
  | none =>
    rw [hz] at hQ
    simp (disch := omega) [octroiref17_Babel_better_r2]
    refine rnewerM (b := 0) hs (by omega) ?_
    simp (disch := omega) [octroiref17_Babel_better_r3]
    exact .to _ (.refl _) (hQ _ (l1.trans l2))
  | some z =>
    rw [hz] at hQ
    have hzs : z.1 < 65536 := hM _ (getM_mem hz)
    simp (disch := omega) [octroiref17_Babel_better_r2]
    refine rnewerM hs hzs ?_
    simp only at hQ
    cases hn : newerB sn z.1 with
    | true =>
      rw [hn] at hQ
      simp (disch := omega) [octroiref17_Babel_better_r3]
      exact .to _ (.refl _) (by simpa using hQ _ (l1.trans l2))
    | false =>
      rw [hn] at hQ
      by_cases c1 : sn = z.1
      · have c1' : (sn : Int) = (z.1 : Int) := by omega
        by_cases c2 : n < z.2
        · simp (disch := omega) [octroiref17_Babel_better_r3, eq_true c1, eq_true c1', c2]
          exact .to _ (.refl _) (by simpa [c1, c2] using hQ _ (l1.trans l2))
        · simp (disch := omega) [octroiref17_Babel_better_r3, eq_true c1, eq_true c1', c2]
          exact .to _ (.refl _) (by simpa [c1, c2] using hQ _ (l1.trans l2))
      · have c1' : ¬ (sn : Int) = (z.1 : Int) := by omega
        simp (disch := omega) [octroiref17_Babel_better_r3, c1, c1']
        exact .to _ (.refl _) (by simpa [c1] using hQ _ (l1.trans l2))

def fknowS (f : FS) (k : PK) (rt sn : Nat) (n : Int) : FS := if mayB k.1 k.2 = true ∧ 0 ≤ n ∧ n < 65535 ∧ betterB f.M (k, rt) sn n = true then { f with M := setM (k, rt) (sn, n) f.M } else f
end
end Go.Proofs.Ytchbipkoifmmdaa

/- The document's Babel: Know, forget, Hear, Lose. -/
namespace Go.Proofs.Ytchbipkoifmmdaa
open Go
set_option linter.unusedSimpArgs false
set_option linter.unusedVariables false

section
variable {h h' : Hp} {q : Nat} {V : FV} {f : FS} {Q : Value → Hp → Prop}

def FknInv (h0 : Hp) (q b4 : Nat) (L : MM) (k : PK) (rt sn : Nat) (nn : Int) (n : Nat) (env : Env) (g : Hp) : Prop :=
  ∃ i : Nat, i + n = L.length ∧ g = h0 ∧ (∀ e ∈ L.take i, e.1 ≠ (k, rt)) ∧ env 0 = .pointer (some ⟨q, 0, none⟩) ∧ env 2 = .int .u64 (rt : Nat) ∧ env 3 = .int .u16 (sn : Nat) ∧ env 4 = .int .i64 nn ∧ env 6 = .pointer (some ⟨b4, 0, none⟩) ∧ env 12 = .int .i64 (i : Nat)

set_option maxHeartbeats 2000000 in
set_option maxRecDepth 20000 in
theorem fKnowM {k : PK} {rt sn : Nat} {nn : Int} (M : FbM h q V f) (hle : f.M.length ≤ 100000) (hM : SeqOk f.M) (hs : sn < 65536) (hk : k.1 < 2 ^ 32) (hQ : ∀ h', FQ h q V (fknowS f k rt sn nn) h' → Q (.tuple #[]) h') :
    Ok Try.prog F_octroiref17_Babel_Know #[.pointer (some ⟨q, 0, none⟩), .agg #[.int .u32 (k.1 : Nat), .int .i64 k.2], .int .u64 (rt : Nat), .int .u16 (sn : Nat), .int .i64 nn] h Q := by
  refine octroiref17_Babel_Know_ok (by simp) ?_
  unfold octroiref17_Babel_Know_D
  simp (disch := omega) [octroiref17_Babel_Know_r0]
  intro b hb
  have l1 : Le h (h.upd b (.cells #[.int .u32 (k.1 : Nat), .int .i64 k.2] 24)) := .new hb
  have f3 : (h.upd b (.cells #[.int .u32 (k.1 : Nat), .int .i64 k.2] 24)) b = some (.cells #[.int .u32 (k.1 : Nat), .int .i64 k.2] 24) := upd_same
  generalize h.upd b (.cells #[.int .u32 (k.1 : Nat), .int .i64 k.2] 24) = h1 at *
  have M1 := M.le' l1
  simp (disch := omega) [octroiref17_Babel_Know_r1, f3]
  refine rmay_spec hk ?_
  simp (disch := omega) [octroiref17_Babel_Know_r2, f3]
  refine fbetterM M1 (by omega) hM hs (fun h2 l2 => ?_)
  have lh := l1.trans l2
  have M2 := M1.le' l2
  have f32 := l2 _ _ f3
  clear l1 l2 M1 f3
  replace hQ := fun h' k => hQ h' (FQ.le' (h1 := h2) lh k)
  unfold fknowS at hQ
  have no : ¬ (mayB k.1 k.2 = true ∧ 0 ≤ nn ∧ nn < 65535 ∧ betterB f.M (k, rt) sn nn = true) → Q (.tuple #[]) h2 := fun q => by
    rw [if_neg q] at hQ; exact hQ _ (.same M2 (.refl _))
  cases a1 : mayB k.1 k.2 with
  | false =>
    simp (disch := omega) [octroiref17_Babel_Know_r3]
    exact .to _ (.refl _) (no (by simp [a1]))
  | true =>
  by_cases a2 : nn < 0
  · simp (disch := omega) [octroiref17_Babel_Know_r3, a2]
    exact .to _ (.refl _) (no (by omega))
  by_cases a3 : 65535 ≤ nn
  · simp (disch := omega) [octroiref17_Babel_Know_r3, a2, a3]
    exact .to _ (.refl _) (no (by omega))
  cases a4 : betterB f.M (k, rt) sn nn with
  | false =>
    simp (disch := omega) [octroiref17_Babel_Know_r3, a2, a3]
    exact .to _ (.refl _) (no (by simp [a4]))
  | true =>
  rw [if_pos ⟨a1, by omega, by omega, a4⟩] at hQ
  simp (disch := omega) [octroiref17_Babel_Know_r3, octroiref17_Babel_Know_r4, a2, a3]
  obtain ⟨sp, scap, hv⟩ := M2.sm.shape'
  have hq := M2.pt
  clear no a1 a2 a3 a4
  refine ⟨FknInv h2 q b f.M k rt sn nn, ⟨f.M.length, 0, by omega, rfl, by simp, by simp, by simp, by simp, by simp, by simp, by simp⟩, ?_⟩
  rintro n env g ⟨i, hin, rfl, hn, e0, e2, e3, e4, e6, e12⟩
  unfold octroiref17_Babel_Know_L0
  by_cases hm : n = 0
  · have : i = f.M.length := by omega
    subst this
    rw [List.take_of_length_le (Nat.le_refl _)] at hn
    have hg : getM f.M (k, rt) = none := getM_none.2 (fun q => by obtain ⟨e, he, h2⟩ := List.mem_map.1 q; exact hn e he h2)
    rw [setM_end hg] at hQ
    simp (disch := omega) [octroiref17_Babel_Know_r5, octroiref17_Babel_Know_r10, e0, e2, e3, e4, e6, e12, hq, hv, f32]
    intro b9 hb9
    have hqb : q ≠ b9 := by rintro rfl; rw [M2.pt] at hb9; cases hb9
    refine ⟨by rw [upd_ne hqb]; simp [hq, hv], ?_⟩
    rw [← hv]
    refine arun_mono _ (fun w' g' HH => ?_) (snoc_octroiref17_Least (k := fun _ v g' => SlAt g' T_fl 5 menc v (f.M ++ [((k, rt), (sn, nn))]) ∧ Grew g g' V.m v) (y := ((k, rt), (sn, nn))) M2.sm rfl (by simp [menc]) (by omega) (fun b10 w' g' S' G hb10 => ⟨S', G⟩) b9 hb9)
    obtain ⟨S', G⟩ := HH
    have hq' := G.keep _ _ hq (fun e => (M2.ap.2.2.1 q e.symm).1 rfl)
    obtain ⟨wp, wcap, hw⟩ := S'.shape'
    replace hw : w' = .slice wp (f.M.length + 1) wcap := by rw [hw]; simp
    simp (disch := omega) [e0, hq', hw]
    rw [← hw]
    exact .to _ (.refl _) (hQ _ (M2.slotM (.grew G) S'))
  · obtain ⟨x, hx⟩ : ∃ x, f.M[i]? = some x := ⟨_, List.getElem?_eq_getElem (by omega)⟩
    obtain ⟨b2, cap, c, hv', hb2, c0, c1, c2, c3, c4⟩ := fm_at M2.sm hx
    have hi' : i < f.M.length := by omega
    by_cases hk : x.1 = (k, rt)
    · have hf : findM (k, rt) f.M 0 = some (0 + i, x.2) := findM_first (by rw [hx, ← hk]) hn
      rw [hk] at c0 c1 c2
      have S2 := M2.sm
      have hvb : blkOf V.m = some b2 := by rw [hv']; rfl
      rw [hv'] at S2
      simp (disch := omega) [-stN_cons, octroiref17_Babel_Know_r5, octroiref17_Babel_Know_r6, octroiref17_Babel_Know_r7, e0, e2, e3, e4, e6, e12, hq, hv', hb2, c0, c1, c2, c3, c4, hi', f32]
      refine SlAt.setPart (y := ((k, rt), (sn, x.2.2))) S2 3 (by omega) rfl hx rfl (by simp) (by simp) (by simp [menc, hk]) (fun h4 K4 S4 => ?_)
      rw [← hv'] at S4
      obtain ⟨M4, F4⟩ := M2.inM' hvb K4 S4
      have hx4 : (f.M.set i ((k, rt), (sn, x.2.2)))[i]? = some ((k, rt), (sn, x.2.2)) := by rw [List.getElem?_set]; simp [hi']
      have hq4 := M4.pt
      obtain ⟨b5, cap5, c5, hv5, hb5, d0, d1, d2, d3, d4⟩ := fm_at M4.sm hx4
      have hvb5 : blkOf V.m = some b5 := by rw [hv5]; rfl
      rw [List.length_set] at hv5
      rw [hv5] at S4
      simp (disch := omega) [-stN_cons, octroiref17_Babel_Know_r8, e0, e4, e12, hq4, hv5, hb5, d0, d1, d2, d3, d4, hi']
      refine SlAt.setPart (y := ((k, rt), (sn, nn))) S4 4 (by omega) (by simp) hx4 rfl (by simp) (by simp) (by simp [menc]) (fun h6 K6 S6 => ?_)
      rw [← hv5, List.set_set, show f.M.set i ((k, rt), (sn, nn)) = setM (k, rt) (sn, nn) f.M from findM_set (i := 0) hf] at S6
      obtain ⟨M6, F6⟩ := M4.inM' hvb5 K6 S6
      exact .to _ (.refl _) (hQ _ ⟨V, M6, F4.trans F6⟩)
    · have fin : ∀ env : Env, env 0 = .pointer (some ⟨q, 0, none⟩) → env 2 = .int .u64 (rt : Nat) → env 3 = .int .u16 (sn : Nat) → env 4 = .int .i64 nn → env 6 = .pointer (some ⟨b, 0, none⟩) → env 12 = .int .i64 (i : Nat) →
          octroiref17_Babel_Know_r9 env g (roundK (FknInv g q b f.M k rt sn nn) n (inBlk 0 (thenK (rg octroiref17_Babel_Know_r10) (fin Try.prog [] Q))) .normal) := by
        intro env e0 e2 e3 e4 e6 e12
        simp (disch := omega) [octroiref17_Babel_Know_r9, e12, wrap_i64]
        refine ⟨n - 1, by omega, i + 1, by omega, rfl, fun e he => ?_, by simp [e0], by simp [e2], by simp [e3], by simp [e4], by simp [e6], by simp⟩
        rw [take_snoc hx] at he
        rcases List.mem_append.1 he with q1 | q1
        · exact hn e q1
        · simp at q1; subst q1; exact hk
      by_cases s1 : x.1.1.1 = k.1
      · by_cases s2 : x.1.1.2 = k.2
        · have s3 : ¬ x.1.2 = rt := fun q => hk (Prod.ext (Prod.ext s1 s2) q)
          have s3' : ¬ (x.1.2 : Int) = (rt : Int) := by omega
          rw [s1] at c0
          rw [s2] at c1
          simp (disch := omega) [octroiref17_Babel_Know_r5, octroiref17_Babel_Know_r6, e0, e2, e6, e12, hq, hv', hb2, c0, c1, c2, hi', f32, s3, s3']
          refine fin _ ?_ ?_ ?_ ?_ ?_ ?_ <;> simp [e0, e2, e3, e4, e6, e12]
        · rw [s1] at c0
          simp (disch := omega) [octroiref17_Babel_Know_r5, octroiref17_Babel_Know_r6, e0, e2, e6, e12, hq, hv', hb2, c0, c1, c2, hi', f32, s2]
          refine fin _ ?_ ?_ ?_ ?_ ?_ ?_ <;> simp [e0, e2, e3, e4, e6, e12]
      · have s1' : ¬ (x.1.1.1 : Int) = (k.1 : Int) := by omega
        simp (disch := omega) [octroiref17_Babel_Know_r5, octroiref17_Babel_Know_r6, e0, e2, e6, e12, hq, hv', hb2, c0, c1, c2, hi', f32, s1, s1']
        refine fin _ ?_ ?_ ?_ ?_ ?_ ?_ <;> simp [e0, e2, e3, e4, e6, e12]
end
end Go.Proofs.Ytchbipkoifmmdaa

/- The document's Babel: forget, Lose, Hear. -/
namespace Go.Proofs.Ytchbipkoifmmdaa
open Go
set_option linter.unusedSimpArgs false
set_option linter.unusedVariables false

section
variable {h h' : Hp} {q : Nat} {V : FV} {f : FS} {Q : Value → Hp → Prop}

def forgL (L : MT) (k : PK) (fr : Int) : MT := L.filter fun e => decide (e.1 ≠ (k, fr))
def fhadL (L : MT) (k : PK) (fr : Int) : Bool := decide ((forgL L k fr).length < L.length)
theorem filter_snoc {α : Type} {p : α → Bool} {A : List α} {x : α} : (A ++ [x]).filter p = A.filter p ++ (if p x then [x] else []) := by
  rw [List.filter_append]; cases h : p x <;> simp [h]

def FfoInv (h0 : Hp) (q b4 : Nat) (L : MT) (k : PK) (fr : Int) (n : Nat) (env : Env) (g : Hp) : Prop :=
  ∃ (i : Nat) (w : Value), i + n = L.length ∧ Le h0 g ∧ SlAt g T_ft 13 lenc w (forgL (L.take i) k fr) ∧ (∀ b, blkOf w = some b → h0 b = none) ∧
    env 0 = .pointer (some ⟨q, 0, none⟩) ∧ env 2 = .int .i64 fr ∧ env 4 = .pointer (some ⟨b4, 0, none⟩) ∧ env 7 = w ∧ env 8 = .int .i64 (i : Nat)

set_option maxHeartbeats 2000000 in
set_option maxRecDepth 20000 in
theorem fforgetM {k : PK} {fr : Int} (M : FbM h q V f) (hle : f.L.length ≤ 100000) (hQ : ∀ h', FQ h q V { f with L := forgL f.L k fr } h' → Q (.bool (fhadL f.L k fr)) h') :
    Ok Try.prog F_octroiref17_Babel_forget #[.pointer (some ⟨q, 0, none⟩), .agg #[.int .u32 (k.1 : Nat), .int .i64 k.2], .int .i64 fr] h Q := by
  unfold fhadL at hQ
  refine octroiref17_Babel_forget_ok (by simp) ?_
  unfold octroiref17_Babel_forget_D
  simp (disch := omega) [octroiref17_Babel_forget_r0]
  intro b hb
  have l1 : Le h (h.upd b (.cells #[.int .u32 (k.1 : Nat), .int .i64 k.2] 24)) := .new hb
  have f3 : (h.upd b (.cells #[.int .u32 (k.1 : Nat), .int .i64 k.2] 24)) b = some (.cells #[.int .u32 (k.1 : Nat), .int .i64 k.2] 24) := upd_same
  generalize h.upd b (.cells #[.int .u32 (k.1 : Nat), .int .i64 k.2] 24) = h1 at *
  have M1 := M.le' l1
  replace hQ := fun h' k => hQ h' (FQ.le' (h1 := h1) l1 k)
  simp (disch := omega) [octroiref17_Babel_forget_r1, octroiref17_Babel_forget_r2]
  obtain ⟨sp, scap, hv⟩ := M1.sl.shape'
  refine ⟨FfoInv h1 q b f.L k fr, ⟨f.L.length, 0, .slice none 0 0, by omega, .refl _, .inl ⟨rfl, rfl⟩, by simp [blkOf], by simp, by simp, by simp, by simp, by simp⟩, ?_⟩
  rintro n env g ⟨i, w, hin, lg, S, nw, e0, e2, e4, e7, e8⟩
  unfold octroiref17_Babel_forget_L0
  have hq := lg _ _ M1.pt
  have f3g := lg _ _ f3
  have hsl : (forgL (f.L.take i) k fr).length ≤ f.L.length := Nat.le_trans (List.length_filter_le _ _) (by rw [List.length_take]; omega)
  obtain ⟨wp, wcap, hw⟩ := S.shape'
  by_cases hm : n = 0
  · have : i = f.L.length := by omega
    subst this
    rw [List.take_of_length_le (Nat.le_refl _)] at S hw
    have e7' := e7.trans hw
    simp (disch := omega) [octroiref17_Babel_forget_r3, octroiref17_Babel_forget_r7, octroiref17_Babel_forget_r8, octroiref17_Babel_forget_r9, e0, e2, e4, e7', e8, hq, hv]
    rw [← hw]
    exact .to _ (.refl _) (hQ _ (M1.slotL (.new lg nw) S))
  · obtain ⟨x, hx⟩ : ∃ x, f.L[i]? = some x := ⟨_, List.getElem?_eq_getElem (by omega)⟩
    obtain ⟨b2, cap, c, hv', hb2, c0, c1, c2, c3, c4, c5, c6, c7, c8, c9, c10, c11, c12⟩ := fl_at (M1.sl.le' lg) hx
    have hi' : i < f.L.length := by omega
    have tk := take_snoc hx
    have inv : ∀ (env : Env) (g' : Hp) (w' : Value), Le h1 g' → SlAt g' T_ft 13 lenc w' (forgL (f.L.take (i + 1)) k fr) → (∀ b, blkOf w' = some b → h1 b = none) → env 0 = .pointer (some ⟨q, 0, none⟩) → env 2 = .int .i64 fr → env 4 = .pointer (some ⟨b, 0, none⟩) → env 7 = w' → env 8 = .int .i64 (i : Nat) →
        octroiref17_Babel_forget_r6 env g' (roundK (FfoInv h1 q b f.L k fr) n (inBlk 0 (thenK (sq (rg octroiref17_Babel_forget_r7) (sq (rg octroiref17_Babel_forget_r8) (sq (rg octroiref17_Babel_forget_r9) (ex .ret)))) (fin Try.prog [.tmp 6] Q))) .normal) := by
      intro env g' w' lg' S' nw' e0 e2 e4 e7 e8
      simp (disch := omega) [octroiref17_Babel_forget_r6, e8, wrap_i64]
      exact ⟨n - 1, by omega, i + 1, w', by omega, lg', S', nw', by simp [e0], by simp [e2], by simp [e4], by simp [e7], by simp⟩
    have put : ∀ (env : Env), x.1 ≠ (k, fr) → env 0 = .pointer (some ⟨q, 0, none⟩) → env 2 = .int .i64 fr → env 4 = .pointer (some ⟨b, 0, none⟩) → env 7 = w → env 8 = .int .i64 (i : Nat) →
        octroiref17_Babel_forget_r5 env g (inBlk 1 (thenK (rg octroiref17_Babel_forget_r6) (roundK (FfoInv h1 q b f.L k fr) n (inBlk 0 (thenK (sq (rg octroiref17_Babel_forget_r7) (sq (rg octroiref17_Babel_forget_r8) (sq (rg octroiref17_Babel_forget_r9) (ex .ret)))) (fin Try.prog [.tmp 6] Q))))) .normal) := by
      intro env hk e0 e2 e4 e7 e8
      have hs : forgL (f.L.take (i + 1)) k fr = forgL (f.L.take i) k fr ++ [x] := by unfold forgL; rw [tk, filter_snoc, if_pos (by simpa using hk)]
      simp (disch := omega) [octroiref17_Babel_forget_r5, e0, e2, e4, e7, e8, hq, hv', hb2, c0, c1, c2, c3, c4, c5, c6, c7, c8, c9, c10, c11, c12, hi']
      refine snoc_octroiref17_Told S (y := x) rfl (by simp [lenc]) (by omega) (fun b9 w' g' S' G hb9 => ?_)
      obtain ⟨lg', nw'⟩ := G.news lg nw
      simp (disch := omega)
      refine inv _ g' w' lg' (by rw [hs]; exact S') nw' ?_ ?_ ?_ ?_ ?_ <;> simp [e0, e2, e4, e8]
    by_cases hk : x.1 = (k, fr)
    · have hs : forgL (f.L.take (i + 1)) k fr = forgL (f.L.take i) k fr := by unfold forgL; rw [tk, filter_snoc, if_neg (by simpa using hk), List.append_nil]
      rw [hk] at c0 c1 c2
      simp (disch := omega) [octroiref17_Babel_forget_r3, octroiref17_Babel_forget_r4, e0, e2, e4, e8, hq, hv', hb2, c0, c1, c2, hi', f3g]
      refine inv _ g w lg (by rw [hs]; exact S) nw ?_ ?_ ?_ ?_ ?_ <;> simp [e0, e2, e4, e7, e8]
    · by_cases s1 : x.1.1.1 = k.1
      · by_cases s2 : x.1.1.2 = k.2
        · have s3 : ¬ x.1.2 = fr := fun q => hk (Prod.ext (Prod.ext s1 s2) q)
          have c0' := c0
          have c1' := c1
          rw [s1] at c0'
          rw [s2] at c1'
          simp (disch := omega) [octroiref17_Babel_forget_r3, octroiref17_Babel_forget_r4, e0, e2, e4, e8, hq, hv', hb2, c0', c1', c2, hi', f3g, s3]
          refine put _ hk ?_ ?_ ?_ ?_ ?_ <;> simp [e0, e2, e4, e7, e8]
        · have c0' := c0
          rw [s1] at c0'
          simp (disch := omega) [octroiref17_Babel_forget_r3, octroiref17_Babel_forget_r4, e0, e2, e4, e8, hq, hv', hb2, c0', c1, c2, hi', f3g, s2]
          refine put _ hk ?_ ?_ ?_ ?_ ?_ <;> simp [e0, e2, e4, e7, e8]
      · have s1' : ¬ (x.1.1.1 : Int) = (k.1 : Int) := by omega
        simp (disch := omega) [octroiref17_Babel_forget_r3, octroiref17_Babel_forget_r4, e0, e2, e4, e8, hq, hv', hb2, c0, c1, c2, hi', f3g, s1, s1']
        refine put _ hk ?_ ?_ ?_ ?_ ?_ <;> simp [e0, e2, e4, e7, e8]

def FloInv (h0 : Hp) (q : Nat) (L : MT) (fr : Int) (n : Nat) (env : Env) (g : Hp) : Prop :=
  ∃ (i : Nat) (w : Value), i + n = L.length ∧ Le h0 g ∧ SlAt g T_ft 13 lenc w (lostT fr (L.take i)) ∧ (∀ b, blkOf w = some b → h0 b = none) ∧
    env 0 = .pointer (some ⟨q, 0, none⟩) ∧ env 1 = .int .i64 fr ∧ env 4 = w ∧ env 5 = .int .i64 (i : Nat)

set_option maxHeartbeats 2000000 in
set_option maxRecDepth 20000 in
theorem fLoseM {fr : Int} (M : FbM h q V f) (hle : f.L.length ≤ 100000) (hQ : ∀ h', FQ h q V { f with L := lostT fr f.L } h' → Q (.tuple #[]) h') :
    Ok Try.prog F_octroiref17_Babel_Lose #[.pointer (some ⟨q, 0, none⟩), .int .i64 fr] h Q := by
  refine octroiref17_Babel_Lose_ok (by simp) ?_
  unfold octroiref17_Babel_Lose_D
  simp (disch := omega) [octroiref17_Babel_Lose_r0, octroiref17_Babel_Lose_r1]
  obtain ⟨sp, scap, hv⟩ := M.sl.shape'
  refine ⟨FloInv h q f.L fr, ⟨f.L.length, 0, .slice none 0 0, by omega, .refl _, .inl ⟨rfl, rfl⟩, by simp [blkOf], by simp, by simp, by simp, by simp⟩, ?_⟩
  rintro n env g ⟨i, w, hin, lg, S, nw, e0, e1, e4, e5⟩
  unfold octroiref17_Babel_Lose_L0
  have hq := lg _ _ M.pt
  have hsl : (lostT fr (f.L.take i)).length ≤ f.L.length := Nat.le_trans (List.length_filter_le _ _) (by rw [List.length_take]; omega)
  obtain ⟨wp, wcap, hw⟩ := S.shape'
  by_cases hm : n = 0
  · have : i = f.L.length := by omega
    subst this
    rw [List.take_of_length_le (Nat.le_refl _)] at S hw
    have e4' := e4.trans hw
    simp (disch := omega) [octroiref17_Babel_Lose_r2, octroiref17_Babel_Lose_r6, e0, e1, e4', e5, hq, hv]
    rw [← hw]
    exact .to _ (.refl _) (hQ _ (M.slotL (.new lg nw) S))
  · obtain ⟨x, hx⟩ : ∃ x, f.L[i]? = some x := ⟨_, List.getElem?_eq_getElem (by omega)⟩
    obtain ⟨b2, cap, c, hv', hb2, c0, c1, c2, c3, c4, c5, c6, c7, c8, c9, c10, c11, c12⟩ := fl_at (M.sl.le' lg) hx
    have hi' : i < f.L.length := by omega
    have tk := take_snoc hx
    have inv : ∀ (env : Env) (g' : Hp) (w' : Value), Le h g' → SlAt g' T_ft 13 lenc w' (lostT fr (f.L.take (i + 1))) → (∀ b, blkOf w' = some b → h b = none) → env 0 = .pointer (some ⟨q, 0, none⟩) → env 1 = .int .i64 fr → env 4 = w' → env 5 = .int .i64 (i : Nat) →
        octroiref17_Babel_Lose_r5 env g' (roundK (FloInv h q f.L fr) n (inBlk 0 (thenK (rg octroiref17_Babel_Lose_r6) (fin Try.prog [] Q))) .normal) := by
      intro env g' w' lg' S' nw' e0 e1 e4 e5
      simp (disch := omega) [octroiref17_Babel_Lose_r5, e5, wrap_i64]
      exact ⟨n - 1, by omega, i + 1, w', by omega, lg', S', nw', by simp [e0], by simp [e1], by simp [e4], by simp⟩
    by_cases hk : x.1.2 = fr
    · have hs : lostT fr (f.L.take (i + 1)) = lostT fr (f.L.take i) := by unfold lostT; rw [tk, filter_snoc, if_neg (by simp [hk]), List.append_nil]
      simp (disch := omega) [octroiref17_Babel_Lose_r2, octroiref17_Babel_Lose_r3, e0, e1, e5, hq, hv', hb2, c2, hi', hk]
      refine inv _ g w lg (by rw [hs]; exact S) nw ?_ ?_ ?_ ?_ <;> simp [e0, e1, e4, e5]
    · have hs : lostT fr (f.L.take (i + 1)) = lostT fr (f.L.take i) ++ [x] := by unfold lostT; rw [tk, filter_snoc, if_pos (by simpa using hk)]
      simp (disch := omega) [octroiref17_Babel_Lose_r2, octroiref17_Babel_Lose_r3, octroiref17_Babel_Lose_r4, e0, e1, e4, e5, hq, hv', hb2, c0, c1, c2, c3, c4, c5, c6, c7, c8, c9, c10, c11, c12, hi', hk]
      refine snoc_octroiref17_Told S (y := x) rfl (by simp [lenc]) (by omega) (fun b9 w' g' S' G hb9 => ?_)
      obtain ⟨lg', nw'⟩ := G.news lg nw
      simp (disch := omega)
      refine inv _ g' w' lg' (by rw [hs]; exact S') nw' ?_ ?_ ?_ ?_ <;> simp [e0, e1, e5]
end
end Go.Proofs.Ytchbipkoifmmdaa

/- The document's Babel: Hear. -/
namespace Go.Proofs.Ytchbipkoifmmdaa
open Go
set_option linter.unusedSimpArgs false
set_option linter.unusedVariables false

section
variable {h h' : Hp} {q : Nat} {V : FV} {f : FS} {Q : Value → Hp → Prop}

def fhear (s : FS) (f c : Int) (t : Tlv) : Bool × Int × FS :=
  if badT f c t then (false, 1, s)
  else if hasT t.tg s.dom = true then (false, 6, s)
  else if t.rt = s.id then (false, 0, s)
  else if t.c = 65535 ∨ betterB s.M (srcK t) t.s t.c = false then (fhadL s.L (t.a, t.l) f, 0, { s with L := forgL s.L (t.a, t.l) f })
  else if fhadL s.L (t.a, t.l) f = false ∧ s.most ≤ ((forgL s.L (t.a, t.l) f).length : Int) then (false, 4, { s with L := forgL s.L (t.a, t.l) f })
  else (true, 0, { s with L := forgL s.L (t.a, t.l) f ++ [(((t.a, t.l), f), (c, t))] })

set_option maxHeartbeats 2000000 in
set_option maxRecDepth 20000 in
theorem fHearM {fr c : Int} {t : Tlv} (M : FbM h q V f) (hle : f.L.length ≤ 90000) (hlm : f.M.length ≤ 100000) (hM : SeqOk f.M) (hs : t.s < 65536) (hk : t.a < 2 ^ 32) (ht : t.tg < 2 ^ 16)
    (hQ : ∀ h', FQ h q V (fhear f fr c t).2.2 h' → Q (.tuple #[.bool (fhear f fr c t).1, .int .i64 (fhear f fr c t).2.1]) h') :
    Ok Try.prog F_octroiref17_Babel_Hear #[.pointer (some ⟨q, 0, none⟩), .int .i64 fr, .int .i64 c, Tlvv t] h Q := by
  refine octroiref17_Babel_Hear_ok (by simp) ?_
  unfold octroiref17_Babel_Hear_D
  simp (disch := omega) [octroiref17_Babel_Hear_r0]
  intro b hb
  have l1 : Le h (h.upd b (.cells t.cells 31)) := .new hb
  have f7 : (h.upd b (.cells t.cells 31)) b = some (.cells t.cells 31 (0, 0)) := upd_same
  show octroiref17_Babel_Hear_r1 _ (h.upd b (.cells t.cells 31)) _
  generalize h.upd b (.cells t.cells 31) = h1 at *
  have M1 := M.le' l1
  simp (disch := omega) [octroiref17_Babel_Hear_r1, f7]
  refine rmay_spec hk ?_
  by_cases arg : badT fr c t
  · have e : fhear f fr c t = (false, 1, f) := by unfold fhear; rw [if_pos arg]
    rw [e] at hQ
    have fin2 := hQ _ (.same M l1)
    simp only at fin2
    unfold badT at arg
    by_cases a1 : fr < 1
    · simp (disch := omega) [octroiref17_Babel_Hear_r2, octroiref17_Babel_Hear_r3, f7, a1]
      exact .to _ (.refl _) fin2
    by_cases a2 : 32 < fr
    · simp (disch := omega) [octroiref17_Babel_Hear_r2, octroiref17_Babel_Hear_r3, f7, a1, a2]
      exact .to _ (.refl _) fin2
    by_cases a3 : c < 1
    · simp (disch := omega) [octroiref17_Babel_Hear_r2, octroiref17_Babel_Hear_r3, f7, a1, a2, a3]
      exact .to _ (.refl _) fin2
    by_cases a4 : 65535 < c
    · simp (disch := omega) [octroiref17_Babel_Hear_r2, octroiref17_Babel_Hear_r3, f7, a1, a2, a3, a4]
      exact .to _ (.refl _) fin2
    by_cases a5 : t.k = 2
    · by_cases a6 : mayB t.a t.l = false
      · simp (disch := omega) [octroiref17_Babel_Hear_r2, octroiref17_Babel_Hear_r3, f7, a1, a2, a3, a4, a5, a6]
        exact .to _ (.refl _) fin2
      have a6' : mayB t.a t.l = true := by simpa using a6
      by_cases a7 : t.c < 0
      · simp (disch := omega) [octroiref17_Babel_Hear_r2, octroiref17_Babel_Hear_r3, f7, a1, a2, a3, a4, a5, a6', a7]
        exact .to _ (.refl _) fin2
      by_cases a8 : 65535 < t.c
      · simp (disch := omega) [octroiref17_Babel_Hear_r2, octroiref17_Babel_Hear_r3, f7, a1, a2, a3, a4, a5, a6', a7, a8]
        exact .to _ (.refl _) fin2
      · exact absurd arg (by simp [a1, a2, a3, a4, a5, a6', a7, a8])
    · simp (disch := omega) [octroiref17_Babel_Hear_r2, octroiref17_Babel_Hear_r3, f7, a1, a2, a3, a4, a5]
      exact .to _ (.refl _) fin2
  have e0 : fhear f fr c t = if hasT t.tg f.dom = true then (false, 6, f)
      else if t.rt = f.id then (false, 0, f)
      else if t.c = 65535 ∨ betterB f.M (srcK t) t.s t.c = false then (fhadL f.L (t.a, t.l) fr, 0, { f with L := forgL f.L (t.a, t.l) fr })
      else if fhadL f.L (t.a, t.l) fr = false ∧ f.most ≤ ((forgL f.L (t.a, t.l) fr).length : Int) then (false, 4, { f with L := forgL f.L (t.a, t.l) fr })
      else (true, 0, { f with L := forgL f.L (t.a, t.l) fr ++ [(((t.a, t.l), fr), (c, t))] }) := by unfold fhear; rw [if_neg arg]
  unfold badT at arg
  have a1 : ¬ fr < 1 := fun q => arg (.inl q)
  have a2 : ¬ 32 < fr := fun q => arg (.inr (.inl q))
  have a3 : ¬ c < 1 := fun q => arg (.inr (.inr (.inl q)))
  have a4 : ¬ 65535 < c := fun q => arg (.inr (.inr (.inr (.inl q))))
  have a5 : t.k = 2 := Decidable.byContradiction fun q => arg (.inr (.inr (.inr (.inr (.inl q)))))
  have a6 : mayB t.a t.l = true := by
    cases q : mayB t.a t.l with
    | true => rfl
    | false => exact absurd (.inr (.inr (.inr (.inr (.inr (.inl q)))))) arg
  have a7 : ¬ t.c < 0 := fun q => arg (.inr (.inr (.inr (.inr (.inr (.inr (.inl q)))))))
  have a8 : ¬ 65535 < t.c := fun q => arg (.inr (.inr (.inr (.inr (.inr (.inr (.inr q)))))))
  clear arg
  have hq1 := M1.pt
  simp (disch := omega) [octroiref17_Babel_Hear_r2, octroiref17_Babel_Hear_r4, f7, a1, a2, a3, a4, a5, a6, a7, a8, hq1]
  refine rhasT_spec ht ?_
  cases ht' : hasT t.tg f.dom with
  | true =>
    rw [if_pos ht'] at e0
    rw [e0] at hQ
    simp (disch := omega) [octroiref17_Babel_Hear_r5, octroiref17_Babel_Hear_r6]
    exact .to _ (.refl _) (hQ _ (.same M l1))
  | false =>
  rw [if_neg (by rw [ht']; simp)] at e0
  by_cases g1 : t.rt = f.id
  · rw [if_pos g1] at e0
    rw [e0] at hQ
    simp (disch := omega) [octroiref17_Babel_Hear_r5, octroiref17_Babel_Hear_r7, octroiref17_Babel_Hear_r8, f7, hq1, eq_true g1, eq_true (show (t.rt : Int) = (f.id : Int) by omega)]
    exact .to _ (.refl _) (hQ _ (.same M l1))
  rw [if_neg g1] at e0
  have g1' : ¬ (t.rt : Int) = (f.id : Int) := by omega
  simp (disch := omega) [octroiref17_Babel_Hear_r5, octroiref17_Babel_Hear_r7, octroiref17_Babel_Hear_r9, f7, hq1, g1, g1']
  refine fbetterM (k := (t.a, t.l)) M1 (by omega) hM hs (fun h2 l2 => ?_)
  have M2 := M1.le' l2
  have f72 := l2 _ _ f7
  simp (disch := omega) [octroiref17_Babel_Hear_r10, f72]
  refine fforgetM (k := (t.a, t.l)) M2 (by omega) (fun h3 k3 => ?_)
  obtain ⟨V3, M3, F3⟩ := k3
  have nb2 : b ∉ ownF q V := fun m => by obtain ⟨o, e⟩ := M.alive b m; rw [hb] at e; cases e
  have f73 := F3.keep _ _ f72 nb2
  have hq3 := M3.pt
  have FQ3 : ∀ f' h', FQ h3 q V3 f' h' → FQ h q V f' h' := fun f' h' k => FQ.le' (l1.trans l2) (FQ.trans F3 k)
  have hsl : (forgL f.L (t.a, t.l) fr).length ≤ f.L.length := List.length_filter_le _ _
  generalize fhadL f.L (t.a, t.l) fr = had at *
  generalize forgL f.L (t.a, t.l) fr = L3 at *
  obtain ⟨sp, scap, hv⟩ := M3.sl.shape'
  dsimp only at hv
  by_cases g2 : t.c = 65535
  · rw [if_pos (.inl g2)] at e0
    rw [e0] at hQ
    simp (disch := omega) [octroiref17_Babel_Hear_r11, octroiref17_Babel_Hear_r12, f73, g2]
    exact .to _ (.refl _) (hQ _ (FQ3 _ _ (.same M3 (.refl _))))
  cases g3 : betterB f.M (srcK t) t.s t.c with
  | false =>
    rw [if_pos (.inr g3)] at e0
    rw [e0] at hQ
    simp (disch := omega) [octroiref17_Babel_Hear_r11, octroiref17_Babel_Hear_r12, f73, g2, g3]
    exact .to _ (.refl _) (hQ _ (FQ3 _ _ (.same M3 (.refl _))))
  | true =>
  rw [if_neg (by simp [g2, g3])] at e0
  have push : ∀ (env : Env), (∀ h', FQ h q V { f with L := L3 ++ [(((t.a, t.l), fr), (c, t))] } h' → Q (.tuple #[.bool true, .int .i64 0]) h') → env 0 = .pointer (some ⟨q, 0, none⟩) → env 1 = .int .i64 fr → env 2 = .int .i64 c → env 7 = .pointer (some ⟨b, 0, none⟩) →
      octroiref17_Babel_Hear_r15 env h3 (thenK (sq (rg octroiref17_Babel_Hear_r16) (ex .ret)) (fin Try.prog [.tmp 8, .tmp 9] Q) .normal) := by
    intro env hQ e0 e1 e2 e7
    simp (disch := omega) [octroiref17_Babel_Hear_r15, e0, e1, e2, e7, hq3, hv, f73]
    intro b9 hb9
    have hqb : q ≠ b9 := by rintro rfl; rw [M3.pt] at hb9; cases hb9
    refine ⟨by rw [upd_ne hqb]; simp [hq3, hv], ?_⟩
    rw [← hv]
    refine arun_mono _ (fun w' g' HH => ?_) (snoc_octroiref17_Told (k := fun _ v g' => SlAt g' T_ft 13 lenc v (L3 ++ [(((t.a, t.l), fr), (c, t))]) ∧ Grew h3 g' V3.l v) (y := (((t.a, t.l), fr), (c, t))) M3.sl rfl (by simp [lenc]) (by simp; omega) (fun b10 w' g' S' G hb10 => ⟨S', G⟩) b9 hb9)
    obtain ⟨S', G⟩ := HH
    have hq' := G.keep _ _ hq3 (fun e => (M3.ap.2.1 q e.symm).1 rfl)
    obtain ⟨wp, wcap, hw⟩ := S'.shape'
    generalize hn : (L3 ++ [(((t.a, t.l), fr), (c, t))]).length = nn at hw
    simp (disch := omega) [e0, hq', hw, octroiref17_Babel_Hear_r16]
    rw [← hw]
    exact .to _ (.refl _) (hQ _ (FQ3 _ _ (M3.slotL (.grew G) S')))
  have mrd : ∀ x, h3 q = some x → True := fun _ _ => trivial
  cases had with
  | true =>
    rw [if_neg (by simp)] at e0
    rw [e0] at hQ
    simp (disch := omega) [octroiref17_Babel_Hear_r11, octroiref17_Babel_Hear_r13, f73, g2, g3]
    refine push _ hQ ?_ ?_ ?_ ?_ <;> simp
  | false =>
    by_cases g4 : f.most ≤ (L3.length : Int)
    · rw [if_pos ⟨rfl, g4⟩] at e0
      rw [e0] at hQ
      simp (disch := omega) [octroiref17_Babel_Hear_r11, octroiref17_Babel_Hear_r13, octroiref17_Babel_Hear_r14, f73, g2, g3, hq3, hv, g4]
      exact .to _ (.refl _) (by rw [← hv] at *; exact hQ _ (FQ3 _ _ (.same M3 (.refl _))))
    · rw [if_neg (fun q => g4 q.2)] at e0
      rw [e0] at hQ
      simp (disch := omega) [octroiref17_Babel_Hear_r11, octroiref17_Babel_Hear_r13, f73, g2, g3, hq3, hv, g4]
      refine push _ hQ ?_ ?_ ?_ ?_ <;> simp
end
end Go.Proofs.Ytchbipkoifmmdaa

/- The document's Babel: Way. -/
namespace Go.Proofs.Ytchbipkoifmmdaa
open Go
set_option linter.unusedSimpArgs false
set_option linter.unusedVariables false

abbrev tz0 : Array Value := #[.int .u32 0, .int .i64 0, .int .i64 0, .int .i64 0, .int .i64 0, .int .u16 0, .int .i64 0, .int .i64 0, .int .u32 0, .int .i64 0, .int .u64 0, .int .u16 0, .int .i64 0]
abbrev tcells (e : (PK × Int) × (Int × Tlv)) : Array Value := #[.int .u32 (e.1.1.1 : Nat), .int .i64 e.1.1.2, .int .i64 e.1.2, .int .i64 e.2.1, .int .i64 e.2.2.k, .int .u16 (e.2.2.s : Nat), .int .i64 e.2.2.iv, .int .i64 e.2.2.c, .int .u32 (e.2.2.a : Nat), .int .i64 e.2.2.l, .int .u64 (e.2.2.rt : Nat), .int .u16 (e.2.2.tg : Nat), .int .i64 e.2.2.hp]
def wy0 (k : PK) : Tlv := ⟨2, 0, 400, 0, k.1, k.2, 0, 0, 0⟩
def wyX (k : PK) (y : Tlv) (n : Int) : Tlv := ⟨2, y.s, 400, n, k.1, k.2, y.rt, y.tg, 0⟩
def wyTake (st : Tlv × Int) (n fr : Int) : Prop := st.2 = 0 ∨ n < st.1.c ∨ (n = st.1.c ∧ fr < st.2)
instance {st : Tlv × Int} {n fr : Int} : Decidable (wyTake st n fr) := by unfold wyTake; infer_instance
def wyStep (M : MM) (k : PK) (st : Tlv × Int) (x : (PK × Int) × (Int × Tlv)) : Tlv × Int :=
  if x.1.1 ≠ k then st
  else if betterB M (k, x.2.2.rt) x.2.2.s x.2.2.c = false ∨ addM x.2.2.c x.2.1 65535 = 65535 then st
  else if wyTake st (addM x.2.2.c x.2.1 65535) x.1.2 then (wyX k x.2.2 (addM x.2.2.c x.2.1 65535), x.1.2) else st
def wyFold (M : MM) (k : PK) (L : MT) : Tlv × Int := L.foldl (wyStep M k) (wy0 k, 0)
def fwayV (f : FS) (k : PK) : Tlv × Int × Bool :=
  match getM f.O k with
  | some y => (⟨2, f.seq, 400, y.1, k.1, k.2, f.id, y.2, 0⟩, 0, true)
  | none => ((wyFold f.M k f.L).1, (wyFold f.M k f.L).2, decide (0 < (wyFold f.M k f.L).2))

section
variable {h h' : Hp} {q : Nat} {V : FV} {f : FS} {Q : Value → Hp → Prop}
theorem wy_fix {M : MM} {k : PK} : ∀ {L : MT} {st : Tlv × Int}, (st.1.k = 2 ∧ st.1.iv = 400 ∧ st.1.a = k.1 ∧ st.1.l = k.2 ∧ st.1.hp = 0) → ((L.foldl (wyStep M k) st).1.k = 2 ∧ (L.foldl (wyStep M k) st).1.iv = 400 ∧ (L.foldl (wyStep M k) st).1.a = k.1 ∧ (L.foldl (wyStep M k) st).1.l = k.2 ∧ (L.foldl (wyStep M k) st).1.hp = 0)
  | [], st, h => h
  | x :: L, st, h => by
    rw [List.foldl_cons]
    refine wy_fix ?_
    unfold wyStep
    split
    · exact h
    · split
      · exact h
      · split
        · exact ⟨rfl, rfl, rfl, rfl, rfl⟩
        · exact h

def FwyInv (h0 : Hp) (q b3 b4 b8 : Nat) (f : FS) (k : PK) (n : Nat) (env : Env) (g : Hp) : Prop :=
  ∃ i : Nat, i + n = f.L.length ∧ Le h0 g ∧ g b8 = some (.cells (wyFold f.M k (f.L.take i)).1.cells 31 (0, 0)) ∧
    env 0 = .pointer (some ⟨q, 0, none⟩) ∧ env 3 = .pointer (some ⟨b3, 0, none⟩) ∧ env 4 = .pointer (some ⟨b4, 0, none⟩) ∧ env 8 = .pointer (some ⟨b8, 0, none⟩) ∧ env 9 = .int .i64 (wyFold f.M k (f.L.take i)).2 ∧ env 10 = .int .i64 (i : Nat)

set_option maxHeartbeats 2000000 in
set_option maxRecDepth 20000 in
theorem fWayM {k : PK} (M : FbM h q V f) (ho : f.O.length ≤ 100000) (hle : f.L.length ≤ 100000) (hlm : f.M.length ≤ 100000) (hM : SeqOk f.M) (hT : TldOk f.L) (hQ : ∀ h', Le h h' → Q (.tuple #[Tlvv (fwayV f k).1, .int .i64 (fwayV f k).2.1, .bool (fwayV f k).2.2]) h') :
    Ok Try.prog F_octroiref17_Babel_Way #[.pointer (some ⟨q, 0, none⟩), .agg #[.int .u32 (k.1 : Nat), .int .i64 k.2]] h Q := by
  refine octroiref17_Babel_Way_ok (by simp) ?_
  unfold octroiref17_Babel_Way_D
  simp (disch := omega) [octroiref17_Babel_Way_r0]
  intro b3 hb3 b4 hb4
  obtain ⟨n43, hb4'⟩ := upd_none hb4
  have L1 : Le h ((h.upd b3 (.cells #[.int .u32 (k.1 : Nat), .int .i64 k.2] 24)).upd b4 (.cells tc0 31)) := (Le.new hb3).trans (Le.new hb4)
  have f3 : ((h.upd b3 (.cells #[.int .u32 (k.1 : Nat), .int .i64 k.2] 24)).upd b4 (.cells tc0 31)) b3 = some (.cells #[.int .u32 (k.1 : Nat), .int .i64 k.2] 24 (0, 0)) := by rw [upd_ne (Ne.symm n43), upd_same]
  have f4 : ((h.upd b3 (.cells #[.int .u32 (k.1 : Nat), .int .i64 k.2] 24)).upd b4 (.cells tc0 31)) b4 = some (.cells tc0 31 (0, 0)) := upd_same
  show octroiref17_Babel_Way_r1 _ ((h.upd b3 (.cells #[.int .u32 (k.1 : Nat), .int .i64 k.2] 24)).upd b4 (.cells tc0 31)) _
  generalize (h.upd b3 (.cells #[.int .u32 (k.1 : Nat), .int .i64 k.2] 24)).upd b4 (.cells tc0 31) = h1 at *
  have M1 := M.le' L1
  simp (disch := omega) [octroiref17_Babel_Way_r1, f3]
  refine fownM M1 ho (fun h2 l2 => ?_)
  have M2 := M1.le' l2
  have f32 := l2 _ _ f3
  have f42 := l2 _ _ f4
  have L2 := L1.trans l2
  simp (disch := omega) [octroiref17_Babel_Way_r2, f32]
  intro b8 hb8
  have L8 : Le h2 (h2.upd b8 (.cells tc0 31)) := .new hb8
  have f8 : (h2.upd b8 (.cells tc0 31)) b8 = some (.cells tc0 31 (0, 0)) := upd_same
  have L8b : ∀ o2, Le h2 ((h2.upd b8 (.cells tc0 31)).upd b8 o2) := fun o2 y o e => by
    have : y ≠ b8 := by rintro rfl; rw [hb8] at e; cases e
    rw [upd_ne this]; exact L8 _ _ e
  generalize h2.upd b8 (.cells tc0 31) = h3 at *
  simp (disch := omega)
  refine (stA_of f8 (by rfl) (by rfl)).mpr ?_
  have L9 := L8b (.cells (wy0 k).cells 31 (0, 0))
  have f9 : (h3.upd b8 (.cells (wy0 k).cells 31 (0, 0))) b8 = some (.cells (wy0 k).cells 31 (0, 0)) := upd_same
  show thenK _ _ _ _ (h3.upd b8 (.cells (wy0 k).cells 31 (0, 0)))
  generalize h3.upd b8 (.cells (wy0 k).cells 31 (0, 0)) = h4 at *
  have L4 := L2.trans L9
  have M4 := M2.le' L9
  have f34 := L9 _ _ f32
  have f44 := L9 _ _ f42
  have n48 : b4 ≠ b8 := by rintro rfl; rw [f42] at hb8; cases hb8
  have h8 : h b8 = none := none_of_le L2 hb8
  have hq4 := M4.pt
  clear L1 l2 f3 f4 f8 L8 L8b M1
  have lgu : ∀ (g : Hp) o, Le h g → Le h (g.upd b4 o) := fun g o lg y o' e => by rw [upd_ne (by rintro rfl; rw [hb4'] at e; cases e)]; exact lg _ _ e
  have lgu8 : ∀ (g : Hp) o, Le h g → Le h (g.upd b8 o) := fun g o lg y o' e => by rw [upd_ne (by rintro rfl; rw [h8] at e; cases e)]; exact lg _ _ e
  unfold fwayV at hQ
  cases hg : getM f.O k with
  | some y =>
    obtain ⟨i, hf, hi⟩ := findM_getM hg
    have hil : i < f.O.length := (List.getElem?_eq_some_iff.1 hi).1
    obtain ⟨b2, cap, c, hv, hb2, c0, c1, c2, c3⟩ := fo_at M4.so hi
    rw [hg] at hQ
    simp only at hQ
    rw [atF_some hf]
    have nq8 : q ≠ b8 := by rintro rfl; rw [M.pt] at h8; cases h8
    have nb8 : b2 ≠ b8 := by rintro rfl; obtain ⟨o, e⟩ := M.so.alive (b := b2) (by rw [hv]; rfl); rw [h8] at e; cases e
    simp (disch := omega) [octroiref17_Babel_Way_r3, octroiref17_Babel_Way_r4, hq4, f9]
    simp (disch := omega) [octroiref17_Babel_Way_r5, nq8, hq4]
    simp (disch := omega) [octroiref17_Babel_Way_r6, nq8, nb8, hq4, hv, hb2, c2, hil]
    simp (disch := omega) [octroiref17_Babel_Way_r7, nq8, nb8, hq4, hv, hb2, c3, hil]
    simp (disch := omega) [octroiref17_Babel_Way_r8]
    refine (stA_of (by rw [upd_ne n48]; exact f44) (by rfl) (by rfl)).mpr ?_
    simp (disch := omega)
    have hqq := hQ ((h4.upd b8 (.cells (Tlv.cells ⟨2, f.seq, 400, y.1, k.1, k.2, f.id, y.2, 0⟩) 31)).upd b4 (.cells (Tlv.cells ⟨2, f.seq, 400, y.1, k.1, k.2, f.id, y.2, 0⟩) 31)) (lgu _ _ (lgu8 _ _ L4))
    exact .to _ (.refl _) hqq
  | none =>
    rw [hg] at hQ
    simp only at hQ
    rw [atF_none hg]
    simp (disch := omega) [octroiref17_Babel_Way_r3, octroiref17_Babel_Way_r9, octroiref17_Babel_Way_r10]
    refine ⟨FwyInv h2 q b3 b4 b8 f k, ⟨f.L.length, 0, by omega, L9, f9, by simp, by simp, by simp, by simp, by simp [wyFold], by simp⟩, ?_⟩
    clear f34 f44 f9 M4 hq4 L9 L4
    clear h4 h3
    rintro n env g ⟨i, hin, lg, g8, e0, e3, e4, e8, e9, e10⟩
    unfold octroiref17_Babel_Way_L0
    have Mg := M2.le' lg
    have hq := Mg.pt
    have g3 := lg _ _ f32
    have g4 := lg _ _ f42
    have n38 : b3 ≠ b8 := by rintro rfl; rw [f32] at hb8; cases hb8
    have nq8 : q ≠ b8 := by rintro rfl; rw [M2.pt] at hb8; cases hb8
    obtain ⟨sp, scap, hv⟩ := Mg.sl.shape'
    by_cases hm : n = 0
    · have : i = f.L.length := by omega
      subst this
      rw [List.take_of_length_le (Nat.le_refl _)] at g8 e9
      generalize wyFold f.M k f.L = r at *
      simp (disch := omega) [octroiref17_Babel_Way_r11, octroiref17_Babel_Way_r24, e0, e3, e4, e8, e9, e10, hq, hv, g8]
      refine (stA_of g4 (by rfl) (by rfl)).mpr ?_
      simp (disch := omega) [e4, e9]
      exact .to _ (.refl _) (hQ (g.upd b4 (.cells r.1.cells 31)) (lgu _ _ (L2.trans lg)))
    · obtain ⟨x, hx⟩ : ∃ x, f.L[i]? = some x := ⟨_, List.getElem?_eq_getElem (by omega)⟩
      obtain ⟨b2, cap, c, hv', hb2, c0, c1, c2, c3, c4, c5, c6, c7, c8, c9, c10, c11, c12⟩ := fl_at Mg.sl hx
      have hi' : i < f.L.length := by omega
      have hst : wyFold f.M k (f.L.take (i + 1)) = wyStep f.M k (wyFold f.M k (f.L.take i)) x := by unfold wyFold; rw [take_snoc hx, List.foldl_append]; rfl
      have hfix := wy_fix (M := f.M) (k := k) (L := f.L.take i) (st := (wy0 k, 0)) ⟨rfl, rfl, rfl, rfl, rfl⟩
      change ((wyFold f.M k (f.L.take i)).1.k = 2 ∧ (wyFold f.M k (f.L.take i)).1.iv = 400 ∧ (wyFold f.M k (f.L.take i)).1.a = k.1 ∧ (wyFold f.M k (f.L.take i)).1.l = k.2 ∧ (wyFold f.M k (f.L.take i)).1.hp = 0) at hfix
      generalize wyFold f.M k (f.L.take i) = st at *
      simp (disch := omega) [octroiref17_Babel_Way_r11, octroiref17_Babel_Way_r12, e0, e10, hq, hv', hb2, c0, c1, c2, c3, c4, c5, c6, c7, c8, c9, c10, c11, c12, hi']
      intro b11 hb11
      have L11 : Le g (g.upd b11 (.cells tz0 T_ft)) := .new hb11
      have f11 : (g.upd b11 (.cells tz0 T_ft)) b11 = some (.cells tz0 T_ft (0, 0)) := upd_same
      have L11b : ∀ o2, Le g ((g.upd b11 (.cells tz0 T_ft)).upd b11 o2) := fun o2 y o e => by
        have : y ≠ b11 := by rintro rfl; rw [hb11] at e; cases e
        rw [upd_ne this]; exact L11 _ _ e
      have n811 : b8 ≠ b11 := by rintro rfl; rw [g8] at hb11; cases hb11
      generalize g.upd b11 (.cells tz0 T_ft) = g5 at *
      refine (stA_of f11 (by rfl) (by rfl)).mpr ?_
      have L12 := L11b (.cells (lenc x).toArray T_ft (0, 0))
      have f12 : (g5.upd b11 (.cells (lenc x).toArray T_ft (0, 0))) b11 = some (.cells (tcells x) T_ft (0, 0)) := upd_same
      show thenK _ _ _ _ (g5.upd b11 (.cells (lenc x).toArray T_ft (0, 0)))
      generalize g5.upd b11 (.cells (lenc x).toArray T_ft (0, 0)) = g6 at *
      have lg6 := lg.trans L12
      have M6 := M2.le' lg6
      have g36 := L12 _ _ g3
      have g86 := L12 _ _ g8
      have inv : ∀ (env : Env) (g' : Hp), Le h2 g' → g' b8 = some (.cells (wyStep f.M k st x).1.cells 31 (0, 0)) → env 0 = .pointer (some ⟨q, 0, none⟩) → env 3 = .pointer (some ⟨b3, 0, none⟩) → env 4 = .pointer (some ⟨b4, 0, none⟩) → env 8 = .pointer (some ⟨b8, 0, none⟩) → env 9 = .int .i64 (wyStep f.M k st x).2 → env 10 = .int .i64 (i : Nat) →
          octroiref17_Babel_Way_r23 env g' (roundK (FwyInv h2 q b3 b4 b8 f k) n (inBlk 0 (thenK (sq (rg octroiref17_Babel_Way_r24) (ex .ret)) (fin Try.prog [.cell 4 31, .tmp 5, .tmp 6] Q))) .normal) := by
        clear e0 e3 e4 e8 e9 e10
        intro env g' lg' g8' e0 e3 e4 e8 e9 e10
        simp (disch := omega) [octroiref17_Babel_Way_r23, e10, wrap_i64]
        exact ⟨n - 1, by omega, i + 1, by omega, lg', by rw [hst]; exact g8', by simp [e0], by simp [e3], by simp [e4], by simp [e8], by rw [hst]; simp [e9], by simp⟩
      by_cases hk : x.1.1 = k
      · have hstp : wyStep f.M k st x = if betterB f.M (k, x.2.2.rt) x.2.2.s x.2.2.c = false ∨ addM x.2.2.c x.2.1 65535 = 65535 then st
            else if wyTake st (addM x.2.2.c x.2.1 65535) x.1.2 then (wyX k x.2.2 (addM x.2.2.c x.2.1 65535), x.1.2) else st := by
          unfold wyStep; rw [if_neg (fun q => q hk)]
        have k1 : x.1.1.1 = k.1 := by rw [hk]
        have k2 : x.1.1.2 = k.2 := by rw [hk]
        have k1' : (x.1.1.1 : Int) = (k.1 : Int) := by omega
        simp (disch := omega) [octroiref17_Babel_Way_r13, octroiref17_Babel_Way_r14, e3, f12, g36, eq_true k1, eq_true k1', eq_true k2]
        refine radd_spec (by omega) ?_
        simp (disch := omega) [octroiref17_Babel_Way_r15, e0, e3, f12, g36]
        refine fbetterM M6 (by omega) hM (hT _ (List.mem_of_getElem? hx)) (fun g7 l7 => ?_)
        have lg7 := lg6.trans l7
        have f127 := l7 _ _ f12
        have g87 := l7 _ _ g86
        generalize betterB f.M (k, x.2.2.rt) x.2.2.s x.2.2.c = bt at *
        generalize addM x.2.2.c x.2.1 65535 = N at *
        have same : wyStep f.M k st x = st → ∀ (env : Env), env 0 = .pointer (some ⟨q, 0, none⟩) → env 3 = .pointer (some ⟨b3, 0, none⟩) → env 4 = .pointer (some ⟨b4, 0, none⟩) → env 8 = .pointer (some ⟨b8, 0, none⟩) → env 9 = .int .i64 st.2 → env 10 = .int .i64 (i : Nat) →
            octroiref17_Babel_Way_r23 env g7 (roundK (FwyInv h2 q b3 b4 b8 f k) n (inBlk 0 (thenK (sq (rg octroiref17_Babel_Way_r24) (ex .ret)) (fin Try.prog [.cell 4 31, .tmp 5, .tmp 6] Q))) .normal) := fun e env e0 e3 e4 e8 e9 e10 =>
          inv env g7 lg7 (by rw [e]; exact g87) e0 e3 e4 e8 (by rw [e]; exact e9) e10
        cases bt with
        | false =>
          simp (disch := omega) [octroiref17_Babel_Way_r16]
          refine same (by rw [hstp, if_pos (.inl rfl)]) _ ?_ ?_ ?_ ?_ ?_ ?_ <;> simp [e0, e3, e4, e8, e9, e10]
        | true =>
          by_cases hN : N = 65535
          · simp (disch := omega) [octroiref17_Babel_Way_r16, hN]
            refine same (by rw [hstp, if_pos (.inr hN)]) _ ?_ ?_ ?_ ?_ ?_ ?_ <;> simp [e0, e3, e4, e8, e9, e10]
          · rw [if_neg (by simp [hN])] at hstp
            have take : wyTake st N x.1.2 → ∀ (env : Env), env 0 = .pointer (some ⟨q, 0, none⟩) → env 3 = .pointer (some ⟨b3, 0, none⟩) → env 4 = .pointer (some ⟨b4, 0, none⟩) → env 8 = .pointer (some ⟨b8, 0, none⟩) → env 10 = .int .i64 (i : Nat) → env 11 = .pointer (some ⟨b11, 0, none⟩) → env 12 = .int .i64 N →
                octroiref17_Babel_Way_r18 env g7 (thenK (sq (rg octroiref17_Babel_Way_r19) (sq (rg octroiref17_Babel_Way_r20) (sq (rg octroiref17_Babel_Way_r21) (rg octroiref17_Babel_Way_r22)))) (inBlk 1 (thenK (rg octroiref17_Babel_Way_r23) (roundK (FwyInv h2 q b3 b4 b8 f k) n (inBlk 0 (thenK (sq (rg octroiref17_Babel_Way_r24) (ex .ret)) (fin Try.prog [.cell 4 31, .tmp 5, .tmp 6] Q)))))) .normal) := by
              clear e0 e3 e4 e8 e9 e10
              intro ht env e0 e3 e4 e8 e10 e11 e12
              rw [if_pos ht] at hstp
              obtain ⟨p1, p2, p3, p4, p5⟩ := hfix
              have n118 : b11 ≠ b8 := fun e => n811 e.symm
              simp (disch := omega) [octroiref17_Babel_Way_r18, octroiref17_Babel_Way_r19, octroiref17_Babel_Way_r20, octroiref17_Babel_Way_r21, octroiref17_Babel_Way_r22, e0, e3, e4, e8, e10, e11, e12, f127, g87, n118]
              have lgu9 : ∀ o, Le h2 (g7.upd b8 o) := fun o y o' e => by rw [upd_ne (by rintro rfl; rw [hb8] at e; cases e)]; exact lg7 _ _ e
              refine inv _ _ (lgu9 _) (by rw [upd_same, hstp]; simp [wyX, p1, p2, p3, p4, p5]) ?_ ?_ ?_ ?_ ?_ ?_ <;> simp [e0, e3, e4, e8, e10, hstp]
            by_cases t1 : st.2 = 0
            · simp (disch := omega) [octroiref17_Babel_Way_r16, octroiref17_Babel_Way_r17, e8, e9, f127, g87, hN, t1]
              refine take (.inl t1) _ ?_ ?_ ?_ ?_ ?_ ?_ ?_ <;> simp [e0, e3, e4, e8, e10]
            · by_cases t2 : N < st.1.c
              · simp (disch := omega) [octroiref17_Babel_Way_r16, octroiref17_Babel_Way_r17, e8, e9, f127, g87, hN, t1, t2]
                refine take (.inr (.inl t2)) _ ?_ ?_ ?_ ?_ ?_ ?_ ?_ <;> simp [e0, e3, e4, e8, e10]
              · by_cases t3 : N = st.1.c
                · by_cases t4 : x.1.2 < st.2
                  · simp (disch := omega) [octroiref17_Babel_Way_r16, octroiref17_Babel_Way_r17, e8, e9, f127, g87, hN, t1, t2, eq_true t3, t4]
                    refine take (.inr (.inr ⟨t3, t4⟩)) _ ?_ ?_ ?_ ?_ ?_ ?_ ?_ <;> simp [e0, e3, e4, e8, e10]
                  · simp (disch := omega) [octroiref17_Babel_Way_r16, octroiref17_Babel_Way_r17, e8, e9, f127, g87, hN, t1, t2, eq_true t3, t4]
                    refine same (by rw [hstp, if_neg (by unfold wyTake; omega)]) _ ?_ ?_ ?_ ?_ ?_ ?_ <;> simp [e0, e3, e4, e8, e9, e10]
                · simp (disch := omega) [octroiref17_Babel_Way_r16, octroiref17_Babel_Way_r17, e8, e9, f127, g87, hN, t1, t2, t3]
                  refine same (by rw [hstp, if_neg (by unfold wyTake; omega)]) _ ?_ ?_ ?_ ?_ ?_ ?_ <;> simp [e0, e3, e4, e8, e9, e10]
      · have hstp : wyStep f.M k st x = st := by unfold wyStep; rw [if_pos hk]
        have skip : ∀ (env : Env), env 0 = .pointer (some ⟨q, 0, none⟩) → env 3 = .pointer (some ⟨b3, 0, none⟩) → env 4 = .pointer (some ⟨b4, 0, none⟩) → env 8 = .pointer (some ⟨b8, 0, none⟩) → env 9 = .int .i64 st.2 → env 10 = .int .i64 (i : Nat) →
            octroiref17_Babel_Way_r23 env g6 (roundK (FwyInv h2 q b3 b4 b8 f k) n (inBlk 0 (thenK (sq (rg octroiref17_Babel_Way_r24) (ex .ret)) (fin Try.prog [.cell 4 31, .tmp 5, .tmp 6] Q))) .normal) := fun env e0 e3 e4 e8 e9 e10 =>
          inv env g6 lg6 (by rw [hstp]; exact g86) e0 e3 e4 e8 (by rw [hstp]; exact e9) e10
        by_cases s1 : x.1.1.1 = k.1
        · have s2 : ¬ x.1.1.2 = k.2 := fun q => hk (Prod.ext s1 q)
          have s1' : (x.1.1.1 : Int) = (k.1 : Int) := by omega
          simp (disch := omega) [octroiref17_Babel_Way_r13, e3, f12, g36, eq_true s1, eq_true s1', s2]
          refine skip _ ?_ ?_ ?_ ?_ ?_ ?_ <;> simp [e0, e3, e4, e8, e9, e10]
        · have s1' : ¬ (x.1.1.1 : Int) = (k.1 : Int) := by omega
          simp (disch := omega) [octroiref17_Babel_Way_r13, e3, f12, g36, s1, s1']
          refine skip _ ?_ ?_ ?_ ?_ ?_ ?_ <;> simp [e0, e3, e4, e8, e9, e10]
end
end Go.Proofs.Ytchbipkoifmmdaa

/- Babel: awake. -/
namespace Go.Proofs.Ytchbipkoifmmdaa
open Go
set_option linter.unusedSimpArgs false
set_option linter.unusedVariables false

def aw0 : BS := ⟨1, 0, 10, 0, [], [], [], []⟩
def awT (c : Int) : Tlv := ⟨2, 1, 0, c, 0, 0, 7, 0, 0⟩
def aw1 : BS := ⟨1, 0, 10, 0, [], [(((0, 0), 2), (96, awT 10))], [], []⟩
def awR : Tlv := ⟨2, 1, 400, 106, 0, 0, 7, 0, 0⟩
def aw2 : BS := ⟨1, 0, 10, 0, [], [(((0, 0), 2), (96, awT 10))], [(((0, 0), 7), (1, 106))], [((0, 0), awR)]⟩
def aw4 : BS := ⟨1, 0, 10, 0, [], [(((0, 0), 2), (96, awT 10)), (((0, 0), 3), (1, awT 105))], [(((0, 0), 7), (1, 106))], [((0, 0), awR)]⟩
theorem aw_1 : bhear aw0 2 96 (awT 10) = (true, 0, aw1) := by kernel_rfl
theorem aw_2 : tellS aw1 = aw2 := by kernel_rfl
theorem aw_all : allB aw1 (prefL aw1) = [⟨0, 0, 0, 115, 106, 2, 0⟩] := by kernel_rfl
theorem aw_tell : tellL aw1 = [awR] := by kernel_rfl
theorem aw_3 : bhear aw2 3 1 (awT 106) = (false, 0, aw2) := by kernel_rfl
theorem aw_4 : bhear aw2 3 1 (awT 105) = (true, 0, aw4) := by kernel_rfl

section
variable {h h' : Hp} {Q : Value → Hp → Prop}
set_option maxHeartbeats 1000000 in
set_option maxRecDepth 20000 in
theorem awake17 (hQ : ∀ h', Le h h' → Q (.bool true) h') : Ok Try.prog F_octroilaw17_awake #[] h Q := by
  refine octroilaw17_awake_ok (by simp) ?_
  unfold octroilaw17_awake_D
  simp (disch := omega) [octroilaw17_awake_r0, octroilaw17_awake_r1]
  refine bnewM (id := 1) (fun x h1 l1 n1 A1 => ?_)
  simp (disch := omega) [octroilaw17_awake_r2, octroilaw17_awake_r4]
  intro b2 hb2
  have n2 : b2 ∉ ownB x := fun q => by obtain ⟨o, e⟩ := A1.alive _ q; rw [hb2] at e; cases e
  have L2 : Le h1 (h1.upd b2 (.cells (awT 10).cells 31)) := .new hb2
  have f2 : (h1.upd b2 (.cells (awT 10).cells 31)) b2 = some (.cells (awT 10).cells 31 (0, 0)) := upd_same
  simp (disch := omega)
  show octroilaw17_awake_r5 _ (h1.upd b2 (.cells (awT 10).cells 31)) _
  generalize h1.upd b2 (.cells (awT 10).cells 31) = h2 at *
  replace A1 : BabAt h2 x aw0 := A1.le' L2
  have n0 : ∀ y, y ∈ ownB x → h y = none := n1
  simp (disch := omega) [octroilaw17_awake_r5, f2]
  refine bHearM (t := awT 10) (s := aw0) A1 (by simp [SeqOk, aw0]) (by decide) (by decide) (by decide) (fun h3 B3 => ?_)
  rw [aw_1] at B3 ⊢
  simp only at B3 ⊢
  have A3 := B3.at_
  have f23 := B3.fr.keep _ _ f2 n2
  have k3 : ∀ y o, h y = some o → y ∉ ownB x → h3 y = some o := fun y o e nn => B3.fr.keep _ _ (L2 _ _ (l1 _ _ e)) nn
  simp (disch := omega) [octroilaw17_awake_r6]
  refine ballM A3 (by simp [SeqOk, aw1]) (by simp [TldOk, aw1, awT]) (by simp [aw1]) (fun w4 h4 l4 S4 nw4 => ?_)
  rw [aw_all] at S4
  have A4 := A3.le' l4
  have off4 : ∀ b, blkOf w4 = some b → b ∉ ownB x := fun b e q => by obtain ⟨o, e2⟩ := A3.alive b q; rw [nw4 b e] at e2; cases e2
  simp (disch := omega) [octroilaw17_awake_r7]
  refine btellM A4 ⟨by simp [aw1], by simp [SeqOk, aw1], by simp [aw1, awT], by simp [aw1]⟩ (by simp [aw1]) (fun w5 h5 B5 S5 nw5 => ?_)
  rw [aw_2] at B5
  rw [aw_tell] at S5
  have A5 := B5.at_
  have S45 : SlAt h5 38 7 Rt.enc w4 [⟨0, 0, 0, 115, 106, 2, 0⟩] := S4.keep fun b o e e2 => B5.fr.keep _ _ e2 (off4 b e)
  have f25 := B5.fr.keep _ _ (l4 _ _ f23) n2
  have k5 : ∀ y o, h y = some o → y ∉ ownB x → h5 y = some o := fun y o e nn => B5.fr.keep _ _ (l4 _ _ (k3 y o e nn)) nn
  have off5 : ∀ b, blkOf w5 = some b → b ∉ ownB x := fun b e q => by obtain ⟨o, e2⟩ := A4.alive b q; rw [nw5 b e] at e2; cases e2
  have b42 : blkOf w4 ≠ some b2 := fun e => by have := nw4 _ e; rw [f23] at this; cases this
  have b52 : blkOf w5 ≠ some b2 := fun e => by have := nw5 _ e; rw [l4 _ _ f23] at this; cases this
  have hb2' : h b2 = none := none_of_le l1 hb2
  simp (disch := omega) [octroilaw17_awake_r8, f25]
  show octroilaw17_awake_r9 _ (h5.upd b2 (.cells (awT 106).cells 31 (0, 0))) _
  have f26 : (h5.upd b2 (.cells (awT 106).cells 31 (0, 0))) b2 = some (.cells (awT 106).cells 31 (0, 0)) := upd_same
  have A6 : BabAt (h5.upd b2 (.cells (awT 106).cells 31 (0, 0))) x aw2 := A5.keep fun y o hy e => by rw [upd_ne (fun q => n2 (by rw [← q]; exact hy))]; exact e
  have S46 : SlAt (h5.upd b2 (.cells (awT 106).cells 31 (0, 0))) 38 7 Rt.enc w4 [⟨0, 0, 0, 115, 106, 2, 0⟩] := S45.keep fun b o e e2 => by rw [upd_ne (fun q => b42 (by rw [← q]; exact e))]; exact e2
  have S56 : SlAt (h5.upd b2 (.cells (awT 106).cells 31 (0, 0))) 31 9 Tlv.enc w5 [awR] := S5.keep fun b o e e2 => by rw [upd_ne (fun q => b52 (by rw [← q]; exact e))]; exact e2
  have k6 : ∀ y o, h y = some o → y ∉ ownB x → (h5.upd b2 (.cells (awT 106).cells 31 (0, 0))) y = some o := fun y o e nn => by rw [upd_ne (by rintro rfl; rw [hb2'] at e; cases e)]; exact k5 y o e nn
  generalize h5.upd b2 (.cells (awT 106).cells 31 (0, 0)) = h6 at *
  simp (disch := omega) [octroilaw17_awake_r9, f26]
  refine bHearM (t := awT 106) (s := aw2) A6 (by simp [SeqOk, aw2]) (by decide) (by decide) (by decide) (fun h7 B7 => ?_)
  rw [aw_3] at B7 ⊢
  simp only at B7 ⊢
  have f27 := B7.fr.keep _ _ f26 n2
  have S47 : SlAt h7 38 7 Rt.enc w4 [⟨0, 0, 0, 115, 106, 2, 0⟩] := S46.keep fun b o e e2 => B7.fr.keep _ _ e2 (off4 b e)
  have S57 : SlAt h7 31 9 Tlv.enc w5 [awR] := S56.keep fun b o e e2 => B7.fr.keep _ _ e2 (off5 b e)
  have k7 : ∀ y o, h y = some o → y ∉ ownB x → h7 y = some o := fun y o e nn => B7.fr.keep _ _ (k6 y o e nn) nn
  simp (disch := omega) [octroilaw17_awake_r10, f27]
  show octroilaw17_awake_r11 _ (h7.upd b2 (.cells (awT 105).cells 31 (0, 0))) _
  have f28 : (h7.upd b2 (.cells (awT 105).cells 31 (0, 0))) b2 = some (.cells (awT 105).cells 31 (0, 0)) := upd_same
  have A8 : BabAt (h7.upd b2 (.cells (awT 105).cells 31 (0, 0))) x aw2 := B7.at_.keep fun y o hy e => by rw [upd_ne (fun q => n2 (by rw [← q]; exact hy))]; exact e
  have S48 : SlAt (h7.upd b2 (.cells (awT 105).cells 31 (0, 0))) 38 7 Rt.enc w4 [⟨0, 0, 0, 115, 106, 2, 0⟩] := S47.keep fun b o e e2 => by rw [upd_ne (fun q => b42 (by rw [← q]; exact e))]; exact e2
  have S58 : SlAt (h7.upd b2 (.cells (awT 105).cells 31 (0, 0))) 31 9 Tlv.enc w5 [awR] := S57.keep fun b o e e2 => by rw [upd_ne (fun q => b52 (by rw [← q]; exact e))]; exact e2
  have k8 : ∀ y o, h y = some o → y ∉ ownB x → (h7.upd b2 (.cells (awT 105).cells 31 (0, 0))) y = some o := fun y o e nn => by rw [upd_ne (by rintro rfl; rw [hb2'] at e; cases e)]; exact k7 y o e nn
  generalize h7.upd b2 (.cells (awT 105).cells 31 (0, 0)) = h8 at *
  simp (disch := omega) [octroilaw17_awake_r11, f28]
  refine bHearM (t := awT 105) (s := aw2) A8 (by simp [SeqOk, aw2]) (by decide) (by decide) (by decide) (fun h9 B9 => ?_)
  rw [aw_4] at B9 ⊢
  simp only at B9 ⊢
  have S49 : SlAt h9 38 7 Rt.enc w4 [⟨0, 0, 0, 115, 106, 2, 0⟩] := S48.keep fun b o e e2 => B9.fr.keep _ _ e2 (off4 b e)
  have S59 : SlAt h9 31 9 Tlv.enc w5 [awR] := S58.keep fun b o e e2 => B9.fr.keep _ _ e2 (off5 b e)
  have k9 : Le h h9 := fun y o e => B9.fr.keep _ _ (k8 y o e (fun q => by rw [n0 y q] at e; cases e)) (fun q => by rw [n0 y q] at e; cases e)
  obtain ⟨b1, cc1, d1, e1, hbb1, q1⟩ := rt_at (i := 0) S49 rfl
  obtain ⟨b2', cc2, d2, e2, hbb2, q2⟩ := Tlv_at (i := 0) S59 rfl
  simp only [List.length_singleton] at e1 e2
  subst e1 e2
  simp [awR] at q1 q2
  simp (disch := omega) [octroilaw17_awake_r12, hbb1, hbb2, q1, q2]
  exact .to _ (.refl _) (hQ _ k9)
end
end Go.Proofs.Ytchbipkoifmmdaa

/- Op17: a flat struct (printed by wip/lib/struct.py). -/
namespace Go.Proofs.Ytchbipkoifmmdaa
open Go
set_option linter.unusedSimpArgs false
set_option linter.unusedVariables false

structure Op17 where
  k : Int
  f : Int
  n : Int
  tk : Int
  ts : Nat
  tiv : Int
  tc : Int
  ta : Nat
  tl : Int
  trt : Nat
  ttg : Nat
  thp : Int
deriving DecidableEq

def Op17.enc (x : Op17) : List Value := [.int .i64 x.k, .int .i64 x.f, .int .i64 x.n, .int .i64 x.tk, .int .u16 (x.ts : Nat), .int .i64 x.tiv, .int .i64 x.tc, .int .u32 (x.ta : Nat), .int .i64 x.tl, .int .u64 (x.trt : Nat), .int .u16 (x.ttg : Nat), .int .i64 x.thp]
abbrev Op17v (x : Op17) : Value := .agg #[.int .i64 x.k, .int .i64 x.f, .int .i64 x.n, .int .i64 x.tk, .int .u16 (x.ts : Nat), .int .i64 x.tiv, .int .i64 x.tc, .int .u32 (x.ta : Nat), .int .i64 x.tl, .int .u64 (x.trt : Nat), .int .u16 (x.ttg : Nat), .int .i64 x.thp]
abbrev Op17.cells (x : Op17) : Array Value := #[.int .i64 x.k, .int .i64 x.f, .int .i64 x.n, .int .i64 x.tk, .int .u16 (x.ts : Nat), .int .i64 x.tiv, .int .i64 x.tc, .int .u32 (x.ta : Nat), .int .i64 x.tl, .int .u64 (x.trt : Nat), .int .u16 (x.ttg : Nat), .int .i64 x.thp]
structure Op17.Good (x : Op17) : Prop where
  ts : x.ts < 2 ^ 16
  ta : x.ta < 2 ^ 32
  trt : x.trt < 2 ^ 64
  ttg : x.ttg < 2 ^ 16
theorem Op17.one (x : Op17) : (Op17.enc x).length = 12 ∧ ∀ u ∈ Op17.enc x, oneCell u = true := ⟨rfl, by simp [Op17.enc]⟩

theorem Op17_at {h : Hp} {v : Value} {xs : List Op17} {i : Nat} {x : Op17} (S : SlAt h 47 12 Op17.enc v xs) (hx : xs[i]? = some x) :
    ∃ b cap c, v = .slice (some ⟨b, 0, none⟩) xs.length cap ∧ h b = some (.cells c 47 (0, 0)) ∧ c[i * 12]? = some (.int .i64 x.k) ∧ c[i * 12 + 1]? = some (.int .i64 x.f) ∧ c[i * 12 + 2]? = some (.int .i64 x.n) ∧ c[i * 12 + 3]? = some (.int .i64 x.tk) ∧ c[i * 12 + 4]? = some (.int .u16 (x.ts : Nat)) ∧ c[i * 12 + 5]? = some (.int .i64 x.tiv) ∧ c[i * 12 + 6]? = some (.int .i64 x.tc) ∧ c[i * 12 + 7]? = some (.int .u32 (x.ta : Nat)) ∧ c[i * 12 + 8]? = some (.int .i64 x.tl) ∧ c[i * 12 + 9]? = some (.int .u64 (x.trt : Nat)) ∧ c[i * 12 + 10]? = some (.int .u16 (x.ttg : Nat)) ∧ c[i * 12 + 11]? = some (.int .i64 x.thp) := by
  obtain ⟨b, cap, c, e, hb, H⟩ := SlAt.at' S hx
  exact ⟨b, cap, c, e, hb, H 0 (by omega), H 1 (by omega), H 2 (by omega), H 3 (by omega), H 4 (by omega), H 5 (by omega), H 6 (by omega), H 7 (by omega), H 8 (by omega), H 9 (by omega), H 10 (by omega), H 11 (by omega)⟩

def Op17Ks : List Lk := [.int .i64, .int .i64, .int .i64, .int .i64, .int .u16, .int .i64, .int .i64, .int .u32, .int .i64, .int .u64, .int .u16, .int .i64]
theorem dec_Op17 {H : Type} {enc : TypeId × Value → H} {w : World} {base : Nat} {spare : Nat → Bool} {held : Bool} (cs : List Value) (h : okLs enc Try.prog w base spare held Op17Ks cs) : ∃ x : Op17, cs = x.enc ∧ x.Good := by
  obtain ⟨a0, _, rfl, w0, h⟩ := okLs_int h
  obtain ⟨a1, _, rfl, w1, h⟩ := okLs_int h
  obtain ⟨a2, _, rfl, w2, h⟩ := okLs_int h
  obtain ⟨a3, _, rfl, w3, h⟩ := okLs_int h
  obtain ⟨a4, _, rfl, w4, h⟩ := okLs_int h
  obtain ⟨a5, _, rfl, w5, h⟩ := okLs_int h
  obtain ⟨a6, _, rfl, w6, h⟩ := okLs_int h
  obtain ⟨a7, _, rfl, w7, h⟩ := okLs_int h
  obtain ⟨a8, _, rfl, w8, h⟩ := okLs_int h
  obtain ⟨a9, _, rfl, w9, h⟩ := okLs_int h
  obtain ⟨a10, _, rfl, w10, h⟩ := okLs_int h
  obtain ⟨a11, _, rfl, w11, h⟩ := okLs_int h
  obtain rfl := okLs_nil h
  obtain ⟨b4, rfl, g4⟩ := u16_wf w4
  obtain ⟨b7, rfl, g7⟩ := u32_wf w7
  obtain ⟨b9, rfl, g9⟩ := u64_wf w9
  obtain ⟨b10, rfl, g10⟩ := u16_wf w10
  exact ⟨⟨a0, a1, a2, a3, b4, a5, a6, b7, a8, b9, b10, a11⟩, rfl, ⟨g4, g7, g9, g10⟩⟩
end Go.Proofs.Ytchbipkoifmmdaa

/- Babel: a call of any kind; what stays behind any. -/
namespace Go.Proofs.Ytchbipkoifmmdaa
open Go
set_option linter.unusedSimpArgs false
set_option linter.unusedVariables false

abbrev opT (o : Op17) : Tlv := ⟨o.tk, o.ts, o.tiv, o.tc, o.ta, o.tl, o.trt, o.ttg, o.thp⟩
def callS (s : BS) (o : Op17) : BS × List Tlv :=
  if o.k = 0 then (bownS s (o.ta, o.tl) o.n o.ttg, [])
  else if o.k = 1 then (bdropS s (o.ta, o.tl), [])
  else if o.k = 2 then ({ s with seq := raiseN s.seq }, [])
  else if o.k = 3 then ((bhear s o.f o.n (opT o)).2.2, [])
  else if o.k = 4 then ({ s with T := lostT o.f s.T }, [])
  else if o.k = 5 then (tellS s, tellL s)
  else if o.k = 6 then (knowB s (o.ta, o.tl) o.trt o.ts o.n, [])
  else (s, [])

structure BInv (s : BS) : Prop where
  num : BNum s
  lo : s.O.length ≤ 64
  lt : s.T.length ≤ 64
  ls : s.S.length ≤ 128
  mo : s.most ≤ 64

theorem wayN_some {s : BS} {k : PK} : ∀ {n : Nat}, (wayN s k n).isSome = true → ∃ j, (getM s.T (k, j)).isSome = true
  | 0, h => by cases h
  | n + 1, h => by
    rw [wayN] at h
    unfold wayStep at h
    cases hg : getM s.T (k, ((n + 1 : Nat) : Int)) with
    | none => rw [hg] at h; exact wayN_some h
    | some z => exact ⟨_, by rw [hg]; rfl⟩
theorem ways_len {s : BS} : (waysL s (prefL s)).length ≤ s.O.length + s.T.length := by
  have e : ∀ ks : List PK, (waysL s ks).length = (ks.filter fun k => (wayB s k).isSome).length := by
    intro ks
    induction ks with
    | nil => rfl
    | cons k ks ih =>
      unfold waysL at *
      rw [List.filterMap_cons, List.filter_cons]
      cases h : wayB s k with
      | none => simp [ih]
      | some y => simp [ih]
  rw [e]
  have sub := List.Nodup.length_le_of_subset (l₁ := (prefL s).filter fun k => (wayB s k).isSome) (l₂ := s.O.map (·.1) ++ s.T.map (·.1.1)) ((prefL_srt (s := s)).nodup.filter _) (fun k hk => by
    have h2 : (wayB s k).isSome = true := by simpa using (List.mem_filter.1 hk).2
    unfold wayB at h2
    cases hg : getM s.O k with
    | some t => exact List.mem_append_left _ (List.mem_map_of_mem (f := (·.1)) (getM_mem hg))
    | none =>
      rw [hg] at h2
      obtain ⟨j, hj⟩ := wayN_some h2
      obtain ⟨y, hy⟩ := Option.isSome_iff_exists.1 hj
      exact List.mem_append_right _ (List.mem_map.2 ⟨_, getM_mem hy, rfl⟩))
  simpa using sub

theorem know_parts {s : BS} {k : PK} {rt sn : Nat} {n : Int} : (knowB s k rt sn n).O = s.O ∧ (knowB s k rt sn n).T = s.T ∧ (knowB s k rt sn n).S = s.S ∧ (knowB s k rt sn n).seq = s.seq ∧ (knowB s k rt sn n).most = s.most ∧ (knowB s k rt sn n).dom = s.dom ∧ (knowB s k rt sn n).id = s.id := by
  unfold knowB; split <;> exact ⟨rfl, rfl, rfl, rfl, rfl, rfl, rfl⟩
theorem tells_parts : ∀ {ws : List Tlv} {s : BS}, (ws.foldl tellStep s).O = s.O ∧ (ws.foldl tellStep s).T = s.T ∧ (ws.foldl tellStep s).S.length ≤ s.S.length + ws.length ∧ (ws.foldl tellStep s).seq = s.seq ∧ (ws.foldl tellStep s).most = s.most ∧ (ws.foldl tellStep s).dom = s.dom ∧ (ws.foldl tellStep s).id = s.id
  | [], s => ⟨rfl, rfl, by simp, rfl, rfl, rfl, rfl⟩
  | t :: ws, s => by
    obtain ⟨a, b, c, d, e, f, g⟩ := tells_parts (ws := ws) (s := tellStep s t)
    obtain ⟨a', b', c', d', e', f', g'⟩ := know_parts (s := { s with S := setM (t.a, t.l) t s.S }) (k := (t.a, t.l)) (rt := t.rt) (sn := t.s) (n := t.c)
    have hl : (tellStep s t).S.length ≤ s.S.length + 1 := by
      show (knowB _ _ _ _ _).S.length ≤ _
      rw [c']
      show (setM (t.a, t.l) t s.S).length ≤ _
      rw [setM_length]; split <;> omega
    rw [List.foldl_cons]
    exact ⟨a.trans a', b.trans b', by rw [List.length_cons]; omega, d.trans d', e.trans e', f.trans f', g.trans g'⟩
theorem tells_seq : ∀ {ws : List Tlv} {s : BS}, SeqOk s.M → (∀ t ∈ ws, t.s < 65536) → SeqOk (ws.foldl tellStep s).M
  | [], s, h, _ => h
  | t :: ws, s, h, hw => by
    rw [List.foldl_cons]
    exact tells_seq (knowB_seq h (hw t (by simp))) (fun t' h' => hw t' (by simp [h']))

theorem BInv.own {s : BS} (I : BInv s) {k : PK} {n : Int} {tag : Nat} (hk : k.1 < 2 ^ 32) : BInv (bownS s k n tag) := by
  unfold bownS
  split
  · rename_i h0
    have hl : (setM k (ownT s k n tag) s.O).length ≤ 64 := by
      rw [setM_length]
      split
      · exact I.lo
      · rename_i hn
        have hn2 : getM s.O k = none := by cases q : getM s.O k with | none => rfl | some _ => rw [q] at hn; simp at hn
        unfold bownE at h0
        split at h0
        · cases h0
        · split at h0
          · cases h0
          · split at h0
            · cases h0
            · rename_i hf
              have : ¬ 64 ≤ s.O.length := fun q => hf ⟨hn2, q⟩
              omega
    exact ⟨⟨I.num.q, I.num.m, I.num.t, fun e he => by
      rcases setM_mem he with rfl | q
      · exact hk
      · exact I.num.o e q⟩, hl, I.lt, I.ls, I.mo⟩
  · exact I
theorem BInv.drop {s : BS} (I : BInv s) {k : PK} : BInv (bdropS s k) := by
  unfold bdropS
  split
  · exact ⟨⟨I.num.q, I.num.m, I.num.t, fun e he => I.num.o e (delM_sub.subset he)⟩, Nat.le_trans delM_sub.length_le I.lo, I.lt, I.ls, I.mo⟩
  · exact I
theorem BInv.raise {s : BS} (I : BInv s) : BInv { s with seq := raiseN s.seq } := ⟨⟨by show raiseN s.seq < 65536; unfold raiseN; omega, I.num.m, I.num.t, I.num.o⟩, I.lo, I.lt, I.ls, I.mo⟩
theorem BInv.hear {s : BS} (I : BInv s) {f c : Int} {t : Tlv} (hs : t.s < 65536) (ha : t.a < 2 ^ 32) : BInv (bhear s f c t).2.2 := by
  unfold bhear
  split
  · exact I
  · split
    · exact I
    · split
      · exact I
      · split
        · exact ⟨⟨I.num.q, I.num.m, fun e he => I.num.t e (delM_sub.subset he), I.num.o⟩, I.lo, Nat.le_trans delM_sub.length_le I.lt, I.ls, I.mo⟩
        · split
          · exact I
          · rename_i hf
            refine ⟨⟨I.num.q, I.num.m, fun e he => ?_, I.num.o⟩, I.lo, ?_, I.ls, I.mo⟩
            · rcases setM_mem he with rfl | q
              · exact ⟨hs, ha⟩
              · exact I.num.t e q
            · show (setM _ _ s.T).length ≤ 64
              rw [setM_length]
              have hmo := I.mo
              split
              · exact I.lt
              · rename_i hn
                have hn2 : getM s.T ((t.a, t.l), f) = none := by cases q : getM s.T ((t.a, t.l), f) with | none => rfl | some _ => rw [q] at hn; simp at hn
                have : ¬ s.most ≤ (s.T.length : Int) := fun q => hf ⟨hn2, q⟩
                omega
theorem BInv.lose {s : BS} (I : BInv s) {f : Int} : BInv { s with T := lostT f s.T } :=
  ⟨⟨I.num.q, I.num.m, fun e he => I.num.t e (List.mem_filter.1 he).1, I.num.o⟩, I.lo, Nat.le_trans (List.length_filter_le _ _) I.lt, I.ls, I.mo⟩
theorem BInv.tell {s : BS} (I : BInv s) : BInv (tellS s) := by
  unfold tellS
  obtain ⟨a, b, c, d, e, f, g⟩ := tells_parts (ws := waysL s (prefL s)) (s := { s with S := [] })
  have hl := ways_len (s := s)
  have := I.lo
  have := I.lt
  refine ⟨⟨by rw [d]; exact I.num.q, tells_seq I.num.m (fun t ht => (waysL_ok I.num t ht).1), by rw [b]; exact I.num.t, by rw [a]; exact I.num.o⟩, by rw [a]; exact I.lo, by rw [b]; exact I.lt, ?_, by rw [e]; exact I.mo⟩
  have c' : (List.foldl tellStep { s with S := [] } (waysL s (prefL s))).S.length ≤ 0 + (waysL s (prefL s)).length := c
  omega
theorem BInv.know {s : BS} (I : BInv s) {k : PK} {rt sn : Nat} {n : Int} (hs : sn < 65536) : BInv (knowB s k rt sn n) := by
  obtain ⟨a, b, c, d, e, f, g⟩ := know_parts (s := s) (k := k) (rt := rt) (sn := sn) (n := n)
  exact ⟨⟨by rw [d]; exact I.num.q, knowB_seq I.num.m hs, by rw [b]; exact I.num.t, by rw [a]; exact I.num.o⟩, by rw [a]; exact I.lo, by rw [b]; exact I.lt, by rw [c]; exact I.ls, by rw [e]; exact I.mo⟩
theorem BInv.call {s : BS} (I : BInv s) {o : Op17} (og : o.Good) : BInv (callS s o).1 := by
  unfold callS
  split
  · exact I.own og.ta
  · split
    · exact I.drop
    · split
      · exact I.raise
      · split
        · exact I.hear og.ts og.ta
        · split
          · exact I.lose
          · split
            · exact I.tell
            · split
              · exact I.know og.ts
              · exact I

section
variable {h h' : Hp} {x : BP} {s : BS} {Q : Value → Hp → Prop}
set_option maxHeartbeats 1000000 in
set_option maxRecDepth 20000 in
theorem bcallM {o : Op17} (A : BabAt h x s) (I : BInv s) (og : o.Good) (hQ : ∀ w h', BQ h x (callS s o).1 h' → SlAt h' 31 9 Tlv.enc w (callS s o).2 → (∀ b, blkOf w = some b → h b = none) → Q w h') :
    Ok Try.prog F_octroilaw17_call #[.pointer (some ⟨x.p, 0, none⟩), Op17v o] h Q := by
  refine octroilaw17_call_ok (by simp) ?_
  unfold octroilaw17_call_D
  simp (disch := omega) [octroilaw17_call_r0]
  intro b3 hb3
  have l1 : Le h (h.upd b3 (.cells o.cells 47)) := .new hb3
  have f3 : (h.upd b3 (.cells o.cells 47)) b3 = some (.cells o.cells 47 (0, 0)) := upd_same
  show octroilaw17_call_r1 _ (h.upd b3 (.cells o.cells 47)) _
  generalize h.upd b3 (.cells o.cells 47) = h1 at *
  have A1 := A.le' l1
  replace hQ : ∀ w h', BQ h1 x (callS s o).1 h' → SlAt h' 31 9 Tlv.enc w (callS s o).2 → (∀ b, blkOf w = some b → h1 b = none) → Q w h' := fun w h' q1 q2 q3 => hQ w h' (q1.le' l1) q2 (fun b e => none_of_le l1 (q3 b e))
  have nil : (callS s o).2 = [] → ∀ h', BQ h1 x (callS s o).1 h' → Q (.slice none 0 0) h' := fun e h' q => hQ _ h' q (by rw [e]; exact .inl ⟨rfl, rfl⟩) (by simp [blkOf])
  have hlen : s.O.length + s.S.length + s.T.length ≤ 100000 := by have := I.lo; have := I.lt; have := I.ls; omega
  unfold callS at hQ nil
  by_cases k0 : o.k = 0
  · rw [if_pos k0] at nil
    simp (disch := omega) [octroilaw17_call_r1, octroilaw17_call_r2, octroilaw17_call_r3, f3, k0]
    refine bOwnM (k := (o.ta, o.tl)) A1 og.ta og.ttg (fun h' q => ?_)
    simp (disch := omega) [octroilaw17_call_r16]
    exact .to _ (.refl _) (nil rfl _ q)
  rw [if_neg k0] at hQ nil
  by_cases k1 : o.k = 1
  · rw [if_pos k1] at nil
    simp (disch := omega) [octroilaw17_call_r1, octroilaw17_call_r2, octroilaw17_call_r4, octroilaw17_call_r5, f3, k0, k1]
    refine bDropM (k := (o.ta, o.tl)) A1 (fun h' q => ?_)
    simp (disch := omega) [octroilaw17_call_r16]
    exact .to _ (.refl _) (nil rfl _ q)
  rw [if_neg k1] at hQ nil
  by_cases k2 : o.k = 2
  · rw [if_pos k2] at nil
    simp (disch := omega) [octroilaw17_call_r1, octroilaw17_call_r2, octroilaw17_call_r4, octroilaw17_call_r6, octroilaw17_call_r7, f3, k0, k1, k2]
    refine bRaiseM A1 I.num.q (fun h' q => ?_)
    simp (disch := omega) [octroilaw17_call_r16]
    exact .to _ (.refl _) (nil rfl _ q)
  rw [if_neg k2] at hQ nil
  by_cases k3 : o.k = 3
  · rw [if_pos k3] at nil
    simp (disch := omega) [octroilaw17_call_r1, octroilaw17_call_r2, octroilaw17_call_r4, octroilaw17_call_r6, octroilaw17_call_r8, octroilaw17_call_r9, f3, k0, k1, k2, k3]
    refine bHearM (t := opT o) A1 I.num.m og.ts og.ta og.ttg (fun h' q => ?_)
    simp (disch := omega) [octroilaw17_call_r16]
    exact .to _ (.refl _) (nil rfl _ q)
  rw [if_neg k3] at hQ nil
  by_cases k4 : o.k = 4
  · rw [if_pos k4] at nil
    simp (disch := omega) [octroilaw17_call_r1, octroilaw17_call_r2, octroilaw17_call_r4, octroilaw17_call_r6, octroilaw17_call_r8, octroilaw17_call_r10, octroilaw17_call_r11, f3, k0, k1, k2, k3, k4]
    refine bLoseM A1 (fun h' q => ?_)
    simp (disch := omega) [octroilaw17_call_r16]
    exact .to _ (.refl _) (nil rfl _ q)
  rw [if_neg k4] at hQ nil
  by_cases k5 : o.k = 5
  · rw [if_pos k5] at hQ
    simp (disch := omega) [octroilaw17_call_r1, octroilaw17_call_r2, octroilaw17_call_r4, octroilaw17_call_r6, octroilaw17_call_r8, octroilaw17_call_r10, octroilaw17_call_r12, octroilaw17_call_r13, f3, k0, k1, k2, k3, k4, k5]
    refine btellM A1 I.num hlen (fun w h' q S n => ?_)
    simp (disch := omega)
    exact .to _ (.refl _) (hQ _ _ q S n)
  rw [if_neg k5] at hQ nil
  by_cases k6 : o.k = 6
  · rw [if_pos k6] at nil
    simp (disch := omega) [octroilaw17_call_r1, octroilaw17_call_r2, octroilaw17_call_r4, octroilaw17_call_r6, octroilaw17_call_r8, octroilaw17_call_r10, octroilaw17_call_r12, octroilaw17_call_r14, octroilaw17_call_r15, f3, k0, k1, k2, k3, k4, k5, k6]
    refine bKnowM (k := (o.ta, o.tl)) A1 I.num.m og.ts og.ta (fun h' q => ?_)
    simp (disch := omega) [octroilaw17_call_r16]
    exact .to _ (.refl _) (nil rfl _ q)
  rw [if_neg k6] at nil
  simp (disch := omega) [octroilaw17_call_r1, octroilaw17_call_r2, octroilaw17_call_r4, octroilaw17_call_r6, octroilaw17_call_r8, octroilaw17_call_r10, octroilaw17_call_r12, octroilaw17_call_r14, octroilaw17_call_r16, f3, k0, k1, k2, k3, k4, k5, k6]
  exact .to _ (.refl _) (nil rfl _ (.same A1 (.refl _)))
end
end Go.Proofs.Ytchbipkoifmmdaa

/- BabelTags: no route that is taken, or told, has the domain itself in its tag; all that is taken costs less than what is not reached. -/
namespace Go.Proofs.Ytchbipkoifmmdaa
open Go
set_option linter.unusedSimpArgs false
set_option linter.unusedVariables false

theorem hasT_zero' {d : Int} : hasT 0 d = false := by
  unfold hasT
  cases h1 : decide (0 ≤ d) <;> cases h2 : decide (d < 16) <;> simp
def tagOk (dom : Int) (t : Tlv) : Prop := hasT t.tg dom = false ∧ 0 ≤ t.c ∧ t.tg < 2 ^ 16
structure TagI (dom : Int) (s : BS) : Prop where
  d : s.dom = dom
  o : ∀ e ∈ s.O, tagOk dom e.2 ∧ e.2.c < 65535
  t : ∀ e ∈ s.T, tagOk dom e.2.2

theorem cut_c {a b : Int} (h : 0 ≤ a) : 0 ≤ addM a b 65535 := by unfold addM; omega
section
variable {dom : Int} {s : BS}
theorem TagI.wayN (I : TagI dom s) {k : PK} : ∀ {n : Nat} {y : Tlv × Int}, wayN s k n = some y → tagOk dom y.1 ∧ y.1.c < 65535
  | 0, y, h => by cases h
  | n + 1, y, h => by
    rw [Ytchbipkoifmmdaa.wayN] at h
    unfold wayStep at h
    cases hg : getM s.T (k, ((n + 1 : Nat) : Int)) with
    | none => rw [hg] at h; exact TagI.wayN I h
    | some z =>
      rw [hg] at h
      simp only at h
      split at h
      · rename_i hc
        simp at h; subst h
        have := I.t _ (getM_mem hg)
        exact ⟨⟨this.1, cut_c this.2.1, this.2.2⟩, hc.2.1⟩
      · exact TagI.wayN I h
theorem TagI.way (I : TagI dom s) {k : PK} {y : Tlv × Int} (h : wayB s k = some y) : tagOk dom y.1 ∧ y.1.c < 65535 := by
  unfold wayB at h
  cases hg : getM s.O k with
  | none => rw [hg] at h; exact I.wayN h
  | some t => rw [hg] at h; simp at h; subst h; exact I.o _ (getM_mem hg)
theorem TagI.tell (I : TagI dom s) : ∀ t ∈ tellL s, hasT t.tg dom = false ∧ t.tg < 2 ^ 16 := by
  intro t ht
  unfold tellL at ht
  rcases List.mem_append.1 ht with q | q
  · obtain ⟨k, _, h2⟩ := List.mem_filterMap.1 q
    cases h : wayB s k with
    | none => rw [h] at h2; cases h2
    | some y => rw [h] at h2; simp at h2; subst h2; exact ⟨(I.way h).1.1, (I.way h).1.2.2⟩
  · obtain ⟨k, _, h2⟩ := List.mem_filterMap.1 q
    split at h2
    · cases h2
    · cases h : getM s.S k with
      | none => rw [h] at h2; cases h2
      | some y => rw [h] at h2; simp at h2; subst h2; exact ⟨hasT_zero', by simp⟩
theorem TagI.all (I : TagI dom s) : ∀ y ∈ allB s (prefL s), hasT y.tg dom = false ∧ 0 ≤ y.m ∧ y.m < 65535 ∧ y.tg < 2 ^ 16 := by
  intro y hy
  obtain ⟨k, _, h2⟩ := List.mem_filterMap.1 hy
  cases h : wayB s k with
  | none => rw [h] at h2; cases h2
  | some z => rw [h] at h2; simp at h2; subst h2; exact ⟨(I.way h).1.1, (I.way h).1.2.1, (I.way h).2, (I.way h).1.2.2⟩
theorem TagI.call (I : TagI dom s) {o : Op17} (og : o.Good) : TagI dom (callS s o).1 := by
  unfold callS
  split
  · unfold bownS
    split
    · rename_i h0
      refine ⟨I.d, fun e he => ?_, I.t⟩
      rcases setM_mem he with rfl | q
      · unfold bownE at h0
        split at h0
        · cases h0
        · rename_i ha
          split at h0
          · cases h0
          · rename_i ht
            refine ⟨⟨?_, ?_, og.ttg⟩, ?_⟩
            · show hasT o.ttg dom = false
              rw [← I.d]; simpa using ht
            · show 0 ≤ o.n
              exact Int.not_lt.1 fun q => ha (.inr (.inl q))
            · show o.n < 65535
              exact Int.not_le.1 fun q => ha (.inr (.inr q))
      · exact I.o e q
    · exact I
  · split
    · unfold bdropS
      split
      · exact ⟨I.d, fun e he => I.o e (delM_sub.subset he), I.t⟩
      · exact I
    · split
      · exact ⟨I.d, I.o, I.t⟩
      · split
        · unfold bhear
          split
          · exact I
          · rename_i hbad
            split
            · exact I
            · rename_i ht
              split
              · exact I
              · split
                · exact ⟨I.d, I.o, fun e he => I.t e (delM_sub.subset he)⟩
                · split
                  · exact I
                  · refine ⟨I.d, I.o, fun e he => ?_⟩
                    rcases setM_mem he with rfl | q
                    · refine ⟨?_, ?_, og.ttg⟩
                      · show hasT o.ttg dom = false
                        rw [← I.d]; simpa using ht
                      · show 0 ≤ o.tc
                        exact Int.not_lt.1 fun q => hbad (.inr (.inr (.inr (.inr (.inr (.inr (.inl q)))))))
                    · exact I.t e q
        · split
          · exact ⟨I.d, I.o, fun e he => I.t e (List.mem_filter.1 he).1⟩
          · split
            · show TagI dom (tellS s)
              unfold tellS
              obtain ⟨a, b, c, d, e, f, g⟩ := tells_parts (ws := waysL s (prefL s)) (s := { s with S := [] })
              exact ⟨by rw [f]; exact I.d, by rw [a]; exact I.o, by rw [b]; exact I.t⟩
            · split
              · obtain ⟨a, b, c, d, e, f, g⟩ := know_parts (s := s) (k := (o.ta, o.tl)) (rt := o.trt) (sn := o.ts) (n := o.n)
                exact ⟨by rw [f]; exact I.d, by rw [a]; exact I.o, by rw [b]; exact I.t⟩
              · exact I
end

theorem BQ.leN {h g g' : Hp} {x : BP} {s' : BS} (q : BQ g x s' g') (l : Le h g) (n : ∀ y, y ∈ ownB x → h y = none) : Le h g' := fun y o e => q.fr.keep y o (l _ _ e) (fun m => by rw [n y m] at e; cases e)

theorem op17_at {h : Hp} {v : Value} {xs : List Op17} {i : Nat} {x : Op17} (A : ArgSl h 12 Op17.enc Op17.Good v xs) (hx : xs[i]? = some x) :
    x.Good ∧ ∃ b o cap c E fr, v = .slice (some ⟨b, o, none⟩) xs.length cap ∧ h b = some (.cells c E fr) ∧ c[o + i * 12]? = some (.int .i64 x.k) ∧ c[o + i * 12 + 1]? = some (.int .i64 x.f) ∧ c[o + i * 12 + 2]? = some (.int .i64 x.n) ∧ c[o + i * 12 + 3]? = some (.int .i64 x.tk) ∧
      c[o + i * 12 + 4]? = some (.int .u16 (x.ts : Nat)) ∧ c[o + i * 12 + 5]? = some (.int .i64 x.tiv) ∧ c[o + i * 12 + 6]? = some (.int .i64 x.tc) ∧ c[o + i * 12 + 7]? = some (.int .u32 (x.ta : Nat)) ∧ c[o + i * 12 + 8]? = some (.int .i64 x.tl) ∧ c[o + i * 12 + 9]? = some (.int .u64 (x.trt : Nat)) ∧ c[o + i * 12 + 10]? = some (.int .u16 (x.ttg : Nat)) ∧ c[o + i * 12 + 11]? = some (.int .i64 x.thp) := by
  obtain ⟨g, b, o, cap, c, E, fr, e, hb, H⟩ := A.at hx
  exact ⟨g, b, o, cap, c, E, fr, e, hb, H 0 (by omega), H 1 (by omega), H 2 (by omega), H 3 (by omega), H 4 (by omega), H 5 (by omega), H 6 (by omega), H 7 (by omega), H 8 (by omega), H 9 (by omega), H 10 (by omega), H 11 (by omega)⟩

theorem BInv.new {id : Nat} {dom most : Int} : BInv ⟨id, dom, min most 64, 0, [], [], [], []⟩ :=
  ⟨⟨by simp, by simp [SeqOk], by simp, by simp⟩, by simp, by simp, by simp, by simp; omega⟩

def TgInv (h : Hp) (x : BP) (dom : Int) (lv : Value) (l : List Op17) (n : Nat) (env : Env) (g : Hp) : Prop :=
  ∃ (i : Nat) (s : BS), i + n = l.length ∧ BabAt g x s ∧ BInv s ∧ TagI dom s ∧ Le h g ∧ env 1 = .int .i64 dom ∧ env 2 = lv ∧ env 8 = .pointer (some ⟨x.p, 0, none⟩) ∧ env 9 = .int .i64 (i : Nat)
def TgIn0 (g0 : Hp) (x : BP) (dom : Int) (lv w : Value) (i : Nat) (X : List Tlv) (n : Nat) (env : Env) (g : Hp) : Prop :=
  ∃ j : Nat, j + n = X.length ∧ g = g0 ∧ env 1 = .int .i64 dom ∧ env 2 = lv ∧ env 8 = .pointer (some ⟨x.p, 0, none⟩) ∧ env 9 = .int .i64 (i : Nat) ∧ env 10 = w ∧ env 11 = .int .i64 (j : Nat)
def TgIn2 (g0 : Hp) (x : BP) (dom : Int) (w : Value) (Y : List Rt) (n : Nat) (env : Env) (g : Hp) : Prop :=
  ∃ j : Nat, j + n = Y.length ∧ g = g0 ∧ env 1 = .int .i64 dom ∧ env 8 = .pointer (some ⟨x.p, 0, none⟩) ∧ env 12 = w ∧ env 13 = .int .i64 (j : Nat)

set_option maxHeartbeats 1000000 in
set_option maxRecDepth 20000 in
theorem BabelTags_walk {h : Hp} {id : Nat} {dom : Int} {lv : Value} {l : List Op17} (A : ArgSl h 12 Op17.enc Op17.Good lv l) :
    Ok Try.prog F_octroilaw17_BabelTags #[.int .u64 (id : Nat), .int .i64 dom, lv] h (fun v g => v = .bool true ∧ Le h g) := by
  refine octroilaw17_BabelTags_ok (by simp) ?_
  unfold octroilaw17_BabelTags_D
  obtain ⟨ap, acap, hlv⟩ := A.shape
  simp (disch := omega) [octroilaw17_BabelTags_r0, octroilaw17_BabelTags_r1]
  refine awake17 (fun h2 l2 => ?_)
  simp (disch := omega) [octroilaw17_BabelTags_r2]
  refine bnewM (fun x h3 l3 n3 A3 => ?_)
  have hle : Le h h3 := l2.trans l3
  have n0 : ∀ y, y ∈ ownB x → h y = none := fun y hy => none_of_le l2 (n3 y hy)
  by_cases g1 : 150 < (l.length : Int)
  · simp (disch := omega) [octroilaw17_BabelTags_r3, octroilaw17_BabelTags_r4, hlv, g1]
    exact .to _ (.refl _) ⟨rfl, hle⟩
  simp (disch := omega) [octroilaw17_BabelTags_r3, octroilaw17_BabelTags_r5, hlv, g1]
  refine ⟨TgInv h x dom lv l, ⟨l.length, 0, _, by omega, A3, BInv.new, ⟨rfl, by simp, by simp⟩, hle, by simp, by simp [hlv], by simp, by simp⟩, ?_⟩
  rintro n env g ⟨i, s, hin, B, I, J, lg, e1, e2, e8, e9⟩
  unfold octroilaw17_BabelTags_L1
  by_cases hm : n = 0
  · have : i = l.length := by omega
    subst this
    have hlen : s.O.length + s.S.length + s.T.length ≤ 100000 := by have := I.lo; have := I.lt; have := I.ls; omega
    simp (disch := omega) [octroilaw17_BabelTags_r6, octroilaw17_BabelTags_r14, e1, e2, e8, e9, hlv]
    refine ballM B I.num.m I.num.tld hlen (fun w g4 l4 S4 n4 => ?_)
    have B4 := B.le' l4
    have mem := J.all
    have hYl : (allB s (prefL s)).length ≤ 256 := by
      have := prefL_length (s := s)
      have := I.lo; have := I.lt; have := I.ls
      exact Nat.le_trans (List.length_filterMap_le _ _) (by omega)
    generalize allB s (prefL s) = Y at *
    obtain ⟨sp, cap, hw⟩ := S4.shape'
    simp (disch := omega) [octroilaw17_BabelTags_r15]
    refine ⟨TgIn2 g4 x dom w Y, ⟨Y.length, 0, by omega, rfl, by simp [e1], by simp [e8], by simp, by simp⟩, ?_⟩
    clear e1 e2 e8 e9
    rintro n env g5 ⟨j, hjn, rfl, e1, e8, e12, e13⟩
    unfold octroilaw17_BabelTags_L2
    by_cases hm2 : n = 0
    · have : j = Y.length := by omega
      subst this
      simp (disch := omega) [octroilaw17_BabelTags_r16, octroilaw17_BabelTags_r20, e1, e8, e12, e13, hw]
      refine bLenM B4 ?_
      have := I.lt
      have lt' : (s.T.length : Int) ≤ 64 := by omega
      simp (disch := omega) [lt', this]
      exact .to _ (.refl _) ⟨rfl, lg.trans l4⟩
    · obtain ⟨y, hy⟩ : ∃ y, Y[j]? = some y := ⟨_, List.getElem?_eq_getElem (by omega)⟩
      obtain ⟨b2, c2, d2, ez, hb2, t0, t1, t2, t3, t4, t5, t6⟩ := rt_at S4 hy
      have hj' : j < Y.length := by omega
      obtain ⟨m1, m2, m3, m4⟩ := mem y (List.mem_of_getElem? hy)
      have m2' : ¬ y.m < 0 := by omega
      have m3' : ¬ 65535 ≤ y.m := by omega
      simp (disch := omega) [octroilaw17_BabelTags_r16, octroilaw17_BabelTags_r17, e1, e8, e12, e13, ez, hj', hb2, t4, t6]
      refine thas_spec m4 ?_
      rw [m1]
      simp (disch := omega) [octroilaw17_BabelTags_r19, e1, e8, e12, e13, ez, hj', hb2, t4, t6, m2', m3', wrap_i64]
      exact ⟨n - 1, by omega, j + 1, by omega, rfl, by simp [e1], by simp [e8], by simp [e12, ez], by simp⟩
  · obtain ⟨o, ho⟩ : ∃ x, l[i]? = some x := ⟨_, List.getElem?_eq_getElem (by omega)⟩
    obtain ⟨og, b, off, cap, c, E, fr, hv', hb, q0, q1, q2, q3, q4, q5, q6, q7, q8, q9, q10, q11⟩ := op17_at A ho
    have hi' : i < l.length := by omega
    have hbg := lg _ _ hb
    simp (disch := omega) [octroilaw17_BabelTags_r6, octroilaw17_BabelTags_r7, e1, e2, e8, e9, hv', hbg, hi', q0, q1, q2, q3, q4, q5, q6, q7, q8, q9, q10, q11]
    refine bcallM (o := o) B I og (fun w g4 B4 S4 n4 => ?_)
    have lg4 := B4.leN lg n0
    have J4 := J.call og
    have I4 := I.call og
    have mem : ∀ t ∈ (callS s o).2, hasT t.tg dom = false ∧ t.tg < 2 ^ 16 := by
      intro t ht
      unfold callS at ht
      split at ht
      · simp at ht
      · split at ht
        · simp at ht
        · split at ht
          · simp at ht
          · split at ht
            · simp at ht
            · split at ht
              · simp at ht
              · split at ht
                · exact J.tell t ht
                · split at ht <;> simp at ht
    have hXl : (callS s o).2.length ≤ 512 := by
      have := prefL_length (s := s)
      have := I.lo; have := I.lt; have := I.ls
      have k1 := waysL_length (s := s) (ks := prefL s)
      have k2 := goneL_length (s := s) (ks := prefL s)
      have k3 : (tellL s).length ≤ 512 := by unfold tellL; rw [List.length_append]; omega
      unfold callS
      split
      · simp
      · split
        · simp
        · split
          · simp
          · split
            · simp
            · split
              · simp
              · split
                · exact k3
                · split <;> simp
    generalize (callS s o).2 = X at *
    generalize (callS s o).1 = s4 at *
    obtain ⟨sp, scap, hw⟩ := S4.shape'
    simp (disch := omega) [octroilaw17_BabelTags_r8]
    refine ⟨TgIn0 g4 x dom lv w i X, ⟨X.length, 0, by omega, rfl, by simp [e1], by simp [e2], by simp [e8], by simp [e9], by simp, by simp⟩, ?_⟩
    clear e1 e2 e8 e9
    rintro n2 env g5 ⟨j, hjn, rfl, e1, e2, e8, e9, e10, e11⟩
    unfold octroilaw17_BabelTags_L0
    by_cases hm2 : n2 = 0
    · have : j = X.length := by omega
      subst this
      simp (disch := omega) [octroilaw17_BabelTags_r9, octroilaw17_BabelTags_r13, e1, e2, e8, e9, e10, e11, hw, wrap_i64]
      exact ⟨n - 1, by omega, i + 1, s4, by omega, B4.at_, I4, J4, lg4, by simp [e1], by simp [e2], by simp [e8], by simp⟩
    · obtain ⟨y, hy⟩ : ∃ y, X[j]? = some y := ⟨_, List.getElem?_eq_getElem (by omega)⟩
      obtain ⟨b2, c2, d2, ez, hb2, t0, t1, t2, t3, t4, t5, t6, t7, t8⟩ := Tlv_at S4 hy
      have hj' : j < X.length := by omega
      obtain ⟨m1, m2⟩ := mem y (List.mem_of_getElem? hy)
      simp (disch := omega) [octroilaw17_BabelTags_r9, octroilaw17_BabelTags_r10, e1, e2, e8, e9, e10, e11, ez, hj', hb2, t7]
      refine thas_spec m2 ?_
      rw [m1]
      simp (disch := omega) [octroilaw17_BabelTags_r12, e11, wrap_i64]
      exact ⟨n2 - 1, by omega, j + 1, by omega, rfl, by simp [e1], by simp [e2], by simp [e8], by simp [e9], by simp [e10, ez], by simp⟩
end Go.Proofs.Ytchbipkoifmmdaa

/- Babel: what is taken and told is of its prefix; what is told never makes a least worse. -/
namespace Go.Proofs.Ytchbipkoifmmdaa
open Go
set_option linter.unusedSimpArgs false
set_option linter.unusedVariables false

def keyOk (k : PK) (t : Tlv) : Prop := (t.a, t.l) = k ∧ mayB k.1 k.2 = true ∧ 0 ≤ t.c
structure KeyI (s : BS) : Prop where
  o : ∀ e ∈ s.O, keyOk e.1 e.2 ∧ e.2.c < 65535
  t : ∀ e ∈ s.T, keyOk e.1.1 e.2.2
  s : ∀ e ∈ s.S, (e.2.a, e.2.l) = e.1

section
variable {s : BS}
theorem KeyI.wayN (I : KeyI s) {k : PK} : ∀ {n : Nat} {y : Tlv × Int}, wayN s k n = some y → keyOk k y.1 ∧ y.1.c < 65535
  | 0, y, h => by cases h
  | n + 1, y, h => by
    rw [Ytchbipkoifmmdaa.wayN] at h
    unfold wayStep at h
    cases hg : getM s.T (k, ((n + 1 : Nat) : Int)) with
    | none => rw [hg] at h; exact KeyI.wayN I h
    | some z =>
      rw [hg] at h
      simp only at h
      split at h
      · rename_i hc
        simp at h; subst h
        have := I.t _ (getM_mem hg)
        exact ⟨⟨this.1, this.2.1, cut_c this.2.2⟩, hc.2.1⟩
      · exact KeyI.wayN I h
theorem KeyI.way (I : KeyI s) {k : PK} {y : Tlv × Int} (h : wayB s k = some y) : keyOk k y.1 ∧ y.1.c < 65535 := by
  unfold wayB at h
  cases hg : getM s.O k with
  | none => rw [hg] at h; exact I.wayN h
  | some t => rw [hg] at h; simp at h; subst h; exact I.o _ (getM_mem hg)
/-- What is told as reached: each of its own prefix, in order. -/
theorem KeyI.ways (I : KeyI s) : ∀ {ks : List PK}, ks.Nodup → ((waysL s ks).map fun t => (t.a, t.l)).Nodup ∧ ∀ t ∈ waysL s ks, keyOk (t.a, t.l) t ∧ t.c < 65535 ∧ (t.a, t.l) ∈ ks
  | [], _ => by simp [waysL]
  | k :: ks, n => by
    rw [List.nodup_cons] at n
    obtain ⟨h1, h2⟩ := KeyI.ways I n.2
    unfold waysL at *
    rw [List.filterMap_cons]
    cases h : wayB s k with
    | none =>
      simp only [Option.map_none]
      exact ⟨h1, fun t ht => ⟨(h2 t ht).1, (h2 t ht).2.1, List.mem_cons_of_mem _ (h2 t ht).2.2⟩⟩
    | some y =>
      simp only [Option.map_some]
      obtain ⟨⟨q1, q2, q3⟩, q4⟩ := I.way h
      refine ⟨?_, fun t ht => ?_⟩
      · rw [List.map_cons, List.nodup_cons]
        refine ⟨fun hm => ?_, h1⟩
        obtain ⟨t, ht, e⟩ := List.mem_map.1 hm
        have := (h2 t ht).2.2
        rw [show (t.a, t.l) = (y.1.a, y.1.l) from e, q1] at this
        exact n.1 this
      · rcases List.mem_cons.1 ht with rfl | ht
        · exact ⟨⟨rfl, by rw [q1]; exact q2, q3⟩, q4, by rw [q1]; simp⟩
        · exact ⟨(h2 t ht).1, (h2 t ht).2.1, List.mem_cons_of_mem _ (h2 t ht).2.2⟩

/-- Behind, a least is what it was, or better. -/
def noWorse (M M' : MM) (q : PK × Nat) : Prop := ∀ y, getM M q = some y → ∃ z, getM M' q = some z ∧ (z.1 = y.1 → z.2 ≤ y.2) ∧ (z.1 ≠ y.1 → newerB z.1 y.1 = true)
theorem noWorse.refl (M : MM) (q : PK × Nat) : noWorse M M q := fun y h => ⟨y, h, fun _ => Int.le_refl _, fun n => absurd rfl n⟩
theorem noWorse_know {k : PK} {rt sn : Nat} {n : Int} {q : PK × Nat} : noWorse s.M (knowB s k rt sn n).M q := by
  unfold knowB
  split
  · rename_i hc
    intro y hy
    show ∃ z, getM (setM (k, rt) (sn, n) s.M) q = some z ∧ _
    rw [getM_setM]
    by_cases e : q = (k, rt)
    · rw [if_pos e]
      refine ⟨_, rfl, fun h1 => ?_, fun h1 => ?_⟩
      · have hb := hc.2.2.2
        unfold betterB at hb
        rw [← e, hy] at hb
        simp only at hb
        have h1' : sn = y.1 := h1
        rw [h1', show newerB y.1 y.1 = false by unfold newerB; simp] at hb
        simp at hb
        exact Int.le_of_lt hb
      · have hb := hc.2.2.2
        unfold betterB at hb
        rw [← e, hy] at hb
        simp only at hb
        have h1' : ¬ sn = y.1 := h1
        simp [h1'] at hb
        exact hb
    · rw [if_neg e]; exact ⟨y, hy, fun _ => Int.le_refl _, fun n => absurd rfl n⟩
  · exact .refl _ _
/-- A telling of another prefix leaves a least. -/
theorem know_other {k : PK} {rt sn : Nat} {n : Int} {q : PK × Nat} (h : q.1 ≠ k) : getM (knowB s k rt sn n).M q = getM s.M q := by
  unfold knowB
  split
  · show getM (setM (k, rt) (sn, n) s.M) q = _
    rw [getM_setM, if_neg (fun e => h (by rw [e]))]
  · rfl
theorem tells_other : ∀ {ws : List Tlv} {s : BS} {q : PK × Nat}, q.1 ∉ (ws.map fun t => (t.a, t.l)) → getM (ws.foldl tellStep s).M q = getM s.M q
  | [], _, _, _ => rfl
  | t :: ws, s, q, h => by
    rw [List.map_cons, List.mem_cons] at h
    rw [List.foldl_cons, tells_other (fun z => h (.inr z))]
    exact know_other (s := { s with S := setM (t.a, t.l) t s.S }) (fun z => h (.inl z))
theorem noWorse_tells : ∀ {ws : List Tlv} {s : BS} {q : PK × Nat}, (ws.map fun t => (t.a, t.l)).Nodup → noWorse s.M (ws.foldl tellStep s).M q
  | [], s, q, _ => .refl _ _
  | t :: ws, s, q, n => by
    rw [List.map_cons, List.nodup_cons] at n
    rw [List.foldl_cons]
    by_cases e : q.1 = (t.a, t.l)
    · intro y hy
      obtain ⟨z, h1, h2, h3⟩ := noWorse_know (s := { s with S := setM (t.a, t.l) t s.S }) (k := (t.a, t.l)) (rt := t.rt) (sn := t.s) (n := t.c) (q := q) y hy
      exact ⟨z, by rw [tells_other (by rw [e]; exact n.1)]; exact h1, h2, h3⟩
    · intro y hy
      refine noWorse_tells n.2 y ?_
      show getM (knowB _ _ _ _ _).M q = _
      rw [know_other e]; exact hy
end
end Go.Proofs.Ytchbipkoifmmdaa
