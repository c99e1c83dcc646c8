/- Babel: all routes that are taken; their sources. -/
import Derived.Test.YtchbipkoifmmdaaRows
import Derived.Test.YtchbipkoifmmdaaZ7

set_option linter.unusedSimpArgs false
set_option linter.unusedVariables false

namespace Go.Proofs.Ytchbipkoifmmdaa
open Go
set_option linter.unusedSimpArgs false
set_option linter.unusedVariables false

def allX (s : BS) (k : PK) (y : Tlv × Int) : Rt := ⟨k.1, k.2, s.dom, 115, y.1.c, y.2, y.1.tg⟩
def allB (s : BS) (ks : List PK) : List Rt := ks.filterMap fun k => (wayB s k).map (allX s k)
theorem allB_snoc {s : BS} {A : List PK} {k : PK} : allB s (A ++ [k]) = allB s A ++ ((wayB s k).map (allX s k)).toList := by
  unfold allB; rw [List.filterMap_append]
  cases h : wayB s k <;> simp [List.filterMap, h]

section
variable {h h' : Hp} {x : BP} {s : BS} {Q : Value → Hp → Prop}

/-- A slice is one longer, and new. -/
theorem Grew.news {h0 g g' : Hp} {w w' : Value} (G : Grew g g' w w') (lg : Le h0 g) (nw : ∀ b, blkOf w = some b → h0 b = none) : Le h0 g' ∧ ∀ b, blkOf w' = some b → h0 b = none := by
  refine ⟨fun x o e => G.keep x o (lg _ _ e) (fun q => by rw [nw x q.symm] at e; cases e), fun b e => ?_⟩
  rcases G.fresh with q1 | q1
  · exact nw b (by rw [← q1]; exact e)
  · exact none_of_le lg (q1 b e)

def AlInv (h0 : Hp) (x : BP) (s : BS) (wk : Value) (ks : List PK) (n : Nat) (env : Env) (g : Hp) : Prop :=
  ∃ (i : Nat) (w : Value), i + n = ks.length ∧ Le h0 g ∧ SlAt g 38 7 Rt.enc w (allB s (ks.take i)) ∧ (∀ b, blkOf w = some b → h0 b = none) ∧
    env 0 = .pointer (some ⟨x.p, 0, none⟩) ∧ env 3 = w ∧ env 10 = wk ∧ env 11 = .int .i64 (ks.length : Nat) ∧ env 12 = .int .i64 (i : Nat)

set_option maxHeartbeats 1000000 in
set_option maxRecDepth 20000 in
theorem ballM (A : BabAt h x s) (hM : SeqOk s.M) (hT : TldOk s.T) (hl : s.O.length + s.S.length + s.T.length ≤ 100000) (hQ : ∀ w h', Le h h' → SlAt h' 38 7 Rt.enc w (allB s (prefL s)) → (∀ b, blkOf w = some b → h b = none) → Q w h') :
    Ok Try.prog F_babel_Babel_All #[.pointer (some ⟨x.p, 0, none⟩)] h Q := by
  refine babel_Babel_All_ok (by simp) ?_
  unfold babel_Babel_All_D
  simp (disch := omega) [babel_Babel_All_r0, babel_Babel_All_r1, babel_Babel_All_r2]
  refine bprefM A hl (fun wk h1 l1 Sk nk => ?_)
  have hkl := prefL_length (s := s)
  generalize prefL s = ks at *
  obtain ⟨sp, scap, hwk⟩ := Sk.shape'
  have A1 := A.le' l1
  simp (disch := omega) [hwk]
  refine ⟨AlInv h1 x s wk ks, ⟨ks.length, 0, .slice none 0 0, by omega, .refl _, .inl ⟨rfl, rfl⟩, by simp [blkOf], by simp, by simp, by simp [hwk], by simp, by simp⟩, ?_⟩
  rintro n env g ⟨i, w, hin, lg, S, nw, e0, e3, e10, e11, e12⟩
  unfold babel_Babel_All_L0
  have hsl : (allB s (ks.take i)).length ≤ ks.length := by unfold allB; exact Nat.le_trans (List.length_filterMap_le _ _) (by rw [List.length_take]; omega)
  by_cases hm : n = 0
  · have : i = ks.length := by omega
    subst this
    rw [List.take_of_length_le (Nat.le_refl _)] at S
    simp (disch := omega) [babel_Babel_All_r3, babel_Babel_All_r9, e0, e3, e10, e11, e12]
    exact .to _ (.refl _) (hQ _ _ (l1.trans lg) S (fun b e => none_of_le l1 (nw b e)))
  · obtain ⟨k, hk⟩ : ∃ x, ks[i]? = some x := ⟨_, List.getElem?_eq_getElem (by omega)⟩
    obtain ⟨b, cap, c, hv', hb, c0, c1⟩ := kq_at (Sk.le' lg) hk
    have hi' : i < ks.length := by omega
    have tk := take_snoc hk
    simp (disch := omega) [babel_Babel_All_r3, babel_Babel_All_r4, e0, e3, e10, e11, e12, hv', hb, c0, c1, hi']
    intro b5 hb5
    have L5 : Le g (g.upd b5 (.cells (kencP k).toArray 24)) := .new hb5
    have f5 : (g.upd b5 (.cells (kencP k).toArray 24)) b5 = some (.cells (kencP k).toArray 24 (0, 0)) := upd_same
    simp (disch := omega)
    show babel_Babel_All_r5 _ (g.upd b5 (.cells (kencP k).toArray 24)) _
    generalize g.upd b5 (.cells (kencP k).toArray 24) = g1 at *
    have lg1 := lg.trans L5
    simp (disch := omega) [babel_Babel_All_r5, e0, f5]
    refine bwayM (k := k) (A1.le' lg1) hM hT (fun g2 l2 => ?_)
    simp (disch := omega)
    intro b6 hb6
    have lg2 := lg1.trans l2
    have L6 : Le g2 (g2.upd b6 (.cells tc0 31)) := .new hb6
    have f6 : (g2.upd b6 (.cells tc0 31)) b6 = some (.cells tc0 31 (0, 0)) := upd_same
    have h6 : h1 b6 = none := none_of_le lg2 hb6
    have L7 : ∀ o2, Le g2 ((g2.upd b6 (.cells tc0 31)).upd b6 o2) := fun o2 y o e => by
      have : y ≠ b6 := by rintro rfl; rw [hb6] at e; cases e
      rw [upd_ne this]; exact L6 _ _ e
    generalize g2.upd b6 (.cells tc0 31) = g3 at *
    simp (disch := omega)
    refine (stA_of f6 (by rfl) (by rfl)).mpr ?_
    have L8 := L7 (.cells (bestT (wayB s k)).cells 31 (0, 0))
    have f8 : (g3.upd b6 (.cells (bestT (wayB s k)).cells 31 (0, 0))) b6 = some (.cells (bestT (wayB s k)).cells 31 (0, 0)) := upd_same
    show thenK _ _ _ _ (g3.upd b6 (.cells (bestT (wayB s k)).cells 31 (0, 0)))
    generalize g3.upd b6 (.cells (bestT (wayB s k)).cells 31 (0, 0)) = g4 at *
    have lg4 := lg2.trans L8
    have S4 := ((S.le' L5).le' l2).le' L8
    have f54 := L8 _ _ (l2 _ _ f5)
    have hp4 := (A1.le' lg4).pt
    rw [← hv']
    cases hw : wayB s k with
    | none =>
      have hs : allB s (ks.take (i + 1)) = allB s (ks.take i) := by rw [tk, allB_snoc, hw]; simp
      simp (disch := omega) [babel_Babel_All_r6, babel_Babel_All_r8, e12, wrap_i64]
      exact ⟨n - 1, by omega, i + 1, w, by omega, lg4, by rw [hs]; exact S4, nw, by simp [e0], by simp [e3], by simp [e10], by simp [e11], by simp⟩
    | some y =>
      have hs : allB s (ks.take (i + 1)) = allB s (ks.take i) ++ [allX s k y] := by rw [tk, allB_snoc, hw]; simp
      rw [hw] at f8
      simp (disch := omega) [babel_Babel_All_r6, babel_Babel_All_r7, e0, e3, hp4, f54, f8]
      refine snoc_api_Route S4 (y := allX s k y) rfl (by simp [Rt.enc]) (by omega) (fun b9 w' g' S' G hb9 => ?_)
      obtain ⟨lg', nw'⟩ := G.news lg4 nw
      simp (disch := omega) [babel_Babel_All_r8, e12, wrap_i64]
      exact ⟨n - 1, by omega, i + 1, w', by omega, lg', by rw [hs]; exact S', nw', by simp [e0], by simp, by simp [e10], by simp [e11], by simp⟩

set_option maxHeartbeats 1000000 in
set_option maxRecDepth 20000 in
theorem bsourceM {k : PK} (A : BabAt h x s) (hM : SeqOk s.M) (hT : TldOk s.T) (hQ : ∀ h', Le h h' → Q (.tuple #[.int .u64 (((wayB s k).map (·.1.rt)).getD 0 : Nat), .bool (wayB s k).isSome]) h') :
    Ok Try.prog F_babel_Babel_Source #[.pointer (some ⟨x.p, 0, none⟩), .agg #[.int .u32 (k.1 : Nat), .int .i64 k.2]] h Q := by
  refine babel_Babel_Source_ok (by simp) ?_
  unfold babel_Babel_Source_D
  simp (disch := omega) [babel_Babel_Source_r0]
  intro b3 hb3
  have L1 : Le h (h.upd b3 (.cells #[.int .u32 (k.1 : Nat), .int .i64 k.2] 24)) := .new hb3
  have f3 : (h.upd b3 (.cells #[.int .u32 (k.1 : Nat), .int .i64 k.2] 24)) b3 = some (.cells #[.int .u32 (k.1 : Nat), .int .i64 k.2] 24) := upd_same
  generalize h.upd b3 (.cells #[.int .u32 (k.1 : Nat), .int .i64 k.2] 24) = h1 at *
  simp (disch := omega) [babel_Babel_Source_r1, f3]
  refine bwayM (k := k) (A.le' L1) hM hT (fun g2 l2 => ?_)
  simp (disch := omega)
  intro b6 hb6
  have lg2 := L1.trans l2
  have L6 : Le g2 (g2.upd b6 (.cells tc0 31)) := .new hb6
  have f6 : (g2.upd b6 (.cells tc0 31)) b6 = some (.cells tc0 31 (0, 0)) := upd_same
  have L7 : ∀ o2, Le g2 ((g2.upd b6 (.cells tc0 31)).upd b6 o2) := fun o2 y o e => by
    have : y ≠ b6 := by rintro rfl; rw [hb6] at e; cases e
    rw [upd_ne this]; exact L6 _ _ e
  generalize g2.upd b6 (.cells tc0 31) = g3 at *
  simp (disch := omega)
  refine (stA_of f6 (by rfl) (by rfl)).mpr ?_
  have L8 := L7 (.cells (bestT (wayB s k)).cells 31 (0, 0))
  have f8 : (g3.upd b6 (.cells (bestT (wayB s k)).cells 31 (0, 0))) b6 = some (.cells (bestT (wayB s k)).cells 31 (0, 0)) := upd_same
  cases hw : wayB s k with
  | none =>
    rw [hw] at hQ
    simp (disch := omega) [babel_Babel_Source_r2, babel_Babel_Source_r3]
    rw [hw] at L8
    exact .to _ (.refl _) (hQ _ (lg2.trans L8))
  | some y =>
    rw [hw] at hQ L8
    simp (disch := omega) [babel_Babel_Source_r2, babel_Babel_Source_r4]
    exact .to _ (.refl _) (hQ _ (lg2.trans L8))
end
end Go.Proofs.Ytchbipkoifmmdaa

/- Babel: what it tells. -/
namespace Go.Proofs.Ytchbipkoifmmdaa
open Go
set_option linter.unusedSimpArgs false
set_option linter.unusedVariables false

abbrev goneX (t : Tlv) : Tlv := ⟨t.k, t.s, t.iv, 65535, t.a, t.l, t.rt, 0, t.hp⟩
def waysL (s : BS) (ks : List PK) : List Tlv := ks.filterMap fun k => (wayB s k).map (·.1)
def goneL (s : BS) (ks : List PK) : List Tlv := ks.filterMap fun k => if (wayB s k).isSome then none else (getM s.S k).map goneX
def tellStep (s : BS) (t : Tlv) : BS := knowB { s with S := setM (t.a, t.l) t s.S } (t.a, t.l) t.rt t.s t.c
def tellS (s : BS) : BS := (waysL s (prefL s)).foldl tellStep { s with S := [] }
def tellL (s : BS) : List Tlv := waysL s (prefL s) ++ goneL s (prefL s)

theorem ways_snoc {s : BS} {A : List PK} {k : PK} : waysL s (A ++ [k]) = waysL s A ++ ((wayB s k).map (·.1)).toList := by
  unfold waysL; rw [List.filterMap_append]
  cases h : wayB s k <;> simp [List.filterMap, h]
theorem gone_snoc {s : BS} {A : List PK} {k : PK} : goneL s (A ++ [k]) = goneL s A ++ (if (wayB s k).isSome then none else (getM s.S k).map goneX).toList := by
  unfold goneL; rw [List.filterMap_append]
  cases h : (if (wayB s k).isSome then none else (getM s.S k).map goneX) <;> simp [List.filterMap, h]
theorem waysL_length {s : BS} {ks : List PK} : (waysL s ks).length ≤ ks.length := List.length_filterMap_le _ _
theorem goneL_length {s : BS} {ks : List PK} : (goneL s ks).length ≤ ks.length := List.length_filterMap_le _ _

/-- Numbers that are, in all that is known. -/
structure BNum (s : BS) : Prop where
  q : s.seq < 65536
  m : SeqOk s.M
  t : ∀ e ∈ s.T, e.2.2.s < 65536 ∧ e.2.2.a < 2 ^ 32
  o : ∀ e ∈ s.O, e.2.a < 2 ^ 32
theorem BNum.tld {s : BS} (N : BNum s) : TldOk s.T := fun e he => (N.t e he).1
theorem wayN_ok {s : BS} (N : BNum s) {k : PK} : ∀ {n : Nat} {y : Tlv × Int}, wayN s k n = some y → y.1.s < 65536 ∧ y.1.a < 2 ^ 32
  | 0, y, h => by cases h
  | n + 1, y, h => by
    rw [wayN] at h
    unfold wayStep at h
    cases hg : getM s.T (k, ((n + 1 : Nat) : Int)) with
    | none => rw [hg] at h; exact wayN_ok N h
    | some z =>
      rw [hg] at h
      simp only at h
      split at h
      · simp at h; subst h; exact N.t _ (getM_mem hg)
      · exact wayN_ok N h
theorem wayB_ok {s : BS} (N : BNum s) {k : PK} {y : Tlv × Int} (h : wayB s k = some y) : y.1.s < 65536 ∧ y.1.a < 2 ^ 32 := by
  unfold wayB at h
  cases hg : getM s.O k with
  | none => rw [hg] at h; exact wayN_ok N h
  | some t => rw [hg] at h; simp at h; subst h; exact ⟨N.q, N.o _ (getM_mem hg)⟩
theorem waysL_ok {s : BS} (N : BNum s) {ks : List PK} : ∀ t ∈ waysL s ks, t.s < 65536 ∧ t.a < 2 ^ 32 := by
  intro t ht
  obtain ⟨k, hk, h2⟩ := List.mem_filterMap.1 ht
  cases h : wayB s k with
  | none => rw [h] at h2; cases h2
  | some y => rw [h] at h2; simp at h2; subst h2; exact wayB_ok N h
theorem knowB_seq {s : BS} {k : PK} {rt sn : Nat} {n : Int} (h : SeqOk s.M) (hs : sn < 65536) : SeqOk (knowB s k rt sn n).M := by
  unfold knowB
  split
  · intro e he
    rcases setM_mem he with rfl | q
    · exact hs
    · exact h e q
  · exact h

section
variable {h h' : Hp} {x : BP} {s : BS} {Q : Value → Hp → Prop}

def Te0 (h0 : Hp) (x : BP) (s : BS) (wk : Value) (ks : List PK) (n : Nat) (env : Env) (g : Hp) : Prop :=
  ∃ (i : Nat) (wv gv : Value), i + n = ks.length ∧ Le h0 g ∧ SlAt g 31 9 Tlv.enc wv (waysL s (ks.take i)) ∧ SlAt g 31 9 Tlv.enc gv (goneL s (ks.take i)) ∧ (∀ b, blkOf wv = some b → h0 b = none) ∧ (∀ b, blkOf gv = some b → h0 b = none) ∧ (∀ b, blkOf wv = some b → blkOf gv ≠ some b) ∧
    env 0 = .pointer (some ⟨x.p, 0, none⟩) ∧ env 3 = wv ∧ env 4 = gv ∧ env 15 = wk ∧ env 16 = .int .i64 (ks.length : Nat) ∧ env 17 = .int .i64 (i : Nat)

def Te1 (h0 : Hp) (x : BP) (s0 : BS) (wv gv : Value) (ws gs : List Tlv) (n : Nat) (env : Env) (g : Hp) : Prop :=
  ∃ i : Nat, i + n = ws.length ∧ BQ h0 x ((ws.take i).foldl tellStep s0) g ∧ SeqOk ((ws.take i).foldl tellStep s0).M ∧ SlAt g 31 9 Tlv.enc wv ws ∧ SlAt g 31 9 Tlv.enc gv gs ∧
    env 0 = .pointer (some ⟨x.p, 0, none⟩) ∧ env 3 = wv ∧ env 4 = gv ∧ env 54 = wv ∧ env 55 = .int .i64 (ws.length : Nat) ∧ env 56 = .int .i64 (i : Nat)

set_option maxHeartbeats 2000000 in
set_option maxRecDepth 20000 in
theorem btellM (A : BabAt h x s) (N : BNum s) (hl : s.O.length + s.S.length + s.T.length ≤ 100000) (hQ : ∀ w h', BQ h x (tellS s) h' → SlAt h' 31 9 Tlv.enc w (tellL s) → (∀ b, blkOf w = some b → h b = none) → Q w h') :
    Ok Try.prog F_babel_Babel_Tell #[.pointer (some ⟨x.p, 0, none⟩)] h Q := by
  refine babel_Babel_Tell_ok (by simp) ?_
  unfold babel_Babel_Tell_D
  simp (disch := omega) [babel_Babel_Tell_r0, babel_Babel_Tell_r1, babel_Babel_Tell_r2]
  refine bprefM A hl (fun wk h1 l1 Sk nk => ?_)
  have hkl := prefL_length (s := s)
  unfold tellS tellL at hQ
  generalize prefL s = ks at *
  obtain ⟨sp, scap, hwk⟩ := Sk.shape'
  have A1 := A.le' l1
  simp (disch := omega) [hwk]
  refine ⟨Te0 h1 x s wk ks, ⟨ks.length, 0, .slice none 0 0, .slice none 0 0, by omega, .refl _, .inl ⟨rfl, rfl⟩, .inl ⟨rfl, rfl⟩, by simp [blkOf], by simp [blkOf], by simp [blkOf], by simp, by simp, by simp, by simp [hwk], by simp, by simp⟩, ?_⟩
  rintro n env g ⟨i, wv, gv, hin, lg, Sw, Sg, nw, ng, dis, e0, e3, e4, e15, e16, e17⟩
  unfold babel_Babel_Tell_L0
  have hwl : (waysL s (ks.take i)).length ≤ ks.length := Nat.le_trans waysL_length (by rw [List.length_take]; omega)
  have hgl : (goneL s (ks.take i)).length ≤ ks.length := Nat.le_trans goneL_length (by rw [List.length_take]; omega)
  by_cases hm : n = 0
  · have : i = ks.length := by omega
    subst this
    rw [List.take_of_length_le (Nat.le_refl _)] at Sw Sg
    have Ag := A1.le' lg
    have hp := Ag.pt
    simp (disch := omega) [babel_Babel_Tell_r3, babel_Babel_Tell_r13, e0, e3, e4, e15, e16, e17, hp]
    refine clearP Ag.md (fun o M5 => ?_)
    have B0 := BQ.le' (l1.trans lg) (Ag.setS M5 .nil)
    generalize hg2 : g.upd x.d o = g2 at *
    have offW : ∀ y ∈ ownB x, blkOf wv ≠ some y := fun y hy e => by obtain ⟨o, e2⟩ := A1.alive y hy; rw [nw y e] at e2; cases e2
    have offG : ∀ y ∈ ownB x, blkOf gv ≠ some y := fun y hy e => by obtain ⟨o, e2⟩ := A1.alive y hy; rw [ng y e] at e2; cases e2
    have md : x.d ∈ ownB x := mem_ownB.2 (.inr (.inr (.inr (.inr rfl))))
    replace Sw : SlAt g2 31 9 Tlv.enc wv (waysL s ks) := Sw.keep fun b o' e e2 => by rw [← hg2, upd_ne (fun q => offW _ md (by rw [← q]; exact e))]; exact e2
    replace Sg : SlAt g2 31 9 Tlv.enc gv (goneL s ks) := Sg.keep fun b o' e e2 => by rw [← hg2, upd_ne (fun q => offG _ md (by rw [← q]; exact e))]; exact e2
    have hok := waysL_ok N (ks := ks)
    have hwsl := waysL_length (s := s) (ks := ks)
    have hgsl := goneL_length (s := s) (ks := ks)
    have nw' : ∀ b, blkOf wv = some b → h b = none := fun b e => none_of_le l1 (nw b e)
    generalize waysL s ks = ws at *
    generalize goneL s ks = gs at *
    obtain ⟨wp, wcap, hwv⟩ := Sw.shape'
    simp (disch := omega) [babel_Babel_Tell_r14, e3, hwv]
    refine ⟨Te1 h x { s with S := [] } wv gv ws gs, ⟨ws.length, 0, by omega, by simpa using B0, N.m, Sw, Sg, by simp [e0], by simp [e3, hwv], by simp [e4], by simp [hwv], by simp, by simp⟩, ?_⟩
    clear e0 e3 e4 e15 e16 e17
    rintro n env g3 ⟨i, hin, B, hM, Sw3, Sg3, e0, e3, e4, e54, e55, e56⟩
    unfold babel_Babel_Tell_L1
    by_cases hm2 : n = 0
    · have : i = ws.length := by omega
      subst this
      rw [List.take_of_length_le (Nat.le_refl _)] at B
      simp (disch := omega) [babel_Babel_Tell_r15, babel_Babel_Tell_r20, e0, e3, e4, e54, e55, e56]
      refine cat_api_BabelTlv Sw3 (Sg3.toSrc (fun y _ => Tlv.one y)) (by omega) (fun w' g4 S4 G4 => ?_)
      simp (disch := omega)
      have F4 := G4.fr
      have B4 : BQ h x (ws.foldl tellStep { s with S := [] }) g4 := ⟨B.at_.keep (fun y o' hy e => G4.keep y o' e (fun q => offW y hy q.symm)), ⟨fun y o' e nn => G4.keep y o' (B.fr.keep y o' e nn) (fun q => by rw [nw' y q.symm] at e; cases e), fun _ m => .inl m⟩⟩
      refine .to _ (.refl _) (hQ _ _ B4 S4 (fun b e => ?_))
      rcases G4.fresh with q1 | q1
      · exact nw' b (by rw [← q1]; exact e)
      · have := q1 b e
        cases hb : h b with
        | none => rfl
        | some o' =>
          by_cases hm : b ∈ ownB x
          · obtain ⟨o2, e2⟩ := B.at_.alive b hm; rw [this] at e2; cases e2
          · rw [B.fr.keep b o' hb hm] at this; cases this
    · obtain ⟨t, ht⟩ : ∃ t, ws[i]? = some t := ⟨_, List.getElem?_eq_getElem (by omega)⟩
      obtain ⟨b, cap, c, hv', hb, c0, c1, c2, c3, c4, c5, c6, c7, c8⟩ := Tlv_at Sw3 ht
      have hi' : i < ws.length := by omega
      have tok := hok t (List.mem_of_getElem? ht)
      have hfold : (ws.take (i + 1)).foldl tellStep { s with S := [] } = tellStep ((ws.take i).foldl tellStep { s with S := [] }) t := by rw [take_snoc ht, List.foldl_append]; rfl
      generalize (ws.take i).foldl tellStep { s with S := [] } = si at *
      simp (disch := omega) [babel_Babel_Tell_r15, babel_Babel_Tell_r16, e0, e3, e4, e54, e55, e56, hv', hb, c0, c1, c2, c3, c4, c5, c6, c7, c8, hi']
      intro b13 hb13
      have L13 : Le g3 (g3.upd b13 (.cells t.cells 31)) := .new hb13
      have f13 : (g3.upd b13 (.cells t.cells 31)) b13 = some (.cells t.cells 31 (0, 0)) := upd_same
      have n13 : b13 ∉ ownB x := fun q => by obtain ⟨o, e⟩ := B.at_.alive _ q; rw [hb13] at e; cases e
      simp (disch := omega)
      show babel_Babel_Tell_r17 _ (g3.upd b13 (.cells t.cells 31)) _
      generalize g3.upd b13 (.cells t.cells 31) = g4 at *
      have B4 : BQ h x si g4 := ⟨B.at_.le' L13, ⟨fun y o' e nn => L13 _ _ (B.fr.keep y o' e nn), fun _ m => .inl m⟩⟩
      have hp4 := B4.at_.pt
      have Sw4 := Sw3.le' L13
      have Sg4 := Sg3.le' L13
      simp (disch := omega) [babel_Babel_Tell_r17, e0, hp4, f13]
      refine putP (p := (t.a, t.l)) (v := t) B4.at_.md (fun o5 M5 => ?_)
      have B5 := B4.at_.setS M5 B4.at_.ud.set
      have f135 : (g4.upd x.d o5) b13 = some (.cells t.cells 31 (0, 0)) := by rw [upd_ne (fun q => n13 (by rw [q]; exact md))]; exact f13
      have Sw5 : SlAt (g4.upd x.d o5) 31 9 Tlv.enc wv ws := Sw4.keep fun b o' e e2 => by rw [upd_ne (fun q => offW _ md (by rw [← q]; exact e))]; exact e2
      have Sg5 : SlAt (g4.upd x.d o5) 31 9 Tlv.enc gv gs := Sg4.keep fun b o' e e2 => by rw [upd_ne (fun q => offG _ md (by rw [← q]; exact e))]; exact e2
      have BB5 := B4.trans B5
      simp (disch := omega)
      show babel_Babel_Tell_r18 _ (g4.upd x.d o5) _
      generalize g4.upd x.d o5 = g5 at *
      simp (disch := omega) [babel_Babel_Tell_r18, e0, f135]
      refine bKnowM (k := (t.a, t.l)) B5.at_ hM tok.1 tok.2 (fun g6 B6 => ?_)
      have BB6 := BB5.trans B6
      have Sw6 : SlAt g6 31 9 Tlv.enc wv ws := Sw5.keep fun b o' e e2 => B6.fr.keep b o' e2 (fun q => offW b q e)
      have Sg6 : SlAt g6 31 9 Tlv.enc gv gs := Sg5.keep fun b o' e e2 => B6.fr.keep b o' e2 (fun q => offG b q e)
      simp (disch := omega) [babel_Babel_Tell_r19, e56, wrap_i64]
      exact ⟨n - 1, by omega, i + 1, by omega, by rw [hfold]; exact BB6, by rw [hfold]; exact knowB_seq hM tok.1, Sw6, Sg6, by simp [e0], by simp [e3, hv'], by simp [e4], by simp [e54, hv'], by simp [e55], by simp⟩
  · obtain ⟨k, hk⟩ : ∃ x, ks[i]? = some x := ⟨_, List.getElem?_eq_getElem (by omega)⟩
    obtain ⟨b, cap, c, hv', hb, c0, c1⟩ := kq_at (Sk.le' lg) hk
    have hi' : i < ks.length := by omega
    have tk := take_snoc hk
    simp (disch := omega) [babel_Babel_Tell_r3, babel_Babel_Tell_r4, e0, e3, e4, e15, e16, e17, hv', hb, c0, c1, hi']
    intro b6 hb6
    have L6 : Le g (g.upd b6 (.cells (kencP k).toArray 24)) := .new hb6
    have f6 : (g.upd b6 (.cells (kencP k).toArray 24)) b6 = some (.cells (kencP k).toArray 24 (0, 0)) := upd_same
    simp (disch := omega)
    show babel_Babel_Tell_r5 _ (g.upd b6 (.cells (kencP k).toArray 24)) _
    generalize g.upd b6 (.cells (kencP k).toArray 24) = g1 at *
    have lg1 := lg.trans L6
    simp (disch := omega) [babel_Babel_Tell_r5, e0, f6]
    refine bwayM (k := k) (A1.le' lg1) N.m N.tld (fun g2 l2 => ?_)
    simp (disch := omega)
    intro b7 hb7
    have lg2 := lg1.trans l2
    have L7 : Le g2 (g2.upd b7 (.cells tc0 31)) := .new hb7
    have f7 : (g2.upd b7 (.cells tc0 31)) b7 = some (.cells tc0 31 (0, 0)) := upd_same
    have L7b : ∀ o2, Le g2 ((g2.upd b7 (.cells tc0 31)).upd b7 o2) := fun o2 y o e => by
      have : y ≠ b7 := by rintro rfl; rw [hb7] at e; cases e
      rw [upd_ne this]; exact L7 _ _ e
    generalize g2.upd b7 (.cells tc0 31) = g3 at *
    simp (disch := omega)
    refine (stA_of f7 (by rfl) (by rfl)).mpr ?_
    have L8 := L7b (.cells (bestT (wayB s k)).cells 31 (0, 0))
    have f8 : (g3.upd b7 (.cells (bestT (wayB s k)).cells 31 (0, 0))) b7 = some (.cells (bestT (wayB s k)).cells 31 (0, 0)) := upd_same
    show thenK _ _ _ _ (g3.upd b7 (.cells (bestT (wayB s k)).cells 31 (0, 0)))
    generalize g3.upd b7 (.cells (bestT (wayB s k)).cells 31 (0, 0)) = g4 at *
    have lg4 := lg2.trans L8
    have Sw4 := ((Sw.le' L6).le' l2).le' L8
    have Sg4 := ((Sg.le' L6).le' l2).le' L8
    have f64 := L8 _ _ (l2 _ _ f6)
    have A4 := A1.le' lg4
    have hp4 := A4.pt
    rw [← hv']
    have inv : ∀ (env : Env) (g' : Hp) (wv' gv' : Value), Le h1 g' → SlAt g' 31 9 Tlv.enc wv' (waysL s (ks.take (i + 1))) → SlAt g' 31 9 Tlv.enc gv' (goneL s (ks.take (i + 1))) → (∀ b, blkOf wv' = some b → h1 b = none) → (∀ b, blkOf gv' = some b → h1 b = none) → (∀ b, blkOf wv' = some b → blkOf gv' ≠ some b) →
        env 0 = .pointer (some ⟨x.p, 0, none⟩) → env 3 = wv' → env 4 = gv' → env 15 = wk → env 16 = .int .i64 (ks.length : Nat) → env 17 = .int .i64 (i : Nat) →
        babel_Babel_Tell_r12 env g' (roundK (Te0 h1 x s wk ks) n (inBlk 0 (thenK (sq (rg babel_Babel_Tell_r13) (sq (sq (rg babel_Babel_Tell_r14) (blk 2 (lp babel_Babel_Tell_L1))) (sq (rg babel_Babel_Tell_r20) (ex .ret)))) (fin Try.prog [.tmp 2] Q))) .normal) := by
      intro env g' wv' gv' lg' Sw' Sg' nw' ng' dis' e0 e3 e4 e15 e16 e17
      simp (disch := omega) [babel_Babel_Tell_r12, e17, wrap_i64]
      exact ⟨n - 1, by omega, i + 1, wv', gv', by omega, lg', Sw', Sg', nw', ng', dis', by simp [e0], by simp [e3], by simp [e4], by simp [e15], by simp [e16], by simp⟩
    cases hw : wayB s k with
    | some y =>
      have hs : waysL s (ks.take (i + 1)) = waysL s (ks.take i) ++ [y.1] := by rw [tk, ways_snoc, hw]; simp
      have hg : goneL s (ks.take (i + 1)) = goneL s (ks.take i) := by rw [tk, gone_snoc, hw]; simp
      rw [hw] at f8
      simp (disch := omega) [babel_Babel_Tell_r6, babel_Babel_Tell_r7, e3, f8]
      refine snoc_api_BabelTlv Sw4 (y := y.1) rfl (by simp [Tlv.enc]) (by omega) (fun b9 w' g' S' G hb9 => ?_)
      obtain ⟨lg', nw'⟩ := G.news lg4 nw
      have ne1 : ∀ b, blkOf gv = some b → b ≠ b9 ∧ blkOf wv ≠ some b := fun b e => ⟨(by rintro rfl; obtain ⟨o, e2⟩ := Sg4.alive e; rw [hb9] at e2; cases e2), fun q => dis b q e⟩
      simp (disch := omega)
      refine inv _ g' w' gv lg' (by rw [hs]; exact S') (by rw [hg]; exact Sg4.keep fun b o e e2 => G.keep b o e2 (fun q => (ne1 b e).2 q.symm)) nw' ng (fun b e q => ?_) ?_ ?_ ?_ ?_ ?_ ?_
      · rcases G.fresh with q1 | q1
        · exact dis b (by rw [← q1]; exact e) q
        · obtain ⟨o, e2⟩ := Sg4.alive q; rw [q1 b e] at e2; cases e2
      all_goals simp [e0, e4, e15, e16, e17]
    | none =>
      have hs : waysL s (ks.take (i + 1)) = waysL s (ks.take i) := by rw [tk, ways_snoc, hw]; simp
      have hg : goneL s (ks.take (i + 1)) = goneL s (ks.take i) ++ ((getM s.S k).map goneX).toList := by rw [tk, gone_snoc, hw]; simp
      have lk : ∀ h2, Le g4 h2 → _ := fun h2 l2 => lookO (k := k) (A4.le' l2).md
      have lk1 := lk g4 (.refl _)
      simp (disch := omega) [babel_Babel_Tell_r6, babel_Babel_Tell_r8, e0, hp4, f64, lk1]
      intro b10 hb10
      have L10 : Le g4 (g4.upd b10 (.cells tc0 31)) := .new hb10
      have f10 : (g4.upd b10 (.cells tc0 31)) b10 = some (.cells tc0 31 (0, 0)) := upd_same
      have L10b : ∀ o2, Le g4 ((g4.upd b10 (.cells tc0 31)).upd b10 o2) := fun o2 y o e => by
        have : y ≠ b10 := by rintro rfl; rw [hb10] at e; cases e
        rw [upd_ne this]; exact L10 _ _ e
      generalize g4.upd b10 (.cells tc0 31) = g5 at *
      have lk2 := lk g5 L10
      have f65 := L10 _ _ f64
      have hp5 := L10 _ _ hp4
      simp (disch := omega) [hp5, f65, lk2, f10]
      refine (stA_of f10 (by rfl) (by rfl)).mpr ⟨trivial, ?_⟩
      cases hgS : getM s.S k with
      | none =>
        rw [hgS] at hg
        simp only [Option.map_none, Option.toList_none, List.append_nil] at hg
        have L11 := L10b (.cells tlv0.cells 31 (0, 0))
        simp (disch := omega) [babel_Babel_Tell_r9]
        refine inv _ _ wv gv (lg4.trans L11) (by rw [hs]; exact Sw4.le' L11) (by rw [hg]; exact Sg4.le' L11) nw ng dis ?_ ?_ ?_ ?_ ?_ ?_ <;> simp [e0, e3, e4, e15, e16, e17]
      | some t =>
        rw [hgS] at hg
        simp only [Option.map_some, Option.toList_some] at hg
        have L11 := L10b (.cells (goneX t).cells 31 (0, 0))
        have f11 : (g5.upd b10 (.cells (goneX t).cells 31 (0, 0))) b10 = some (.cells (goneX t).cells 31 (0, 0)) := upd_same
        simp (disch := omega) [babel_Babel_Tell_r9, babel_Babel_Tell_r10]
        show babel_Babel_Tell_r11 _ (g5.upd b10 (.cells (goneX t).cells 31 (0, 0))) _
        have Sw5 := Sw4.le' L11
        have Sg5 := Sg4.le' L11
        have lg5 := lg4.trans L11
        generalize g5.upd b10 (.cells (goneX t).cells 31 (0, 0)) = g6 at *
        simp (disch := omega) [babel_Babel_Tell_r11, e4, f11]
        refine snoc_api_BabelTlv Sg5 (y := goneX t) rfl (by simp [Tlv.enc]) (by omega) (fun b9 w' g' S' G hb9 => ?_)
        obtain ⟨lg', ng'⟩ := G.news lg5 ng
        simp (disch := omega)
        refine inv _ g' wv w' lg' (by rw [hs]; exact Sw5.keep fun b o e e2 => G.keep b o e2 (fun q => dis b e q.symm)) (by rw [hg]; exact S') nw ng' (fun b e q => ?_) ?_ ?_ ?_ ?_ ?_ ?_
        · rcases G.fresh with q1 | q1
          · exact dis b e (by rw [← q1]; exact q)
          · obtain ⟨o, e2⟩ := Sw5.alive e; rw [q1 b q] at e2; cases e2
        all_goals simp [e0, e3, e15, e16, e17]
end
end Go.Proofs.Ytchbipkoifmmdaa

/- Babel: awake. -/
namespace Go.Proofs.Ytchbipkoifmmdaa
open Go
set_option linter.unusedSimpArgs false
set_option linter.unusedVariables false

def aw0 : BS := ⟨1, 0, 10, 0, [], [], [], []⟩
def awT (c : Int) : Tlv := ⟨2, 1, 0, c, 0, 0, 7, 0, 0⟩
def aw1 : BS := ⟨1, 0, 10, 0, [], [(((0, 0), 2), (96, awT 10))], [], []⟩
def awR : Tlv := ⟨2, 1, 400, 106, 0, 0, 7, 0, 0⟩
def aw2 : BS := ⟨1, 0, 10, 0, [], [(((0, 0), 2), (96, awT 10))], [(((0, 0), 7), (1, 106))], [((0, 0), awR)]⟩
def aw4 : BS := ⟨1, 0, 10, 0, [], [(((0, 0), 2), (96, awT 10)), (((0, 0), 3), (1, awT 105))], [(((0, 0), 7), (1, 106))], [((0, 0), awR)]⟩
theorem aw_1 : bhear aw0 2 96 (awT 10) = (true, 0, aw1) := by kernel_rfl
theorem aw_2 : tellS aw1 = aw2 := by kernel_rfl
theorem aw_all : allB aw1 (prefL aw1) = [⟨0, 0, 0, 115, 106, 2, 0⟩] := by kernel_rfl
theorem aw_tell : tellL aw1 = [awR] := by kernel_rfl
theorem aw_3 : bhear aw2 3 1 (awT 106) = (false, 0, aw2) := by kernel_rfl
theorem aw_4 : bhear aw2 3 1 (awT 105) = (true, 0, aw4) := by kernel_rfl

section
variable {h h' : Hp} {Q : Value → Hp → Prop}
set_option maxHeartbeats 1000000 in
set_option maxRecDepth 20000 in
theorem awake17 (hQ : ∀ h', Le h h' → Q (.bool true) h') : Ok Try.prog F_octroilaw17_awake #[] h Q := by
  refine octroilaw17_awake_ok (by simp) ?_
  unfold octroilaw17_awake_D
  simp (disch := omega) [octroilaw17_awake_r0, octroilaw17_awake_r1]
  refine bnewM (id := 1) (fun x h1 l1 n1 A1 => ?_)
  simp (disch := omega) [octroilaw17_awake_r2, octroilaw17_awake_r4]
  intro b2 hb2
  have n2 : b2 ∉ ownB x := fun q => by obtain ⟨o, e⟩ := A1.alive _ q; rw [hb2] at e; cases e
  have L2 : Le h1 (h1.upd b2 (.cells (awT 10).cells 31)) := .new hb2
  have f2 : (h1.upd b2 (.cells (awT 10).cells 31)) b2 = some (.cells (awT 10).cells 31 (0, 0)) := upd_same
  simp (disch := omega)
  show octroilaw17_awake_r5 _ (h1.upd b2 (.cells (awT 10).cells 31)) _
  generalize h1.upd b2 (.cells (awT 10).cells 31) = h2 at *
  replace A1 : BabAt h2 x aw0 := A1.le' L2
  have n0 : ∀ y, y ∈ ownB x → h y = none := n1
  simp (disch := omega) [octroilaw17_awake_r5, f2]
  refine bHearM (t := awT 10) (s := aw0) A1 (by simp [SeqOk, aw0]) (by decide) (by decide) (by decide) (fun h3 B3 => ?_)
  rw [aw_1] at B3 ⊢
  simp only at B3 ⊢
  have A3 := B3.at_
  have f23 := B3.fr.keep _ _ f2 n2
  have k3 : ∀ y o, h y = some o → y ∉ ownB x → h3 y = some o := fun y o e nn => B3.fr.keep _ _ (L2 _ _ (l1 _ _ e)) nn
  simp (disch := omega) [octroilaw17_awake_r6]
  refine ballM A3 (by simp [SeqOk, aw1]) (by simp [TldOk, aw1, awT]) (by simp [aw1]) (fun w4 h4 l4 S4 nw4 => ?_)
  rw [aw_all] at S4
  have A4 := A3.le' l4
  have off4 : ∀ b, blkOf w4 = some b → b ∉ ownB x := fun b e q => by obtain ⟨o, e2⟩ := A3.alive b q; rw [nw4 b e] at e2; cases e2
  simp (disch := omega) [octroilaw17_awake_r7]
  refine btellM A4 ⟨by simp [aw1], by simp [SeqOk, aw1], by simp [aw1, awT], by simp [aw1]⟩ (by simp [aw1]) (fun w5 h5 B5 S5 nw5 => ?_)
  rw [aw_2] at B5
  rw [aw_tell] at S5
  have A5 := B5.at_
  have S45 : SlAt h5 38 7 Rt.enc w4 [⟨0, 0, 0, 115, 106, 2, 0⟩] := S4.keep fun b o e e2 => B5.fr.keep _ _ e2 (off4 b e)
  have f25 := B5.fr.keep _ _ (l4 _ _ f23) n2
  have k5 : ∀ y o, h y = some o → y ∉ ownB x → h5 y = some o := fun y o e nn => B5.fr.keep _ _ (l4 _ _ (k3 y o e nn)) nn
  have off5 : ∀ b, blkOf w5 = some b → b ∉ ownB x := fun b e q => by obtain ⟨o, e2⟩ := A4.alive b q; rw [nw5 b e] at e2; cases e2
  have b42 : blkOf w4 ≠ some b2 := fun e => by have := nw4 _ e; rw [f23] at this; cases this
  have b52 : blkOf w5 ≠ some b2 := fun e => by have := nw5 _ e; rw [l4 _ _ f23] at this; cases this
  have hb2' : h b2 = none := none_of_le l1 hb2
  simp (disch := omega) [octroilaw17_awake_r8, f25]
  show octroilaw17_awake_r9 _ (h5.upd b2 (.cells (awT 106).cells 31 (0, 0))) _
  have f26 : (h5.upd b2 (.cells (awT 106).cells 31 (0, 0))) b2 = some (.cells (awT 106).cells 31 (0, 0)) := upd_same
  have A6 : BabAt (h5.upd b2 (.cells (awT 106).cells 31 (0, 0))) x aw2 := A5.keep fun y o hy e => by rw [upd_ne (fun q => n2 (by rw [← q]; exact hy))]; exact e
  have S46 : SlAt (h5.upd b2 (.cells (awT 106).cells 31 (0, 0))) 38 7 Rt.enc w4 [⟨0, 0, 0, 115, 106, 2, 0⟩] := S45.keep fun b o e e2 => by rw [upd_ne (fun q => b42 (by rw [← q]; exact e))]; exact e2
  have S56 : SlAt (h5.upd b2 (.cells (awT 106).cells 31 (0, 0))) 31 9 Tlv.enc w5 [awR] := S5.keep fun b o e e2 => by rw [upd_ne (fun q => b52 (by rw [← q]; exact e))]; exact e2
  have k6 : ∀ y o, h y = some o → y ∉ ownB x → (h5.upd b2 (.cells (awT 106).cells 31 (0, 0))) y = some o := fun y o e nn => by rw [upd_ne (by rintro rfl; rw [hb2'] at e; cases e)]; exact k5 y o e nn
  generalize h5.upd b2 (.cells (awT 106).cells 31 (0, 0)) = h6 at *
  simp (disch := omega) [octroilaw17_awake_r9, f26]
  refine bHearM (t := awT 106) (s := aw2) A6 (by simp [SeqOk, aw2]) (by decide) (by decide) (by decide) (fun h7 B7 => ?_)
  rw [aw_3] at B7 ⊢
  simp only at B7 ⊢
  have f27 := B7.fr.keep _ _ f26 n2
  have S47 : SlAt h7 38 7 Rt.enc w4 [⟨0, 0, 0, 115, 106, 2, 0⟩] := S46.keep fun b o e e2 => B7.fr.keep _ _ e2 (off4 b e)
  have S57 : SlAt h7 31 9 Tlv.enc w5 [awR] := S56.keep fun b o e e2 => B7.fr.keep _ _ e2 (off5 b e)
  have k7 : ∀ y o, h y = some o → y ∉ ownB x → h7 y = some o := fun y o e nn => B7.fr.keep _ _ (k6 y o e nn) nn
  simp (disch := omega) [octroilaw17_awake_r10, f27]
  show octroilaw17_awake_r11 _ (h7.upd b2 (.cells (awT 105).cells 31 (0, 0))) _
  have f28 : (h7.upd b2 (.cells (awT 105).cells 31 (0, 0))) b2 = some (.cells (awT 105).cells 31 (0, 0)) := upd_same
  have A8 : BabAt (h7.upd b2 (.cells (awT 105).cells 31 (0, 0))) x aw2 := B7.at_.keep fun y o hy e => by rw [upd_ne (fun q => n2 (by rw [← q]; exact hy))]; exact e
  have S48 : SlAt (h7.upd b2 (.cells (awT 105).cells 31 (0, 0))) 38 7 Rt.enc w4 [⟨0, 0, 0, 115, 106, 2, 0⟩] := S47.keep fun b o e e2 => by rw [upd_ne (fun q => b42 (by rw [← q]; exact e))]; exact e2
  have S58 : SlAt (h7.upd b2 (.cells (awT 105).cells 31 (0, 0))) 31 9 Tlv.enc w5 [awR] := S57.keep fun b o e e2 => by rw [upd_ne (fun q => b52 (by rw [← q]; exact e))]; exact e2
  have k8 : ∀ y o, h y = some o → y ∉ ownB x → (h7.upd b2 (.cells (awT 105).cells 31 (0, 0))) y = some o := fun y o e nn => by rw [upd_ne (by rintro rfl; rw [hb2'] at e; cases e)]; exact k7 y o e nn
  generalize h7.upd b2 (.cells (awT 105).cells 31 (0, 0)) = h8 at *
  simp (disch := omega) [octroilaw17_awake_r11, f28]
  refine bHearM (t := awT 105) (s := aw2) A8 (by simp [SeqOk, aw2]) (by decide) (by decide) (by decide) (fun h9 B9 => ?_)
  rw [aw_4] at B9 ⊢
  simp only at B9 ⊢
  have S49 : SlAt h9 38 7 Rt.enc w4 [⟨0, 0, 0, 115, 106, 2, 0⟩] := S48.keep fun b o e e2 => B9.fr.keep _ _ e2 (off4 b e)
  have S59 : SlAt h9 31 9 Tlv.enc w5 [awR] := S58.keep fun b o e e2 => B9.fr.keep _ _ e2 (off5 b e)
  have k9 : Le h h9 := fun y o e => B9.fr.keep _ _ (k8 y o e (fun q => by rw [n0 y q] at e; cases e)) (fun q => by rw [n0 y q] at e; cases e)
  obtain ⟨b1, cc1, d1, e1, hbb1, q1⟩ := rt_at (i := 0) S49 rfl
  obtain ⟨b2', cc2, d2, e2, hbb2, q2⟩ := Tlv_at (i := 0) S59 rfl
  simp only [List.length_singleton] at e1 e2
  subst e1 e2
  simp [awR] at q1 q2
  simp (disch := omega) [octroilaw17_awake_r12, hbb1, hbb2, q1, q2]
  exact .to _ (.refl _) (hQ _ k9)
end
end Go.Proofs.Ytchbipkoifmmdaa

/- Op17: a flat struct (printed by wip/lib/struct.py). -/
namespace Go.Proofs.Ytchbipkoifmmdaa
open Go
set_option linter.unusedSimpArgs false
set_option linter.unusedVariables false

structure Op17 where
  k : Int
  f : Int
  n : Int
  tk : Int
  ts : Nat
  tiv : Int
  tc : Int
  ta : Nat
  tl : Int
  trt : Nat
  ttg : Nat
  thp : Int
deriving DecidableEq

def Op17.enc (x : Op17) : List Value := [.int .i64 x.k, .int .i64 x.f, .int .i64 x.n, .int .i64 x.tk, .int .u16 (x.ts : Nat), .int .i64 x.tiv, .int .i64 x.tc, .int .u32 (x.ta : Nat), .int .i64 x.tl, .int .u64 (x.trt : Nat), .int .u16 (x.ttg : Nat), .int .i64 x.thp]
abbrev Op17v (x : Op17) : Value := .agg #[.int .i64 x.k, .int .i64 x.f, .int .i64 x.n, .int .i64 x.tk, .int .u16 (x.ts : Nat), .int .i64 x.tiv, .int .i64 x.tc, .int .u32 (x.ta : Nat), .int .i64 x.tl, .int .u64 (x.trt : Nat), .int .u16 (x.ttg : Nat), .int .i64 x.thp]
abbrev Op17.cells (x : Op17) : Array Value := #[.int .i64 x.k, .int .i64 x.f, .int .i64 x.n, .int .i64 x.tk, .int .u16 (x.ts : Nat), .int .i64 x.tiv, .int .i64 x.tc, .int .u32 (x.ta : Nat), .int .i64 x.tl, .int .u64 (x.trt : Nat), .int .u16 (x.ttg : Nat), .int .i64 x.thp]
structure Op17.Good (x : Op17) : Prop where
  ts : x.ts < 2 ^ 16
  ta : x.ta < 2 ^ 32
  trt : x.trt < 2 ^ 64
  ttg : x.ttg < 2 ^ 16
theorem Op17.one (x : Op17) : (Op17.enc x).length = 12 ∧ ∀ u ∈ Op17.enc x, oneCell u = true := ⟨rfl, by simp [Op17.enc]⟩

theorem Op17_at {h : Hp} {v : Value} {xs : List Op17} {i : Nat} {x : Op17} (S : SlAt h 47 12 Op17.enc v xs) (hx : xs[i]? = some x) :
    ∃ b cap c, v = .slice (some ⟨b, 0, none⟩) xs.length cap ∧ h b = some (.cells c 47 (0, 0)) ∧ c[i * 12]? = some (.int .i64 x.k) ∧ c[i * 12 + 1]? = some (.int .i64 x.f) ∧ c[i * 12 + 2]? = some (.int .i64 x.n) ∧ c[i * 12 + 3]? = some (.int .i64 x.tk) ∧ c[i * 12 + 4]? = some (.int .u16 (x.ts : Nat)) ∧ c[i * 12 + 5]? = some (.int .i64 x.tiv) ∧ c[i * 12 + 6]? = some (.int .i64 x.tc) ∧ c[i * 12 + 7]? = some (.int .u32 (x.ta : Nat)) ∧ c[i * 12 + 8]? = some (.int .i64 x.tl) ∧ c[i * 12 + 9]? = some (.int .u64 (x.trt : Nat)) ∧ c[i * 12 + 10]? = some (.int .u16 (x.ttg : Nat)) ∧ c[i * 12 + 11]? = some (.int .i64 x.thp) := by
  obtain ⟨b, cap, c, e, hb, H⟩ := SlAt.at' S hx
  exact ⟨b, cap, c, e, hb, H 0 (by omega), H 1 (by omega), H 2 (by omega), H 3 (by omega), H 4 (by omega), H 5 (by omega), H 6 (by omega), H 7 (by omega), H 8 (by omega), H 9 (by omega), H 10 (by omega), H 11 (by omega)⟩

def Op17Ks : List Lk := [.int .i64, .int .i64, .int .i64, .int .i64, .int .u16, .int .i64, .int .i64, .int .u32, .int .i64, .int .u64, .int .u16, .int .i64]
theorem dec_Op17 {H : Type} {enc : TypeId × Value → H} {w : World} {base : Nat} {spare : Nat → Bool} {held : Bool} (cs : List Value) (h : okLs enc Try.prog w base spare held Op17Ks cs) : ∃ x : Op17, cs = x.enc ∧ x.Good := by
  obtain ⟨a0, _, rfl, w0, h⟩ := okLs_int h
  obtain ⟨a1, _, rfl, w1, h⟩ := okLs_int h
  obtain ⟨a2, _, rfl, w2, h⟩ := okLs_int h
  obtain ⟨a3, _, rfl, w3, h⟩ := okLs_int h
  obtain ⟨a4, _, rfl, w4, h⟩ := okLs_int h
  obtain ⟨a5, _, rfl, w5, h⟩ := okLs_int h
  obtain ⟨a6, _, rfl, w6, h⟩ := okLs_int h
  obtain ⟨a7, _, rfl, w7, h⟩ := okLs_int h
  obtain ⟨a8, _, rfl, w8, h⟩ := okLs_int h
  obtain ⟨a9, _, rfl, w9, h⟩ := okLs_int h
  obtain ⟨a10, _, rfl, w10, h⟩ := okLs_int h
  obtain ⟨a11, _, rfl, w11, h⟩ := okLs_int h
  obtain rfl := okLs_nil h
  obtain ⟨b4, rfl, g4⟩ := u16_wf w4
  obtain ⟨b7, rfl, g7⟩ := u32_wf w7
  obtain ⟨b9, rfl, g9⟩ := u64_wf w9
  obtain ⟨b10, rfl, g10⟩ := u16_wf w10
  exact ⟨⟨a0, a1, a2, a3, b4, a5, a6, b7, a8, b9, b10, a11⟩, rfl, ⟨g4, g7, g9, g10⟩⟩
end Go.Proofs.Ytchbipkoifmmdaa

/- Babel: a call of any kind; what stays behind any. -/
namespace Go.Proofs.Ytchbipkoifmmdaa
open Go
set_option linter.unusedSimpArgs false
set_option linter.unusedVariables false

abbrev opT (o : Op17) : Tlv := ⟨o.tk, o.ts, o.tiv, o.tc, o.ta, o.tl, o.trt, o.ttg, o.thp⟩
def callS (s : BS) (o : Op17) : BS × List Tlv :=
  if o.k = 0 then (bownS s (o.ta, o.tl) o.n o.ttg, [])
  else if o.k = 1 then (bdropS s (o.ta, o.tl), [])
  else if o.k = 2 then ({ s with seq := raiseN s.seq }, [])
  else if o.k = 3 then ((bhear s o.f o.n (opT o)).2.2, [])
  else if o.k = 4 then ({ s with T := lostT o.f s.T }, [])
  else if o.k = 5 then (tellS s, tellL s)
  else if o.k = 6 then (knowB s (o.ta, o.tl) o.trt o.ts o.n, [])
  else (s, [])

structure BInv (s : BS) : Prop where
  num : BNum s
  lo : s.O.length ≤ 64
  lt : s.T.length ≤ 64
  ls : s.S.length ≤ 128
  mo : s.most ≤ 64

theorem wayN_some {s : BS} {k : PK} : ∀ {n : Nat}, (wayN s k n).isSome = true → ∃ j, (getM s.T (k, j)).isSome = true
  | 0, h => by cases h
  | n + 1, h => by
    rw [wayN] at h
    unfold wayStep at h
    cases hg : getM s.T (k, ((n + 1 : Nat) : Int)) with
    | none => rw [hg] at h; exact wayN_some h
    | some z => exact ⟨_, by rw [hg]; rfl⟩
theorem ways_len {s : BS} : (waysL s (prefL s)).length ≤ s.O.length + s.T.length := by
  have e : ∀ ks : List PK, (waysL s ks).length = (ks.filter fun k => (wayB s k).isSome).length := by
    intro ks
    induction ks with
    | nil => rfl
    | cons k ks ih =>
      unfold waysL at *
      rw [List.filterMap_cons, List.filter_cons]
      cases h : wayB s k with
      | none => simp [ih]
      | some y => simp [ih]
  rw [e]
  have sub := List.Nodup.length_le_of_subset (l₁ := (prefL s).filter fun k => (wayB s k).isSome) (l₂ := s.O.map (·.1) ++ s.T.map (·.1.1)) ((prefL_srt (s := s)).nodup.filter _) (fun k hk => by
    have h2 : (wayB s k).isSome = true := by simpa using (List.mem_filter.1 hk).2
    unfold wayB at h2
    cases hg : getM s.O k with
    | some t => exact List.mem_append_left _ (List.mem_map_of_mem (f := (·.1)) (getM_mem hg))
    | none =>
      rw [hg] at h2
      obtain ⟨j, hj⟩ := wayN_some h2
      obtain ⟨y, hy⟩ := Option.isSome_iff_exists.1 hj
      exact List.mem_append_right _ (List.mem_map.2 ⟨_, getM_mem hy, rfl⟩))
  simpa using sub

theorem know_parts {s : BS} {k : PK} {rt sn : Nat} {n : Int} : (knowB s k rt sn n).O = s.O ∧ (knowB s k rt sn n).T = s.T ∧ (knowB s k rt sn n).S = s.S ∧ (knowB s k rt sn n).seq = s.seq ∧ (knowB s k rt sn n).most = s.most ∧ (knowB s k rt sn n).dom = s.dom ∧ (knowB s k rt sn n).id = s.id := by
  unfold knowB; split <;> exact ⟨rfl, rfl, rfl, rfl, rfl, rfl, rfl⟩
theorem tells_parts : ∀ {ws : List Tlv} {s : BS}, (ws.foldl tellStep s).O = s.O ∧ (ws.foldl tellStep s).T = s.T ∧ (ws.foldl tellStep s).S.length ≤ s.S.length + ws.length ∧ (ws.foldl tellStep s).seq = s.seq ∧ (ws.foldl tellStep s).most = s.most ∧ (ws.foldl tellStep s).dom = s.dom ∧ (ws.foldl tellStep s).id = s.id
  | [], s => ⟨rfl, rfl, by simp, rfl, rfl, rfl, rfl⟩
  | t :: ws, s => by
    obtain ⟨a, b, c, d, e, f, g⟩ := tells_parts (ws := ws) (s := tellStep s t)
    obtain ⟨a', b', c', d', e', f', g'⟩ := know_parts (s := { s with S := setM (t.a, t.l) t s.S }) (k := (t.a, t.l)) (rt := t.rt) (sn := t.s) (n := t.c)
    have hl : (tellStep s t).S.length ≤ s.S.length + 1 := by
      show (knowB _ _ _ _ _).S.length ≤ _
      rw [c']
      show (setM (t.a, t.l) t s.S).length ≤ _
      rw [setM_length]; split <;> omega
    rw [List.foldl_cons]
    exact ⟨a.trans a', b.trans b', by rw [List.length_cons]; omega, d.trans d', e.trans e', f.trans f', g.trans g'⟩
theorem tells_seq : ∀ {ws : List Tlv} {s : BS}, SeqOk s.M → (∀ t ∈ ws, t.s < 65536) → SeqOk (ws.foldl tellStep s).M
  | [], s, h, _ => h
  | t :: ws, s, h, hw => by
    rw [List.foldl_cons]
    exact tells_seq (knowB_seq h (hw t (by simp))) (fun t' h' => hw t' (by simp [h']))

theorem BInv.own {s : BS} (I : BInv s) {k : PK} {n : Int} {tag : Nat} (hk : k.1 < 2 ^ 32) : BInv (bownS s k n tag) := by
  unfold bownS
  split
  · rename_i h0
    have hl : (setM k (ownT s k n tag) s.O).length ≤ 64 := by
      rw [setM_length]
      split
      · exact I.lo
      · rename_i hn
        have hn2 : getM s.O k = none := by cases q : getM s.O k with | none => rfl | some _ => rw [q] at hn; simp at hn
        unfold bownE at h0
        split at h0
        · cases h0
        · split at h0
          · cases h0
          · split at h0
            · cases h0
            · rename_i hf
              have : ¬ 64 ≤ s.O.length := fun q => hf ⟨hn2, q⟩
              omega
    exact ⟨⟨I.num.q, I.num.m, I.num.t, fun e he => by
      rcases setM_mem he with rfl | q
      · exact hk
      · exact I.num.o e q⟩, hl, I.lt, I.ls, I.mo⟩
  · exact I
theorem BInv.drop {s : BS} (I : BInv s) {k : PK} : BInv (bdropS s k) := by
  unfold bdropS
  split
  · exact ⟨⟨I.num.q, I.num.m, I.num.t, fun e he => I.num.o e (delM_sub.subset he)⟩, Nat.le_trans delM_sub.length_le I.lo, I.lt, I.ls, I.mo⟩
  · exact I
theorem BInv.raise {s : BS} (I : BInv s) : BInv { s with seq := raiseN s.seq } := ⟨⟨by show raiseN s.seq < 65536; unfold raiseN; omega, I.num.m, I.num.t, I.num.o⟩, I.lo, I.lt, I.ls, I.mo⟩
theorem BInv.hear {s : BS} (I : BInv s) {f c : Int} {t : Tlv} (hs : t.s < 65536) (ha : t.a < 2 ^ 32) : BInv (bhear s f c t).2.2 := by
  unfold bhear
  split
  · exact I
  · split
    · exact I
    · split
      · exact I
      · split
        · exact ⟨⟨I.num.q, I.num.m, fun e he => I.num.t e (delM_sub.subset he), I.num.o⟩, I.lo, Nat.le_trans delM_sub.length_le I.lt, I.ls, I.mo⟩
        · split
          · exact I
          · rename_i hf
            refine ⟨⟨I.num.q, I.num.m, fun e he => ?_, I.num.o⟩, I.lo, ?_, I.ls, I.mo⟩
            · rcases setM_mem he with rfl | q
              · exact ⟨hs, ha⟩
              · exact I.num.t e q
            · show (setM _ _ s.T).length ≤ 64
              rw [setM_length]
              have hmo := I.mo
              split
              · exact I.lt
              · rename_i hn
                have hn2 : getM s.T ((t.a, t.l), f) = none := by cases q : getM s.T ((t.a, t.l), f) with | none => rfl | some _ => rw [q] at hn; simp at hn
                have : ¬ s.most ≤ (s.T.length : Int) := fun q => hf ⟨hn2, q⟩
                omega
theorem BInv.lose {s : BS} (I : BInv s) {f : Int} : BInv { s with T := lostT f s.T } :=
  ⟨⟨I.num.q, I.num.m, fun e he => I.num.t e (List.mem_filter.1 he).1, I.num.o⟩, I.lo, Nat.le_trans (List.length_filter_le _ _) I.lt, I.ls, I.mo⟩
theorem BInv.tell {s : BS} (I : BInv s) : BInv (tellS s) := by
  unfold tellS
  obtain ⟨a, b, c, d, e, f, g⟩ := tells_parts (ws := waysL s (prefL s)) (s := { s with S := [] })
  have hl := ways_len (s := s)
  have := I.lo
  have := I.lt
  refine ⟨⟨by rw [d]; exact I.num.q, tells_seq I.num.m (fun t ht => (waysL_ok I.num t ht).1), by rw [b]; exact I.num.t, by rw [a]; exact I.num.o⟩, by rw [a]; exact I.lo, by rw [b]; exact I.lt, ?_, by rw [e]; exact I.mo⟩
  have c' : (List.foldl tellStep { s with S := [] } (waysL s (prefL s))).S.length ≤ 0 + (waysL s (prefL s)).length := c
  omega
theorem BInv.know {s : BS} (I : BInv s) {k : PK} {rt sn : Nat} {n : Int} (hs : sn < 65536) : BInv (knowB s k rt sn n) := by
  obtain ⟨a, b, c, d, e, f, g⟩ := know_parts (s := s) (k := k) (rt := rt) (sn := sn) (n := n)
  exact ⟨⟨by rw [d]; exact I.num.q, knowB_seq I.num.m hs, by rw [b]; exact I.num.t, by rw [a]; exact I.num.o⟩, by rw [a]; exact I.lo, by rw [b]; exact I.lt, by rw [c]; exact I.ls, by rw [e]; exact I.mo⟩
theorem BInv.call {s : BS} (I : BInv s) {o : Op17} (og : o.Good) : BInv (callS s o).1 := by
  unfold callS
  split
  · exact I.own og.ta
  · split
    · exact I.drop
    · split
      · exact I.raise
      · split
        · exact I.hear og.ts og.ta
        · split
          · exact I.lose
          · split
            · exact I.tell
            · split
              · exact I.know og.ts
              · exact I

section
variable {h h' : Hp} {x : BP} {s : BS} {Q : Value → Hp → Prop}
set_option maxHeartbeats 1000000 in
set_option maxRecDepth 20000 in
theorem bcallM {o : Op17} (A : BabAt h x s) (I : BInv s) (og : o.Good) (hQ : ∀ w h', BQ h x (callS s o).1 h' → SlAt h' 31 9 Tlv.enc w (callS s o).2 → (∀ b, blkOf w = some b → h b = none) → Q w h') :
    Ok Try.prog F_octroilaw17_call #[.pointer (some ⟨x.p, 0, none⟩), Op17v o] h Q := by
  refine octroilaw17_call_ok (by simp) ?_
  unfold octroilaw17_call_D
  simp (disch := omega) [octroilaw17_call_r0]
  intro b3 hb3
  have l1 : Le h (h.upd b3 (.cells o.cells 47)) := .new hb3
  have f3 : (h.upd b3 (.cells o.cells 47)) b3 = some (.cells o.cells 47 (0, 0)) := upd_same
  show octroilaw17_call_r1 _ (h.upd b3 (.cells o.cells 47)) _
  generalize h.upd b3 (.cells o.cells 47) = h1 at *
  have A1 := A.le' l1
  replace hQ : ∀ w h', BQ h1 x (callS s o).1 h' → SlAt h' 31 9 Tlv.enc w (callS s o).2 → (∀ b, blkOf w = some b → h1 b = none) → Q w h' := fun w h' q1 q2 q3 => hQ w h' (q1.le' l1) q2 (fun b e => none_of_le l1 (q3 b e))
  have nil : (callS s o).2 = [] → ∀ h', BQ h1 x (callS s o).1 h' → Q (.slice none 0 0) h' := fun e h' q => hQ _ h' q (by rw [e]; exact .inl ⟨rfl, rfl⟩) (by simp [blkOf])
  have hlen : s.O.length + s.S.length + s.T.length ≤ 100000 := by have := I.lo; have := I.lt; have := I.ls; omega
  unfold callS at hQ nil
  by_cases k0 : o.k = 0
  · rw [if_pos k0] at nil
    simp (disch := omega) [octroilaw17_call_r1, octroilaw17_call_r2, octroilaw17_call_r3, f3, k0]
    refine bOwnM (k := (o.ta, o.tl)) A1 og.ta og.ttg (fun h' q => ?_)
    simp (disch := omega) [octroilaw17_call_r16]
    exact .to _ (.refl _) (nil rfl _ q)
  rw [if_neg k0] at hQ nil
  by_cases k1 : o.k = 1
  · rw [if_pos k1] at nil
    simp (disch := omega) [octroilaw17_call_r1, octroilaw17_call_r2, octroilaw17_call_r4, octroilaw17_call_r5, f3, k0, k1]
    refine bDropM (k := (o.ta, o.tl)) A1 (fun h' q => ?_)
    simp (disch := omega) [octroilaw17_call_r16]
    exact .to _ (.refl _) (nil rfl _ q)
  rw [if_neg k1] at hQ nil
  by_cases k2 : o.k = 2
  · rw [if_pos k2] at nil
    simp (disch := omega) [octroilaw17_call_r1, octroilaw17_call_r2, octroilaw17_call_r4, octroilaw17_call_r6, octroilaw17_call_r7, f3, k0, k1, k2]
    refine bRaiseM A1 I.num.q (fun h' q => ?_)
    simp (disch := omega) [octroilaw17_call_r16]
    exact .to _ (.refl _) (nil rfl _ q)
  rw [if_neg k2] at hQ nil
  by_cases k3 : o.k = 3
  · rw [if_pos k3] at nil
    simp (disch := omega) [octroilaw17_call_r1, octroilaw17_call_r2, octroilaw17_call_r4, octroilaw17_call_r6, octroilaw17_call_r8, octroilaw17_call_r9, f3, k0, k1, k2, k3]
    refine bHearM (t := opT o) A1 I.num.m og.ts og.ta og.ttg (fun h' q => ?_)
    simp (disch := omega) [octroilaw17_call_r16]
    exact .to _ (.refl _) (nil rfl _ q)
  rw [if_neg k3] at hQ nil
  by_cases k4 : o.k = 4
  · rw [if_pos k4] at nil
    simp (disch := omega) [octroilaw17_call_r1, octroilaw17_call_r2, octroilaw17_call_r4, octroilaw17_call_r6, octroilaw17_call_r8, octroilaw17_call_r10, octroilaw17_call_r11, f3, k0, k1, k2, k3, k4]
    refine bLoseM A1 (fun h' q => ?_)
    simp (disch := omega) [octroilaw17_call_r16]
    exact .to _ (.refl _) (nil rfl _ q)
  rw [if_neg k4] at hQ nil
  by_cases k5 : o.k = 5
  · rw [if_pos k5] at hQ
    simp (disch := omega) [octroilaw17_call_r1, octroilaw17_call_r2, octroilaw17_call_r4, octroilaw17_call_r6, octroilaw17_call_r8, octroilaw17_call_r10, octroilaw17_call_r12, octroilaw17_call_r13, f3, k0, k1, k2, k3, k4, k5]
    refine btellM A1 I.num hlen (fun w h' q S n => ?_)
    simp (disch := omega)
    exact .to _ (.refl _) (hQ _ _ q S n)
  rw [if_neg k5] at hQ nil
  by_cases k6 : o.k = 6
  · rw [if_pos k6] at nil
    simp (disch := omega) [octroilaw17_call_r1, octroilaw17_call_r2, octroilaw17_call_r4, octroilaw17_call_r6, octroilaw17_call_r8, octroilaw17_call_r10, octroilaw17_call_r12, octroilaw17_call_r14, octroilaw17_call_r15, f3, k0, k1, k2, k3, k4, k5, k6]
    refine bKnowM (k := (o.ta, o.tl)) A1 I.num.m og.ts og.ta (fun h' q => ?_)
    simp (disch := omega) [octroilaw17_call_r16]
    exact .to _ (.refl _) (nil rfl _ q)
  rw [if_neg k6] at nil
  simp (disch := omega) [octroilaw17_call_r1, octroilaw17_call_r2, octroilaw17_call_r4, octroilaw17_call_r6, octroilaw17_call_r8, octroilaw17_call_r10, octroilaw17_call_r12, octroilaw17_call_r14, octroilaw17_call_r16, f3, k0, k1, k2, k3, k4, k5, k6]
  exact .to _ (.refl _) (nil rfl _ (.same A1 (.refl _)))
end
end Go.Proofs.Ytchbipkoifmmdaa

/- BabelTags: no route that is taken, or told, has the domain itself in its tag; all that is taken costs less than what is not reached. -/
namespace Go.Proofs.Ytchbipkoifmmdaa
open Go
set_option linter.unusedSimpArgs false
set_option linter.unusedVariables false

theorem hasT_zero' {d : Int} : hasT 0 d = false := by
  unfold hasT
  cases h1 : decide (0 ≤ d) <;> cases h2 : decide (d < 16) <;> simp
def tagOk (dom : Int) (t : Tlv) : Prop := hasT t.tg dom = false ∧ 0 ≤ t.c ∧ t.tg < 2 ^ 16
structure TagI (dom : Int) (s : BS) : Prop where
  d : s.dom = dom
  o : ∀ e ∈ s.O, tagOk dom e.2 ∧ e.2.c < 65535
  t : ∀ e ∈ s.T, tagOk dom e.2.2

theorem cut_c {a b : Int} (h : 0 ≤ a) : 0 ≤ addM a b 65535 := by unfold addM; omega
section
variable {dom : Int} {s : BS}
theorem TagI.wayN (I : TagI dom s) {k : PK} : ∀ {n : Nat} {y : Tlv × Int}, wayN s k n = some y → tagOk dom y.1 ∧ y.1.c < 65535
  | 0, y, h => by cases h
  | n + 1, y, h => by
    rw [Ytchbipkoifmmdaa.wayN] at h
    unfold wayStep at h
    cases hg : getM s.T (k, ((n + 1 : Nat) : Int)) with
    | none => rw [hg] at h; exact TagI.wayN I h
    | some z =>
      rw [hg] at h
      simp only at h
      split at h
      · rename_i hc
        simp at h; subst h
        have := I.t _ (getM_mem hg)
        exact ⟨⟨this.1, cut_c this.2.1, this.2.2⟩, hc.2.1⟩
      · exact TagI.wayN I h
theorem TagI.way (I : TagI dom s) {k : PK} {y : Tlv × Int} (h : wayB s k = some y) : tagOk dom y.1 ∧ y.1.c < 65535 := by
  unfold wayB at h
  cases hg : getM s.O k with
  | none => rw [hg] at h; exact I.wayN h
  | some t => rw [hg] at h; simp at h; subst h; exact I.o _ (getM_mem hg)
theorem TagI.tell (I : TagI dom s) : ∀ t ∈ tellL s, hasT t.tg dom = false ∧ t.tg < 2 ^ 16 := by
  intro t ht
  unfold tellL at ht
  rcases List.mem_append.1 ht with q | q
  · obtain ⟨k, _, h2⟩ := List.mem_filterMap.1 q
    cases h : wayB s k with
    | none => rw [h] at h2; cases h2
    | some y => rw [h] at h2; simp at h2; subst h2; exact ⟨(I.way h).1.1, (I.way h).1.2.2⟩
  · obtain ⟨k, _, h2⟩ := List.mem_filterMap.1 q
    split at h2
    · cases h2
    · cases h : getM s.S k with
      | none => rw [h] at h2; cases h2
      | some y => rw [h] at h2; simp at h2; subst h2; exact ⟨hasT_zero', by simp⟩
theorem TagI.all (I : TagI dom s) : ∀ y ∈ allB s (prefL s), hasT y.tg dom = false ∧ 0 ≤ y.m ∧ y.m < 65535 ∧ y.tg < 2 ^ 16 := by
  intro y hy
  obtain ⟨k, _, h2⟩ := List.mem_filterMap.1 hy
  cases h : wayB s k with
  | none => rw [h] at h2; cases h2
  | some z => rw [h] at h2; simp at h2; subst h2; exact ⟨(I.way h).1.1, (I.way h).1.2.1, (I.way h).2, (I.way h).1.2.2⟩
theorem TagI.call (I : TagI dom s) {o : Op17} (og : o.Good) : TagI dom (callS s o).1 := by
  unfold callS
  split
  · unfold bownS
    split
    · rename_i h0
      refine ⟨I.d, fun e he => ?_, I.t⟩
      rcases setM_mem he with rfl | q
      · unfold bownE at h0
        split at h0
        · cases h0
        · rename_i ha
          split at h0
          · cases h0
          · rename_i ht
            refine ⟨⟨?_, ?_, og.ttg⟩, ?_⟩
            · show hasT o.ttg dom = false
              rw [← I.d]; simpa using ht
            · show 0 ≤ o.n
              exact Int.not_lt.1 fun q => ha (.inr (.inl q))
            · show o.n < 65535
              exact Int.not_le.1 fun q => ha (.inr (.inr q))
      · exact I.o e q
    · exact I
  · split
    · unfold bdropS
      split
      · exact ⟨I.d, fun e he => I.o e (delM_sub.subset he), I.t⟩
      · exact I
    · split
      · exact ⟨I.d, I.o, I.t⟩
      · split
        · unfold bhear
          split
          · exact I
          · rename_i hbad
            split
            · exact I
            · rename_i ht
              split
              · exact I
              · split
                · exact ⟨I.d, I.o, fun e he => I.t e (delM_sub.subset he)⟩
                · split
                  · exact I
                  · refine ⟨I.d, I.o, fun e he => ?_⟩
                    rcases setM_mem he with rfl | q
                    · refine ⟨?_, ?_, og.ttg⟩
                      · show hasT o.ttg dom = false
                        rw [← I.d]; simpa using ht
                      · show 0 ≤ o.tc
                        exact Int.not_lt.1 fun q => hbad (.inr (.inr (.inr (.inr (.inr (.inr (.inl q)))))))
                    · exact I.t e q
        · split
          · exact ⟨I.d, I.o, fun e he => I.t e (List.mem_filter.1 he).1⟩
          · split
            · show TagI dom (tellS s)
              unfold tellS
              obtain ⟨a, b, c, d, e, f, g⟩ := tells_parts (ws := waysL s (prefL s)) (s := { s with S := [] })
              exact ⟨by rw [f]; exact I.d, by rw [a]; exact I.o, by rw [b]; exact I.t⟩
            · split
              · obtain ⟨a, b, c, d, e, f, g⟩ := know_parts (s := s) (k := (o.ta, o.tl)) (rt := o.trt) (sn := o.ts) (n := o.n)
                exact ⟨by rw [f]; exact I.d, by rw [a]; exact I.o, by rw [b]; exact I.t⟩
              · exact I
end

theorem BQ.leN {h g g' : Hp} {x : BP} {s' : BS} (q : BQ g x s' g') (l : Le h g) (n : ∀ y, y ∈ ownB x → h y = none) : Le h g' := fun y o e => q.fr.keep y o (l _ _ e) (fun m => by rw [n y m] at e; cases e)

theorem op17_at {h : Hp} {v : Value} {xs : List Op17} {i : Nat} {x : Op17} (A : ArgSl h 12 Op17.enc Op17.Good v xs) (hx : xs[i]? = some x) :
    x.Good ∧ ∃ b o cap c E fr, v = .slice (some ⟨b, o, none⟩) xs.length cap ∧ h b = some (.cells c E fr) ∧ c[o + i * 12]? = some (.int .i64 x.k) ∧ c[o + i * 12 + 1]? = some (.int .i64 x.f) ∧ c[o + i * 12 + 2]? = some (.int .i64 x.n) ∧ c[o + i * 12 + 3]? = some (.int .i64 x.tk) ∧
      c[o + i * 12 + 4]? = some (.int .u16 (x.ts : Nat)) ∧ c[o + i * 12 + 5]? = some (.int .i64 x.tiv) ∧ c[o + i * 12 + 6]? = some (.int .i64 x.tc) ∧ c[o + i * 12 + 7]? = some (.int .u32 (x.ta : Nat)) ∧ c[o + i * 12 + 8]? = some (.int .i64 x.tl) ∧ c[o + i * 12 + 9]? = some (.int .u64 (x.trt : Nat)) ∧ c[o + i * 12 + 10]? = some (.int .u16 (x.ttg : Nat)) ∧ c[o + i * 12 + 11]? = some (.int .i64 x.thp) := by
  obtain ⟨g, b, o, cap, c, E, fr, e, hb, H⟩ := A.at hx
  exact ⟨g, b, o, cap, c, E, fr, e, hb, H 0 (by omega), H 1 (by omega), H 2 (by omega), H 3 (by omega), H 4 (by omega), H 5 (by omega), H 6 (by omega), H 7 (by omega), H 8 (by omega), H 9 (by omega), H 10 (by omega), H 11 (by omega)⟩

theorem BInv.new {id : Nat} {dom most : Int} : BInv ⟨id, dom, min most 64, 0, [], [], [], []⟩ :=
  ⟨⟨by simp, by simp [SeqOk], by simp, by simp⟩, by simp, by simp, by simp, by simp; omega⟩

def TgInv (h : Hp) (x : BP) (dom : Int) (lv : Value) (l : List Op17) (n : Nat) (env : Env) (g : Hp) : Prop :=
  ∃ (i : Nat) (s : BS), i + n = l.length ∧ BabAt g x s ∧ BInv s ∧ TagI dom s ∧ Le h g ∧ env 1 = .int .i64 dom ∧ env 2 = lv ∧ env 8 = .pointer (some ⟨x.p, 0, none⟩) ∧ env 9 = .int .i64 (i : Nat)
def TgIn0 (g0 : Hp) (x : BP) (dom : Int) (lv w : Value) (i : Nat) (X : List Tlv) (n : Nat) (env : Env) (g : Hp) : Prop :=
  ∃ j : Nat, j + n = X.length ∧ g = g0 ∧ env 1 = .int .i64 dom ∧ env 2 = lv ∧ env 8 = .pointer (some ⟨x.p, 0, none⟩) ∧ env 9 = .int .i64 (i : Nat) ∧ env 10 = w ∧ env 11 = .int .i64 (j : Nat)
def TgIn2 (g0 : Hp) (x : BP) (dom : Int) (w : Value) (Y : List Rt) (n : Nat) (env : Env) (g : Hp) : Prop :=
  ∃ j : Nat, j + n = Y.length ∧ g = g0 ∧ env 1 = .int .i64 dom ∧ env 8 = .pointer (some ⟨x.p, 0, none⟩) ∧ env 12 = w ∧ env 13 = .int .i64 (j : Nat)

set_option maxHeartbeats 1000000 in
set_option maxRecDepth 20000 in
theorem BabelTags_walk {h : Hp} {id : Nat} {dom : Int} {lv : Value} {l : List Op17} (A : ArgSl h 12 Op17.enc Op17.Good lv l) :
    Ok Try.prog F_octroilaw17_BabelTags #[.int .u64 (id : Nat), .int .i64 dom, lv] h (fun v g => v = .bool true ∧ Le h g) := by
  refine octroilaw17_BabelTags_ok (by simp) ?_
  unfold octroilaw17_BabelTags_D
  obtain ⟨ap, acap, hlv⟩ := A.shape
  simp (disch := omega) [octroilaw17_BabelTags_r0, octroilaw17_BabelTags_r1]
  refine awake17 (fun h2 l2 => ?_)
  simp (disch := omega) [octroilaw17_BabelTags_r2]
  refine bnewM (fun x h3 l3 n3 A3 => ?_)
  have hle : Le h h3 := l2.trans l3
  have n0 : ∀ y, y ∈ ownB x → h y = none := fun y hy => none_of_le l2 (n3 y hy)
  by_cases g1 : 150 < (l.length : Int)
  · simp (disch := omega) [octroilaw17_BabelTags_r3, octroilaw17_BabelTags_r4, hlv, g1]
    exact .to _ (.refl _) ⟨rfl, hle⟩
  simp (disch := omega) [octroilaw17_BabelTags_r3, octroilaw17_BabelTags_r5, hlv, g1]
  refine ⟨TgInv h x dom lv l, ⟨l.length, 0, _, by omega, A3, BInv.new, ⟨rfl, by simp, by simp⟩, hle, by simp, by simp [hlv], by simp, by simp⟩, ?_⟩
  rintro n env g ⟨i, s, hin, B, I, J, lg, e1, e2, e8, e9⟩
  unfold octroilaw17_BabelTags_L1
  by_cases hm : n = 0
  · have : i = l.length := by omega
    subst this
    have hlen : s.O.length + s.S.length + s.T.length ≤ 100000 := by have := I.lo; have := I.lt; have := I.ls; omega
    simp (disch := omega) [octroilaw17_BabelTags_r6, octroilaw17_BabelTags_r14, e1, e2, e8, e9, hlv]
    refine ballM B I.num.m I.num.tld hlen (fun w g4 l4 S4 n4 => ?_)
    have B4 := B.le' l4
    have mem := J.all
    have hYl : (allB s (prefL s)).length ≤ 256 := by
      have := prefL_length (s := s)
      have := I.lo; have := I.lt; have := I.ls
      exact Nat.le_trans (List.length_filterMap_le _ _) (by omega)
    generalize allB s (prefL s) = Y at *
    obtain ⟨sp, cap, hw⟩ := S4.shape'
    simp (disch := omega) [octroilaw17_BabelTags_r15]
    refine ⟨TgIn2 g4 x dom w Y, ⟨Y.length, 0, by omega, rfl, by simp [e1], by simp [e8], by simp, by simp⟩, ?_⟩
    clear e1 e2 e8 e9
    rintro n env g5 ⟨j, hjn, rfl, e1, e8, e12, e13⟩
    unfold octroilaw17_BabelTags_L2
    by_cases hm2 : n = 0
    · have : j = Y.length := by omega
      subst this
      simp (disch := omega) [octroilaw17_BabelTags_r16, octroilaw17_BabelTags_r20, e1, e8, e12, e13, hw]
      refine bLenM B4 ?_
      have := I.lt
      have lt' : (s.T.length : Int) ≤ 64 := by omega
      simp (disch := omega) [lt', this]
      exact .to _ (.refl _) ⟨rfl, lg.trans l4⟩
    · obtain ⟨y, hy⟩ : ∃ y, Y[j]? = some y := ⟨_, List.getElem?_eq_getElem (by omega)⟩
      obtain ⟨b2, c2, d2, ez, hb2, t0, t1, t2, t3, t4, t5, t6⟩ := rt_at S4 hy
      have hj' : j < Y.length := by omega
      obtain ⟨m1, m2, m3, m4⟩ := mem y (List.mem_of_getElem? hy)
      have m2' : ¬ y.m < 0 := by omega
      have m3' : ¬ 65535 ≤ y.m := by omega
      simp (disch := omega) [octroilaw17_BabelTags_r16, octroilaw17_BabelTags_r17, e1, e8, e12, e13, ez, hj', hb2, t4, t6]
      refine thas_spec m4 ?_
      rw [m1]
      simp (disch := omega) [octroilaw17_BabelTags_r19, e1, e8, e12, e13, ez, hj', hb2, t4, t6, m2', m3', wrap_i64]
      exact ⟨n - 1, by omega, j + 1, by omega, rfl, by simp [e1], by simp [e8], by simp [e12, ez], by simp⟩
  · obtain ⟨o, ho⟩ : ∃ x, l[i]? = some x := ⟨_, List.getElem?_eq_getElem (by omega)⟩
    obtain ⟨og, b, off, cap, c, E, fr, hv', hb, q0, q1, q2, q3, q4, q5, q6, q7, q8, q9, q10, q11⟩ := op17_at A ho
    have hi' : i < l.length := by omega
    have hbg := lg _ _ hb
    simp (disch := omega) [octroilaw17_BabelTags_r6, octroilaw17_BabelTags_r7, e1, e2, e8, e9, hv', hbg, hi', q0, q1, q2, q3, q4, q5, q6, q7, q8, q9, q10, q11]
    refine bcallM (o := o) B I og (fun w g4 B4 S4 n4 => ?_)
    have lg4 := B4.leN lg n0
    have J4 := J.call og
    have I4 := I.call og
    have mem : ∀ t ∈ (callS s o).2, hasT t.tg dom = false ∧ t.tg < 2 ^ 16 := by
      intro t ht
      unfold callS at ht
      split at ht
      · simp at ht
      · split at ht
        · simp at ht
        · split at ht
          · simp at ht
          · split at ht
            · simp at ht
            · split at ht
              · simp at ht
              · split at ht
                · exact J.tell t ht
                · split at ht <;> simp at ht
    have hXl : (callS s o).2.length ≤ 512 := by
      have := prefL_length (s := s)
      have := I.lo; have := I.lt; have := I.ls
      have k1 := waysL_length (s := s) (ks := prefL s)
      have k2 := goneL_length (s := s) (ks := prefL s)
      have k3 : (tellL s).length ≤ 512 := by unfold tellL; rw [List.length_append]; omega
      unfold callS
      split
      · simp
      · split
        · simp
        · split
          · simp
          · split
            · simp
            · split
              · simp
              · split
                · exact k3
                · split <;> simp
    generalize (callS s o).2 = X at *
    generalize (callS s o).1 = s4 at *
    obtain ⟨sp, scap, hw⟩ := S4.shape'
    simp (disch := omega) [octroilaw17_BabelTags_r8]
    refine ⟨TgIn0 g4 x dom lv w i X, ⟨X.length, 0, by omega, rfl, by simp [e1], by simp [e2], by simp [e8], by simp [e9], by simp, by simp⟩, ?_⟩
    clear e1 e2 e8 e9
    rintro n2 env g5 ⟨j, hjn, rfl, e1, e2, e8, e9, e10, e11⟩
    unfold octroilaw17_BabelTags_L0
    by_cases hm2 : n2 = 0
    · have : j = X.length := by omega
      subst this
      simp (disch := omega) [octroilaw17_BabelTags_r9, octroilaw17_BabelTags_r13, e1, e2, e8, e9, e10, e11, hw, wrap_i64]
      exact ⟨n - 1, by omega, i + 1, s4, by omega, B4.at_, I4, J4, lg4, by simp [e1], by simp [e2], by simp [e8], by simp⟩
    · obtain ⟨y, hy⟩ : ∃ y, X[j]? = some y := ⟨_, List.getElem?_eq_getElem (by omega)⟩
      obtain ⟨b2, c2, d2, ez, hb2, t0, t1, t2, t3, t4, t5, t6, t7, t8⟩ := Tlv_at S4 hy
      have hj' : j < X.length := by omega
      obtain ⟨m1, m2⟩ := mem y (List.mem_of_getElem? hy)
      simp (disch := omega) [octroilaw17_BabelTags_r9, octroilaw17_BabelTags_r10, e1, e2, e8, e9, e10, e11, ez, hj', hb2, t7]
      refine thas_spec m2 ?_
      rw [m1]
      simp (disch := omega) [octroilaw17_BabelTags_r12, e11, wrap_i64]
      exact ⟨n2 - 1, by omega, j + 1, by omega, rfl, by simp [e1], by simp [e2], by simp [e8], by simp [e9], by simp [e10, ez], by simp⟩
end Go.Proofs.Ytchbipkoifmmdaa

/- Babel: what is taken and told is of its prefix; what is told never makes a least worse. -/
namespace Go.Proofs.Ytchbipkoifmmdaa
open Go
set_option linter.unusedSimpArgs false
set_option linter.unusedVariables false

def keyOk (k : PK) (t : Tlv) : Prop := (t.a, t.l) = k ∧ mayB k.1 k.2 = true ∧ 0 ≤ t.c
structure KeyI (s : BS) : Prop where
  o : ∀ e ∈ s.O, keyOk e.1 e.2 ∧ e.2.c < 65535
  t : ∀ e ∈ s.T, keyOk e.1.1 e.2.2
  s : ∀ e ∈ s.S, (e.2.a, e.2.l) = e.1

section
variable {s : BS}
theorem KeyI.wayN (I : KeyI s) {k : PK} : ∀ {n : Nat} {y : Tlv × Int}, wayN s k n = some y → keyOk k y.1 ∧ y.1.c < 65535
  | 0, y, h => by cases h
  | n + 1, y, h => by
    rw [Ytchbipkoifmmdaa.wayN] at h
    unfold wayStep at h
    cases hg : getM s.T (k, ((n + 1 : Nat) : Int)) with
    | none => rw [hg] at h; exact KeyI.wayN I h
    | some z =>
      rw [hg] at h
      simp only at h
      split at h
      · rename_i hc
        simp at h; subst h
        have := I.t _ (getM_mem hg)
        exact ⟨⟨this.1, this.2.1, cut_c this.2.2⟩, hc.2.1⟩
      · exact KeyI.wayN I h
theorem KeyI.way (I : KeyI s) {k : PK} {y : Tlv × Int} (h : wayB s k = some y) : keyOk k y.1 ∧ y.1.c < 65535 := by
  unfold wayB at h
  cases hg : getM s.O k with
  | none => rw [hg] at h; exact I.wayN h
  | some t => rw [hg] at h; simp at h; subst h; exact I.o _ (getM_mem hg)
/-- What is told as reached: each of its own prefix, in order. -/
theorem KeyI.ways (I : KeyI s) : ∀ {ks : List PK}, ks.Nodup → ((waysL s ks).map fun t => (t.a, t.l)).Nodup ∧ ∀ t ∈ waysL s ks, keyOk (t.a, t.l) t ∧ t.c < 65535 ∧ (t.a, t.l) ∈ ks
  | [], _ => by simp [waysL]
  | k :: ks, n => by
    rw [List.nodup_cons] at n
    obtain ⟨h1, h2⟩ := KeyI.ways I n.2
    unfold waysL at *
    rw [List.filterMap_cons]
    cases h : wayB s k with
    | none =>
      simp only [Option.map_none]
      exact ⟨h1, fun t ht => ⟨(h2 t ht).1, (h2 t ht).2.1, List.mem_cons_of_mem _ (h2 t ht).2.2⟩⟩
    | some y =>
      simp only [Option.map_some]
      obtain ⟨⟨q1, q2, q3⟩, q4⟩ := I.way h
      refine ⟨?_, fun t ht => ?_⟩
      · rw [List.map_cons, List.nodup_cons]
        refine ⟨fun hm => ?_, h1⟩
        obtain ⟨t, ht, e⟩ := List.mem_map.1 hm
        have := (h2 t ht).2.2
        rw [show (t.a, t.l) = (y.1.a, y.1.l) from e, q1] at this
        exact n.1 this
      · rcases List.mem_cons.1 ht with rfl | ht
        · exact ⟨⟨rfl, by rw [q1]; exact q2, q3⟩, q4, by rw [q1]; simp⟩
        · exact ⟨(h2 t ht).1, (h2 t ht).2.1, List.mem_cons_of_mem _ (h2 t ht).2.2⟩

/-- Behind, a least is what it was, or better. -/
def noWorse (M M' : MM) (q : PK × Nat) : Prop := ∀ y, getM M q = some y → ∃ z, getM M' q = some z ∧ (z.1 = y.1 → z.2 ≤ y.2) ∧ (z.1 ≠ y.1 → newerB z.1 y.1 = true)
theorem noWorse.refl (M : MM) (q : PK × Nat) : noWorse M M q := fun y h => ⟨y, h, fun _ => Int.le_refl _, fun n => absurd rfl n⟩
theorem noWorse_know {k : PK} {rt sn : Nat} {n : Int} {q : PK × Nat} : noWorse s.M (knowB s k rt sn n).M q := by
  unfold knowB
  split
  · rename_i hc
    intro y hy
    show ∃ z, getM (setM (k, rt) (sn, n) s.M) q = some z ∧ _
    rw [getM_setM]
    by_cases e : q = (k, rt)
    · rw [if_pos e]
      refine ⟨_, rfl, fun h1 => ?_, fun h1 => ?_⟩
      · have hb := hc.2.2.2
        unfold betterB at hb
        rw [← e, hy] at hb
        simp only at hb
        have h1' : sn = y.1 := h1
        rw [h1', show newerB y.1 y.1 = false by unfold newerB; simp] at hb
        simp at hb
        exact Int.le_of_lt hb
      · have hb := hc.2.2.2
        unfold betterB at hb
        rw [← e, hy] at hb
        simp only at hb
        have h1' : ¬ sn = y.1 := h1
        simp [h1'] at hb
        exact hb
    · rw [if_neg e]; exact ⟨y, hy, fun _ => Int.le_refl _, fun n => absurd rfl n⟩
  · exact .refl _ _
/-- A telling of another prefix leaves a least. -/
theorem know_other {k : PK} {rt sn : Nat} {n : Int} {q : PK × Nat} (h : q.1 ≠ k) : getM (knowB s k rt sn n).M q = getM s.M q := by
  unfold knowB
  split
  · show getM (setM (k, rt) (sn, n) s.M) q = _
    rw [getM_setM, if_neg (fun e => h (by rw [e]))]
  · rfl
theorem tells_other : ∀ {ws : List Tlv} {s : BS} {q : PK × Nat}, q.1 ∉ (ws.map fun t => (t.a, t.l)) → getM (ws.foldl tellStep s).M q = getM s.M q
  | [], _, _, _ => rfl
  | t :: ws, s, q, h => by
    rw [List.map_cons, List.mem_cons] at h
    rw [List.foldl_cons, tells_other (fun z => h (.inr z))]
    exact know_other (s := { s with S := setM (t.a, t.l) t s.S }) (fun z => h (.inl z))
theorem noWorse_tells : ∀ {ws : List Tlv} {s : BS} {q : PK × Nat}, (ws.map fun t => (t.a, t.l)).Nodup → noWorse s.M (ws.foldl tellStep s).M q
  | [], s, q, _ => .refl _ _
  | t :: ws, s, q, n => by
    rw [List.map_cons, List.nodup_cons] at n
    rw [List.foldl_cons]
    by_cases e : q.1 = (t.a, t.l)
    · intro y hy
      obtain ⟨z, h1, h2, h3⟩ := noWorse_know (s := { s with S := setM (t.a, t.l) t s.S }) (k := (t.a, t.l)) (rt := t.rt) (sn := t.s) (n := t.c) (q := q) y hy
      exact ⟨z, by rw [tells_other (by rw [e]; exact n.1)]; exact h1, h2, h3⟩
    · intro y hy
      refine noWorse_tells n.2 y ?_
      show getM (knowB _ _ _ _ _).M q = _
      rw [know_other e]; exact hy
end
end Go.Proofs.Ytchbipkoifmmdaa

/- Babel: what is told is not better than the least behind it; keys stay. -/
namespace Go.Proofs.Ytchbipkoifmmdaa
open Go
set_option linter.unusedSimpArgs false
set_option linter.unusedVariables false

def notBetter (M : MM) (t : Tlv) : Prop := ∃ z, getM M (srcK t) = some z ∧ newerB t.s z.1 = false ∧ (t.s = z.1 → ¬ t.c < z.2)
theorem tell_not {s : BS} {t : Tlv} (hk : keyOk (t.a, t.l) t) (hc : t.c < 65535) : notBetter (tellStep s t).M t := by
  unfold tellStep knowB
  by_cases hb : betterB s.M (srcK t) t.s t.c = true
  · rw [if_pos ⟨hk.2.1, hk.2.2, hc, hb⟩]
    refine ⟨(t.s, t.c), ?_, by unfold newerB; simp, fun _ => by simp⟩
    show getM (setM (srcK t) (t.s, t.c) s.M) (srcK t) = _
    rw [getM_setM, if_pos rfl]
  · rw [if_neg (fun q => hb q.2.2.2)]
    have hb' : betterB s.M (srcK t) t.s t.c = false := by simpa using hb
    unfold betterB at hb'
    cases hg : getM s.M (srcK t) with
    | none => rw [hg] at hb'; cases hb'
    | some z =>
      rw [hg] at hb'
      simp only [Bool.or_eq_false_iff, Bool.and_eq_false_iff, decide_eq_false_iff_not] at hb'
      exact ⟨z, hg, hb'.1, fun e => hb'.2.resolve_left (fun q => q e)⟩
theorem tells_not : ∀ {ws : List Tlv} {s : BS} {t : Tlv}, (ws.map fun t => (t.a, t.l)).Nodup → (∀ t ∈ ws, keyOk (t.a, t.l) t ∧ t.c < 65535) → t ∈ ws → notBetter (ws.foldl tellStep s).M t
  | t0 :: ws, s, t, n, hk, ht => by
    rw [List.map_cons, List.nodup_cons] at n
    rw [List.foldl_cons]
    rcases List.mem_cons.1 ht with rfl | ht
    · obtain ⟨z, h1, h2, h3⟩ := tell_not (s := s) (hk t (by simp)).1 (hk t (by simp)).2
      exact ⟨z, by rw [tells_other (q := srcK t) n.1]; exact h1, h2, h3⟩
    · exact tells_not n.2 (fun t h => hk t (by simp [h])) ht

section
variable {s : BS}
theorem KeyI.tellS_S : ∀ {ws : List Tlv} {s : BS}, (∀ e ∈ s.S, (e.2.a, e.2.l) = e.1) → ∀ e ∈ (ws.foldl tellStep s).S, (e.2.a, e.2.l) = e.1
  | [], s, h => h
  | t :: ws, s, h => by
    rw [List.foldl_cons]
    refine KeyI.tellS_S (fun e he => ?_)
    have hp := (know_parts (s := { s with S := setM (t.a, t.l) t s.S }) (k := (t.a, t.l)) (rt := t.rt) (sn := t.s) (n := t.c)).2.2.1
    have he' : e ∈ setM (t.a, t.l) t s.S := by
      have : e ∈ (knowB { s with S := setM (t.a, t.l) t s.S } (t.a, t.l) t.rt t.s t.c).S := he
      rw [hp] at this; exact this
    rcases setM_mem he' with rfl | q
    · rfl
    · exact h e q
theorem KeyI.call (I : KeyI s) {o : Op17} : KeyI (callS s o).1 := by
  unfold callS
  split
  · unfold bownS
    split
    · rename_i h0
      refine ⟨fun e he => ?_, I.t, I.s⟩
      rcases setM_mem he with rfl | q
      · unfold bownE at h0
        split at h0
        · cases h0
        · rename_i ha
          refine ⟨⟨rfl, ?_, ?_⟩, ?_⟩
          · show mayB o.ta o.tl = true
            cases hm : mayB o.ta o.tl with
            | true => rfl
            | false => exact absurd (.inl hm) ha
          · show 0 ≤ o.n
            exact Int.not_lt.1 fun q => ha (.inr (.inl q))
          · show o.n < 65535
            exact Int.not_le.1 fun q => ha (.inr (.inr q))
      · exact I.o e q
    · exact I
  · split
    · unfold bdropS
      split
      · exact ⟨fun e he => I.o e (delM_sub.subset he), I.t, I.s⟩
      · exact I
    · split
      · exact ⟨I.o, I.t, I.s⟩
      · split
        · unfold bhear
          split
          · exact I
          · rename_i hbad
            split
            · exact I
            · split
              · exact I
              · split
                · exact ⟨I.o, fun e he => I.t e (delM_sub.subset he), I.s⟩
                · split
                  · exact I
                  · refine ⟨I.o, fun e he => ?_, I.s⟩
                    rcases setM_mem he with rfl | q
                    · refine ⟨rfl, ?_, ?_⟩
                      · show mayB o.ta o.tl = true
                        cases hm : mayB o.ta o.tl with
                        | true => rfl
                        | false => exact absurd (.inr (.inr (.inr (.inr (.inr (.inl hm)))))) hbad
                      · show 0 ≤ o.tc
                        exact Int.not_lt.1 fun q => hbad (.inr (.inr (.inr (.inr (.inr (.inr (.inl q)))))))
                    · exact I.t e q
        · split
          · exact ⟨I.o, fun e he => I.t e (List.mem_filter.1 he).1, I.s⟩
          · split
            · show KeyI (tellS s)
              unfold tellS
              obtain ⟨a, b, c, d, e, f, g⟩ := tells_parts (ws := waysL s (prefL s)) (s := { s with S := [] })
              exact ⟨by rw [a]; exact I.o, by rw [b]; exact I.t, KeyI.tellS_S (by simp)⟩
            · split
              · obtain ⟨a, b, c, d, e, f, g⟩ := know_parts (s := s) (k := (o.ta, o.tl)) (rt := o.trt) (sn := o.ts) (n := o.n)
                exact ⟨by rw [a]; exact I.o, by rw [b]; exact I.t, by rw [c]; exact I.s⟩
              · exact I
theorem call_noWorse (I : KeyI s) {o : Op17} {q : PK × Nat} : noWorse s.M (callS s o).1.M q := by
  unfold callS
  split
  · unfold bownS; split <;> exact .refl _ _
  · split
    · unfold bdropS; split <;> exact .refl _ _
    · split
      · exact .refl _ _
      · split
        · unfold bhear
          repeat' split
          all_goals exact .refl _ _
        · split
          · exact .refl _ _
          · split
            · show noWorse s.M (tellS s).M q
              unfold tellS
              exact noWorse_tells (s := { s with S := [] }) (I.ways prefL_srt.nodup).1
            · split
              · exact noWorse_know
              · exact .refl _ _
theorem call_told (I : KeyI s) {o : Op17} {t : Tlv} (ht : t ∈ (callS s o).2) (hc : t.c < 65535) : notBetter (callS s o).1.M t := by
  unfold callS at ht ⊢
  by_cases k0 : o.k = 0
  · rw [if_pos k0] at ht; simp at ht
  rw [if_neg k0] at ht ⊢
  by_cases k1 : o.k = 1
  · rw [if_pos k1] at ht; simp at ht
  rw [if_neg k1] at ht ⊢
  by_cases k2 : o.k = 2
  · rw [if_pos k2] at ht; simp at ht
  rw [if_neg k2] at ht ⊢
  by_cases k3 : o.k = 3
  · rw [if_pos k3] at ht; simp at ht
  rw [if_neg k3] at ht ⊢
  by_cases k4 : o.k = 4
  · rw [if_pos k4] at ht; simp at ht
  rw [if_neg k4] at ht ⊢
  by_cases k5 : o.k = 5
  · rw [if_pos k5] at ht ⊢
    obtain ⟨n1, n2⟩ := I.ways (prefL_srt (s := s)).nodup
    have ht' : t ∈ tellL s := ht
    unfold tellL at ht'
    rcases List.mem_append.1 ht' with q | q
    · exact tells_not n1 (fun t h => ⟨(n2 t h).1, (n2 t h).2.1⟩) q
    · obtain ⟨k, _, h2⟩ := List.mem_filterMap.1 q
      split at h2
      · cases h2
      · cases h : getM s.S k with
        | none => rw [h] at h2; cases h2
        | some y => rw [h] at h2; simp at h2; subst h2; simp at hc
  rw [if_neg k5] at ht
  by_cases k6 : o.k = 6
  · rw [if_pos k6] at ht; simp at ht
  · rw [if_neg k6] at ht; simp at ht
end
end Go.Proofs.Ytchbipkoifmmdaa

/- Babel: a way by a neighbour is one that it has told. -/
namespace Go.Proofs.Ytchbipkoifmmdaa
open Go
set_option linter.unusedSimpArgs false
set_option linter.unusedVariables false

/-- All that is known of neighbours was told by one of the calls up to here, and is not of the router itself. -/
def HeardI (l : List Op17) (i : Nat) (s : BS) : Prop := ∀ e ∈ s.T, e.2.2.rt ≠ s.id ∧ ∃ (j : Nat) (o : Op17), j < i ∧ l[j]? = some o ∧ o.k = 3 ∧ o.f = e.1.2 ∧ opT o = e.2.2
section
variable {s : BS} {l : List Op17} {i : Nat}
theorem HeardI.sub {s' : BS} (I : HeardI l i s) (hi : s'.id = s.id) (hT : ∀ e ∈ s'.T, e ∈ s.T) : HeardI l (i + 1) s' := by
  intro e he
  obtain ⟨h1, j, o, h2, h3⟩ := I e (hT e he)
  exact ⟨by rw [hi]; exact h1, j, o, by omega, h3⟩
theorem HeardI.call (I : HeardI l i s) {o : Op17} (ho : l[i]? = some o) : HeardI l (i + 1) (callS s o).1 := by
  unfold callS
  split
  · unfold bownS; split <;> exact I.sub rfl fun e he => he
  · split
    · unfold bdropS; split <;> exact I.sub rfl fun e he => he
    · split
      · exact I.sub rfl fun e he => he
      · split
        · rename_i hk
          unfold bhear
          split
          · exact I.sub rfl fun e he => he
          · split
            · exact I.sub rfl fun e he => he
            · split
              · exact I.sub rfl fun e he => he
              · rename_i hrt
                split
                · exact I.sub rfl fun e he => delM_sub.subset he
                · split
                  · exact I.sub rfl fun e he => he
                  · intro e he
                    rcases setM_mem he with rfl | q
                    · exact ⟨hrt, i, o, by omega, ho, hk, rfl, rfl⟩
                    · obtain ⟨h1, j, o, h2, h3⟩ := I e q
                      exact ⟨h1, j, o, by omega, h3⟩
        · split
          · exact I.sub rfl fun e he => (List.mem_filter.1 he).1
          · split
            · obtain ⟨a, b, _, _, _, _, c⟩ := tells_parts (ws := waysL s (prefL s)) (s := { s with S := [] })
              exact I.sub c fun e he => by
                have he' : e ∈ (List.foldl tellStep { s with S := [] } (waysL s (prefL s))).T := he
                rw [b] at he'; exact he'
            · split
              · obtain ⟨a, b, _, _, _, _, c⟩ := know_parts (s := s) (k := (o.ta, o.tl)) (rt := o.trt) (sn := o.ts) (n := o.n)
                exact I.sub c fun e he => by
                  have he' : e ∈ (knowB s (o.ta, o.tl) o.trt o.ts o.n).T := he
                  rw [b] at he'; exact he'
              · exact I.sub rfl fun e he => he
theorem call_id {o : Op17} : (callS s o).1.id = s.id := by
  unfold callS
  split
  · unfold bownS; split <;> rfl
  · split
    · unfold bdropS; split <;> rfl
    · split
      · rfl
      · split
        · unfold bhear; repeat' split
          all_goals rfl
        · split
          · rfl
          · split
            · exact (tells_parts (ws := waysL s (prefL s)) (s := { s with S := [] })).2.2.2.2.2.2
            · split
              · exact (know_parts (s := s) (k := (o.ta, o.tl)) (rt := o.trt) (sn := o.ts) (n := o.n)).2.2.2.2.2.2
              · rfl
theorem wayN_told {k : PK} : ∀ {m : Nat} {y : Tlv} {n : Int}, wayN s k m = some (y, n) → ∃ e : Int × Tlv, ((k, n), e) ∈ s.T ∧ betterB s.M (srcK e.2) e.2.s e.2.c = true ∧ y.rt = e.2.rt ∧ n ≠ 0
  | 0, y, n, h => by cases h
  | m + 1, y, n, h => by
    rw [wayN] at h
    unfold wayStep at h
    cases hg : getM s.T (k, ((m + 1 : Nat) : Int)) with
    | none => rw [hg] at h; exact wayN_told h
    | some z =>
      rw [hg] at h
      simp only at h
      split at h
      · rename_i hb
        simp only [Option.some.injEq, Prod.mk.injEq] at h
        obtain ⟨rfl, rfl⟩ := h
        exact ⟨z, getM_mem hg, hb.1, rfl, by omega⟩
      · exact wayN_told h
theorem way_told {k : PK} {y : Tlv} {n : Int} (h : wayB s k = some (y, n)) (hn : n ≠ 0) : ∃ e : Int × Tlv, ((k, n), e) ∈ s.T ∧ betterB s.M (srcK e.2) e.2.s e.2.c = true ∧ y.rt = e.2.rt := by
  unfold wayB at h
  cases hg : getM s.O k with
  | none => rw [hg] at h; obtain ⟨e, h1, h2, h3, _⟩ := wayN_told h; exact ⟨e, h1, h2, h3⟩
  | some t => rw [hg] at h; simp only [Option.some.injEq, Prod.mk.injEq] at h; exact absurd h.2.symm hn
/-- That call is found. -/
theorem way_found (K : KeyI s) (I : HeardI l i s) {k : PK} {y : Tlv} {n : Int} (h : wayB s k = some (y, n)) (hn : n ≠ 0) :
    y.rt ≠ s.id ∧ ∃ (j : Nat) (o : Op17), j < i ∧ l[j]? = some o ∧ o.k = 3 ∧ o.f = n ∧ o.ta = k.1 ∧ o.tl = k.2 ∧ o.trt = y.rt ∧ betterB s.M (k, y.rt) o.ts o.tc = true := by
  obtain ⟨e, h1, h2, h3⟩ := way_told h hn
  obtain ⟨i1, j, o, i2, i3, i4, i5, i6⟩ := I _ h1
  have hk := (K.t _ h1).1
  simp only at hk i1 i5 i6
  refine ⟨by rw [h3]; exact i1, j, o, i2, i3, i4, i5, ?_⟩
  rw [← i6] at h2 h3 hk
  simp only [Prod.mk.injEq] at hk
  have ka : o.ta = k.1 := congrArg Prod.fst hk
  have kl : o.tl = k.2 := congrArg Prod.snd hk
  refine ⟨ka, kl, h3.symm, ?_⟩
  have : srcK (opT o) = (k, y.rt) := by rw [h3]; show ((o.ta, o.tl), o.trt) = (k, o.trt); rw [ka, kl]
  rw [this] at h2
  exact h2
theorem all_mem {ks : List PK} {r : Rt} (h : r ∈ allB s ks) : ∃ (k : PK) (y : Tlv) (n : Int), k ∈ ks ∧ wayB s k = some (y, n) ∧ r = allX s k (y, n) := by
  obtain ⟨k, hk, h2⟩ := List.mem_filterMap.1 h
  cases hw : wayB s k with
  | none => rw [hw] at h2; cases h2
  | some y => rw [hw] at h2; simp only [Option.map_some, Option.some.injEq] at h2; exact ⟨k, y.1, y.2, hk, hw, h2.symm⟩
end
end Go.Proofs.Ytchbipkoifmmdaa

/- PfR: a flat struct (printed by wip/lib/struct.py). -/
namespace Go.Proofs.Ytchbipkoifmmdaa
open Go
set_option linter.unusedSimpArgs false
set_option linter.unusedVariables false

structure PfR where
  a : Nat
  n : Int
deriving DecidableEq

def PfR.enc (x : PfR) : List Value := [.int .u32 (x.a : Nat), .int .i64 x.n]
abbrev PfRv (x : PfR) : Value := .agg #[.int .u32 (x.a : Nat), .int .i64 x.n]
abbrev PfR.cells (x : PfR) : Array Value := #[.int .u32 (x.a : Nat), .int .i64 x.n]
structure PfR.Good (x : PfR) : Prop where
  a : x.a < 2 ^ 32
theorem PfR.one (x : PfR) : (PfR.enc x).length = 2 ∧ ∀ u ∈ PfR.enc x, oneCell u = true := ⟨rfl, by simp [PfR.enc]⟩

def PfRKs : List Lk := [.int .u32, .int .i64]
theorem dec_PfR {H : Type} {enc : TypeId × Value → H} {w : World} {base : Nat} {spare : Nat → Bool} {held : Bool} (cs : List Value) (h : okLs enc Try.prog w base spare held PfRKs cs) : ∃ x : PfR, cs = x.enc ∧ x.Good := by
  obtain ⟨a0, _, rfl, w0, h⟩ := okLs_int h
  obtain ⟨a1, _, rfl, w1, h⟩ := okLs_int h
  obtain rfl := okLs_nil h
  obtain ⟨b0, rfl, g0⟩ := u32_wf w0
  exact ⟨⟨b0, a1⟩, rfl, ⟨g0⟩⟩
end Go.Proofs.Ytchbipkoifmmdaa

/- BabelLeast: what is told never makes a least worse; what is told is not better than it behind. -/
namespace Go.Proofs.Ytchbipkoifmmdaa
open Go
set_option linter.unusedSimpArgs false
set_option linter.unusedVariables false

def LeInv (h : Hp) (x : BP) (b6 : Nat) (rt : Nat) (lv : Value) (l : List Op17) (n : Nat) (env : Env) (g : Hp) : Prop :=
  ∃ (i : Nat) (s : BS), i + n = l.length ∧ BabAt g x s ∧ BInv s ∧ KeyI s ∧ Le h g ∧ env 1 = lv ∧ env 3 = .int .u64 (rt : Nat) ∧ env 6 = .pointer (some ⟨b6, 0, none⟩) ∧ env 10 = .pointer (some ⟨x.p, 0, none⟩) ∧ env 11 = .int .i64 (i : Nat)
def LeIn (h : Hp) (x : BP) (s : BS) (b6 : Nat) (rt : Nat) (lv w : Value) (i : Nat) (X : List Tlv) (n : Nat) (env : Env) (g : Hp) : Prop :=
  ∃ j : Nat, j + n = X.length ∧ Le h g ∧ BabAt g x s ∧ SlAt g 31 9 Tlv.enc w X ∧ env 1 = lv ∧ env 3 = .int .u64 (rt : Nat) ∧ env 6 = .pointer (some ⟨b6, 0, none⟩) ∧ env 10 = .pointer (some ⟨x.p, 0, none⟩) ∧ env 11 = .int .i64 (i : Nat) ∧ env 15 = w ∧ env 19 = .int .i64 (j : Nat)

theorem callL_len {s : BS} {o : Op17} (I : BInv s) : (callS s o).2.length ≤ 512 := by
  have := prefL_length (s := s)
  have := I.lo; have := I.lt; have := I.ls
  have k1 := waysL_length (s := s) (ks := prefL s)
  have k2 := goneL_length (s := s) (ks := prefL s)
  have k3 : (tellL s).length ≤ 512 := by unfold tellL; rw [List.length_append]; omega
  unfold callS
  split
  · simp
  · split
    · simp
    · split
      · simp
      · split
        · simp
        · split
          · simp
          · split
            · exact k3
            · split <;> simp
theorem told_num {s : BS} {o : Op17} (I : BInv s) {t : Tlv} (ht : t ∈ (callS s o).2) (hc : t.c < 65535) : t.s < 65536 := by
  have key : t ∈ tellL s → t.s < 65536 := by
    intro ht'
    unfold tellL at ht'
    rcases List.mem_append.1 ht' with q | q
    · exact (waysL_ok I.num t q).1
    · obtain ⟨k, _, h2⟩ := List.mem_filterMap.1 q
      split at h2
      · cases h2
      · cases h : getM s.S k with
        | none => rw [h] at h2; cases h2
        | some y => rw [h] at h2; simp at h2; subst h2; simp at hc
  unfold callS at ht
  split at ht
  · simp at ht
  · split at ht
    · simp at ht
    · split at ht
      · simp at ht
      · split at ht
        · simp at ht
        · split at ht
          · simp at ht
          · split at ht
            · exact key ht
            · split at ht <;> simp at ht

set_option maxHeartbeats 1000000 in
set_option maxRecDepth 20000 in
theorem BabelLeast_walk {h : Hp} {id rt : Nat} {lv : Value} {l : List Op17} {x0 : PfR} (hk : x0.Good) (A : ArgSl h 12 Op17.enc Op17.Good lv l) :
    Ok Try.prog F_octroilaw17_BabelLeast #[.int .u64 (id : Nat), lv, .agg x0.enc.toArray, .int .u64 (rt : Nat)] h (fun v g => v = .bool true ∧ Le h g) := by
  obtain ⟨k, hkx, hk1⟩ : ∃ k : PK, x0.enc.toArray = (kencP k).toArray ∧ k.1 < 2 ^ 32 := ⟨(x0.a, x0.n), rfl, hk.a⟩
  rw [hkx]
  clear hkx hk x0
  refine octroilaw17_BabelLeast_ok (by simp) ?_
  unfold octroilaw17_BabelLeast_D
  obtain ⟨ap, acap, hlv⟩ := A.shape
  simp (disch := omega) [octroilaw17_BabelLeast_r0]
  intro b6 hb6
  have l6 : Le h (h.upd b6 (.cells #[.int .u32 (k.1 : Nat), .int .i64 k.2] 24)) := .new hb6
  have f6 : (h.upd b6 (.cells #[.int .u32 (k.1 : Nat), .int .i64 k.2] 24)) b6 = some (.cells #[.int .u32 (k.1 : Nat), .int .i64 k.2] 24) := upd_same
  show octroilaw17_BabelLeast_r1 _ (h.upd b6 (.cells #[.int .u32 (k.1 : Nat), .int .i64 k.2] 24)) _
  generalize h.upd b6 (.cells #[.int .u32 (k.1 : Nat), .int .i64 k.2] 24) = h1 at *
  simp (disch := omega) [octroilaw17_BabelLeast_r1]
  refine awake17 (fun h2 l2 => ?_)
  simp (disch := omega) [octroilaw17_BabelLeast_r2]
  refine bnewM (fun x h3 l3 n3 A3 => ?_)
  have hle : Le h1 h3 := l2.trans l3
  have n0 : ∀ y, y ∈ ownB x → h1 y = none := fun y hy => none_of_le l2 (n3 y hy)
  by_cases g1 : 150 < (l.length : Int)
  · simp (disch := omega) [octroilaw17_BabelLeast_r3, octroilaw17_BabelLeast_r4, hlv, g1]
    exact .to _ (.refl _) ⟨rfl, l6.trans hle⟩
  simp (disch := omega) [octroilaw17_BabelLeast_r3, octroilaw17_BabelLeast_r5, hlv, g1]
  refine ⟨LeInv h1 x b6 rt lv l, ⟨l.length, 0, _, by omega, A3, BInv.new, ⟨by simp, by simp, by simp⟩, hle, by simp [hlv], by simp, by simp, by simp, by simp⟩, ?_⟩
  rintro n env g ⟨i, s, hin, B, I, J, lg, e1, e3, e6, e10, e11⟩
  unfold octroilaw17_BabelLeast_L1
  by_cases hm : n = 0
  · have : i = l.length := by omega
    subst this
    simp (disch := omega) [octroilaw17_BabelLeast_r6, octroilaw17_BabelLeast_r19, e1, e3, e6, e10, e11, hlv]
    exact .to _ (.refl _) ⟨rfl, l6.trans lg⟩
  · obtain ⟨o, ho⟩ : ∃ x, l[i]? = some x := ⟨_, List.getElem?_eq_getElem (by omega)⟩
    obtain ⟨og, b, off, cap, c, E, fr, hv', hb, q0, q1, q2, q3, q4, q5, q6, q7, q8, q9, q10, q11⟩ := op17_at A ho
    have hi' : i < l.length := by omega
    have f6g := lg _ _ f6
    simp (disch := omega) [octroilaw17_BabelLeast_r6, octroilaw17_BabelLeast_r7, e1, e3, e6, e10, e11, hv', f6g, hi']
    refine bLeastM (k := k) B (fun g2 l2' => ?_)
    have lg2 := lg.trans l2'
    have hbg := lg2 _ _ (l6 _ _ hb)
    simp (disch := omega) [octroilaw17_BabelLeast_r8, e1, e3, e6, e10, e11, hv', hbg, hi', q0, q1, q2, q3, q4, q5, q6, q7, q8, q9, q10, q11]
    refine bcallM (o := o) (B.le' l2') I og (fun w g4 B4 S4 n4 => ?_)
    have lg4 := B4.leN lg2 n0
    have J4 := J.call (o := o)
    have I4 := I.call og
    have nw := call_noWorse J (o := o) (q := (k, rt))
    have nb := fun t ht hc => call_told J (o := o) (t := t) ht hc
    have hXl := callL_len (o := o) I
    have hnum := fun t ht hc => told_num (o := o) (t := t) I ht hc
    have B5 := B4.at_
    generalize (callS s o).2 = X at *
    generalize (callS s o).1 = s4 at *
    have f64 := lg4 _ _ f6
    simp (disch := omega) [octroilaw17_BabelLeast_r9, e3, e6, e10, f64]
    refine bLeastM (k := k) B5 (fun g5 l5' => ?_)
    have lg5 := lg4.trans l5'
    have inner : ∀ env : Env, env 1 = lv → env 3 = .int .u64 (rt : Nat) → env 6 = .pointer (some ⟨b6, 0, none⟩) → env 10 = .pointer (some ⟨x.p, 0, none⟩) → env 11 = .int .i64 (i : Nat) → env 15 = w →
        octroilaw17_BabelLeast_r12 env g5 (thenK (blk 2 (lp octroilaw17_BabelLeast_L0)) (inBlk 1 (thenK (rg octroilaw17_BabelLeast_r18) (roundK (LeInv h1 x b6 rt lv l) n (inBlk 0 (thenK (sq (rg octroilaw17_BabelLeast_r19) (ex .ret)) (fin Try.prog [.tmp 8] fun v g => v = .bool true ∧ Le h g)))))) .normal) := by
      clear e1 e3 e6 e10 e11
      intro env e1 e3 e6 e10 e11 e15
      simp (disch := omega) [octroilaw17_BabelLeast_r12]
      refine ⟨LeIn h1 x s4 b6 rt lv w i X, ⟨X.length, 0, by omega, lg5, B5.le' l5', S4.le' l5', by simp [e1], by simp [e3], by simp [e6], by simp [e10], by simp [e11], by simp [e15], by simp⟩, ?_⟩
      clear e1 e3 e6 e10 e11 e15
      rintro n2 env g6 ⟨j, hjn, lg6, B6, S6, e1, e3, e6, e10, e11, e15, e19⟩
      unfold octroilaw17_BabelLeast_L0
      obtain ⟨sp, scap, hw⟩ := S6.shape'
      by_cases hm2 : n2 = 0
      · have : j = X.length := by omega
        subst this
        simp (disch := omega) [octroilaw17_BabelLeast_r13, octroilaw17_BabelLeast_r18, e1, e3, e6, e10, e11, e15, e19, hw, wrap_i64]
        exact ⟨n - 1, by omega, i + 1, s4, by omega, B6, I4, J4, lg6, by simp [e1], by simp [e3], by simp [e6], by simp [e10], by simp⟩
      · obtain ⟨t, ht⟩ : ∃ t, X[j]? = some t := ⟨_, List.getElem?_eq_getElem (by omega)⟩
        obtain ⟨b2, c2, d2, ez, hb2, t0, t1, t2, t3, t4, t5, t6, t7, t8⟩ := Tlv_at S6 ht
        have hj' : j < X.length := by omega
        have hmem := List.mem_of_getElem? ht
        simp (disch := omega) [octroilaw17_BabelLeast_r13, octroilaw17_BabelLeast_r14, e1, e3, e6, e10, e11, e15, e19, ez, hj', hb2, t4, t5, t6]
        refine bLeastM (k := (t.a, t.l)) B6 (fun g7 l7 => ?_)
        have hb7 := l7 _ _ hb2
        have next : ∀ env : Env, env 1 = lv → env 3 = .int .u64 (rt : Nat) → env 6 = .pointer (some ⟨b6, 0, none⟩) → env 10 = .pointer (some ⟨x.p, 0, none⟩) → env 11 = .int .i64 (i : Nat) → env 15 = w → env 19 = .int .i64 (j : Nat) →
            octroilaw17_BabelLeast_r17 env g7 (roundK (LeIn h1 x s4 b6 rt lv w i X) n2 (inBlk 2 (inBlk 1 (thenK (rg octroilaw17_BabelLeast_r18) (roundK (LeInv h1 x b6 rt lv l) n (inBlk 0 (thenK (sq (rg octroilaw17_BabelLeast_r19) (ex .ret)) (fin Try.prog [.tmp 8] fun v g => v = .bool true ∧ Le h g))))))) .normal) := by
          intro env e1 e3 e6 e10 e11 e15 e19
          simp (disch := omega) [octroilaw17_BabelLeast_r17, e19, wrap_i64]
          exact ⟨n2 - 1, by omega, j + 1, by omega, lg6.trans l7, B6.le' l7, S6.le' l7, by simp [e1], by simp [e3], by simp [e6], by simp [e10], by simp [e11], by simp [e15], by simp⟩
        refine ⟨trivial, ?_⟩
        by_cases hc : t.c < 65535
        · obtain ⟨z, hz, nz1, nz2⟩ := nb t hmem hc
          have hz' : getM s4.M ((t.a, t.l), t.rt) = some z := hz
          have hzs : z.1 < 65536 := I4.num.m _ (getM_mem hz)
          rw [hz']
          simp (disch := omega) [octroilaw17_BabelLeast_r15, e15, e19, ez, hj', hb7, t1, t3, hc]
          have e15' := e15.trans ez
          refine newerM (hnum t hmem hc) hzs ?_
          rw [nz1]
          by_cases e : t.s = z.1
          · have hlt := nz2 e
            have e' : (t.s : Int) = (z.1 : Int) := by omega
            have hlt' : z.2 ≤ t.c := by omega
            simp (disch := omega) [e15', e19, hj', hb7, t1, t3, hc, eq_true e, eq_true e', hlt, hlt']
            refine next _ ?_ ?_ ?_ ?_ ?_ ?_ ?_ <;> simp [e1, e3, e6, e10, e11, e15, e19, ez]
          · have e' : ¬ (t.s : Int) = (z.1 : Int) := by omega
            simp (disch := omega) [e15', e19, hj', hb7, t1, t3, hc, e, e']
            refine next _ ?_ ?_ ?_ ?_ ?_ ?_ ?_ <;> simp [e1, e3, e6, e10, e11, e15, e19, ez]
        · have e15' := e15.trans ez
          simp (disch := omega) [octroilaw17_BabelLeast_r15, e15', e19, hj', hb7, t1, t3, hc]
          refine next _ ?_ ?_ ?_ ?_ ?_ ?_ ?_ <;> simp [e1, e3, e6, e10, e11, e15, e19, ez]
    cases hY : getM s.M (k, rt) with
    | none =>
      simp (disch := omega) [octroilaw17_BabelLeast_r10]
      refine inner _ ?_ ?_ ?_ ?_ ?_ ?_ <;> simp [e1, e3, e6, e10, e11, hv']
    | some y =>
      obtain ⟨z, hz, w1, w2⟩ := nw y hY
      have hys : y.1 < 65536 := I.num.m _ (getM_mem hY)
      have hzs : z.1 < 65536 := I4.num.m _ (getM_mem hz)
      rw [hz]
      by_cases e : z.1 = y.1
      · have hle2 := w1 e
        have hle3 : ¬ y.2 < z.2 := by omega
        have e' : (z.1 : Int) = (y.1 : Int) := by omega
        simp (disch := omega) [octroilaw17_BabelLeast_r10, e, hle2, hle3]
        refine inner _ ?_ ?_ ?_ ?_ ?_ ?_ <;> simp [e1, e3, e6, e10, e11, hv']
      · have e' : ¬ (z.1 : Int) = (y.1 : Int) := by omega
        have hn := w2 e
        simp (disch := omega) [octroilaw17_BabelLeast_r10, e, e']
        refine newerM hzs hys ?_
        rw [hn]
        simp (disch := omega) [e, e']
        refine inner _ ?_ ?_ ?_ ?_ ?_ ?_ <;> simp [e1, e3, e6, e10, e11, hv']
end Go.Proofs.Ytchbipkoifmmdaa

/- BabelFeasible: a way by a neighbour is one that it has told with a number and a metric better than the least of its router. -/
namespace Go.Proofs.Ytchbipkoifmmdaa
open Go
set_option linter.unusedSimpArgs false
set_option linter.unusedVariables false

def FeInv (h : Hp) (x : BP) (id : Nat) (lv : Value) (l : List Op17) (n : Nat) (env : Env) (g : Hp) : Prop :=
  ∃ (i : Nat) (s : BS), i + n = l.length ∧ BabAt g x s ∧ BInv s ∧ KeyI s ∧ HeardI l i s ∧ s.id = id ∧ Le h g ∧ env 0 = .int .u64 (id : Nat) ∧ env 1 = lv ∧ env 6 = .pointer (some ⟨x.p, 0, none⟩) ∧ env 7 = .int .i64 (i : Nat)
def FeAl (h : Hp) (x : BP) (s : BS) (id : Nat) (lv wa : Value) (i : Nat) (Y : List Rt) (n : Nat) (env : Env) (g : Hp) : Prop :=
  ∃ j : Nat, j + n = Y.length ∧ Le h g ∧ BabAt g x s ∧ SlAt g 38 7 Rt.enc wa Y ∧ env 0 = .int .u64 (id : Nat) ∧ env 1 = lv ∧ env 6 = .pointer (some ⟨x.p, 0, none⟩) ∧ env 7 = .int .i64 (i : Nat) ∧ env 8 = wa ∧ env 9 = .int .i64 (j : Nat)
def FeFi (h : Hp) (x : BP) (s : BS) (id : Nat) (lv wa : Value) (i j : Nat) (Y : List Rt) (rt : Nat) (m0 : Nat) (n : Nat) (env : Env) (g : Hp) : Prop :=
  ∃ (m : Nat) (f : Bool), m + n = i + 1 ∧ (f = true ∨ m ≤ m0) ∧ Le h g ∧ BabAt g x s ∧ SlAt g 38 7 Rt.enc wa Y ∧ env 0 = .int .u64 (id : Nat) ∧ env 1 = lv ∧ env 6 = .pointer (some ⟨x.p, 0, none⟩) ∧ env 7 = .int .i64 (i : Nat) ∧ env 8 = wa ∧ env 9 = .int .i64 (j : Nat) ∧
    env 10 = .int .u64 (rt : Nat) ∧ env 11 = .bool true ∧ env 12 = .bool f ∧ env 13 = .int .i64 (m : Nat)

set_option maxHeartbeats 2000000 in
set_option maxRecDepth 20000 in
theorem BabelFeasible_walk {h : Hp} {id : Nat} {lv : Value} {l : List Op17} (A : ArgSl h 12 Op17.enc Op17.Good lv l) :
    Ok Try.prog F_octroilaw17_BabelFeasible #[.int .u64 (id : Nat), lv] h (fun v g => v = .bool true ∧ Le h g) := by
  refine octroilaw17_BabelFeasible_ok (by simp) ?_
  unfold octroilaw17_BabelFeasible_D
  obtain ⟨ap, acap, hlv⟩ := A.shape
  simp (disch := omega) [octroilaw17_BabelFeasible_r0, octroilaw17_BabelFeasible_r1]
  refine awake17 (fun h2 l2 => ?_)
  simp (disch := omega) [octroilaw17_BabelFeasible_r2]
  refine bnewM (fun x h3 l3 n3 A3 => ?_)
  have hle : Le h h3 := l2.trans l3
  have n0 : ∀ y, y ∈ ownB x → h y = none := fun y hy => none_of_le l2 (n3 y hy)
  by_cases g1 : 150 < (l.length : Int)
  · simp (disch := omega) [octroilaw17_BabelFeasible_r3, octroilaw17_BabelFeasible_r4, hlv, g1]
    exact .to _ (.refl _) ⟨rfl, hle⟩
  simp (disch := omega) [octroilaw17_BabelFeasible_r3, octroilaw17_BabelFeasible_r5, hlv, g1]
  refine ⟨FeInv h x id lv l, ⟨l.length, 0, _, by omega, A3, BInv.new, ⟨by simp, by simp, by simp⟩, (by intro e he; cases he), rfl, hle, by simp, by simp [hlv], by simp, by simp⟩, ?_⟩
  rintro n env g ⟨i, s0, hin, B, I0, J0, H0, hid0, lg, e0, e1, e6, e7⟩
  unfold octroilaw17_BabelFeasible_L2
  by_cases hm : n = 0
  · have : i = l.length := by omega
    subst this
    simp (disch := omega) [octroilaw17_BabelFeasible_r6, octroilaw17_BabelFeasible_r25, e1, e7, hlv]
    exact .to _ (.refl _) ⟨rfl, lg⟩
  · obtain ⟨o, ho⟩ : ∃ x, l[i]? = some x := ⟨_, List.getElem?_eq_getElem (by omega)⟩
    obtain ⟨og, b, off, cap, c, E, fr, hv', hb, q0, q1, q2, q3, q4, q5, q6, q7, q8, q9, q10, q11⟩ := op17_at A ho
    have hi' : i < l.length := by omega
    have hbg := lg _ _ hb
    simp (disch := omega) [octroilaw17_BabelFeasible_r6, octroilaw17_BabelFeasible_r7, e1, e6, e7, hv', hbg, hi', q0, q1, q2, q3, q4, q5, q6, q7, q8, q9, q10, q11]
    refine bcallM (o := o) B I0 og (fun w g4 B4 S4 n4 => ?_)
    have lg4 := B4.leN lg n0
    have J := J0.call (o := o)
    have I := I0.call og
    have H := H0.call ho
    have hid : (callS s0 o).1.id = id := by rw [call_id]; exact hid0
    have B5 := B4.at_
    clear S4 n4 B4 I0 J0 H0 hid0 B
    generalize (callS s0 o).1 = s at *
    have hlen : s.O.length + s.S.length + s.T.length ≤ 100000 := by have := I.lo; have := I.lt; have := I.ls; omega
    simp (disch := omega) [octroilaw17_BabelFeasible_r8, e6]
    refine ballM B5 I.num.m I.num.tld hlen (fun wa g5 l5 S5 n5 => ?_)
    have mem := fun r (hr : r ∈ allB s (prefL s)) => all_mem hr
    have hYl : (allB s (prefL s)).length ≤ 256 := by
      have := prefL_length (s := s)
      have := I.lo; have := I.lt; have := I.ls
      exact Nat.le_trans (List.length_filterMap_le _ _) (by omega)
    generalize allB s (prefL s) = Y at *
    simp (disch := omega) [octroilaw17_BabelFeasible_r9]
    refine ⟨FeAl h x s id lv wa i Y, ⟨Y.length, 0, by omega, lg4.trans l5, B5.le' l5, S5, by simp [e0], by simp [e1, hv'], by simp [e6], by simp [e7], by simp, by simp⟩, ?_⟩
    clear e0 e1 e6 e7
    rintro n2 env g6 ⟨j, hjn, lg6, B6, S6, e0, e1, e6, e7, e8, e9⟩
    unfold octroilaw17_BabelFeasible_L1
    obtain ⟨sp, scap, hwa⟩ := S6.shape'
    by_cases hm2 : n2 = 0
    · have : j = Y.length := by omega
      subst this
      simp (disch := omega) [octroilaw17_BabelFeasible_r10, octroilaw17_BabelFeasible_r24, e6, e7, e8, e9, hwa, wrap_i64]
      exact ⟨n - 1, by omega, i + 1, s, by omega, B6, I, J, H, hid, lg6, by simp [e0], by simp [e1], by simp [e6], by simp⟩
    · obtain ⟨y, hy⟩ : ∃ y, Y[j]? = some y := ⟨_, List.getElem?_eq_getElem (by omega)⟩
      obtain ⟨b2, c2, d2, ez, hb2, r0, r1, r2, r3, r4, r5, r6⟩ := rt_at S6 hy
      have hj' : j < Y.length := by omega
      obtain ⟨k, t, nx, _, hw, hy'⟩ := mem y (List.mem_of_getElem? hy)
      have y0 : y.a = k.1 := by rw [hy']; rfl
      have y1 : y.l = k.2 := by rw [hy']; rfl
      have y5 : y.nx = nx := by rw [hy']; rfl
      rw [y0] at r0; rw [y1] at r1; rw [y5] at r5
      have e8' := e8.trans ez
      have next : ∀ (env : Env) (g : Hp), Le h g → BabAt g x s → SlAt g 38 7 Rt.enc wa Y → env 0 = .int .u64 (id : Nat) → env 1 = lv → env 6 = .pointer (some ⟨x.p, 0, none⟩) → env 7 = .int .i64 (i : Nat) → env 8 = wa → env 9 = .int .i64 (j : Nat) →
          octroilaw17_BabelFeasible_r23 env g (roundK (FeAl h x s id lv wa i Y) n2 (inBlk 2 (inBlk 1 (thenK (rg octroilaw17_BabelFeasible_r24) (roundK (FeInv h x id lv l) n (inBlk 0 (thenK (sq (rg octroilaw17_BabelFeasible_r25) (ex .ret)) (fin Try.prog [.tmp 4] fun v g => v = .bool true ∧ Le h g))))))) .normal) := by
        clear e0 e1 e6 e7 e8 e9 e8'
        intro env g lg' B' S' e0 e1 e6 e7 e8 e9
        simp (disch := omega) [octroilaw17_BabelFeasible_r23, e9, wrap_i64]
        exact ⟨n2 - 1, by omega, j + 1, by omega, lg', B', S', by simp [e0], by simp [e1], by simp [e6], by simp [e7], by simp [e8], by simp⟩
      by_cases hn : nx = 0
      · subst hn
        simp (disch := omega) [octroilaw17_BabelFeasible_r10, octroilaw17_BabelFeasible_r11, e8', e9, hj', hb2, r4, r5]
        refine next _ _ lg6 B6 S6 ?_ ?_ ?_ ?_ ?_ ?_ <;> simp [e0, e1, e6, e7, e8, e9, ez]
      · obtain ⟨hne, m0, o0, h1, h2, h3, h4, h5, h6, h7, h8⟩ := way_found J H hw hn
        simp (disch := omega) [octroilaw17_BabelFeasible_r10, octroilaw17_BabelFeasible_r11, octroilaw17_BabelFeasible_r12, e6, e8', e9, hj', hb2, r0, r1, r2, r3, r4, r5, hn]
        refine bsourceM (k := k) B6 I.num.m I.num.tld (fun g7 l7 => ?_)
        rw [hw]
        simp (disch := omega) [octroilaw17_BabelFeasible_r13, octroilaw17_BabelFeasible_r14]
        have hm0i : m0 ≤ i := by omega
        refine ⟨FeFi h x s id lv wa i j Y t.rt m0, ⟨i + 1, 0, false, by omega, .inr (by omega), lg6.trans l7, B6.le' l7, S6.le' l7, by simp [e0], by simp [e1], by simp [e6], by simp [e7], by simp [e8, ez], by simp [e9], by simp, by simp, by simp, by simp⟩, ?_⟩
        clear e0 e1 e6 e7 e8 e9 e8'
        rintro n3 env g8 ⟨m, f, hmn, hf, lg8, B8, S8, e0, e1, e6, e7, e8, e9, e10, e11, e12, e13⟩
        unfold octroilaw17_BabelFeasible_L0
        have e8' := e8.trans ez
        have hrt : ¬ (t.rt : Int) = (id : Int) := by rw [← hid]; omega
        cases f with
        | true =>
          by_cases hm4 : (m : Int) ≤ (i : Int)
          · simp (disch := omega) [octroilaw17_BabelFeasible_r15, octroilaw17_BabelFeasible_r21, e0, e7, e10, e11, e12, e13, hm4, hrt]
            refine next _ _ lg8 B8 S8 ?_ ?_ ?_ ?_ ?_ ?_ <;> simp [e0, e1, e6, e7, e8, e9]
          · simp (disch := omega) [octroilaw17_BabelFeasible_r15, octroilaw17_BabelFeasible_r21, e0, e7, e10, e11, e12, e13, hm4, hrt]
            refine next _ _ lg8 B8 S8 ?_ ?_ ?_ ?_ ?_ ?_ <;> simp [e0, e1, e6, e7, e8, e9]
        | false =>
          have hmm : m ≤ m0 := hf.resolve_left (by simp)
          have hmi : (m : Int) ≤ (i : Int) := by omega
          obtain ⟨o1, ho1⟩ : ∃ x, l[m]? = some x := ⟨_, List.getElem?_eq_getElem (by omega)⟩
          obtain ⟨og1, b1, off1, cap1, c1, E1, fr1, hv1, hb1, q0, q1, q2, q3, q4, q5, q6, q7, q8, q9, q10, q11⟩ := op17_at A ho1
          have hm' : m < l.length := by omega
          have hb1g := lg8 _ _ hb1
          have e1' := e1.trans hv1
          simp (disch := omega) [octroilaw17_BabelFeasible_r15, octroilaw17_BabelFeasible_r16, e1', e7, e12, e13, hmi, hb1g, hm', q3, q4, q5, q6, q7, q8, q9, q10, q11]
          intro b14 hb14
          have L7 : Le g8 (g8.upd b14 (.cells tc0 31)) := .new hb14
          have f7 : (g8.upd b14 (.cells tc0 31)) b14 = some (.cells tc0 31 (0, 0)) := upd_same
          have L7b : ∀ o2, Le g8 ((g8.upd b14 (.cells tc0 31)).upd b14 o2) := fun o2 y o e => by
            have : y ≠ b14 := by rintro rfl; rw [hb14] at e; cases e
            rw [upd_ne this]; exact L7 _ _ e
          generalize g8.upd b14 (.cells tc0 31) = g9 at *
          refine (stA_of f7 (by rfl) (by rfl)).mpr ?_
          have L8 := L7b (.cells (opT o1).cells 31 (0, 0))
          have f8 : (g9.upd b14 (.cells (opT o1).cells 31 (0, 0))) b14 = some (.cells (opT o1).cells 31 (0, 0)) := upd_same
          show thenK _ _ _ _ (g9.upd b14 (.cells (opT o1).cells 31 (0, 0)))
          generalize g9.upd b14 (.cells (opT o1).cells 31 (0, 0)) = g10 at *
          have lg10 := lg8.trans L8
          have B10 := B8.le' L8
          have S10 := S8.le' L8
          obtain ⟨b3, c3, d3, ez3, hb3, u0, u1, u2, u3, u4, u5, u6⟩ := rt_at S10 hy
          rw [y0] at u0; rw [y1] at u1; rw [y5] at u5
          have e8' := e8.trans ez3
          simp (disch := omega) [octroilaw17_BabelFeasible_r17, e6, e8', e9, e10, hj', hb3, u0, u1]
          refine bLeastM (k := k) B10 (fun g11 l11 => ?_)
          have lg11 := lg10.trans l11
          have hb3' := l11 _ _ hb3
          have f11 := l11 _ _ f8
          have hb1' := lg11 _ _ hb1
          have B11 := B10.le' l11
          have S11 := S10.le' l11
          have stp : ∀ (env : Env) (g : Hp) (f : Bool), (f = true ∨ m + 1 ≤ m0) → Le h g → BabAt g x s → SlAt g 38 7 Rt.enc wa Y → env 0 = .int .u64 (id : Nat) → env 1 = lv → env 6 = .pointer (some ⟨x.p, 0, none⟩) → env 7 = .int .i64 (i : Nat) → env 8 = wa → env 9 = .int .i64 (j : Nat) →
              env 10 = .int .u64 (t.rt : Nat) → env 11 = .bool true → env 12 = .bool f → env 13 = .int .i64 (m : Nat) →
              octroilaw17_BabelFeasible_r20 env g (roundK (FeFi h x s id lv wa i j Y t.rt m0) n3 (inBlk 4 (thenK (sq (rg octroilaw17_BabelFeasible_r21) (cnd (.tmp 168) (sq (rg octroilaw17_BabelFeasible_r22) (ex .ret)) (ex .normal))) (inBlk 3 (thenK (rg octroilaw17_BabelFeasible_r23) (roundK (FeAl h x s id lv wa i Y) n2 (inBlk 2 (inBlk 1 (thenK (rg octroilaw17_BabelFeasible_r24) (roundK (FeInv h x id lv l) n (inBlk 0 (thenK (sq (rg octroilaw17_BabelFeasible_r25) (ex .ret)) (fin Try.prog [.tmp 4] fun v g => v = .bool true ∧ Le h g)))))))))))) .normal) := by
            clear e0 e1 e6 e7 e8 e9 e10 e11 e12 e13 e1' e8'
            intro env g f hf lg B S e0 e1 e6 e7 e8 e9 e10 e11 e12 e13
            simp (disch := omega) [octroilaw17_BabelFeasible_r20, e13, wrap_i64]
            exact ⟨n3 - 1, by omega, m + 1, f, by omega, hf, lg, B, S, by simp [e0], by simp [e1], by simp [e6], by simp [e7], by simp [e8], by simp [e9], by simp [e10], by simp [e11], by simp [e12], by simp⟩
          have miss : ¬ (o1.k = 3 ∧ o1.f = nx ∧ o1.ta = k.1 ∧ o1.tl = k.2 ∧ o1.trt = t.rt) → m + 1 ≤ m0 := fun q => by
            by_cases e : m = m0
            · subst e
              rw [ho1] at h2; cases h2
              exact absurd ⟨h3, h4, h5, h6, h7⟩ q
            · omega
          by_cases a1 : o1.k = 3
          · by_cases a2 : o1.f = nx
            · by_cases a3 : o1.ta = k.1
              · by_cases a4 : o1.tl = k.2
                · by_cases a5 : o1.trt = t.rt
                  · have a3' : (o1.ta : Int) = (k.1 : Int) := by omega
                    have a5' : (o1.trt : Int) = (t.rt : Int) := by omega
                    have hit : betterB s.M (k, t.rt) o1.ts o1.tc = true ∨ m + 1 ≤ m0 := by
                      by_cases e : m = m0
                      · subst e; rw [ho1] at h2; cases h2; exact .inl h8
                      · exact .inr (by omega)
                    unfold betterB at hit
                    cases hz : getM s.M (k, t.rt) with
                    | none =>
                      rw [hz] at hit
                      simp (disch := omega) [octroilaw17_BabelFeasible_r18, octroilaw17_BabelFeasible_r19, e1', e8', e9, e10, e13, hb1', hb3', hm', hj', q0, q1, u0, u1, u5, f11, a1, a2, a3, a4, a5, a3', a5']
                      refine stp _ _ true (.inl rfl) lg11 B11 S11 ?_ ?_ ?_ ?_ ?_ ?_ ?_ ?_ ?_ ?_ <;> simp [e0, e1, e6, e7, e8, e9, e10, e11, e13]
                    | some z =>
                      rw [hz] at hit
                      simp only at hit
                      have hzs : z.1 < 65536 := I.num.m _ (getM_mem hz)
                      simp (disch := omega) [octroilaw17_BabelFeasible_r18, octroilaw17_BabelFeasible_r19, e1', e8', e9, e10, e13, hb1', hb3', hm', hj', q0, q1, u0, u1, u5, f11, a1, a2, a3, a4, a5, a3', a5']
                      refine newerM og1.ts hzs ?_
                      cases hn2 : newerB o1.ts z.1 with
                      | true =>
                        simp (disch := omega) [f11, a1, a2, a3, a4, a5, a3', a5']
                        refine stp _ _ true (.inl rfl) lg11 B11 S11 ?_ ?_ ?_ ?_ ?_ ?_ ?_ ?_ ?_ ?_ <;> simp [e0, e1, e6, e7, e8, e9, e10, e11, e13]
                      | false =>
                        rw [hn2] at hit
                        by_cases c1 : o1.ts = z.1
                        · have c1' : (o1.ts : Int) = (z.1 : Int) := by omega
                          by_cases c2 : o1.tc < z.2
                          · simp (disch := omega) [f11, a1, a2, a3, a4, a5, a3', a5', eq_true c1, eq_true c1', c2]
                            refine stp _ _ true (.inl rfl) lg11 B11 S11 ?_ ?_ ?_ ?_ ?_ ?_ ?_ ?_ ?_ ?_ <;> simp [e0, e1, e6, e7, e8, e9, e10, e11, e13]
                          · have hit' := hit.resolve_left (by simp [c2])
                            simp (disch := omega) [f11, a1, a2, a3, a4, a5, a3', a5', eq_true c1, eq_true c1', c2]
                            refine stp _ _ false (.inr hit') lg11 B11 S11 ?_ ?_ ?_ ?_ ?_ ?_ ?_ ?_ ?_ ?_ <;> simp [e0, e1, e6, e7, e8, e9, e10, e11, e13]
                        · have c1' : ¬ (o1.ts : Int) = (z.1 : Int) := by omega
                          have hit' := hit.resolve_left (by simp [c1])
                          simp (disch := omega) [f11, a1, a2, a3, a4, a5, a3', a5', c1, c1']
                          refine stp _ _ false (.inr hit') lg11 B11 S11 ?_ ?_ ?_ ?_ ?_ ?_ ?_ ?_ ?_ ?_ <;> simp [e0, e1, e6, e7, e8, e9, e10, e11, e13]
                  · have a3' : (o1.ta : Int) = (k.1 : Int) := by omega
                    have a5' : ¬ (o1.trt : Int) = (t.rt : Int) := by omega
                    simp (disch := omega) [octroilaw17_BabelFeasible_r18, octroilaw17_BabelFeasible_r19, e1', e8', e9, e10, e13, hb1', hb3', hm', hj', q0, q1, u0, u1, u5, f11, a1, a2, a3, a4, a5, a3', a5']
                    refine stp _ _ false (.inr (miss (by simp [a5]))) lg11 B11 S11 ?_ ?_ ?_ ?_ ?_ ?_ ?_ ?_ ?_ ?_ <;> simp [e0, e1, e6, e7, e8, e9, e10, e11, e13]
                · have a3' : (o1.ta : Int) = (k.1 : Int) := by omega
                  simp (disch := omega) [octroilaw17_BabelFeasible_r18, octroilaw17_BabelFeasible_r19, e1', e8', e9, e10, e13, hb1', hb3', hm', hj', q0, q1, u0, u1, u5, f11, a1, a2, a3, a4, a3']
                  refine stp _ _ false (.inr (miss (by simp [a4]))) lg11 B11 S11 ?_ ?_ ?_ ?_ ?_ ?_ ?_ ?_ ?_ ?_ <;> simp [e0, e1, e6, e7, e8, e9, e10, e11, e13]
              · have a3' : ¬ (o1.ta : Int) = (k.1 : Int) := by omega
                simp (disch := omega) [octroilaw17_BabelFeasible_r18, octroilaw17_BabelFeasible_r19, e1', e8', e9, e10, e13, hb1', hb3', hm', hj', q0, q1, u0, u1, u5, f11, a1, a2, a3, a3']
                refine stp _ _ false (.inr (miss (by simp [a3]))) lg11 B11 S11 ?_ ?_ ?_ ?_ ?_ ?_ ?_ ?_ ?_ ?_ <;> simp [e0, e1, e6, e7, e8, e9, e10, e11, e13]
            · simp (disch := omega) [octroilaw17_BabelFeasible_r18, octroilaw17_BabelFeasible_r19, e1', e8', e9, e10, e13, hb1', hb3', hm', hj', q0, q1, u0, u1, u5, f11, a1, a2]
              refine stp _ _ false (.inr (miss (by simp [a2]))) lg11 B11 S11 ?_ ?_ ?_ ?_ ?_ ?_ ?_ ?_ ?_ ?_ <;> simp [e0, e1, e6, e7, e8, e9, e10, e11, e13]
          · simp (disch := omega) [octroilaw17_BabelFeasible_r18, octroilaw17_BabelFeasible_r19, e1', e8', e9, e10, e13, hb1', hb3', hm', hj', q0, q1, u0, u1, u5, f11, a1]
            refine stp _ _ false (.inr (miss (by simp [a1]))) lg11 B11 S11 ?_ ?_ ?_ ?_ ?_ ?_ ?_ ?_ ?_ ?_ <;> simp [e0, e1, e6, e7, e8, e9, e10, e11, e13]
end Go.Proofs.Ytchbipkoifmmdaa

/- BabelFeasible: a way by a neighbour is one that it has told with a number and a metric better than the least of its router: the row. No condition. -/
namespace Go.Proofs.Ytchbipkoifmmdaa.BabelFeasible_row
open Go Go.ChangeShapes Go.WideShapes Go.RowKit
theorem own_knob : ownKnob Try.prog.godebug = none := by kernel_rfl
theorem laid_out : laidOutB Try.prog = true := by kernel_rfl
set_option maxRecDepth 100000 in
theorem lifted (os : Os) (started : os.Started) (H : Type) (enc : TypeId × Value → H) :
    ReturnsInHanded {} Try.checked os 8 .any (Rows.babelFeasibleSpec.pre6 enc Try.prog Try.f8 Rows.babelFeasibleRow.domain false) (Rows.babelFeasibleSpec.post enc Try.prog Try.f8 false true false false) := by
  refine returnsInHanded_of_change_sized (C := Try.checked) own_knob started (by kernel_rfl) Try.func8
    (ChangeSpec.witness6 (enc := enc) (C := Try.checked) false ⟨#[], #[.int .u64 0, .slice none 0 0], []⟩ 8 (by kernel_rfl) (by kernel_rfl) (by kernel_rfl) (by kernel_rfl)) ?_
  intro W base args ds gs before hval hW hcnd hsz _
  have hW' := hW
  obtain ⟨p, q, hA, hV, rfl, hfz, hnd⟩ := hW
  obtain ⟨rfl, rfl⟩ := trodVars_none hV
  have hA' : DataW.TrodAll enc Try.prog W 0 (fun _ => true) true Try.f8.params.toList args.toList ds p := hA
  have hval' : ∀ (j : Nat) t v, Try.f8.params[j]? = some t → args[j]? = some v → Value.okWide Try.prog W .any base t v := hval
  rw [Try.params8] at hA' hval'
  obtain ⟨v0, vs0, d0, ds0, p0, q0, hargs, rfl, rfl, h0, r0⟩ := trodAll_cons hA'
  obtain ⟨v1, vs1, d1, ds1, p1, q1, rfl, rfl, rfl, h1, r1⟩ := trodAll_cons r0
  obtain ⟨rfl, rfl, rfl⟩ := trodAll_nil r1
  obtain rfl : args = #[v0, v1] := by cases args; simp_all
  obtain ⟨n0, rfl, rfl, rfl, w0⟩ := open_int Try.underlying28 (hval' 0 _ v0 rfl rfl) h0
  obtain ⟨a0, rfl, ha0⟩ := u64_wf w0
  obtain ⟨xs1, A1⟩ := open_argSl (ks := Op17Ks) (sz := 12) 4 Try.underlying44 (by kernel_rfl) (by kernel_rfl) (by decide) dec_Op17 (hval' 1 _ v1 rfl rfl) h1
  refine (below_of (BabelFeasible_walk A1)).mono fun e W' ⟨he, bel⟩ => ?_
  subst he
  exact ⟨_, rfl, _, _, _, [], _, [], hW', trodAll_mk1 (shut_bool (by kernel_rfl) _), trodAll_below laid_out bel (by kernel_rfl) hA, rfl, bel.frame _, fun h => by cases h⟩
theorem over : Rows.babelFeasibleRow.holds Try.pinned (OpenSpec.ofChange Rows.babelFeasibleSpec) :=
  OpenClaim.holds_of_wide 8 Try.f8 rfl rfl rfl rfl rfl rfl rfl ⟨rfl, rfl, rfl, rfl, rfl⟩ rfl rfl rfl rfl rfl (by kernel_rfl) Try.func8 (by kernel_rfl)
    (of_decide_eq_true (by kernel_rfl)) (by unfold Func.isWrapper; first | (rw [if_pos (by decide +kernel)]; kernel_rfl) | (rw [if_neg (by decide +kernel)]; exact ⟨rfl, rfl⟩))
    (fun os started H enc _ => lifted os started H enc)
end Go.Proofs.Ytchbipkoifmmdaa.BabelFeasible_row
namespace Go.Proofs.Ytchbipkoifmmdaa
theorem babelFeasible_holds : Rows.BabelFeasibleSaid := BabelFeasible_row.over
#print axioms babelFeasible_holds
end Go.Proofs.Ytchbipkoifmmdaa
