/- Babel: what it tells. -/
import Derived.Test.YtchbipkoifmmdaaRows
import Derived.Test.YtchbipkoifmmdaaZ7

set_option linter.unusedSimpArgs false
set_option linter.unusedVariables false

namespace Go.Proofs.Ytchbipkoifmmdaa
open Go
set_option linter.unusedSimpArgs false
set_option linter.unusedVariables false

abbrev goneX (t : Tlv) : Tlv := ⟨t.k, t.s, t.iv, 65535, t.a, t.l, t.rt, 0, t.hp⟩
def waysL (s : BS) (ks : List PK) : List Tlv := ks.filterMap fun k => (wayB s k).map (·.1)
def goneL (s : BS) (ks : List PK) : List Tlv := ks.filterMap fun k => if (wayB s k).isSome then none else (getM s.S k).map goneX
def tellStep (s : BS) (t : Tlv) : BS := knowB { s with S := setM (t.a, t.l) t s.S } (t.a, t.l) t.rt t.s t.c
def tellS (s : BS) : BS := (waysL s (prefL s)).foldl tellStep { s with S := [] }
def tellL (s : BS) : List Tlv := waysL s (prefL s) ++ goneL s (prefL s)

theorem ways_snoc {s : BS} {A : List PK} {k : PK} : waysL s (A ++ [k]) = waysL s A ++ ((wayB s k).map (·.1)).toList := by
  unfold waysL; rw [List.filterMap_append]
  cases h : wayB s k <;> simp [List.filterMap, h]
theorem gone_snoc {s : BS} {A : List PK} {k : PK} : goneL s (A ++ [k]) = goneL s A ++ (if (wayB s k).isSome then none else (getM s.S k).map goneX).toList := by
  unfold goneL; rw [List.filterMap_append]
  cases h : (if (wayB s k).isSome then none else (getM s.S k).map goneX) <;> simp [List.filterMap, h]
theorem waysL_length {s : BS} {ks : List PK} : (waysL s ks).length ≤ ks.length := List.length_filterMap_le _ _
theorem goneL_length {s : BS} {ks : List PK} : (goneL s ks).length ≤ ks.length := List.length_filterMap_le _ _

/-- Numbers that are, in all that is known. -/
structure BNum (s : BS) : Prop where
  q : s.seq < 65536
  m : SeqOk s.M
  t : ∀ e ∈ s.T, e.2.2.s < 65536 ∧ e.2.2.a < 2 ^ 32
  o : ∀ e ∈ s.O, e.2.a < 2 ^ 32
theorem BNum.tld {s : BS} (N : BNum s) : TldOk s.T := fun e he => (N.t e he).1
theorem wayN_ok {s : BS} (N : BNum s) {k : PK} : ∀ {n : Nat} {y : Tlv × Int}, wayN s k n = some y → y.1.s < 65536 ∧ y.1.a < 2 ^ 32
  | 0, y, h => by cases h
  | n + 1, y, h => by
    rw [wayN] at h
    unfold wayStep at h
    cases hg : getM s.T (k, ((n + 1 : Nat) : Int)) with
    | none => rw [hg] at h; exact wayN_ok N h
    | some z =>
      rw [hg] at h
      simp only at h
      split at h
      · simp at h; subst h; exact N.t _ (getM_mem hg)
      · exact wayN_ok N h
theorem wayB_ok {s : BS} (N : BNum s) {k : PK} {y : Tlv × Int} (h : wayB s k = some y) : y.1.s < 65536 ∧ y.1.a < 2 ^ 32 := by
  unfold wayB at h
  cases hg : getM s.O k with
  | none => rw [hg] at h; exact wayN_ok N h
  | some t => rw [hg] at h; simp at h; subst h; exact ⟨N.q, N.o _ (getM_mem hg)⟩
theorem waysL_ok {s : BS} (N : BNum s) {ks : List PK} : ∀ t ∈ waysL s ks, t.s < 65536 ∧ t.a < 2 ^ 32 := by
  intro t ht
  obtain ⟨k, hk, h2⟩ := List.mem_filterMap.1 ht
  cases h : wayB s k with
  | none => rw [h] at h2; cases h2
  | some y => rw [h] at h2; simp at h2; subst h2; exact wayB_ok N h
theorem knowB_seq {s : BS} {k : PK} {rt sn : Nat} {n : Int} (h : SeqOk s.M) (hs : sn < 65536) : SeqOk (knowB s k rt sn n).M := by
  unfold knowB
  split
  · intro e he
    rcases setM_mem he with rfl | q
    · exact hs
    · exact h e q
  · exact h

section
variable {h h' : Hp} {x : BP} {s : BS} {Q : Value → Hp → Prop}

def Te0 (h0 : Hp) (x : BP) (s : BS) (wk : Value) (ks : List PK) (n : Nat) (env : Env) (g : Hp) : Prop :=
  ∃ (i : Nat) (wv gv : Value), i + n = ks.length ∧ Le h0 g ∧ SlAt g 31 9 Tlv.enc wv (waysL s (ks.take i)) ∧ SlAt g 31 9 Tlv.enc gv (goneL s (ks.take i)) ∧ (∀ b, blkOf wv = some b → h0 b = none) ∧ (∀ b, blkOf gv = some b → h0 b = none) ∧ (∀ b, blkOf wv = some b → blkOf gv ≠ some b) ∧
    env 0 = .pointer (some ⟨x.p, 0, none⟩) ∧ env 3 = wv ∧ env 4 = gv ∧ env 15 = wk ∧ env 16 = .int .i64 (ks.length : Nat) ∧ env 17 = .int .i64 (i : Nat)

def Te1 (h0 : Hp) (x : BP) (s0 : BS) (wv gv : Value) (ws gs : List Tlv) (n : Nat) (env : Env) (g : Hp) : Prop :=
  ∃ i : Nat, i + n = ws.length ∧ BQ h0 x ((ws.take i).foldl tellStep s0) g ∧ SeqOk ((ws.take i).foldl tellStep s0).M ∧ SlAt g 31 9 Tlv.enc wv ws ∧ SlAt g 31 9 Tlv.enc gv gs ∧
    env 0 = .pointer (some ⟨x.p, 0, none⟩) ∧ env 3 = wv ∧ env 4 = gv ∧ env 54 = wv ∧ env 55 = .int .i64 (ws.length : Nat) ∧ env 56 = .int .i64 (i : Nat)

set_option maxHeartbeats 2000000 in
set_option maxRecDepth 20000 in
theorem btellM (A : BabAt h x s) (N : BNum s) (hl : s.O.length + s.S.length + s.T.length ≤ 100000) (hQ : ∀ w h', BQ h x (tellS s) h' → SlAt h' 31 9 Tlv.enc w (tellL s) → (∀ b, blkOf w = some b → h b = none) → Q w h') :
    Ok Try.prog F_babel_Babel_Tell #[.pointer (some ⟨x.p, 0, none⟩)] h Q := by
  refine babel_Babel_Tell_ok (by simp) ?_
  unfold babel_Babel_Tell_D
  simp (disch := omega) [babel_Babel_Tell_r0, babel_Babel_Tell_r1, babel_Babel_Tell_r2]
  refine bprefM A hl (fun wk h1 l1 Sk nk => ?_)
  have hkl := prefL_length (s := s)
  unfold tellS tellL at hQ
  generalize prefL s = ks at *
  obtain ⟨sp, scap, hwk⟩ := Sk.shape'
  have A1 := A.le' l1
  simp (disch := omega) [hwk]
  refine ⟨Te0 h1 x s wk ks, ⟨ks.length, 0, .slice none 0 0, .slice none 0 0, by omega, .refl _, .inl ⟨rfl, rfl⟩, .inl ⟨rfl, rfl⟩, by simp [blkOf], by simp [blkOf], by simp [blkOf], by simp, by simp, by simp, by simp [hwk], by simp, by simp⟩, ?_⟩
  rintro n env g ⟨i, wv, gv, hin, lg, Sw, Sg, nw, ng, dis, e0, e3, e4, e15, e16, e17⟩
  unfold babel_Babel_Tell_L0
  have hwl : (waysL s (ks.take i)).length ≤ ks.length := Nat.le_trans waysL_length (by rw [List.length_take]; omega)
  have hgl : (goneL s (ks.take i)).length ≤ ks.length := Nat.le_trans goneL_length (by rw [List.length_take]; omega)
  by_cases hm : n = 0
  · have : i = ks.length := by omega
    subst this
    rw [List.take_of_length_le (Nat.le_refl _)] at Sw Sg
    have Ag := A1.le' lg
    have hp := Ag.pt
    simp (disch := omega) [babel_Babel_Tell_r3, babel_Babel_Tell_r13, e0, e3, e4, e15, e16, e17, hp]
    refine clearP Ag.md (fun o M5 => ?_)
    have B0 := BQ.le' (l1.trans lg) (Ag.setS M5 .nil)
    generalize hg2 : g.upd x.d o = g2 at *
    have offW : ∀ y ∈ ownB x, blkOf wv ≠ some y := fun y hy e => by obtain ⟨o, e2⟩ := A1.alive y hy; rw [nw y e] at e2; cases e2
    have offG : ∀ y ∈ ownB x, blkOf gv ≠ some y := fun y hy e => by obtain ⟨o, e2⟩ := A1.alive y hy; rw [ng y e] at e2; cases e2
    have md : x.d ∈ ownB x := mem_ownB.2 (.inr (.inr (.inr (.inr rfl))))
    replace Sw : SlAt g2 31 9 Tlv.enc wv (waysL s ks) := Sw.keep fun b o' e e2 => by rw [← hg2, upd_ne (fun q => offW _ md (by rw [← q]; exact e))]; exact e2
    replace Sg : SlAt g2 31 9 Tlv.enc gv (goneL s ks) := Sg.keep fun b o' e e2 => by rw [← hg2, upd_ne (fun q => offG _ md (by rw [← q]; exact e))]; exact e2
    have hok := waysL_ok N (ks := ks)
    have hwsl := waysL_length (s := s) (ks := ks)
    have hgsl := goneL_length (s := s) (ks := ks)
    have nw' : ∀ b, blkOf wv = some b → h b = none := fun b e => none_of_le l1 (nw b e)
    generalize waysL s ks = ws at *
    generalize goneL s ks = gs at *
    obtain ⟨wp, wcap, hwv⟩ := Sw.shape'
    simp (disch := omega) [babel_Babel_Tell_r14, e3, hwv]
    refine ⟨Te1 h x { s with S := [] } wv gv ws gs, ⟨ws.length, 0, by omega, by simpa using B0, N.m, Sw, Sg, by simp [e0], by simp [e3, hwv], by simp [e4], by simp [hwv], by simp, by simp⟩, ?_⟩
    clear e0 e3 e4 e15 e16 e17
    rintro n env g3 ⟨i, hin, B, hM, Sw3, Sg3, e0, e3, e4, e54, e55, e56⟩
    unfold babel_Babel_Tell_L1
    by_cases hm2 : n = 0
    · have : i = ws.length := by omega
      subst this
      rw [List.take_of_length_le (Nat.le_refl _)] at B
      simp (disch := omega) [babel_Babel_Tell_r15, babel_Babel_Tell_r20, e0, e3, e4, e54, e55, e56]
      refine cat_api_BabelTlv Sw3 (Sg3.toSrc (fun y _ => Tlv.one y)) (by omega) (fun w' g4 S4 G4 => ?_)
      simp (disch := omega)
      have F4 := G4.fr
      have B4 : BQ h x (ws.foldl tellStep { s with S := [] }) g4 := ⟨B.at_.keep (fun y o' hy e => G4.keep y o' e (fun q => offW y hy q.symm)), ⟨fun y o' e nn => G4.keep y o' (B.fr.keep y o' e nn) (fun q => by rw [nw' y q.symm] at e; cases e), fun _ m => .inl m⟩⟩
      refine .to _ (.refl _) (hQ _ _ B4 S4 (fun b e => ?_))
      rcases G4.fresh with q1 | q1
      · exact nw' b (by rw [← q1]; exact e)
      · have := q1 b e
        cases hb : h b with
        | none => rfl
        | some o' =>
          by_cases hm : b ∈ ownB x
          · obtain ⟨o2, e2⟩ := B.at_.alive b hm; rw [this] at e2; cases e2
          · rw [B.fr.keep b o' hb hm] at this; cases this
    · obtain ⟨t, ht⟩ : ∃ t, ws[i]? = some t := ⟨_, List.getElem?_eq_getElem (by omega)⟩
      obtain ⟨b, cap, c, hv', hb, c0, c1, c2, c3, c4, c5, c6, c7, c8⟩ := Tlv_at Sw3 ht
      have hi' : i < ws.length := by omega
      have tok := hok t (List.mem_of_getElem? ht)
      have hfold : (ws.take (i + 1)).foldl tellStep { s with S := [] } = tellStep ((ws.take i).foldl tellStep { s with S := [] }) t := by rw [take_snoc ht, List.foldl_append]; rfl
      generalize (ws.take i).foldl tellStep { s with S := [] } = si at *
      simp (disch := omega) [babel_Babel_Tell_r15, babel_Babel_Tell_r16, e0, e3, e4, e54, e55, e56, hv', hb, c0, c1, c2, c3, c4, c5, c6, c7, c8, hi']
      intro b13 hb13
      have L13 : Le g3 (g3.upd b13 (.cells t.cells 31)) := .new hb13
      have f13 : (g3.upd b13 (.cells t.cells 31)) b13 = some (.cells t.cells 31 (0, 0)) := upd_same
      have n13 : b13 ∉ ownB x := fun q => by obtain ⟨o, e⟩ := B.at_.alive _ q; rw [hb13] at e; cases e
      simp (disch := omega)
      show babel_Babel_Tell_r17 _ (g3.upd b13 (.cells t.cells 31)) _
      generalize g3.upd b13 (.cells t.cells 31) = g4 at *
      have B4 : BQ h x si g4 := ⟨B.at_.le' L13, ⟨fun y o' e nn => L13 _ _ (B.fr.keep y o' e nn), fun _ m => .inl m⟩⟩
      have hp4 := B4.at_.pt
      have Sw4 := Sw3.le' L13
      have Sg4 := Sg3.le' L13
      simp (disch := omega) [babel_Babel_Tell_r17, e0, hp4, f13]
      refine putP (p := (t.a, t.l)) (v := t) B4.at_.md (fun o5 M5 => ?_)
      have B5 := B4.at_.setS M5 B4.at_.ud.set
      have f135 : (g4.upd x.d o5) b13 = some (.cells t.cells 31 (0, 0)) := by rw [upd_ne (fun q => n13 (by rw [q]; exact md))]; exact f13
      have Sw5 : SlAt (g4.upd x.d o5) 31 9 Tlv.enc wv ws := Sw4.keep fun b o' e e2 => by rw [upd_ne (fun q => offW _ md (by rw [← q]; exact e))]; exact e2
      have Sg5 : SlAt (g4.upd x.d o5) 31 9 Tlv.enc gv gs := Sg4.keep fun b o' e e2 => by rw [upd_ne (fun q => offG _ md (by rw [← q]; exact e))]; exact e2
      have BB5 := B4.trans B5
      simp (disch := omega)
      show babel_Babel_Tell_r18 _ (g4.upd x.d o5) _
      generalize g4.upd x.d o5 = g5 at *
      simp (disch := omega) [babel_Babel_Tell_r18, e0, f135]
      refine bKnowM (k := (t.a, t.l)) B5.at_ hM tok.1 tok.2 (fun g6 B6 => ?_)
      have BB6 := BB5.trans B6
      have Sw6 : SlAt g6 31 9 Tlv.enc wv ws := Sw5.keep fun b o' e e2 => B6.fr.keep b o' e2 (fun q => offW b q e)
      have Sg6 : SlAt g6 31 9 Tlv.enc gv gs := Sg5.keep fun b o' e e2 => B6.fr.keep b o' e2 (fun q => offG b q e)
      simp (disch := omega) [babel_Babel_Tell_r19, e56, wrap_i64]
      exact ⟨n - 1, by omega, i + 1, by omega, by rw [hfold]; exact BB6, by rw [hfold]; exact knowB_seq hM tok.1, Sw6, Sg6, by simp [e0], by simp [e3, hv'], by simp [e4], by simp [e54, hv'], by simp [e55], by simp⟩
  · obtain ⟨k, hk⟩ : ∃ x, ks[i]? = some x := ⟨_, List.getElem?_eq_getElem (by omega)⟩
    obtain ⟨b, cap, c, hv', hb, c0, c1⟩ := kq_at (Sk.le' lg) hk
    have hi' : i < ks.length := by omega
    have tk := take_snoc hk
    simp (disch := omega) [babel_Babel_Tell_r3, babel_Babel_Tell_r4, e0, e3, e4, e15, e16, e17, hv', hb, c0, c1, hi']
    intro b6 hb6
    have L6 : Le g (g.upd b6 (.cells (kencP k).toArray 24)) := .new hb6
    have f6 : (g.upd b6 (.cells (kencP k).toArray 24)) b6 = some (.cells (kencP k).toArray 24 (0, 0)) := upd_same
    simp (disch := omega)
    show babel_Babel_Tell_r5 _ (g.upd b6 (.cells (kencP k).toArray 24)) _
    generalize g.upd b6 (.cells (kencP k).toArray 24) = g1 at *
    have lg1 := lg.trans L6
    simp (disch := omega) [babel_Babel_Tell_r5, e0, f6]
    refine bwayM (k := k) (A1.le' lg1) N.m N.tld (fun g2 l2 => ?_)
    simp (disch := omega)
    intro b7 hb7
    have lg2 := lg1.trans l2
    have L7 : Le g2 (g2.upd b7 (.cells tc0 31)) := .new hb7
    have f7 : (g2.upd b7 (.cells tc0 31)) b7 = some (.cells tc0 31 (0, 0)) := upd_same
    have L7b : ∀ o2, Le g2 ((g2.upd b7 (.cells tc0 31)).upd b7 o2) := fun o2 y o e => by
      have : y ≠ b7 := by rintro rfl; rw [hb7] at e; cases e
      rw [upd_ne this]; exact L7 _ _ e
    generalize g2.upd b7 (.cells tc0 31) = g3 at *
    simp (disch := omega)
    refine (stA_of f7 (by rfl) (by rfl)).mpr ?_
    have L8 := L7b (.cells (bestT (wayB s k)).cells 31 (0, 0))
    have f8 : (g3.upd b7 (.cells (bestT (wayB s k)).cells 31 (0, 0))) b7 = some (.cells (bestT (wayB s k)).cells 31 (0, 0)) := upd_same
    show thenK _ _ _ _ (g3.upd b7 (.cells (bestT (wayB s k)).cells 31 (0, 0)))
    generalize g3.upd b7 (.cells (bestT (wayB s k)).cells 31 (0, 0)) = g4 at *
    have lg4 := lg2.trans L8
    have Sw4 := ((Sw.le' L6).le' l2).le' L8
    have Sg4 := ((Sg.le' L6).le' l2).le' L8
    have f64 := L8 _ _ (l2 _ _ f6)
    have A4 := A1.le' lg4
    have hp4 := A4.pt
    rw [← hv']
    have inv : ∀ (env : Env) (g' : Hp) (wv' gv' : Value), Le h1 g' → SlAt g' 31 9 Tlv.enc wv' (waysL s (ks.take (i + 1))) → SlAt g' 31 9 Tlv.enc gv' (goneL s (ks.take (i + 1))) → (∀ b, blkOf wv' = some b → h1 b = none) → (∀ b, blkOf gv' = some b → h1 b = none) → (∀ b, blkOf wv' = some b → blkOf gv' ≠ some b) →
        env 0 = .pointer (some ⟨x.p, 0, none⟩) → env 3 = wv' → env 4 = gv' → env 15 = wk → env 16 = .int .i64 (ks.length : Nat) → env 17 = .int .i64 (i : Nat) →
        babel_Babel_Tell_r12 env g' (roundK (Te0 h1 x s wk ks) n (inBlk 0 (thenK (sq (rg babel_Babel_Tell_r13) (sq (sq (rg babel_Babel_Tell_r14) (blk 2 (lp babel_Babel_Tell_L1))) (sq (rg babel_Babel_Tell_r20) (ex .ret)))) (fin Try.prog [.tmp 2] Q))) .normal) := by
      intro env g' wv' gv' lg' Sw' Sg' nw' ng' dis' e0 e3 e4 e15 e16 e17
      simp (disch := omega) [babel_Babel_Tell_r12, e17, wrap_i64]
      exact ⟨n - 1, by omega, i + 1, wv', gv', by omega, lg', Sw', Sg', nw', ng', dis', by simp [e0], by simp [e3], by simp [e4], by simp [e15], by simp [e16], by simp⟩
    cases hw : wayB s k with
    | some y =>
      have hs : waysL s (ks.take (i + 1)) = waysL s (ks.take i) ++ [y.1] := by rw [tk, ways_snoc, hw]; simp
      have hg : goneL s (ks.take (i + 1)) = goneL s (ks.take i) := by rw [tk, gone_snoc, hw]; simp
      rw [hw] at f8
      simp (disch := omega) [babel_Babel_Tell_r6, babel_Babel_Tell_r7, e3, f8]
      refine snoc_api_BabelTlv Sw4 (y := y.1) rfl (by simp [Tlv.enc]) (by omega) (fun b9 w' g' S' G hb9 => ?_)
      obtain ⟨lg', nw'⟩ := G.news lg4 nw
      have ne1 : ∀ b, blkOf gv = some b → b ≠ b9 ∧ blkOf wv ≠ some b := fun b e => ⟨(by rintro rfl; obtain ⟨o, e2⟩ := Sg4.alive e; rw [hb9] at e2; cases e2), fun q => dis b q e⟩
      simp (disch := omega)
      refine inv _ g' w' gv lg' (by rw [hs]; exact S') (by rw [hg]; exact Sg4.keep fun b o e e2 => G.keep b o e2 (fun q => (ne1 b e).2 q.symm)) nw' ng (fun b e q => ?_) ?_ ?_ ?_ ?_ ?_ ?_
      · rcases G.fresh with q1 | q1
        · exact dis b (by rw [← q1]; exact e) q
        · obtain ⟨o, e2⟩ := Sg4.alive q; rw [q1 b e] at e2; cases e2
      all_goals simp [e0, e4, e15, e16, e17]
    | none =>
      have hs : waysL s (ks.take (i + 1)) = waysL s (ks.take i) := by rw [tk, ways_snoc, hw]; simp
      have hg : goneL s (ks.take (i + 1)) = goneL s (ks.take i) ++ ((getM s.S k).map goneX).toList := by rw [tk, gone_snoc, hw]; simp
      have lk : ∀ h2, Le g4 h2 → _ := fun h2 l2 => lookO (k := k) (A4.le' l2).md
      have lk1 := lk g4 (.refl _)
      simp (disch := omega) [babel_Babel_Tell_r6, babel_Babel_Tell_r8, e0, hp4, f64, lk1]
      intro b10 hb10
      have L10 : Le g4 (g4.upd b10 (.cells tc0 31)) := .new hb10
      have f10 : (g4.upd b10 (.cells tc0 31)) b10 = some (.cells tc0 31 (0, 0)) := upd_same
      have L10b : ∀ o2, Le g4 ((g4.upd b10 (.cells tc0 31)).upd b10 o2) := fun o2 y o e => by
        have : y ≠ b10 := by rintro rfl; rw [hb10] at e; cases e
        rw [upd_ne this]; exact L10 _ _ e
      generalize g4.upd b10 (.cells tc0 31) = g5 at *
      have lk2 := lk g5 L10
      have f65 := L10 _ _ f64
      have hp5 := L10 _ _ hp4
      simp (disch := omega) [hp5, f65, lk2, f10]
      refine (stA_of f10 (by rfl) (by rfl)).mpr ⟨trivial, ?_⟩
      cases hgS : getM s.S k with
      | none =>
        rw [hgS] at hg
        simp only [Option.map_none, Option.toList_none, List.append_nil] at hg
        have L11 := L10b (.cells tlv0.cells 31 (0, 0))
        simp (disch := omega) [babel_Babel_Tell_r9]
        refine inv _ _ wv gv (lg4.trans L11) (by rw [hs]; exact Sw4.le' L11) (by rw [hg]; exact Sg4.le' L11) nw ng dis ?_ ?_ ?_ ?_ ?_ ?_ <;> simp [e0, e3, e4, e15, e16, e17]
      | some t =>
        rw [hgS] at hg
        simp only [Option.map_some, Option.toList_some] at hg
        have L11 := L10b (.cells (goneX t).cells 31 (0, 0))
        have f11 : (g5.upd b10 (.cells (goneX t).cells 31 (0, 0))) b10 = some (.cells (goneX t).cells 31 (0, 0)) := upd_same
        simp (disch := omega) [babel_Babel_Tell_r9, babel_Babel_Tell_r10]
        show babel_Babel_Tell_r11 _ (g5.upd b10 (.cells (goneX t).cells 31 (0, 0))) _
        have Sw5 := Sw4.le' L11
        have Sg5 := Sg4.le' L11
        have lg5 := lg4.trans L11
        generalize g5.upd b10 (.cells (goneX t).cells 31 (0, 0)) = g6 at *
        simp (disch := omega) [babel_Babel_Tell_r11, e4, f11]
        refine snoc_api_BabelTlv Sg5 (y := goneX t) rfl (by simp [Tlv.enc]) (by omega) (fun b9 w' g' S' G hb9 => ?_)
        obtain ⟨lg', ng'⟩ := G.news lg5 ng
        simp (disch := omega)
        refine inv _ g' wv w' lg' (by rw [hs]; exact Sw5.keep fun b o e e2 => G.keep b o e2 (fun q => dis b e q.symm)) (by rw [hg]; exact S') nw ng' (fun b e q => ?_) ?_ ?_ ?_ ?_ ?_ ?_
        · rcases G.fresh with q1 | q1
          · exact dis b e (by rw [← q1]; exact q)
          · obtain ⟨o, e2⟩ := Sw5.alive e; rw [q1 b q] at e2; cases e2
        all_goals simp [e0, e3, e15, e16, e17]
end
end Go.Proofs.Ytchbipkoifmmdaa

/- Babel: awake. -/
namespace Go.Proofs.Ytchbipkoifmmdaa
open Go
set_option linter.unusedSimpArgs false
set_option linter.unusedVariables false

def aw0 : BS := ⟨1, 0, 10, 0, [], [], [], []⟩
def awT (c : Int) : Tlv := ⟨2, 1, 0, c, 0, 0, 7, 0, 0⟩
def aw1 : BS := ⟨1, 0, 10, 0, [], [(((0, 0), 2), (96, awT 10))], [], []⟩
def awR : Tlv := ⟨2, 1, 400, 106, 0, 0, 7, 0, 0⟩
def aw2 : BS := ⟨1, 0, 10, 0, [], [(((0, 0), 2), (96, awT 10))], [(((0, 0), 7), (1, 106))], [((0, 0), awR)]⟩
def aw4 : BS := ⟨1, 0, 10, 0, [], [(((0, 0), 2), (96, awT 10)), (((0, 0), 3), (1, awT 105))], [(((0, 0), 7), (1, 106))], [((0, 0), awR)]⟩
theorem aw_1 : bhear aw0 2 96 (awT 10) = (true, 0, aw1) := by kernel_rfl
theorem aw_2 : tellS aw1 = aw2 := by kernel_rfl
theorem aw_all : allB aw1 (prefL aw1) = [⟨0, 0, 0, 115, 106, 2, 0⟩] := by kernel_rfl
theorem aw_tell : tellL aw1 = [awR] := by kernel_rfl
theorem aw_3 : bhear aw2 3 1 (awT 106) = (false, 0, aw2) := by kernel_rfl
theorem aw_4 : bhear aw2 3 1 (awT 105) = (true, 0, aw4) := by kernel_rfl

section
variable {h h' : Hp} {Q : Value → Hp → Prop}
set_option maxHeartbeats 1000000 in
set_option maxRecDepth 20000 in
theorem awake17 (hQ : ∀ h', Le h h' → Q (.bool true) h') : Ok Try.prog F_octroilaw17_awake #[] h Q := by
  refine octroilaw17_awake_ok (by simp) ?_
  unfold octroilaw17_awake_D
  simp (disch := omega) [octroilaw17_awake_r0, octroilaw17_awake_r1]
  refine bnewM (id := 1) (fun x h1 l1 n1 A1 => ?_)
  simp (disch := omega) [octroilaw17_awake_r2, octroilaw17_awake_r4]
  intro b2 hb2
  have n2 : b2 ∉ ownB x := fun q => by obtain ⟨o, e⟩ := A1.alive _ q; rw [hb2] at e; cases e
  have L2 : Le h1 (h1.upd b2 (.cells (awT 10).cells 31)) := .new hb2
  have f2 : (h1.upd b2 (.cells (awT 10).cells 31)) b2 = some (.cells (awT 10).cells 31 (0, 0)) := upd_same
  simp (disch := omega)
  show octroilaw17_awake_r5 _ (h1.upd b2 (.cells (awT 10).cells 31)) _
  generalize h1.upd b2 (.cells (awT 10).cells 31) = h2 at *
  replace A1 : BabAt h2 x aw0 := A1.le' L2
  have n0 : ∀ y, y ∈ ownB x → h y = none := n1
  simp (disch := omega) [octroilaw17_awake_r5, f2]
  refine bHearM (t := awT 10) (s := aw0) A1 (by simp [SeqOk, aw0]) (by decide) (by decide) (by decide) (fun h3 B3 => ?_)
  rw [aw_1] at B3 ⊢
  simp only at B3 ⊢
  have A3 := B3.at_
  have f23 := B3.fr.keep _ _ f2 n2
  have k3 : ∀ y o, h y = some o → y ∉ ownB x → h3 y = some o := fun y o e nn => B3.fr.keep _ _ (L2 _ _ (l1 _ _ e)) nn
  simp (disch := omega) [octroilaw17_awake_r6]
  refine ballM A3 (by simp [SeqOk, aw1]) (by simp [TldOk, aw1, awT]) (by simp [aw1]) (fun w4 h4 l4 S4 nw4 => ?_)
  rw [aw_all] at S4
  have A4 := A3.le' l4
  have off4 : ∀ b, blkOf w4 = some b → b ∉ ownB x := fun b e q => by obtain ⟨o, e2⟩ := A3.alive b q; rw [nw4 b e] at e2; cases e2
  simp (disch := omega) [octroilaw17_awake_r7]
  refine btellM A4 ⟨by simp [aw1], by simp [SeqOk, aw1], by simp [aw1, awT], by simp [aw1]⟩ (by simp [aw1]) (fun w5 h5 B5 S5 nw5 => ?_)
  rw [aw_2] at B5
  rw [aw_tell] at S5
  have A5 := B5.at_
  have S45 : SlAt h5 38 7 Rt.enc w4 [⟨0, 0, 0, 115, 106, 2, 0⟩] := S4.keep fun b o e e2 => B5.fr.keep _ _ e2 (off4 b e)
  have f25 := B5.fr.keep _ _ (l4 _ _ f23) n2
  have k5 : ∀ y o, h y = some o → y ∉ ownB x → h5 y = some o := fun y o e nn => B5.fr.keep _ _ (l4 _ _ (k3 y o e nn)) nn
  have off5 : ∀ b, blkOf w5 = some b → b ∉ ownB x := fun b e q => by obtain ⟨o, e2⟩ := A4.alive b q; rw [nw5 b e] at e2; cases e2
  have b42 : blkOf w4 ≠ some b2 := fun e => by have := nw4 _ e; rw [f23] at this; cases this
  have b52 : blkOf w5 ≠ some b2 := fun e => by have := nw5 _ e; rw [l4 _ _ f23] at this; cases this
  have hb2' : h b2 = none := none_of_le l1 hb2
  simp (disch := omega) [octroilaw17_awake_r8, f25]
  show octroilaw17_awake_r9 _ (h5.upd b2 (.cells (awT 106).cells 31 (0, 0))) _
  have f26 : (h5.upd b2 (.cells (awT 106).cells 31 (0, 0))) b2 = some (.cells (awT 106).cells 31 (0, 0)) := upd_same
  have A6 : BabAt (h5.upd b2 (.cells (awT 106).cells 31 (0, 0))) x aw2 := A5.keep fun y o hy e => by rw [upd_ne (fun q => n2 (by rw [← q]; exact hy))]; exact e
  have S46 : SlAt (h5.upd b2 (.cells (awT 106).cells 31 (0, 0))) 38 7 Rt.enc w4 [⟨0, 0, 0, 115, 106, 2, 0⟩] := S45.keep fun b o e e2 => by rw [upd_ne (fun q => b42 (by rw [← q]; exact e))]; exact e2
  have S56 : SlAt (h5.upd b2 (.cells (awT 106).cells 31 (0, 0))) 31 9 Tlv.enc w5 [awR] := S5.keep fun b o e e2 => by rw [upd_ne (fun q => b52 (by rw [← q]; exact e))]; exact e2
  have k6 : ∀ y o, h y = some o → y ∉ ownB x → (h5.upd b2 (.cells (awT 106).cells 31 (0, 0))) y = some o := fun y o e nn => by rw [upd_ne (by rintro rfl; rw [hb2'] at e; cases e)]; exact k5 y o e nn
  generalize h5.upd b2 (.cells (awT 106).cells 31 (0, 0)) = h6 at *
  simp (disch := omega) [octroilaw17_awake_r9, f26]
  refine bHearM (t := awT 106) (s := aw2) A6 (by simp [SeqOk, aw2]) (by decide) (by decide) (by decide) (fun h7 B7 => ?_)
  rw [aw_3] at B7 ⊢
  simp only at B7 ⊢
  have f27 := B7.fr.keep _ _ f26 n2
  have S47 : SlAt h7 38 7 Rt.enc w4 [⟨0, 0, 0, 115, 106, 2, 0⟩] := S46.keep fun b o e e2 => B7.fr.keep _ _ e2 (off4 b e)
  have S57 : SlAt h7 31 9 Tlv.enc w5 [awR] := S56.keep fun b o e e2 => B7.fr.keep _ _ e2 (off5 b e)
  have k7 : ∀ y o, h y = some o → y ∉ ownB x → h7 y = some o := fun y o e nn => B7.fr.keep _ _ (k6 y o e nn) nn
  simp (disch := omega) [octroilaw17_awake_r10, f27]
  show octroilaw17_awake_r11 _ (h7.upd b2 (.cells (awT 105).cells 31 (0, 0))) _
  have f28 : (h7.upd b2 (.cells (awT 105).cells 31 (0, 0))) b2 = some (.cells (awT 105).cells 31 (0, 0)) := upd_same
  have A8 : BabAt (h7.upd b2 (.cells (awT 105).cells 31 (0, 0))) x aw2 := B7.at_.keep fun y o hy e => by rw [upd_ne (fun q => n2 (by rw [← q]; exact hy))]; exact e
  have S48 : SlAt (h7.upd b2 (.cells (awT 105).cells 31 (0, 0))) 38 7 Rt.enc w4 [⟨0, 0, 0, 115, 106, 2, 0⟩] := S47.keep fun b o e e2 => by rw [upd_ne (fun q => b42 (by rw [← q]; exact e))]; exact e2
  have S58 : SlAt (h7.upd b2 (.cells (awT 105).cells 31 (0, 0))) 31 9 Tlv.enc w5 [awR] := S57.keep fun b o e e2 => by rw [upd_ne (fun q => b52 (by rw [← q]; exact e))]; exact e2
  have k8 : ∀ y o, h y = some o → y ∉ ownB x → (h7.upd b2 (.cells (awT 105).cells 31 (0, 0))) y = some o := fun y o e nn => by rw [upd_ne (by rintro rfl; rw [hb2'] at e; cases e)]; exact k7 y o e nn
  generalize h7.upd b2 (.cells (awT 105).cells 31 (0, 0)) = h8 at *
  simp (disch := omega) [octroilaw17_awake_r11, f28]
  refine bHearM (t := awT 105) (s := aw2) A8 (by simp [SeqOk, aw2]) (by decide) (by decide) (by decide) (fun h9 B9 => ?_)
  rw [aw_4] at B9 ⊢
  simp only at B9 ⊢
  have S49 : SlAt h9 38 7 Rt.enc w4 [⟨0, 0, 0, 115, 106, 2, 0⟩] := S48.keep fun b o e e2 => B9.fr.keep _ _ e2 (off4 b e)
  have S59 : SlAt h9 31 9 Tlv.enc w5 [awR] := S58.keep fun b o e e2 => B9.fr.keep _ _ e2 (off5 b e)
  have k9 : Le h h9 := fun y o e => B9.fr.keep _ _ (k8 y o e (fun q => by rw [n0 y q] at e; cases e)) (fun q => by rw [n0 y q] at e; cases e)
  obtain ⟨b1, cc1, d1, e1, hbb1, q1⟩ := rt_at (i := 0) S49 rfl
  obtain ⟨b2', cc2, d2, e2, hbb2, q2⟩ := Tlv_at (i := 0) S59 rfl
  simp only [List.length_singleton] at e1 e2
  subst e1 e2
  simp [awR] at q1 q2
  simp (disch := omega) [octroilaw17_awake_r12, hbb1, hbb2, q1, q2]
  exact .to _ (.refl _) (hQ _ k9)
end
end Go.Proofs.Ytchbipkoifmmdaa

/- PfR: a flat struct (printed by wip/lib/struct.py). -/
namespace Go.Proofs.Ytchbipkoifmmdaa
open Go
set_option linter.unusedSimpArgs false
set_option linter.unusedVariables false

structure PfR where
  a : Nat
  n : Int
deriving DecidableEq

def PfR.enc (x : PfR) : List Value := [.int .u32 (x.a : Nat), .int .i64 x.n]
abbrev PfRv (x : PfR) : Value := .agg #[.int .u32 (x.a : Nat), .int .i64 x.n]
abbrev PfR.cells (x : PfR) : Array Value := #[.int .u32 (x.a : Nat), .int .i64 x.n]
structure PfR.Good (x : PfR) : Prop where
  a : x.a < 2 ^ 32
theorem PfR.one (x : PfR) : (PfR.enc x).length = 2 ∧ ∀ u ∈ PfR.enc x, oneCell u = true := ⟨rfl, by simp [PfR.enc]⟩

def PfRKs : List Lk := [.int .u32, .int .i64]
theorem dec_PfR {H : Type} {enc : TypeId × Value → H} {w : World} {base : Nat} {spare : Nat → Bool} {held : Bool} (cs : List Value) (h : okLs enc Try.prog w base spare held PfRKs cs) : ∃ x : PfR, cs = x.enc ∧ x.Good := by
  obtain ⟨a0, _, rfl, w0, h⟩ := okLs_int h
  obtain ⟨a1, _, rfl, w1, h⟩ := okLs_int h
  obtain rfl := okLs_nil h
  obtain ⟨b0, rfl, g0⟩ := u32_wf w0
  exact ⟨⟨b0, a1⟩, rfl, ⟨g0⟩⟩
end Go.Proofs.Ytchbipkoifmmdaa

/- BabelBest: of two neighbours that tell one router's prefix that way is taken that costs less in all. -/
namespace Go.Proofs.Ytchbipkoifmmdaa
open Go
set_option linter.unusedSimpArgs false
set_option linter.unusedVariables false

theorem hasT_zero {d : Int} : hasT 0 d = false := by
  unfold hasT
  cases h1 : decide (0 ≤ d) <;> cases h2 : decide (d < 16) <;> simp
abbrev tlB (p : PK) (c : Int) : Tlv := ⟨2, 0, 0, c, p.1, p.2, 7, 0, 0⟩
def bs1 (p : PK) (a one : Int) : BS := ⟨1, 0, 10, 0, [], [((p, 3), (one, tlB p a))], [], []⟩
def bs2 (p : PK) (a b one two : Int) : BS := ⟨1, 0, 10, 0, [], [((p, 3), (one, tlB p a)), ((p, 2), (two, tlB p b))], [], []⟩

theorem best_1 {p : PK} {a one : Int} (hm : mayB p.1 p.2 = true) (ha : 0 ≤ a ∧ a ≤ 30000) (h1 : 1 ≤ one ∧ one ≤ 30000) : bhear aw0 3 one (tlB p a) = (true, 0, bs1 p a one) := by
  unfold bhear
  rw [if_neg (by unfold badT; rw [hm]; simp; omega), if_neg (by rw [hasT_zero]; simp), if_neg (by simp [aw0]), if_neg (by simp [aw0, betterB, getM_nil]; omega), if_neg (by simp [aw0])]
  rfl
theorem best_2 {p : PK} {a b one two : Int} (hm : mayB p.1 p.2 = true) (hb : 0 ≤ b ∧ b ≤ 30000) (h2 : 1 ≤ two ∧ two ≤ 30000) : bhear (bs1 p a one) 2 two (tlB p b) = (true, 0, bs2 p a b one two) := by
  unfold bhear
  rw [if_neg (by unfold badT; rw [hm]; simp; omega), if_neg (by rw [hasT_zero]; simp), if_neg (by simp [bs1]), if_neg (by simp [bs1, betterB, getM_nil]; omega), if_neg (by simp [bs1])]
  simp [bs1, bs2, setM]
theorem best_arg {s : BS} {p : PK} {f c n : Int} (hm : mayB p.1 p.2 = false) : bhear s f c (tlB p n) = (false, 1, s) := by
  unfold bhear; rw [if_pos (by unfold badT; exact .inr (.inr (.inr (.inr (.inr (.inl hm))))))]
theorem addM_small {a b : Int} (ha : 0 ≤ a ∧ a ≤ 30000) (hb : 0 ≤ b ∧ b ≤ 30000) : addM a b 65535 = a + b := by unfold addM; omega

theorem best_way {p : PK} {a b one two : Int} (ha : 0 ≤ a ∧ a ≤ 30000) (hb : 0 ≤ b ∧ b ≤ 30000) (h1 : 1 ≤ one ∧ one ≤ 30000) (h2 : 1 ≤ two ∧ two ≤ 30000) :
    wayB (bs2 p a b one two) p = if a + one < b + two then some (tcut (tlB p a) one, 3) else some (tcut (tlB p b) two, 2) := by
  have e1 : wayN (bs2 p a b one two) p 1 = none := by simp [wayN, wayStep, bs2, getM_cons, getM_nil]
  have c2 : addM b two 65535 = b + two := addM_small hb (by omega)
  have c1 : addM a one 65535 = a + one := addM_small ha (by omega)
  have e2 : wayN (bs2 p a b one two) p 2 = some (tcut (tlB p b) two, 2) := by
    rw [wayN, e1]
    unfold wayStep
    have : getM (bs2 p a b one two).T (p, ((1 + 1 : Nat) : Int)) = some (two, tlB p b) := by simp [bs2, getM_cons]
    rw [this]
    simp only
    rw [if_pos ⟨by simp [bs2, betterB, getM_nil], ⟨by show addM b two 65535 < 65535; omega, .inl rfl⟩⟩]
    rfl
  have e3 : wayN (bs2 p a b one two) p 3 = if a + one < b + two then some (tcut (tlB p a) one, 3) else some (tcut (tlB p b) two, 2) := by
    rw [wayN, e2]
    unfold wayStep
    have : getM (bs2 p a b one two).T (p, ((2 + 1 : Nat) : Int)) = some (one, tlB p a) := by simp [bs2, getM_cons]
    rw [this]
    simp only
    have hb1 : betterB (bs2 p a b one two).M (srcK (tlB p a)) (tlB p a).s (tlB p a).c = true := by simp [bs2, betterB, getM_nil]
    by_cases c : a + one < b + two
    · rw [if_pos c, if_pos ⟨hb1, ⟨by show addM a one 65535 < 65535; omega, .inr (by show addM a one 65535 < addM b two 65535; omega)⟩⟩]; rfl
    · rw [if_neg c, if_neg]
      rintro ⟨_, _, q | q⟩
      · cases q
      · have q' : addM a one 65535 < addM b two 65535 := q
        omega
  have up : ∀ m, wayN (bs2 p a b one two) p (3 + m) = wayN (bs2 p a b one two) p 3 := by
    intro m
    induction m with
    | zero => rfl
    | succ m ih =>
      rw [show 3 + (m + 1) = (3 + m) + 1 by omega, wayN, ih]
      unfold wayStep
      have : getM (bs2 p a b one two).T (p, ((3 + m + 1 : Nat) : Int)) = none := by
        have q3 : ¬ (p, ((3 + m + 1 : Nat) : Int)) = (p, 3) := fun q => by have := congrArg Prod.snd q; simp only at this; omega
        have q2 : ¬ (p, ((3 + m + 1 : Nat) : Int)) = (p, 2) := fun q => by have := congrArg Prod.snd q; simp only at this; omega
        unfold bs2
        rw [getM_cons, if_neg q3, getM_cons, if_neg q2, getM_nil]
      rw [this]
  unfold wayB
  have : getM (bs2 p a b one two).O p = none := rfl
  rw [this]
  simp only
  rw [show 32 = 3 + 29 by rfl, up, e3]
theorem best_pref {p : PK} {a b one two : Int} : prefL (bs2 p a b one two) = [p] := by
  simp [prefL, keysB, bs2, insU, plt_irr]
theorem best_all {p : PK} {a b one two : Int} (ha : 0 ≤ a ∧ a ≤ 30000) (hb : 0 ≤ b ∧ b ≤ 30000) (h1 : 1 ≤ one ∧ one ≤ 30000) (h2 : 1 ≤ two ∧ two ≤ 30000) :
    ∃ y : Rt, allB (bs2 p a b one two) (prefL (bs2 p a b one two)) = [y] ∧ (a + one < b + two → y.nx = 3 ∧ y.m = a + one) ∧ (¬ a + one < b + two → y.nx = 2 ∧ y.m = b + two) := by
  rw [best_pref]
  unfold allB
  rw [List.filterMap_cons, best_way ha hb h1 h2]
  by_cases c : a + one < b + two
  · rw [if_pos c]
    exact ⟨_, rfl, fun _ => ⟨rfl, addM_small ha (by omega)⟩, fun q => absurd c q⟩
  · rw [if_neg c]
    exact ⟨_, rfl, fun q => absurd q c, fun _ => ⟨rfl, addM_small hb (by omega)⟩⟩

set_option maxHeartbeats 1000000 in
set_option maxRecDepth 20000 in
theorem BabelBest_walk {h : Hp} {x0 : PfR} {a b one two : Int} (hk : x0.Good) :
    Ok Try.prog F_octroilaw17_BabelBest #[.agg x0.enc.toArray, .int .i64 a, .int .i64 b, .int .i64 one, .int .i64 two] h (fun v g => v = .bool true ∧ Le h g) := by
  obtain ⟨k, hkx, hk1⟩ : ∃ k : PK, x0.enc.toArray = (kencP k).toArray ∧ k.1 < 2 ^ 32 := ⟨(x0.a, x0.n), rfl, hk.a⟩
  rw [hkx]
  clear hkx hk x0
  refine octroilaw17_BabelBest_ok (by simp) ?_
  unfold octroilaw17_BabelBest_D
  simp (disch := omega) [octroilaw17_BabelBest_r0]
  intro b5 hb5
  have l5 : Le h (h.upd b5 (.cells #[.int .u32 (k.1 : Nat), .int .i64 k.2] 24)) := .new hb5
  have f5 : (h.upd b5 (.cells #[.int .u32 (k.1 : Nat), .int .i64 k.2] 24)) b5 = some (.cells #[.int .u32 (k.1 : Nat), .int .i64 k.2] 24) := upd_same
  show octroilaw17_BabelBest_r1 _ (h.upd b5 (.cells #[.int .u32 (k.1 : Nat), .int .i64 k.2] 24)) _
  generalize h.upd b5 (.cells #[.int .u32 (k.1 : Nat), .int .i64 k.2] 24) = h1 at *
  simp (disch := omega) [octroilaw17_BabelBest_r1]
  refine awake17 (fun h2 l2 => ?_)
  simp (disch := omega) [octroilaw17_BabelBest_r2]
  refine bnewM (id := 1) (fun x h3 l3 n3 A3 => ?_)
  have hle : Le h h3 := (l5.trans l2).trans l3
  by_cases g1' : a < 0
  · simp (disch := omega) [octroilaw17_BabelBest_r3, octroilaw17_BabelBest_r4, g1']
    exact .to _ (.refl _) ⟨rfl, hle⟩
  by_cases g2 : b < 0
  · simp (disch := omega) [octroilaw17_BabelBest_r3, octroilaw17_BabelBest_r4, g1', g2]
    exact .to _ (.refl _) ⟨rfl, hle⟩
  by_cases g3 : one < 1
  · simp (disch := omega) [octroilaw17_BabelBest_r3, octroilaw17_BabelBest_r4, g1', g2, g3]
    exact .to _ (.refl _) ⟨rfl, hle⟩
  by_cases g4 : two < 1
  · simp (disch := omega) [octroilaw17_BabelBest_r3, octroilaw17_BabelBest_r4, g1', g2, g3, g4]
    exact .to _ (.refl _) ⟨rfl, hle⟩
  by_cases g5 : 30000 < a
  · simp (disch := omega) [octroilaw17_BabelBest_r3, octroilaw17_BabelBest_r4, g1', g2, g3, g4, g5]
    exact .to _ (.refl _) ⟨rfl, hle⟩
  by_cases g6 : 30000 < b
  · simp (disch := omega) [octroilaw17_BabelBest_r3, octroilaw17_BabelBest_r4, g1', g2, g3, g4, g5, g6]
    exact .to _ (.refl _) ⟨rfl, hle⟩
  by_cases g7 : 30000 < one
  · simp (disch := omega) [octroilaw17_BabelBest_r3, octroilaw17_BabelBest_r4, g1', g2, g3, g4, g5, g6, g7]
    exact .to _ (.refl _) ⟨rfl, hle⟩
  by_cases g8 : 30000 < two
  · simp (disch := omega) [octroilaw17_BabelBest_r3, octroilaw17_BabelBest_r4, g1', g2, g3, g4, g5, g6, g7, g8]
    exact .to _ (.refl _) ⟨rfl, hle⟩
  have ha : 0 ≤ a ∧ a ≤ 30000 := by omega
  have hb : 0 ≤ b ∧ b ≤ 30000 := by omega
  have h1' : 1 ≤ one ∧ one ≤ 30000 := by omega
  have h2' : 1 ≤ two ∧ two ≤ 30000 := by omega
  have f53 := l3 _ _ (l2 _ _ f5)
  simp (disch := omega) [octroilaw17_BabelBest_r3, octroilaw17_BabelBest_r5, g1', g2, g3, g4, g5, g6, g7, g8, f53]
  intro b13 hb13
  have n13 : b13 ∉ ownB x := fun q => by obtain ⟨o, e⟩ := A3.alive _ q; rw [hb13] at e; cases e
  have L13 : Le h3 (h3.upd b13 (.cells (tlB k a).cells 31)) := .new hb13
  have f13 : (h3.upd b13 (.cells (tlB k a).cells 31)) b13 = some (.cells (tlB k a).cells 31 (0, 0)) := upd_same
  simp (disch := omega)
  show octroilaw17_BabelBest_r6 _ (h3.upd b13 (.cells (tlB k a).cells 31)) _
  generalize h3.upd b13 (.cells (tlB k a).cells 31) = h4 at *
  have A4 : BabAt h4 x aw0 := A3.le' L13
  have n0 : ∀ y, y ∈ ownB x → h y = none := fun y hy => none_of_le (l5.trans l2) (n3 y hy)
  have hb13' : h b13 = none := none_of_le hle hb13
  have k4 : ∀ y o, h y = some o → h4 y = some o := fun y o e => L13 _ _ (hle _ _ e)
  clear A3 f53
  simp (disch := omega) [octroilaw17_BabelBest_r6, f13]
  refine bHearM (t := tlB k a) (s := aw0) A4 (by simp [SeqOk, aw0]) (show (0 : Nat) < 65536 by decide) hk1 (show (0 : Nat) < 2 ^ 16 by decide) (fun h5 B5 => ?_)
  have f135 := B5.fr.keep _ _ f13 n13
  have k5 : ∀ y o, h y = some o → y ∉ ownB x → h5 y = some o := fun y o e nn => B5.fr.keep _ _ (k4 y o e) nn
  have hst : SeqOk (bhear aw0 3 one (tlB k a)).2.2.M := by
    cases hm : mayB k.1 k.2 with
    | true => rw [best_1 hm ha h1']; simp [SeqOk, bs1]
    | false => rw [best_arg hm]; simp [SeqOk, aw0]
  simp (disch := omega) [octroilaw17_BabelBest_r7, f135]
  show octroilaw17_BabelBest_r8 _ (h5.upd b13 (.cells (tlB k b).cells 31 (0, 0))) _
  have f136 : (h5.upd b13 (.cells (tlB k b).cells 31 (0, 0))) b13 = some (.cells (tlB k b).cells 31 (0, 0)) := upd_same
  have A6 : BabAt (h5.upd b13 (.cells (tlB k b).cells 31 (0, 0))) x (bhear aw0 3 one (tlB k a)).2.2 := B5.at_.keep fun y o hy e => by rw [upd_ne (fun q => n13 (by rw [← q]; exact hy))]; exact e
  have k6 : ∀ y o, h y = some o → y ∉ ownB x → (h5.upd b13 (.cells (tlB k b).cells 31 (0, 0))) y = some o := fun y o e nn => by rw [upd_ne (by rintro rfl; rw [hb13'] at e; cases e)]; exact k5 y o e nn
  generalize h5.upd b13 (.cells (tlB k b).cells 31 (0, 0)) = h6 at *
  simp (disch := omega) [octroilaw17_BabelBest_r8, f136]
  refine bHearM (t := tlB k b) A6 hst (show (0 : Nat) < 65536 by decide) hk1 (show (0 : Nat) < 2 ^ 16 by decide) (fun h7 B7 => ?_)
  have k7 : Le h h7 := fun y o e => B7.fr.keep _ _ (k6 y o e (fun q => by rw [n0 y q] at e; cases e)) (fun q => by rw [n0 y q] at e; cases e)
  simp (disch := omega) [octroilaw17_BabelBest_r9]
  cases hm : mayB k.1 k.2 with
  | false =>
    rw [best_arg hm] at B7 ⊢
    rw [best_arg hm] at B7 ⊢
    refine ballM B7.at_ (by simp [SeqOk, aw0]) (by simp [TldOk, aw0]) (by simp [aw0]) (fun w h8 l8 S8 n8 => ?_)
    rw [show allB aw0 (prefL aw0) = [] from rfl] at S8
    obtain ⟨sp, cap, hw⟩ := S8.shape'
    subst hw
    simp (disch := omega) [octroilaw17_BabelBest_r10, octroilaw17_BabelBest_r11]
    exact .to _ (.refl _) ⟨rfl, k7.trans l8⟩
  | true =>
    rw [best_1 hm ha h1'] at B7 ⊢
    simp only at B7 ⊢
    rw [best_2 hm hb h2'] at B7 ⊢
    refine ballM B7.at_ (by simp [SeqOk, bs2]) (by simp [TldOk, bs2]) (by simp [bs2]) (fun w h8 l8 S8 n8 => ?_)
    obtain ⟨y, hy, y1, y2⟩ := best_all (p := k) ha hb h1' h2'
    rw [hy] at S8
    obtain ⟨bb, cc, dd, ew, hbb, t0, t1, t2, t3, t4, t5, t6⟩ := rt_at (i := 0) S8 rfl
    simp only [List.length_singleton] at ew
    subst ew
    simp at t0 t1 t2 t3 t4 t5 t6
    have lf := k7.trans l8
    by_cases c2 : a + one < b + two
    · simp (disch := omega) [octroilaw17_BabelBest_r10, octroilaw17_BabelBest_r12, octroilaw17_BabelBest_r14, octroilaw17_BabelBest_r15, wrap_i64, c2, hbb, t4, t5, (y1 c2).1, (y1 c2).2]
      exact .to _ (.refl _) ⟨rfl, lf⟩
    · simp (disch := omega) [octroilaw17_BabelBest_r10, octroilaw17_BabelBest_r12, octroilaw17_BabelBest_r14, octroilaw17_BabelBest_r16, wrap_i64, c2, hbb, t4, t5, (y2 c2).1, (y2 c2).2]
      exact .to _ (.refl _) ⟨rfl, lf⟩
end Go.Proofs.Ytchbipkoifmmdaa

/- BabelRaises: a number that is raised by its router lets a way be taken that was not better than the least ahead of it. -/
namespace Go.Proofs.Ytchbipkoifmmdaa
open Go
set_option linter.unusedSimpArgs false
set_option linter.unusedVariables false

theorem way_single {s : BS} {p : PK} {j : Nat} {c : Int} {t : Tlv} (hT : s.T = [((p, (j : Int)), (c, t))]) (hO : getM s.O p = none) (hb : betterB s.M (srcK t) t.s t.c = true) (hc : addM t.c c 65535 < 65535) (h1 : 1 ≤ j) (h2 : j ≤ 32) :
    wayB s p = some (tcut t c, (j : Int)) := by
  have up : ∀ n, wayN s p n = if n < j then none else some (tcut t c, (j : Int)) := by
    intro n
    induction n with
    | zero => rw [if_pos (by omega)]; rfl
    | succ n ih =>
      rw [wayN, ih]
      unfold wayStep
      rw [hT]
      by_cases q : n + 1 = j
      · subst q
        rw [if_pos (by omega), if_neg (by omega), getM_cons, if_pos rfl]
        simp only
        rw [if_pos ⟨hb, hc, .inl rfl⟩]
      · rw [getM_cons, if_neg (fun z => q (by have := congrArg Prod.snd z; simp only at this; omega)), getM_nil]
        by_cases q2 : n < j
        · rw [if_pos q2, if_pos (by omega)]
        · rw [if_neg q2, if_neg (by omega)]
  unfold wayB
  rw [hO]
  simp only
  rw [up, if_neg (by omega)]
theorem way_empty {s : BS} {p : PK} (hT : s.T = []) (hO : getM s.O p = none) : wayB s p = none := by
  have up : ∀ n, wayN s p n = none := by
    intro n
    induction n with
    | zero => rfl
    | succ n ih => rw [wayN, ih]; unfold wayStep; rw [hT, getM_nil]
  unfold wayB
  rw [hO]
  exact up _

abbrev tlS (p : PK) (sn : Nat) (c : Int) : Tlv := ⟨2, sn, 0, c, p.1, p.2, 7, 0, 0⟩
def rs1 (p : PK) (sn : Nat) (a : Int) : BS := ⟨1, 0, 10, 0, [], [((p, 2), (10, tlS p sn a))], [], []⟩
def rs2 (p : PK) (sn : Nat) (a : Int) : BS := ⟨1, 0, 10, 0, [], [((p, 2), (10, tlS p sn a))], [((p, 7), (sn, addM a 10 65535))], [(p, tcut (tlS p sn a) 10)]⟩
def rs3 (p : PK) (sn : Nat) (a : Int) : BS := ⟨1, 0, 10, 0, [], [], [((p, 7), (sn, addM a 10 65535))], [(p, tcut (tlS p sn a) 10)]⟩
def rs5 (p : PK) (sn : Nat) (a c : Int) : BS := ⟨1, 0, 10, 0, [], [((p, 3), (1, tlS p (raiseN sn) c))], [((p, 7), (sn, addM a 10 65535))], [(p, tcut (tlS p sn a) 10)]⟩

section
variable {p : PK} {sn : Nat} {a worse : Int}
theorem rais_1 (hm : mayB p.1 p.2 = true) (ha : 0 ≤ a ∧ a ≤ 30000) : bhear aw0 2 10 (tlS p sn a) = (true, 0, rs1 p sn a) := by
  unfold bhear
  rw [if_neg (by unfold badT; rw [hm]; simp; omega), if_neg (by rw [hasT_zero]; simp), if_neg (by simp [aw0]), if_neg (by simp [aw0, betterB, getM_nil]; omega), if_neg (by simp [aw0])]
  rfl
theorem rais_arg {s : BS} {f c n : Int} (hm : mayB p.1 p.2 = false) : bhear s f c (tlS p sn n) = (false, 1, s) := by
  unfold bhear; rw [if_pos (by unfold badT; exact .inr (.inr (.inr (.inr (.inr (.inl hm))))))]
theorem rais_pref1 : prefL (rs1 p sn a) = [p] := by simp [prefL, keysB, rs1, insU]
theorem rais_way1 (ha : 0 ≤ a ∧ a ≤ 30000) : wayB (rs1 p sn a) p = some (tcut (tlS p sn a) 10, 2) :=
  way_single (j := 2) rfl rfl (by simp [rs1, betterB, getM_nil]) (by rw [addM_small ha (by omega)]; omega) (by omega) (by omega)
theorem rais_tell (hm : mayB p.1 p.2 = true) (ha : 0 ≤ a ∧ a ≤ 30000) : tellS (rs1 p sn a) = rs2 p sn a := by
  unfold tellS
  rw [rais_pref1]
  unfold waysL
  rw [List.filterMap_cons, rais_way1 ha]
  have hc := addM_small ha (b := 10) (by omega)
  show tellStep _ (tcut (tlS p sn a) 10) = _
  unfold tellStep knowB
  rw [if_pos ⟨hm, by show 0 ≤ addM a 10 65535; omega, by show addM a 10 65535 < 65535; omega, by simp [rs1, betterB, getM_nil]⟩]
  rfl
theorem rais_lose : ({ rs2 p sn a with T := lostT 2 (rs2 p sn a).T } : BS) = rs3 p sn a := by simp [rs2, rs3, lostT]
theorem rais_3 (hm : mayB p.1 p.2 = true) (ha : 0 ≤ a ∧ a ≤ 30000) (hw : 0 ≤ worse ∧ worse ≤ 30000) : bhear (rs3 p sn a) 3 1 (tlS p sn (a + 10 + worse)) = (false, 0, rs3 p sn a) := by
  have hc := addM_small ha (b := 10) (by omega)
  have hb : betterB [((p, 7), (sn, addM a 10 65535))] (p, 7) sn (a + 10 + worse) = false := by
    unfold betterB
    rw [getM_cons, if_pos rfl]
    simp only
    rw [show newerB sn sn = false by unfold newerB; simp, decide_eq_false (show ¬ a + 10 + worse < addM a 10 65535 by omega)]
    simp
  unfold bhear
  rw [if_neg (by unfold badT; rw [hm]; simp; omega), if_neg (by rw [hasT_zero]; simp), if_neg (by simp [rs3]), if_pos (.inr hb)]
  rfl
theorem rais_all3 : allB (rs3 p sn a) (prefL (rs3 p sn a)) = [] := by
  have : prefL (rs3 p sn a) = [p] := by simp [prefL, keysB, rs3, insU]
  rw [this]
  unfold allB
  rw [List.filterMap_cons, way_empty rfl rfl]; rfl
theorem newer_raise (hs : sn < 65536) : newerB (raiseN sn) sn = true := by
  unfold newerB raiseN
  simp only [Bool.and_eq_true, decide_eq_true_eq]
  omega
theorem rais_better (hs : sn < 65536) {n : Int} : betterB [((p, 7), (sn, addM a 10 65535))] (p, 7) (raiseN sn) n = true := by
  unfold betterB
  rw [getM_cons, if_pos rfl]
  simp only
  rw [newer_raise hs]; rfl
theorem rais_5 (hs : sn < 65536) (hm : mayB p.1 p.2 = true) {c : Int} (hc : 0 ≤ c ∧ c ≤ 65000) : bhear (rs3 p sn a) 3 1 (tlS p (raiseN sn) c) = (true, 0, rs5 p sn a c) := by
  unfold bhear
  rw [if_neg (by unfold badT; rw [hm]; simp; omega), if_neg (by rw [hasT_zero]; simp), if_neg (by simp [rs3]), if_neg ?_, if_neg (by simp [rs3])]
  · rfl
  · rintro (q | q)
    · have : c = 65535 := q
      omega
    · have : betterB [((p, 7), (sn, addM a 10 65535))] (p, 7) (raiseN sn) c = false := q
      rw [rais_better hs] at this; cases this
theorem rais_all5 (hs : sn < 65536) {c : Int} (hc : 0 ≤ c ∧ c ≤ 65000) : (allB (rs5 p sn a c) (prefL (rs5 p sn a c))).length = 1 := by
  have : prefL (rs5 p sn a c) = [p] := by simp [prefL, keysB, rs5, insU, plt_irr]
  rw [this]
  unfold allB
  rw [List.filterMap_cons, way_single (j := 3) (c := 1) (t := tlS p (raiseN sn) c) rfl rfl (rais_better hs) (by show addM c 1 65535 < 65535; unfold addM; omega) (by omega) (by omega)]
  rfl
end

set_option maxHeartbeats 1000000 in
set_option maxRecDepth 20000 in
theorem BabelRaises_walk {h : Hp} {x0 : PfR} {sn : Nat} {a worse : Int} (hk : x0.Good) (hs : sn < 65536) :
    Ok Try.prog F_octroilaw17_BabelRaises #[.agg x0.enc.toArray, .int .u16 (sn : Nat), .int .i64 a, .int .i64 worse] h (fun v g => v = .bool true ∧ Le h g) := by
  obtain ⟨k, hkx, hk1⟩ : ∃ k : PK, x0.enc.toArray = (kencP k).toArray ∧ k.1 < 2 ^ 32 := ⟨(x0.a, x0.n), rfl, hk.a⟩
  rw [hkx]
  clear hkx hk x0
  refine octroilaw17_BabelRaises_ok (by simp) ?_
  unfold octroilaw17_BabelRaises_D
  simp (disch := omega) [octroilaw17_BabelRaises_r0]
  intro b5 hb5
  have l5 : Le h (h.upd b5 (.cells #[.int .u32 (k.1 : Nat), .int .i64 k.2] 24)) := .new hb5
  have f5 : (h.upd b5 (.cells #[.int .u32 (k.1 : Nat), .int .i64 k.2] 24)) b5 = some (.cells #[.int .u32 (k.1 : Nat), .int .i64 k.2] 24) := upd_same
  show octroilaw17_BabelRaises_r1 _ (h.upd b5 (.cells #[.int .u32 (k.1 : Nat), .int .i64 k.2] 24)) _
  generalize h.upd b5 (.cells #[.int .u32 (k.1 : Nat), .int .i64 k.2] 24) = h1 at *
  simp (disch := omega) [octroilaw17_BabelRaises_r1]
  refine awake17 (fun h2 l2 => ?_)
  simp (disch := omega) [octroilaw17_BabelRaises_r2]
  refine bnewM (id := 1) (fun x h3 l3 n3 A3 => ?_)
  have hle : Le h h3 := (l5.trans l2).trans l3
  by_cases g1' : a < 0
  · simp (disch := omega) [octroilaw17_BabelRaises_r3, octroilaw17_BabelRaises_r4, g1']
    exact .to _ (.refl _) ⟨rfl, hle⟩
  by_cases g2 : 30000 < a
  · simp (disch := omega) [octroilaw17_BabelRaises_r3, octroilaw17_BabelRaises_r4, g1', g2]
    exact .to _ (.refl _) ⟨rfl, hle⟩
  by_cases g3 : worse < 0
  · simp (disch := omega) [octroilaw17_BabelRaises_r3, octroilaw17_BabelRaises_r4, g1', g2, g3]
    exact .to _ (.refl _) ⟨rfl, hle⟩
  by_cases g4 : 30000 < worse
  · simp (disch := omega) [octroilaw17_BabelRaises_r3, octroilaw17_BabelRaises_r4, g1', g2, g3, g4]
    exact .to _ (.refl _) ⟨rfl, hle⟩
  have ha : 0 ≤ a ∧ a ≤ 30000 := by omega
  have hw : 0 ≤ worse ∧ worse ≤ 30000 := by omega
  have f53 := l3 _ _ (l2 _ _ f5)
  simp (disch := omega) [octroilaw17_BabelRaises_r3, octroilaw17_BabelRaises_r5, g1', g2, g3, g4, f53]
  intro b13 hb13
  have n13 : b13 ∉ ownB x := fun q => by obtain ⟨o, e⟩ := A3.alive _ q; rw [hb13] at e; cases e
  have L13 : Le h3 (h3.upd b13 (.cells (tlS k sn a).cells 31)) := .new hb13
  have f13 : (h3.upd b13 (.cells (tlS k sn a).cells 31)) b13 = some (.cells (tlS k sn a).cells 31 (0, 0)) := upd_same
  simp (disch := omega)
  show octroilaw17_BabelRaises_r6 _ (h3.upd b13 (.cells (tlS k sn a).cells 31)) _
  generalize h3.upd b13 (.cells (tlS k sn a).cells 31) = h4 at *
  have A4 : BabAt h4 x aw0 := A3.le' L13
  have n0 : ∀ y, y ∈ ownB x → h y = none := fun y hy => none_of_le (l5.trans l2) (n3 y hy)
  have hb13' : h b13 = none := none_of_le hle hb13
  have k4 : ∀ y o, h y = some o → h4 y = some o := fun y o e => L13 _ _ (hle _ _ e)
  clear A3 f53
  simp (disch := omega) [octroilaw17_BabelRaises_r6, f13]
  refine bHearM (t := tlS k sn a) (s := aw0) A4 (by simp [SeqOk, aw0]) hs hk1 (show (0 : Nat) < 2 ^ 16 by decide) (fun h5 B5 => ?_)
  have f135 := B5.fr.keep _ _ f13 n13
  have k5 : Le h h5 := fun y o e => B5.fr.keep _ _ (k4 y o e) (fun q => by rw [n0 y q] at e; cases e)
  cases hm : mayB k.1 k.2 with
  | false =>
    rw [rais_arg hm]
    simp (disch := omega) [octroilaw17_BabelRaises_r7, octroilaw17_BabelRaises_r8]
    exact .to _ (.refl _) ⟨rfl, k5⟩
  | true =>
  rw [rais_1 hm ha] at B5 ⊢
  have hnum : BNum (rs1 k sn a) := ⟨by simp [rs1], by simp [SeqOk, rs1], by simp [rs1]; exact ⟨hs, hk1⟩, by simp [rs1]⟩
  simp (disch := omega) [octroilaw17_BabelRaises_r7, octroilaw17_BabelRaises_r9]
  refine btellM B5.at_ hnum (by simp [rs1]) (fun w6 h6 B6 S6 n6 => ?_)
  rw [rais_tell hm ha] at B6
  have f136 := B6.fr.keep _ _ f135 n13
  have k6 : Le h h6 := fun y o e => B6.fr.keep _ _ (k5 y o e) (fun q => by rw [n0 y q] at e; cases e)
  simp (disch := omega) [octroilaw17_BabelRaises_r10]
  refine bLoseM B6.at_ (fun h7 B7 => ?_)
  rw [rais_lose] at B7
  have f137 := B7.fr.keep _ _ f136 n13
  have k7 : Le h h7 := fun y o e => B7.fr.keep _ _ (k6 y o e) (fun q => by rw [n0 y q] at e; cases e)
  simp (disch := omega) [octroilaw17_BabelRaises_r11, f137, wrap_i64]
  show octroilaw17_BabelRaises_r12 _ (h7.upd b13 (.cells (tlS k sn (a + 10 + worse)).cells 31 (0, 0))) _
  have up13 : ∀ (g : Hp) (o : Obj), Le h g → Le h (g.upd b13 o) := fun g o l y o' e => by rw [upd_ne (by rintro rfl; rw [hb13'] at e; cases e)]; exact l _ _ e
  have at13 : ∀ (g : Hp) (o : Obj) (s : BS), BabAt g x s → BabAt (g.upd b13 o) x s := fun g o s A => A.keep fun y o' hy e => by rw [upd_ne (fun q => n13 (by rw [← q]; exact hy))]; exact e
  have f138 : (h7.upd b13 (.cells (tlS k sn (a + 10 + worse)).cells 31 (0, 0))) b13 = some (.cells (tlS k sn (a + 10 + worse)).cells 31 (0, 0)) := upd_same
  have A8 := at13 h7 (.cells (tlS k sn (a + 10 + worse)).cells 31 (0, 0)) _ B7.at_
  have k8 := up13 h7 (.cells (tlS k sn (a + 10 + worse)).cells 31 (0, 0)) k7
  generalize h7.upd b13 (.cells (tlS k sn (a + 10 + worse)).cells 31 (0, 0)) = h8 at *
  have hM3 : SeqOk (rs3 k sn a).M := by simp [SeqOk, rs3]; exact hs
  simp (disch := omega) [octroilaw17_BabelRaises_r12, f138]
  refine bHearM (t := tlS k sn (a + 10 + worse)) A8 hM3 hs hk1 (show (0 : Nat) < 2 ^ 16 by decide) (fun h9 B9 => ?_)
  rw [rais_3 hm ha hw] at B9 ⊢
  simp only at B9 ⊢
  have f139 := B9.fr.keep _ _ f138 n13
  have k9 : Le h h9 := fun y o e => B9.fr.keep _ _ (k8 y o e) (fun q => by rw [n0 y q] at e; cases e)
  simp (disch := omega) [octroilaw17_BabelRaises_r13]
  refine ballM B9.at_ hM3 (by simp [TldOk, rs3]) (by simp [rs3]) (fun w10 h10 l10 S10 n10 => ?_)
  rw [rais_all3] at S10
  obtain ⟨sp, cap, hw10⟩ := S10.shape'
  subst hw10
  have A10 := B9.at_.le' l10
  have f1310 := l10 _ _ f139
  have k10 := k9.trans l10
  have wr := wrap_add16 hs
  simp (disch := omega) [octroilaw17_BabelRaises_r14, f1310, wr]
  show octroilaw17_BabelRaises_r15 _ (h10.upd b13 (.cells (tlS k (raiseN sn) (a + 10 + worse)).cells 31 (0, 0))) _
  have f1311 : (h10.upd b13 (.cells (tlS k (raiseN sn) (a + 10 + worse)).cells 31 (0, 0))) b13 = some (.cells (tlS k (raiseN sn) (a + 10 + worse)).cells 31 (0, 0)) := upd_same
  have A11 := at13 h10 (.cells (tlS k (raiseN sn) (a + 10 + worse)).cells 31 (0, 0)) _ A10
  have k11 := up13 h10 (.cells (tlS k (raiseN sn) (a + 10 + worse)).cells 31 (0, 0)) k10
  generalize h10.upd b13 (.cells (tlS k (raiseN sn) (a + 10 + worse)).cells 31 (0, 0)) = h11 at *
  have hr : raiseN sn < 65536 := by unfold raiseN; omega
  simp (disch := omega) [octroilaw17_BabelRaises_r15, f1311]
  refine bHearM (t := tlS k (raiseN sn) (a + 10 + worse)) A11 hM3 hr hk1 (show (0 : Nat) < 2 ^ 16 by decide) (fun h12 B12 => ?_)
  rw [rais_5 hs hm (by omega)] at B12 ⊢
  simp only at B12 ⊢
  have k12 : Le h h12 := fun y o e => B12.fr.keep _ _ (k11 y o e) (fun q => by rw [n0 y q] at e; cases e)
  simp (disch := omega) [octroilaw17_BabelRaises_r16]
  refine ballM B12.at_ (by simp [SeqOk, rs5]; exact hs) (by simp [TldOk, rs5]; exact hr) (by simp [rs5]) (fun w13 h13 l13 S13 n13' => ?_)
  obtain ⟨sp, cap, hw13⟩ := S13.shape'
  rw [rais_all5 hs (by omega)] at hw13
  subst hw13
  simp (disch := omega)
  exact .to _ (.refl _) ⟨rfl, k12.trans l13⟩
end Go.Proofs.Ytchbipkoifmmdaa

/- BabelRaises: a number that is raised by its router lets a way be taken that was not better than the least ahead of it: the row. No condition. -/
namespace Go.Proofs.Ytchbipkoifmmdaa.BabelRaises_row
open Go Go.ChangeShapes Go.WideShapes Go.RowKit
theorem own_knob : ownKnob Try.prog.godebug = none := by kernel_rfl
theorem laid_out : laidOutB Try.prog = true := by kernel_rfl
set_option maxRecDepth 100000 in
theorem lifted (os : Os) (started : os.Started) (H : Type) (enc : TypeId × Value → H) :
    ReturnsInHanded {} Try.checked os 4 .any (Rows.babelRaisesSpec.pre6 enc Try.prog Try.f4 Rows.babelRaisesRow.domain false) (Rows.babelRaisesSpec.post enc Try.prog Try.f4 false true false false) := by
  refine returnsInHanded_of_change_sized (C := Try.checked) own_knob started (by kernel_rfl) Try.func4
    (ChangeSpec.witness6 (enc := enc) (C := Try.checked) false ⟨#[], #[.agg #[.int .u32 0, .int .i64 0], .int .u16 0, .int .i64 0, .int .i64 0], []⟩ 8 (by kernel_rfl) (by kernel_rfl) (by kernel_rfl) (by kernel_rfl)) ?_
  intro W base args ds gs before hval hW hcnd hsz _
  have hW' := hW
  obtain ⟨p, q, hA, hV, rfl, hfz, hnd⟩ := hW
  obtain ⟨rfl, rfl⟩ := trodVars_none hV
  have hA' : DataW.TrodAll enc Try.prog W 0 (fun _ => true) true Try.f4.params.toList args.toList ds p := hA
  have hval' : ∀ (j : Nat) t v, Try.f4.params[j]? = some t → args[j]? = some v → Value.okWide Try.prog W .any base t v := hval
  rw [Try.params4] at hA' hval'
  obtain ⟨v0, vs0, d0, ds0, p0, q0, hargs, rfl, rfl, h0, r0⟩ := trodAll_cons hA'
  obtain ⟨v1, vs1, d1, ds1, p1, q1, rfl, rfl, rfl, h1, r1⟩ := trodAll_cons r0
  obtain ⟨v2, vs2, d2, ds2, p2, q2, rfl, rfl, rfl, h2, r2⟩ := trodAll_cons r1
  obtain ⟨v3, vs3, d3, ds3, p3, q3, rfl, rfl, rfl, h3, r3⟩ := trodAll_cons r2
  obtain ⟨rfl, rfl, rfl⟩ := trodAll_nil r3
  obtain rfl : args = #[v0, v1, v2, v3] := by cases args; simp_all
  obtain ⟨⟨cs0⟩, rfl, k0⟩ := open_flat (ks := PfRKs) 4 Try.underlying24 (by kernel_rfl) (hval' 0 _ v0 rfl rfl) h0
  obtain ⟨x0, e0, hx0⟩ := dec_PfR _ k0
  simp only at e0
  subst e0
  obtain ⟨n1, rfl, rfl, rfl, w1⟩ := open_int Try.underlying29 (hval' 1 _ v1 rfl rfl) h1
  obtain ⟨a1, rfl, ha1⟩ := u16_wf w1
  obtain ⟨n2, rfl, rfl, rfl, w2⟩ := open_int Try.underlying3 (hval' 2 _ v2 rfl rfl) h2
  obtain ⟨n3, rfl, rfl, rfl, w3⟩ := open_int Try.underlying3 (hval' 3 _ v3 rfl rfl) h3
  refine (below_of (BabelRaises_walk hx0 ha1)).mono fun e W' ⟨he, bel⟩ => ?_
  subst he
  exact ⟨_, rfl, _, _, _, [], _, [], hW', trodAll_mk1 (shut_bool (by kernel_rfl) _), trodAll_below laid_out bel (by kernel_rfl) hA, rfl, bel.frame _, fun h => by cases h⟩
theorem over : Rows.babelRaisesRow.holds Try.pinned (OpenSpec.ofChange Rows.babelRaisesSpec) :=
  OpenClaim.holds_of_wide 4 Try.f4 rfl rfl rfl rfl rfl rfl rfl ⟨rfl, rfl, rfl, rfl, rfl⟩ rfl rfl rfl rfl rfl (by kernel_rfl) Try.func4 (by kernel_rfl)
    (of_decide_eq_true (by kernel_rfl)) (by unfold Func.isWrapper; first | (rw [if_pos (by decide +kernel)]; kernel_rfl) | (rw [if_neg (by decide +kernel)]; exact ⟨rfl, rfl⟩))
    (fun os started H enc _ => lifted os started H enc)
end Go.Proofs.Ytchbipkoifmmdaa.BabelRaises_row
namespace Go.Proofs.Ytchbipkoifmmdaa
theorem babelRaises_holds : Rows.BabelRaisesSaid := BabelRaises_row.over
#print axioms babelRaises_holds
end Go.Proofs.Ytchbipkoifmmdaa
