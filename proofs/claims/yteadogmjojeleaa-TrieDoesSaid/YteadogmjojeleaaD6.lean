/- TrieDoes: a trie for any number of prefixes answers any calls as the document says: the walk. -/
import Derived.Test.YteadogmjojeleaaD5
namespace Go.Proofs.Yteadogmjojeleaa
open Go
set_option linter.unusedSimpArgs false

structure TwoR (h0 g : Hp) (t nb r : Nat) (vr : Value) (most : Int) (Lt Lr : PL) (N : Nat) : Prop where
  o : Own h0 g t nb most Lt N
  q : RefAt g r most vr Lr
  r0 : h0 r = none
  v0 : ∀ b, blkOf vr = some b → h0 b = none
  rt : r ≠ t
  rn : r ≠ nb
  vt : blkOf vr ≠ some t
  vn : blkOf vr ≠ some nb

theorem RefAt.vblk {h : Hp} {r : Nat} {most : Int} {v : Value} {L : PL} (R : RefAt h r most v L) : ∀ b, blkOf v = some b → ∃ o, h b = some o := by
  intro b hb
  rcases R.l with ⟨rfl, _⟩ | ⟨b', cap, c, rfl, hb', _⟩
  · cases hb
  · cases hb; exact ⟨_, hb'⟩

theorem TwoR.trie {h0 g g' : Hp} {t nb nb' r : Nat} {vr : Value} {most : Int} {Lt Lt' Lr : PL} {N N' : Nat} (T : TwoR h0 g t nb r vr most Lt Lr N) (C : Chg g g' t nb nb') (M : TrieM g' t nb' most Lt' N') : TwoR h0 g' t nb' r vr most Lt' Lr N' := by
  refine ⟨T.o.chg C M, ⟨C.keep _ _ T.q.r T.rt T.rn, T.q.l.keep (fun b o hb ho => C.keep _ _ ho (fun e => T.vt (e ▸ hb)) (fun e => T.vn (e ▸ hb)))⟩, T.r0, T.v0, T.rt, ?_, T.vt, ?_⟩
  · rcases C.fresh with e | e
    · rw [e]; exact T.rn
    · rintro rfl; rw [T.q.r] at e; cases e
  · rcases C.fresh with e | e
    · rw [e]; exact T.vn
    · intro hb
      obtain ⟨o, ho⟩ := T.q.vblk _ hb
      rw [ho] at e; cases e

theorem TwoR.more {h0 g g' : Hp} {t nb r : Nat} {vr : Value} {most : Int} {Lt Lr : PL} {N : Nat} (T : TwoR h0 g t nb r vr most Lt Lr N) (l : Le g g') : TwoR h0 g' t nb r vr most Lt Lr N :=
  ⟨T.o.more l, T.q.le l, T.r0, T.v0, T.rt, T.rn, T.vt, T.vn⟩

theorem TwoR.ref {h0 g g' : Hp} {t nb r : Nat} {vr vr' : Value} {most : Int} {Lt Lr Lr' : PL} {N : Nat} (T : TwoR h0 g t nb r vr most Lt Lr N) (C : RChg g g' r vr vr') (R : RefAt g' r most vr' Lr') : TwoR h0 g' t nb r vr' most Lt Lr' N := by
  have key : ∀ y o, g y = some o → y ≠ r → some y ≠ blkOf vr → g' y = some o := C.keep
  obtain ⟨ot, hot⟩ := T.o.m.has_t
  obtain ⟨on, hon⟩ := T.o.m.has_nb
  refine ⟨⟨T.o.m.mono (fun o h => key _ _ h T.rt.symm (fun e => T.vt e.symm)) (fun o h => key _ _ h T.rn.symm (fun e => T.vn e.symm)) (Nat.le_refl _), fun y o hy => ?_, T.o.t0, T.o.nb0⟩, R, T.r0, fun b hb => ?_, T.rt, T.rn, fun hb => ?_, fun hb => ?_⟩
  · refine key y o (T.o.le _ _ hy) ?_ ?_
    · rintro rfl; rw [T.r0] at hy; cases hy
    · intro e; rw [T.v0 y e.symm] at hy; cases hy
  · rcases C.fresh with e | e
    · rw [e] at hb; exact T.v0 b hb
    · exact T.o.le.none (e b hb)
  · rcases C.fresh with e | e
    · rw [e] at hb; exact T.vt hb
    · rw [e _ hb] at hot; cases hot
  · rcases C.fresh with e | e
    · rw [e] at hb; exact T.vn hb
    · rw [e _ hb] at hon; cases hon

structure DoesEnv (most : Int) (v : Value) (t r i : Nat) (env : Env) : Prop where
  e0 : env 0 = .int .i64 most
  e1 : env 1 = v
  e6 : env 6 = .pointer (some ⟨t, 0, none⟩)
  e7 : env 7 = .pointer (some ⟨r, 0, none⟩)
  e8 : env 8 = .int .i64 (i : Nat)

/-- One call. -/
def step3 (most : Int) (L : PL) (o : OpR) : PL := if o.k = 0 then (putR most L o.pa o.pl o.n).2 else if o.k = 1 then (takeR L o.pa o.pl).2 else L

def DoesInv (h0 : Hp) (most : Int) (v : Value) (ops : List OpR) (m : Nat) (env : Env) (g : Hp) : Prop :=
  ∃ t nb r vr L i, DoesEnv most v t r i env ∧ i + m = ops.length ∧ TwoR h0 g t nb r vr most L L (1 + 32 * i)

set_option maxHeartbeats 1000000 in
theorem does_tail {h0 g : Hp} {most : Int} {v : Value} {ops : List OpR} {x : OpR} {t nb r i N : Nat} {vr : Value} {L : PL} {env : Env} {K : Post} (A : argOps h0 v ops) (hx : ops[i]? = some x) (E : DoesEnv most v t r i env) (e9 : env 9 = .bool true)
    (hN : N ≤ 10000) (T : TwoR h0 g t nb r vr most L L N) (hi : i < 1000000)
    (hK : ∀ env' g', DoesEnv most v t r i env' → TwoR h0 g' t nb r vr most L L N → K .normal env' g') :
    sq (rg octroilaw08_TrieDoes_r18) (sq (rg octroilaw08_TrieDoes_r19) (sq (rg octroilaw08_TrieDoes_r20) (sq (rg octroilaw08_TrieDoes_r21) (cnd (Go.Operand.tmp 187) (sq (rg octroilaw08_TrieDoes_r22) (ex .ret)) (ex .normal))))) K env g := by
  obtain ⟨e0, e1, e6, e7, e8⟩ := E
  have hxa := (A.1 x (List.mem_of_getElem? hx)).ad
  have hlN : L.length ≤ 10000 := by
    obtain ⟨_, _, _, _, _, _, h⟩ := T.o.m
    omega
  have hp := T.o.m.srt.2
  have hil := (List.getElem?_eq_some_iff.1 hx).1
  have hlt : (i : Int) < (ops.length : Int) := by omega
  obtain ⟨b0, o, cap', c, E0, fr, hv', hb, c0, c1, c2, c3, c4⟩ := (argOps.get (ArgSl.le A T.o.le) hx)
  simp (disch := omega) [octroilaw08_TrieDoes_r18, e0, e1, e6, e7, e8, hv', hlt, hb, c4]
  refine findM T.o.m hxa ?_
  simp (disch := omega)
  intro b hb1
  simp (disch := omega) [octroilaw08_TrieDoes_r19, e0, e1, e6, e7, e8, e9]
  have hbb : (g.upd b (.cells #[.int .u32 (fa (findL L x.ad)), .int .i64 (fl (findL L x.ad))] 30)) b = some (.cells #[.int .u32 (fa (findL L x.ad)), .int .i64 (fl (findL L x.ad))] 30) := by simp
  have lg1 : Le g (g.upd b (.cells #[.int .u32 (fa (findL L x.ad)), .int .i64 (fl (findL L x.ad))] 30)) := .new hb1
  have T1 := T.more lg1
  have hb' := lg1 _ _ hb
  generalize g.upd b (.cells #[.int .u32 (fa (findL L x.ad)), .int .i64 (fl (findL L x.ad))] 30) = g1 at *
  simp (disch := omega) [hv', hlt, hb', c4]
  refine rfind_spec T1.q hp hlN hxa ?_
  simp (disch := omega)
  intro b2 hb2
  simp (disch := omega)
  have hne := ne_new hbb hb2
  have hbb2 : (g1.upd b2 (.cells #[.int .u32 (fa (findL L x.ad)), .int .i64 (fl (findL L x.ad))] 30)) b2 = some (.cells #[.int .u32 (fa (findL L x.ad)), .int .i64 (fl (findL L x.ad))] 30) := by simp
  have lg2 : Le g1 (g1.upd b2 (.cells #[.int .u32 (fa (findL L x.ad)), .int .i64 (fl (findL L x.ad))] 30)) := .new hb2
  have T2 := T1.more lg2
  have hbb' := lg2 _ _ hbb
  generalize g1.upd b2 (.cells #[.int .u32 (fa (findL L x.ad)), .int .i64 (fl (findL L x.ad))] 30) = g2 at *
  have hr2 := T2.q.r
  obtain ⟨pv, cv, hvr⟩ := SlAt.shape T2.q.l
  rw [hvr] at hr2
  simp (disch := omega) [octroilaw08_TrieDoes_r20, e0, e1, e6, e7, e8, e9, hr2]
  refine allM T2.o.m (fun va g3 Sa La _ => ?_)
  have T3 := T2.more La
  have hr3 := La _ _ hr2
  have Sr := T3.q.l
  rw [hvr] at Sr
  simp (disch := omega) [hr3]
  refine rall_spec Sa Sr hlN ?_
  have h1 := La _ _ hbb'
  have h2 := La _ _ hbb2
  simp (disch := omega) [octroilaw08_TrieDoes_r21, e0, e1, e6, e7, e8, e9, h1, h2, hr3]
  refine lenM T3.o.m ?_
  simp (disch := omega) [hr3]
  exact hK _ _ ⟨by simp [e0], by simp [e1, hv'], by simp [e6], by simp [e7], by simp [e8]⟩ T3

end Go.Proofs.Yteadogmjojeleaa
