/- JournalLast: what was put last is what is known: the walk. -/
import Derived.Test.YtjcecdjbllpmcaaJ11
import Derived.Test.YtjcecdjbllpmcaaR2
namespace Go.Proofs.Ytjcecdjbllpmcaa
open Go
set_option linter.unusedSimpArgs false
set_option linter.unusedVariables false

def fc (f : F3) : List Value := [.int .i64 f.1, .int .u32 (f.2.1 : Nat), .int .u32 (f.2.2 : Nat)]
def fGood (f : F3) : Prop := f.2.1 < 2 ^ 32 ∧ f.2.2 < 2 ^ 32
def argFs (h : Hp) (v : Value) (xs : List F3) : Prop := ArgSl h 3 fc fGood v xs

theorem argFs.get {h : Hp} {v : Value} {xs : List F3} {i : Nat} {x : F3} (A : argFs h v xs) (hx : xs[i]? = some x) :
    fGood x ∧ ∃ b o cap c E fr, v = .slice (some ⟨b, o, none⟩) xs.length cap ∧ h b = some (.cells c E fr) ∧ c[o + i * 3]? = some (.int .i64 x.1) ∧ c[o + i * 3 + 1]? = some (.int .u32 (x.2.1 : Nat)) ∧ c[o + i * 3 + 2]? = some (.int .u32 (x.2.2 : Nat)) := by
  obtain ⟨hg, b, o, cap, c, E, fr, e, hb, he⟩ := ArgSl.at A hx
  exact ⟨hg, b, o, cap, c, E, fr, e, hb, he 0 (by omega), he 1 (by omega), he 2 (by omega)⟩

def putsJ (room : Int) (L : List F3) (xs : List F3) : List F3 := xs.foldl (fun L f => (putJ room L f).2) L

theorem putsJ_snoc {room : Int} {L xs : List F3} {x : F3} : putsJ room L (xs ++ [x]) = (putJ room (putsJ room L xs) x).2 := by simp [putsJ]

theorem putJ_length (room : Int) (L : List F3) (f : F3) : (putJ room L f).2.length ≤ L.length + 1 := by
  unfold putJ
  split
  · simp
  · split <;> simp

theorem putsJ_length (room : Int) : ∀ (xs L : List F3), (putsJ room L xs).length ≤ L.length + xs.length
  | [], L => by simp [putsJ]
  | x :: xs, L => by
    have h1 := putsJ_length room xs (putJ room L x).2
    have h2 := putJ_length room L x
    have e : putsJ room L (x :: xs) = putsJ room (putJ room L x).2 xs := rfl
    rw [e, List.length_cons]; omega

theorem take_succ_of {α : Type} {xs : List α} {i : Nat} {x : α} (h : xs[i]? = some x) : xs.take (i + 1) = xs.take i ++ [x] := by rw [List.take_add_one, h]; rfl

/-- A journal of one's own, behind an older heap. -/
structure JOwn (h0 g : Hp) (j : Nat) (room : Int) (kp : Nat) (L : List F3) (O : List Nat) : Prop where
  m : JM g j room kp L O
  le : Le h0 g
  new : ∀ x, x ∈ O → h0 x = none

theorem JOwn.fr {h0 g g' : Hp} {j : Nat} {room : Int} {kp kp' : Nat} {L L' : List F3} {O O' : List Nat} (A : JOwn h0 g j room kp L O) (F : Fr g g' O O') (M : JM g' j room kp' L' O') : JOwn h0 g' j room kp' L' O' :=
  ⟨M, F.le A.le A.new, F.new A.le A.new⟩

theorem last_none {L : List F3} {q : Int × Nat} (h : ∀ f ∈ L, (f.1, f.2.1) ≠ q) : getM (lastOf L) q = none := by
  have key : ∀ (L : List F3) (m : List ((Int × Nat) × Nat)), getM m q = none → (∀ f ∈ L, (f.1, f.2.1) ≠ q) → getM (L.foldl stF m) q = none := by
    intro L
    induction L with
    | nil => intro m h _; exact h
    | cons f L ih =>
      intro m h hne
      refine ih _ ?_ (fun g hg => hne g (List.mem_cons_of_mem _ hg))
      unfold stF
      rw [getM_setM, if_neg (fun e => hne f (List.mem_cons_self ..) e.symm)]; exact h
  exact key L [] rfl h

theorem getM_last {L : List F3} {f : F3} {q : Int × Nat} : getM (lastOf (L ++ [f])) q = if q = (f.1, f.2.1) then some f.2.2 else getM (lastOf L) q := by
  rw [lastOf_append]; unfold stF; rw [getM_setM]

def LastInv (h0 : Hp) (v : Value) (xs : List F3) (kind : Int) (key b : Nat) (m : Nat) (env : Env) (g : Hp) : Prop :=
  ∃ j O i, env 0 = v ∧ env 2 = .int .i64 kind ∧ env 3 = .int .u32 key ∧ env 5 = .pointer (some ⟨b, 0, none⟩) ∧ env 10 = .pointer (some ⟨j, 0, none⟩) ∧ env 11 = .int .i64 (i : Nat) ∧ i + m = xs.length ∧ i ≤ xs.length ∧
    JOwn h0 g j 1000 0 (putsJ 1000 [] (xs.take i)) O

set_option maxHeartbeats 2000000 in
set_option maxRecDepth 20000 in
theorem last_loop {h h0 : Hp} {v : Value} {xs : List F3} {p : Option Addr} {cap b : Nat} {kind fk : Int} {key fkey fn : Nat} (A0 : argFs h0 v xs) (hv : v = .slice p xs.length cap) (hbig : ¬ (150 : Int) < (xs.length : Int))
    (h5 : h0 b = some (.cells #[.int .i64 fk, .int .u32 fkey, .int .u32 fn] 25)) (hf1 : fkey < 2 ^ 32) (hf2 : fn < 2 ^ 32) (hpq : (kind, key) ≠ (fk, fkey)) (heq : ¬ (kind = fk ∧ key = fkey)) (L0 : Le h h0) :
    ∀ m env g, LastInv h0 v xs kind key b m env g → octroilaw12_JournalLast_L0 (roundK (LastInv h0 v xs kind key b) m (inBlk 0 (thenK (sq (rg octroilaw12_JournalLast_r9) (sq (rg octroilaw12_JournalLast_r10) (sq (rg octroilaw12_JournalLast_r11) (sq (rg octroilaw12_JournalLast_r12) (sq (rg octroilaw12_JournalLast_r13) (ex .ret))))))
      (fin Try.prog [ResultVar.tmp 8] (fun r g => r = .bool true ∧ Le h g))))) env g := by
  rintro m env g ⟨j, O, i, e0, e2, e3, e5, e10, e11, him, hi, J⟩
  have h5' := J.le _ _ h5
  have hl := putsJ_length 1000 (xs.take i) []
  rw [List.length_take, Nat.min_eq_left hi] at hl
  simp only [List.length_nil] at hl
  unfold octroilaw12_JournalLast_L0
  by_cases hm : m = 0
  · have hin : i = xs.length := by omega
    subst hin
    simp only [List.take_length] at J hl
    generalize putsJ 1000 [] xs = L at *
    simp (disch := omega) [octroilaw12_JournalLast_r6, octroilaw12_JournalLast_r9, e0, e2, e3, e5, e10, e11, hv]
    refine jgetM J.m ?_
    simp (disch := omega) [octroilaw12_JournalLast_r10, e0, e2, e3, e5, e10, e11, h5']
    refine jputM (f := (fk, fkey, fn)) J.m (by omega) hf1 hf2 (fun g1 O1 F1 M1 => ?_)
    have J1 := J.fr F1 M1
    have h51 := J1.le _ _ h5
    have ho : ∀ f ∈ L, okF f := by obtain ⟨_, _, _, _, _, ho⟩ := J.m; exact ho
    simp (disch := omega) [octroilaw12_JournalLast_r11, e0, e2, e3, e5, e10, e11, h51]
    refine jgetM J1.m ?_
    simp (disch := omega) [octroilaw12_JournalLast_r12, e0, e2, e3, e5, e10, e11, h51]
    refine jgetM J1.m ?_
    by_cases hr : fk < 0 ∨ 255 < fk
    · have e : putJ 1000 L (fk, fkey, fn) = (1, L) := by unfold putJ; rw [if_pos hr]
      have q : getM (lastOf L) (fk, fkey) = none := last_none (fun f m e => by have := ho f m; unfold okF at this; simp only [Prod.mk.injEq] at e; omega)
      simp (disch := omega) [octroilaw12_JournalLast_r13, e0, e2, e3, e5, e10, e11, h51, e, q]
      exact .to _ (.refl _) ⟨rfl, L0.trans J1.le⟩
    · have e : putJ 1000 L (fk, fkey, fn) = (0, L ++ [(fk, fkey, fn)]) := by unfold putJ; rw [if_neg hr, if_neg (by omega)]
      simp (disch := omega) [octroilaw12_JournalLast_r13, e0, e2, e3, e5, e10, e11, h51, e, getM_last, hpq, heq]
      exact .to _ (.refl _) ⟨rfl, L0.trans J1.le⟩
  · obtain ⟨x, hx⟩ : ∃ x, xs[i]? = some x := ⟨_, List.getElem?_eq_getElem (by omega)⟩
    obtain ⟨⟨g1, g2⟩, bb, o, cap', c, E, fr, hv', hbb, f0, f1, f2⟩ := argFs.get A0 hx
    have hbb' := J.le _ _ hbb
    obtain ⟨x1, x2, x3⟩ := x
    simp only at g1 g2 f0 f1 f2
    rw [hv'] at e0
    have hi' : (i : Int) < (xs.length : Int) := by omega
    simp (disch := omega) [octroilaw12_JournalLast_r6, octroilaw12_JournalLast_r7, e0, e2, e3, e5, e10, e11, hi', hbb', f0, f1, f2]
    refine jputM (f := (x1, x2, x3)) J.m (by omega) g1 g2 (fun g1 O1 F1 M1 => ?_)
    have J1 := J.fr F1 M1
    rw [← putsJ_snoc, ← take_succ_of hx] at J1
    simp (disch := omega) [octroilaw12_JournalLast_r8, e0, e2, e3, e5, e10, e11, wrap_i64]
    exact ⟨m - 1, by omega, j, O1, i + 1, by simp [e0, hv'], by simp [e2], by simp [e3], by simp [e5], by simp [e10], by simp, by omega, by omega, J1⟩

set_option maxHeartbeats 2000000 in
set_option maxRecDepth 20000 in
theorem JournalLast_walk {h : Hp} {v : Value} {xs : List F3} {f : F3} {kind : Int} {key : Nat} (A : argFs h v xs) (hf : fGood f) :
    Ok Try.prog F_octroilaw12_JournalLast #[v, fe f, .int .i64 kind, .int .u32 key] h (fun r g => r = .bool true ∧ Le h g) := by
  obtain ⟨fk, fkey, fn⟩ := f
  obtain ⟨hf1, hf2⟩ := hf
  simp only at hf1 hf2
  obtain ⟨p, cap, hv⟩ := ArgSl.shape A
  have hlen := ArgSl.len A
  have hmax : maxLen < 2 ^ 63 := by decide
  refine octroilaw12_JournalLast_ok (by simp) ?_
  unfold octroilaw12_JournalLast_D fe
  simp (disch := omega) [octroilaw12_JournalLast_r0]
  intro b hb
  have L0 : Le h (h.upd b (.cells #[.int .i64 fk, .int .u32 fkey, .int .u32 fn] 25)) := .new hb
  have h5 : (h.upd b (.cells #[.int .i64 fk, .int .u32 fkey, .int .u32 fn] 25)) b = some (.cells #[.int .i64 fk, .int .u32 fkey, .int .u32 fn] 25) := by simp
  simp (disch := omega) [octroilaw12_JournalLast_r1]
  generalize h.upd b (.cells #[.int .i64 fk, .int .u32 fkey, .int .u32 fn] 25) = h0 at *
  have A0 := ArgSl.le A L0
  refine awake_spec (fun h1 L1 => ?_)
  simp (disch := omega) [octroilaw12_JournalLast_r2]
  refine jnewM (fun j h2 O l2 n2 M2 => ?_)
  have J2 : JOwn h0 h2 j 1000 0 [] O := ⟨M2, L1.trans l2, fun x m => none_of_le L1 (n2 x m)⟩
  have h5' := J2.le _ _ h5
  clear M2 n2 l2
  by_cases hbig : (150 : Int) < (xs.length : Int)
  · simp (disch := omega) [octroilaw12_JournalLast_r3, octroilaw12_JournalLast_r4, hv, hbig]
    exact .to _ (.refl _) ⟨rfl, L0.trans J2.le⟩
  by_cases heq : kind = fk ∧ key = fkey
  · obtain ⟨rfl, rfl⟩ := heq
    simp (disch := omega) [octroilaw12_JournalLast_r3, octroilaw12_JournalLast_r4, hv, hbig, h5']
    exact .to _ (.refl _) ⟨rfl, L0.trans J2.le⟩
  have hpq : (kind, key) ≠ (fk, fkey) := by simp only [ne_eq, Prod.mk.injEq]; omega
  have hcs : kind ≠ fk ∨ (kind = fk ∧ (key : Int) ≠ (fkey : Int)) := by omega
  have hcs2 : kind ≠ fk ∨ (kind = fk ∧ key ≠ fkey) := by omega
  rcases hcs with hk | ⟨hk, hk2⟩
  · simp (disch := omega) [octroilaw12_JournalLast_r3, octroilaw12_JournalLast_r5, hv, hbig, h5', hk]
    refine ⟨LastInv h0 v xs kind key b, ⟨xs.length, j, O, 0, by simp [hv], by simp, by simp, by simp, by simp, by simp, by omega, by omega, by simpa [putsJ] using J2⟩, ?_⟩
    exact last_loop A0 hv hbig h5 hf1 hf2 hpq heq L0
  · have hk3 : key ≠ fkey := by omega
    simp (disch := omega) [octroilaw12_JournalLast_r3, octroilaw12_JournalLast_r5, hv, hbig, h5', hk, hk2, hk3]
    refine ⟨LastInv h0 v xs kind key b, ⟨xs.length, j, O, 0, by simp [hv], by simp [hk], by simp, by simp, by simp, by simp, by omega, by omega, by simpa [putsJ] using J2⟩, ?_⟩
    exact last_loop A0 hv hbig h5 hf1 hf2 hpq heq L0
end Go.Proofs.Ytjcecdjbllpmcaa
