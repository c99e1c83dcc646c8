/- JournalSyncs: what was synced is left by any crash: the walk. -/
import Derived.Test.YtjcecdjbllpmcaaJ14
namespace Go.Proofs.Ytjcecdjbllpmcaa
open Go
set_option linter.unusedSimpArgs false
set_option linter.unusedVariables false

theorem crN_full (L : List F3) (k : Int) : crN L.length L k = L.length := by unfold crN; simp; omega

def SyncInv (h0 : Hp) (v : Value) (xs : List F3) (one two : Int) (m : Nat) (env : Env) (g : Hp) : Prop :=
  ∃ j O i, env 0 = v ∧ env 1 = .int .i64 one ∧ env 2 = .int .i64 two ∧ env 8 = .pointer (some ⟨j, 0, none⟩) ∧ env 9 = .int .i64 (i : Nat) ∧ i + m = xs.length ∧ i ≤ xs.length ∧
    JOwn h0 g j 1000 0 (putsJ 1000 [] (xs.take i)) O

theorem JOwn.le2 {h0 g g' : Hp} {j : Nat} {room : Int} {kp : Nat} {L : List F3} {O : List Nat} (A : JOwn h0 g j room kp L O) (l : Le g g') : JOwn h0 g' j room kp L O := ⟨A.m.le l, A.le.trans l, A.new⟩

set_option maxHeartbeats 2000000 in
set_option maxRecDepth 20000 in
theorem JournalSyncs_walk {h : Hp} {v : Value} {xs : List F3} {one two : Int} (A : argFs h v xs) :
    Ok Try.prog F_octroilaw12_JournalSyncs #[v, .int .i64 one, .int .i64 two] h (fun r g => r = .bool true ∧ Le h g) := by
  obtain ⟨p, cap, hv⟩ := ArgSl.shape A
  have hlen := ArgSl.len A
  have hmax : maxLen < 2 ^ 63 := by decide
  refine octroilaw12_JournalSyncs_ok (by simp) ?_
  unfold octroilaw12_JournalSyncs_D
  simp (disch := omega) [octroilaw12_JournalSyncs_r0, octroilaw12_JournalSyncs_r1]
  refine awake_spec (fun h1 L1 => ?_)
  simp (disch := omega) [octroilaw12_JournalSyncs_r2]
  refine jnewM (fun j h2 O l2 n2 M2 => ?_)
  have J2 : JOwn h h2 j 1000 0 [] O := ⟨M2, L1.trans l2, fun x m => none_of_le L1 (n2 x m)⟩
  clear M2 n2 l2
  by_cases hbig : (150 : Int) < (xs.length : Int)
  · simp (disch := omega) [octroilaw12_JournalSyncs_r3, octroilaw12_JournalSyncs_r4, hv, hbig]
    exact .to _ (.refl _) ⟨rfl, J2.le⟩
  simp (disch := omega) [octroilaw12_JournalSyncs_r3, octroilaw12_JournalSyncs_r5, hv, hbig]
  refine ⟨SyncInv h v xs one two, ⟨xs.length, j, O, 0, by simp [hv], by simp, by simp, by simp, by simp, by omega, by omega, by simpa [putsJ] using J2⟩, ?_⟩
  clear J2 L1
  rintro m env g ⟨j, O, i, e0, e1, e2, e8, e9, him, hi, J⟩
  have hl := putsJ_length 1000 (xs.take i) []
  rw [List.length_take, Nat.min_eq_left hi] at hl
  simp only [List.length_nil] at hl
  unfold octroilaw12_JournalSyncs_L0
  by_cases hm : m = 0
  · have hin : i = xs.length := by omega
    subst hin
    simp only [List.take_length] at J hl
    generalize putsJ 1000 [] xs = L at *
    simp (disch := omega) [octroilaw12_JournalSyncs_r6, octroilaw12_JournalSyncs_r9, e0, e1, e2, e8, e9, hv]
    refine jbytesM J.m (by omega) (fun v1 h3 S1 l1 => ?_)
    refine str_34 S1 ?_
    have J1 := J.le2 l1
    simp (disch := omega) [octroilaw12_JournalSyncs_r10, e0, e1, e2, e8, e9]
    refine jsyncM J1.m (by omega) (fun h4 F4 M4 => ?_)
    have J4 := J1.fr F4 M4
    simp (disch := omega) [octroilaw12_JournalSyncs_r11, e0, e1, e2, e8, e9]
    refine jcrashM J4.m (by omega) (fun h5 O5 F5 M5 => ?_)
    rw [crN_full, List.take_length] at M5
    have J5 := J4.fr F5 M5
    simp (disch := omega) [octroilaw12_JournalSyncs_r12, e0, e1, e2, e8, e9]
    refine jbytesM J5.m (by omega) (fun v6 h6 S6 l6 => ?_)
    refine str_34 S6 ?_
    have J6 := J5.le2 l6
    simp (disch := omega) [octroilaw12_JournalSyncs_r13, e0, e1, e2, e8, e9]
    refine jcrashM J6.m (by omega) (fun h7 O7 F7 M7 => ?_)
    rw [crN_full, List.take_length] at M7
    have J7 := J6.fr F7 M7
    simp (disch := omega) [octroilaw12_JournalSyncs_r14, e0, e1, e2, e8, e9]
    refine jbytesM J7.m (by omega) (fun v8 h8 S8 l8 => ?_)
    refine str_34 S8 ?_
    simp (disch := omega)
    exact .to _ (.refl _) ⟨rfl, (J7.le2 l8).le⟩
  · obtain ⟨x, hx⟩ : ∃ x, xs[i]? = some x := ⟨_, List.getElem?_eq_getElem (by omega)⟩
    obtain ⟨⟨g1, g2⟩, bb, o, cap', c, E, fr, hv', hbb, f0, f1, f2⟩ := argFs.get A hx
    have hbb' := J.le _ _ hbb
    obtain ⟨x1, x2, x3⟩ := x
    simp only at g1 g2 f0 f1 f2
    rw [hv'] at e0
    have hi' : (i : Int) < (xs.length : Int) := by omega
    simp (disch := omega) [octroilaw12_JournalSyncs_r6, octroilaw12_JournalSyncs_r7, e0, e1, e2, e8, e9, hi', hbb', f0, f1, f2]
    refine jputM (f := (x1, x2, x3)) J.m (by omega) g1 g2 (fun g1 O1 F1 M1 => ?_)
    have J1 := J.fr F1 M1
    rw [← putsJ_snoc, ← take_succ_of hx] at J1
    simp (disch := omega) [octroilaw12_JournalSyncs_r8, e0, e1, e2, e8, e9, wrap_i64]
    exact ⟨m - 1, by omega, j, O1, i + 1, by simp [e0, hv'], by simp [e1], by simp [e2], by simp [e8], by simp, by omega, by omega, J1⟩
end Go.Proofs.Ytjcecdjbllpmcaa
