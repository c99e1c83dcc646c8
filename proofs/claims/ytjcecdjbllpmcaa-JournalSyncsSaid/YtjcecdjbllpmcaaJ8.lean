/- The journal's Put. -/
import Derived.Test.YtjcecdjbllpmcaaJ7
namespace Go.Proofs.Ytjcecdjbllpmcaa
open Go
set_option linter.unusedVariables false
set_option linter.unusedSimpArgs false

def putJ (room : Int) (L : List F3) (f : F3) : Int × List F3 := if f.1 < 0 ∨ 255 < f.1 then (1, L) else if room ≤ (L.length : Int) then (4, L) else (0, L ++ [f])

theorem mu_50 {h : Hp} {r : Nat} {k : Int} {key v : Nat} {m : List ((Int × Nat) × Nat)} {K : Unit → Hp → Prop} (M : MapAt h r nke nve m) (hK : ∀ es clock, Ents nke nve es.toList (setM (k, key) v m) → K () (h.upd r (.map es clock))) :
    arun Try.prog (Instr.mapUpdate 50 (.map (some r)) (.agg #[.int .i64 k, .int .u32 key]) (.int .u32 v)) h K :=
  arun_mapUpdate (a := (k, key)) (v := v) (kenc := nke) (venc := nve) Try.underlying50 M (fun e => ck_55) (fun es H => fk_55 H) sb_55 hK

section
variable {h : Hp} {j kp : Nat} {room : Int} {L : List F3} {O : List Nat} {f : F3} {Q : Value → Hp → Prop}

theorem jputM (M : JM h j room kp L O) (hl : L.length ≤ 10000) (h1 : f.2.1 < 2 ^ 32) (h2 : f.2.2 < 2 ^ 32)
    (hQ : ∀ h' O', Fr h h' O O' → JM h' j room kp (putJ room L f).2 O' → Q (.int .i64 (putJ room L f).1) h') : Ok Try.prog F_journal_Journal_Put #[.pointer (some ⟨j, 0, none⟩), fe f] h Q := by
  obtain ⟨k, key, n⟩ := f
  refine journal_Journal_Put_ok (by simp) ?_
  unfold journal_Journal_Put_D
  unfold fe
  simp (disch := omega) [journal_Journal_Put_r0]
  simp only at h1 h2
  intro b hb
  have fr0 : Fr h (h.upd b (.cells #[.int .i64 k, .int .u32 key, .int .u32 n] 25)) O O := .of_le (.new hb) fun _ e => .inl e
  have M0 := M.le (.new (o := .cells #[.int .i64 k, .int .u32 key, .int .u32 n] 25) hb)
  have hbb : (h.upd b (.cells #[.int .i64 k, .int .u32 key, .int .u32 n] 25)) b = some (.cells #[.int .i64 k, .int .u32 key, .int .u32 n] 25) := by simp
  have nb : b ∉ O := fun m => by obtain ⟨o, e⟩ := M.alive _ m; rw [hb] at e; cases e
  generalize h.upd b (.cells #[.int .i64 k, .int .u32 key, .int .u32 n] 25) = g0 at *
  by_cases hk0 : k < 0
  · have e : putJ room L (k, key, n) = (1, L) := by unfold putJ; rw [if_pos (.inl hk0)]
    rw [e] at hQ
    simp (disch := omega) [journal_Journal_Put_r1, journal_Journal_Put_r2, hbb, hk0]
    exact .to _ (.refl _) (hQ _ _ fr0 M0)
  by_cases hk1 : 255 < k
  · have e : putJ room L (k, key, n) = (1, L) := by unfold putJ; rw [if_pos (.inr hk1)]
    rw [e] at hQ
    simp (disch := omega) [journal_Journal_Put_r1, journal_Journal_Put_r2, hbb, hk0, hk1]
    exact .to _ (.refl _) (hQ _ _ fr0 M0)
  have M1 := M0
  obtain ⟨vd, mr, J, rfl, hkp, ho⟩ := M0
  have hj := J.j
  simp (disch := omega) [journal_Journal_Put_r1, journal_Journal_Put_r3, hbb, hk0, hk1, hj]
  refine jlenM M1 hl ?_
  by_cases hr : room ≤ (L.length : Int)
  · have e : putJ room L (k, key, n) = (4, L) := by unfold putJ; rw [if_neg (by simp only; omega), if_pos hr]
    rw [e] at hQ
    simp (disch := omega) [journal_Journal_Put_r4, hj, hr]
    exact .to _ (.refl _) (hQ _ _ fr0 M1)
  have e : putJ room L (k, key, n) = (0, L ++ [(k, key, n)]) := by unfold putJ; rw [if_neg (by simp only; omega), if_neg hr]
  rw [e] at hQ
  obtain ⟨hjm, hjd⟩ := J.ne
  simp (disch := omega) [journal_Journal_Put_r5, hj, hr, hbb]
  refine jput_spec ⟨by omega, by omega⟩ h1 h2 (fun v2 g1 S1 l1 n1 => ?_)
  have J1 := J.fr (fun x o _ e => l1 x o e)
  have hj1 := J1.j
  simp (disch := omega) [hj1]
  refine cat_bytes J1.d S1.src (by rw [fbs_length, fb_length]; omega) (fun v3 g2 S2 G2 => ?_)
  have fr2 : Fr g0 g2 _ _ := (Fr.of_le l1 (fun _ e => .inl e)).trans G2.fr
  have hj2 : g2 j = _ := G2.keep _ _ hj1 (fun q => (hjd _ q.symm).1 rfl)
  obtain ⟨es, cl, em, hE⟩ := J.m
  have em2 : g2 mr = _ := fr2.keep _ _ em (fun q => (hjd mr (by simpa using q)).2 rfl)
  have hb2 : g2 b = _ := fr2.keep _ _ hbb (fun q => nb (by simp; exact .inr (.inr (by simpa using q))))
  have nbj : b ≠ j := fun q => nb (by simp [q])
  obtain ⟨p3, cap3, hv3⟩ := S2.shape'
  have n3 : ∀ x, blkOf v3 = some x → x ≠ j ∧ x ≠ mr ∧ (∃ o, g2 x = some o) := by
    intro x e
    refine ⟨?_, ?_, S2.alive e⟩
    · rintro rfl
      rcases fr2.own x (by simp [e]) with q | q
      · exact (hjd _ (by simpa using q)).1 rfl
      · rw [hj] at q; cases q
    · rintro rfl
      rcases fr2.own x (by simp [e]) with q | q
      · exact (hjd _ (by simpa using q)).2 rfl
      · rw [em] at q; cases q
  rw [hv3]
  simp (disch := omega) [hj2]
  simp (disch := omega) [journal_Journal_Put_r6, journal_Journal_Put_r7, nbj, hjm, hb2]
  refine mu_50 (m := lastOf L) ⟨es, cl, by rw [upd_ne hjm]; exact em2, hE⟩ (fun es2 cl2 H2 => ?_)
  refine .to _ (.refl _) (hQ _ (j :: mr :: (blkOf v3).toList) ?_ ?_)
  · refine fr0.trans (Fr.trans (O1 := j :: mr :: (blkOf v3).toList) ⟨fun x o e n => ?_, fun x e => ?_⟩ ((Fr.upd (by simp)).trans (Fr.upd (by simp))))
    · exact fr2.keep x o e (fun q => n (by simp; exact .inr (.inr (by simpa using q))))
    · simp only [List.mem_cons] at e ⊢
      rcases e with e | e | e
      · exact .inl (.inl e)
      · exact .inl (.inr (.inl e))
      · rcases fr2.own x e with q | q
        · exact .inl (.inr (.inr q))
        · exact .inr q
  · refine ⟨v3, mr, ⟨?_, ?_, ?_⟩, rfl, by simp; omega, ?_⟩
    · rw [upd_ne (Ne.symm hjm), upd_same, hv3, List.length_append]; rfl
    · rw [fbs_append, fbs_one]
      exact S2.keep (fun x o e q => by rw [upd_ne (n3 x e).2.1, upd_ne (n3 x e).1]; exact q)
    · rw [lastOf_append]
      exact ⟨es2, cl2, by rw [upd_same], H2⟩
    · intro f hf
      rcases List.mem_append.1 hf with q | q
      · exact ho f q
      · simp at q; subst q; exact ⟨by simp only; omega, by simp only; omega, h1, h2⟩
end
end Go.Proofs.Ytjcecdjbllpmcaa
