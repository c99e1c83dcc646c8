/- The journal's bytes: Clone, Bytes, as a string. -/
import Derived.Test.YtjcecdjbllpmcaaJ13
namespace Go.Proofs.Ytjcecdjbllpmcaa
open Go
set_option linter.unusedSimpArgs false

theorem clone_spec {h : Hp} {v : Value} {xs : List Nat} {Q : Value → Hp → Prop} (S : SlAt h 5 1 be v xs) (hl : xs.length ≤ 1000000) (hQ : ∀ v' h', SlAt h' 5 1 be v' xs → Le h h' → Q v' h') : Ok Try.prog F_slices_Clone_byte_byte #[v] h Q := by
  refine slices_Clone_byte_byte_ok (by simp) ?_
  unfold slices_Clone_byte_byte_D
  rcases S with ⟨rfl, rfl⟩ | ⟨b, cap, c, rfl, hb, h1, h2, h3⟩
  · simp (disch := omega) [slices_Clone_byte_byte_r0, slices_Clone_byte_byte_r1, slices_Clone_byte_byte_r2]
    exact .to _ (.refl _) (hQ _ _ (.inl ⟨rfl, rfl⟩) (.refl _))
  · simp (disch := omega) [slices_Clone_byte_byte_r0, slices_Clone_byte_byte_r1, slices_Clone_byte_byte_r3]
    intro b2 hb2
    have S2 : SlAt (h.upd b2 (.cells #[] 5)) 5 1 be (.slice (some ⟨b2, 0, none⟩) 0 0) [] := .inr ⟨b2, 0, #[], rfl, by simp, by simp, by simp, fun i x hx => by simp at hx⟩
    have S1 : SlAt h 5 1 be (.slice (some ⟨b, 0, none⟩) xs.length cap) xs := .inr ⟨b, cap, c, rfl, hb, h1, h2, h3⟩
    refine cat_bytes S2 (S1.le' (.new hb2)).src (by simpa using hl) (fun v' h' S' G => ?_)
    refine .to _ (.refl _) (hQ _ _ (by simpa using S') (fun x o e => G.keep x o (Le.new hb2 _ _ e) (fun q => ?_)))
    have : x = b2 := by simpa [blkOf] using q
    rw [this, hb2] at e; cases e

section
variable {h : Hp} {j kp : Nat} {room : Int} {L : List F3} {O : List Nat} {Q : Value → Hp → Prop}

theorem jbytesM (M : JM h j room kp L O) (hl : L.length ≤ 10000) (hQ : ∀ v h', SlAt h' 5 1 be v (fbs L) → Le h h' → Q v h') : Ok Try.prog F_journal_Journal_Bytes #[.pointer (some ⟨j, 0, none⟩)] h Q := by
  obtain ⟨vd, mr, J, rfl, r⟩ := M
  refine journal_Journal_Bytes_ok (by simp) ?_
  unfold journal_Journal_Bytes_D
  have hj := J.j
  simp (disch := omega) [journal_Journal_Bytes_r0, journal_Journal_Bytes_r1, hj]
  refine clone_spec J.d (by rw [fbs_length]; omega) (fun v' h' S' l => ?_)
  exact .to _ (.refl _) (hQ _ _ S' l)

theorem str_34 {v : Value} {xs : List Nat} {K : Value → Hp → Prop} (S : SlAt h 5 1 be v xs) (hK : K (.string (mkB xs)) h) : arun Try.prog (convert 34 9 v) h K :=
  arun_convert_bytes und_34 Try.underlying5 Try.underlying9 S hK
end
end Go.Proofs.Ytjcecdjbllpmcaa
