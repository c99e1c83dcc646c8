/- The journal's calls, told by the list of its facts: New, Len, Get, Put, Sync. -/
import Derived.Test.YtjcecdjbllpmcaaJ6
import Derived.Test.YtjcecdjbllpmcaaM13
namespace Go.Proofs.Ytjcecdjbllpmcaa
open Go
set_option linter.unusedVariables false
set_option linter.unusedSimpArgs false

abbrev F3 := Int × Nat × Nat
def okF (f : F3) : Prop := 0 ≤ f.1 ∧ f.1 ≤ 255 ∧ f.2.1 < 2 ^ 32 ∧ f.2.2 < 2 ^ 32
def fbs (L : List F3) : List Nat := L.flatMap fun f => fb f.1 f.2.1 f.2.2
def stF (m : List ((Int × Nat) × Nat)) (f : F3) : List ((Int × Nat) × Nat) := setM (f.1, f.2.1) f.2.2 m
def lastOf (L : List F3) : List ((Int × Nat) × Nat) := L.foldl stF []
def fe (f : F3) : Value := .agg #[.int .i64 f.1, .int .u32 (f.2.1 : Nat), .int .u32 (f.2.2 : Nat)]

theorem fb_length (k : Int) (a b : Nat) : (fb k a b).length = 12 := rfl
theorem fbs_length : ∀ L : List F3, (fbs L).length = 12 * L.length
  | [] => rfl
  | f :: L => by
    have := fbs_length L
    unfold fbs at *
    rw [List.flatMap_cons, List.length_append, this, fb_length, List.length_cons]; omega
theorem fbs_append (L M : List F3) : fbs (L ++ M) = fbs L ++ fbs M := by unfold fbs; rw [List.flatMap_append]
theorem fbs_one (f : F3) : fbs [f] = fb f.1 f.2.1 f.2.2 := by simp [fbs]
theorem lastOf_append (L : List F3) (f : F3) : lastOf (L ++ [f]) = stF (lastOf L) f := by simp [lastOf]

/-- A journal in memory: its room, how many facts are kept, its facts, and the blocks that are its own. -/
def JM (h : Hp) (j : Nat) (room : Int) (kp : Nat) (L : List F3) (O : List Nat) : Prop :=
  ∃ vd mr, JAt h j room (12 * kp : Nat) vd (fbs L) mr (lastOf L) ∧ O = j :: mr :: (blkOf vd).toList ∧ kp ≤ L.length ∧ ∀ f ∈ L, okF f

theorem JAt.ne {h : Hp} {j mr : Nat} {room kept : Int} {vd : Value} {bs : List Nat} {m : List ((Int × Nat) × Nat)} (J : JAt h j room kept vd bs mr m) : mr ≠ j ∧ ∀ b, blkOf vd = some b → b ≠ j ∧ b ≠ mr := by
  obtain ⟨es, cl, e, _⟩ := J.m
  have hj := J.j
  refine ⟨fun q => ?_, fun b e2 => ?_⟩
  · subst q; rw [hj] at e; cases e
  · rcases J.d with ⟨rfl, _⟩ | ⟨b', cap, c, rfl, hb, _⟩
    · cases e2
    · cases e2
      refine ⟨fun q => ?_, fun q => ?_⟩
      · subst q; rw [hj] at hb; cases hb
      · subst q; rw [e] at hb; cases hb

theorem JM.alive {h : Hp} {j : Nat} {room : Int} {kp : Nat} {L : List F3} {O : List Nat} (M : JM h j room kp L O) : ∀ x, x ∈ O → ∃ o, h x = some o := by
  obtain ⟨vd, mr, J, rfl, _⟩ := M
  intro x hx
  simp only [List.mem_cons] at hx
  rcases hx with rfl | rfl | hx
  · exact ⟨_, J.j⟩
  · obtain ⟨es, cl, e, _⟩ := J.m; exact ⟨_, e⟩
  · exact J.d.alive (by simpa using hx)

theorem JAt.fr {h h' : Hp} {j mr : Nat} {room kept : Int} {vd : Value} {bs : List Nat} {m : List ((Int × Nat) × Nat)} (J : JAt h j room kept vd bs mr m) (l : ∀ x o, x ∈ j :: mr :: (blkOf vd).toList → h x = some o → h' x = some o) : JAt h' j room kept vd bs mr m := by
  obtain ⟨es, cl, e, H⟩ := J.m
  exact ⟨l _ _ (by simp) J.j, J.d.keep (fun b o e q => l _ _ (by simp [e]) q), ⟨es, cl, l _ _ (by simp) e, H⟩⟩

theorem JM.keep {h h' : Hp} {j : Nat} {room : Int} {kp : Nat} {L : List F3} {O : List Nat} (M : JM h j room kp L O) (l : ∀ x o, x ∈ O → h x = some o → h' x = some o) : JM h' j room kp L O := by
  obtain ⟨vd, mr, J, rfl, r⟩ := M
  exact ⟨vd, mr, J.fr l, rfl, r⟩

theorem JM.le {h h' : Hp} {j : Nat} {room : Int} {kp : Nat} {L : List F3} {O : List Nat} (M : JM h j room kp L O) (l : Le h h') : JM h' j room kp L O := M.keep fun _ _ _ e => l _ _ e

section
variable {h : Hp} {j kp : Nat} {room : Int} {L : List F3} {O : List Nat} {Q : Value → Hp → Prop}

theorem jnewM (hQ : ∀ j h' O, Le h h' → (∀ x, x ∈ O → h x = none) → JM h' j room 0 [] O → Q (.pointer (some ⟨j, 0, none⟩)) h') : Ok Try.prog F_journal_New #[.int .i64 room] h Q := by
  refine journal_New_ok (by simp) ?_
  unfold journal_New_D
  simp (disch := omega) [journal_New_r0, journal_New_r1]
  refine arun_makeMap (fun b hb => ?_)
  simp (disch := omega)
  intro b2 hb2
  obtain ⟨hne, hb2'⟩ := upd_none hb2
  refine .to _ (.refl _) (hQ b2 _ [b2, b] ((Le.new hb).trans (Le.new hb2)) ?_ ⟨.slice none 0 0, b, ⟨?_, .inl ⟨rfl, rfl⟩, ⟨#[], 0, ?_, .nil⟩⟩, rfl, by simp, by simp⟩)
  · intro x hx
    simp only [List.mem_cons, List.not_mem_nil, or_false] at hx
    rcases hx with rfl | rfl
    · exact hb2'
    · exact hb
  · simp
  · simp [hne, Ne.symm hne]

theorem jlenM (M : JM h j room kp L O) (hl : L.length ≤ 10000) (hQ : Q (.int .i64 (L.length : Nat)) h) : Ok Try.prog F_journal_Journal_Len #[.pointer (some ⟨j, 0, none⟩)] h Q := by
  obtain ⟨vd, mr, J, rfl, r⟩ := M
  refine jlen_spec J (by rw [fbs_length]; omega) ?_
  rw [fbs_length, Nat.mul_div_cancel_left _ (by omega)]
  exact hQ

theorem jgetM {k : Int} {key : Nat} (M : JM h j room kp L O) (hQ : Q (.tuple #[.int .u32 (((getM (lastOf L) (k, key)).getD 0 : Nat) : Int), .bool (getM (lastOf L) (k, key)).isSome]) h) :
    Ok Try.prog F_journal_Journal_Get #[.pointer (some ⟨j, 0, none⟩), .int .i64 k, .int .u32 (key : Nat)] h Q := by
  obtain ⟨vd, mr, J, rfl, r⟩ := M
  exact jget_spec J hQ

theorem jsyncM (M : JM h j room kp L O) (hl : L.length ≤ 10000) (hQ : ∀ h', Fr h h' O O → JM h' j room L.length L O → Q (.tuple #[]) h') : Ok Try.prog F_journal_Journal_Sync #[.pointer (some ⟨j, 0, none⟩)] h Q := by
  obtain ⟨vd, mr, J, rfl, hk, ho⟩ := M
  refine journal_Journal_Sync_ok (by simp) ?_
  unfold journal_Journal_Sync_D
  have hj := J.j
  obtain ⟨p, cap, hv⟩ := J.d.shape'
  obtain ⟨hjm, hjd⟩ := J.ne
  rw [hv] at hj
  simp (disch := omega) [journal_Journal_Sync_r0, hj]
  refine .to _ (.refl _) (hQ _ (.upd (by simp)) ⟨vd, mr, ⟨?_, ?_, ?_⟩, rfl, Nat.le_refl _, ho⟩)
  · rw [upd_same, hv, fbs_length]
  · exact J.d.keep (fun b o e q => by rw [upd_ne (hjd b e).1]; exact q)
  · obtain ⟨es, cl, e, H⟩ := J.m
    exact ⟨es, cl, by rw [upd_ne hjm]; exact e, H⟩
end
end Go.Proofs.Ytjcecdjbllpmcaa
