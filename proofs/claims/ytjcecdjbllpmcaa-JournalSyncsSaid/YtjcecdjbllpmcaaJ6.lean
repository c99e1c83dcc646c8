/- The journal in memory: Len, Get, New. -/
import Derived.Test.YtjcecdjbllpmcaaJ5
namespace Go.Proofs.Ytjcecdjbllpmcaa
open Go
set_option linter.unusedSimpArgs false

structure JAt (h : Hp) (j : Nat) (room kept : Int) (vd : Value) (bs : List Nat) (mr : Nat) (m : List ((Int × Nat) × Nat)) : Prop where
  j : h j = some (.cells #[.int .i64 room, .int .i64 kept, vd, .map (some mr)] T_journal_Journal (0, 0))
  d : SlAt h 5 1 be vd bs
  m : MapAt h mr nke nve m

theorem jlen_spec {h : Hp} {j : Nat} {room kept : Int} {vd : Value} {bs : List Nat} {mr : Nat} {m : List ((Int × Nat) × Nat)} {Q : Value → Hp → Prop} (J : JAt h j room kept vd bs mr m) (hl : bs.length ≤ 1000000)
    (hQ : Q (.int .i64 ((bs.length / 12 : Nat) : Int)) h) : Ok Try.prog F_journal_Journal_Len #[.pointer (some ⟨j, 0, none⟩)] h Q := by
  refine journal_Journal_Len_ok (by simp) ?_
  unfold journal_Journal_Len_D
  have hj := J.j
  obtain ⟨p, cap, hv⟩ : ∃ p cap, vd = .slice p bs.length cap := by
    rcases J.d with ⟨rfl, rfl⟩ | ⟨b, cap, c, rfl, _⟩
    · exact ⟨none, 0, rfl⟩
    · exact ⟨_, _, rfl⟩
  rw [hv] at hj
  simp (disch := omega) [journal_Journal_Len_r0, journal_Journal_Len_r1, hj, wrap_i64]
  exact .to _ (.refl _) (by simpa using hQ)

theorem lk_50 {h : Hp} {r : Nat} {p : Int × Nat} {m : List ((Int × Nat) × Nat)} (M : MapAt h r nke nve m) :
    rrun Try.prog (Instr.lookup 50 (.map (some r)) (nke p) true) h = some (.tuple #[.int .u32 (((getM m p).getD 0 : Nat) : Int), .bool (getM m p).isSome]) := by
  rw [rr_lookup (z := .int .u32 0) Try.underlying50 M (fun e => ck_55) (fun es H => fk_55 H) (by kernel_rfl)]
  cases getM m p <;> simp [nve]

theorem jget_spec {h : Hp} {j : Nat} {room kept k : Int} {key : Nat} {vd : Value} {bs : List Nat} {mr : Nat} {m : List ((Int × Nat) × Nat)} {Q : Value → Hp → Prop} (J : JAt h j room kept vd bs mr m)
    (hQ : Q (.tuple #[.int .u32 (((getM m (k, key)).getD 0 : Nat) : Int), .bool (getM m (k, key)).isSome]) h) : Ok Try.prog F_journal_Journal_Get #[.pointer (some ⟨j, 0, none⟩), .int .i64 k, .int .u32 (key : Nat)] h Q := by
  refine journal_Journal_Get_ok (by simp) ?_
  unfold journal_Journal_Get_D
  have hj := J.j
  have lk := lk_50 (p := (k, key)) J.m
  unfold nke at lk
  simp (disch := omega) [journal_Journal_Get_r0, journal_Journal_Get_r1, journal_Journal_Get_r2, hj, lk]
  exact .to _ (.refl _) hQ
end Go.Proofs.Ytjcecdjbllpmcaa
