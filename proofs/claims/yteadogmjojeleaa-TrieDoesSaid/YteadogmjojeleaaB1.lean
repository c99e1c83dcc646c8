/- The chapter's example is as the document says. -/
import Derived.Test.YteadogmjojeleaaA10
namespace Go.Proofs.Yteadogmjojeleaa
open Go
set_option linter.unusedSimpArgs false

theorem mask_at_aw : putR 5 [] 167772160 8 1 = (0, [((167772160, 8), 1)]) := by decide +kernel
theorem mask_at_aw2 : putR 5 [((167772160, 8), 1)] 167837696 16 2 = (0, [((167772160, 8), 1), ((167837696, 16), 2)]) := by decide +kernel
theorem find_aw1 : findL [((167772160, 8), 1), ((167837696, 16), 2)] 167838211 = some ((167837696, 16), 2) := by decide +kernel
theorem find_aw2 : findL [((167772160, 8), 1), ((167837696, 16), 2)] 167903232 = some ((167772160, 8), 1) := by decide +kernel

theorem Le.none {h g : Hp} {b : Nat} (L : Le h g) (hb : g b = Option.none) : h b = Option.none := by
  cases hh : h b with
  | none => rfl
  | some o => rw [L _ _ hh] at hb; cases hb

theorem Chg.le {h g g' : Hp} {t nb nb' : Nat} (L : Le h g) (C : Chg g g' t nb nb') (ht : h t = none) (hn : h nb = none) : Le h g' := by
  intro x o hx
  refine C.keep x o (L x o hx) ?_ ?_
  · rintro rfl; rw [ht] at hx; cases hx
  · rintro rfl; rw [hn] at hx; cases hx

/-- A trie that is not of an older heap stays so. -/
theorem Chg.fresh2 {h g g' : Hp} {t nb nb' : Nat} (L : Le h g) (C : Chg g g' t nb nb') (hn : h nb = none) : h nb' = none := by
  rcases C.fresh with e | e
  · rw [e]; exact hn
  · cases hh : h nb' with
    | none => rfl
    | some o => rw [L _ _ hh] at e; cases e

theorem awake_spec {h : Hp} {Q : Value → Hp → Prop} (hQ : ∀ h', Le h h' → Q (.bool true) h') : Ok Try.prog F_octroilaw08_awake #[] h Q := by
  refine octroilaw08_awake_ok (by simp) ?_
  unfold octroilaw08_awake_D
  simp (disch := omega) [octroilaw08_awake_r0, octroilaw08_awake_r1]
  refine newM (fun t nb h1 ht hnb L1 M1 => ?_)
  simp (disch := omega) [octroilaw08_awake_r2, octroilaw08_awake_r4]
  refine putM (a := 167772160) M1 (by omega) (by omega) (fun h2 nb2 C2 M2 => ?_)
  have L2 := C2.le L1 ht hnb
  have n2 := C2.fresh2 L1 hnb
  rw [mask_at_aw] at M2
  simp (disch := omega) [octroilaw08_awake_r5, mask_at_aw]
  refine putM (a := 167837696) M2 (by omega) (by omega) (fun h3 nb3 C3 M3 => ?_)
  have L3 := C3.le L2 ht n2
  rw [mask_at_aw2] at M3
  simp (disch := omega) [octroilaw08_awake_r6, mask_at_aw2]
  refine findM (a := 167838211) M3 (by omega) ?_
  simp (disch := omega) [find_aw1, fa, fl, fn]
  intro b hb
  have M4 := M3.le (Le.new (o := .cells #[.int .u32 167837696, .int .i64 16] 30) hb) (Nat.le_refl _)
  simp (disch := omega) [octroilaw08_awake_r7]
  refine findM (a := 167903232) M4 (by omega) ?_
  simp (disch := omega) [find_aw2, fa, fl, fn]
  intro b2 hb2
  obtain ⟨hne, hb2'⟩ := upd_none hb2
  simp (disch := omega) [octroilaw08_awake_r8, Ne.symm hne, hne]
  refine lenM (M4.le (Le.new hb2) (Nat.le_refl _)) ?_
  simp (disch := omega)
  refine .to _ (.refl _) (hQ _ ?_)
  exact (L3.trans (Le.new hb)).trans (Le.new hb2)
end Go.Proofs.Yteadogmjojeleaa
