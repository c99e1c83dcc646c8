/- JournalLast: what was put last of a kind and a key is what is known; another one has what it had: the row. No condition. -/
import Derived.Test.YtjcecdjbllpmcaaRows
import Derived.Test.YtjcecdjbllpmcaaJ13
namespace Go.Proofs.Ytjcecdjbllpmcaa.JournalLast_row
open Go Go.ChangeShapes Go.WideShapes Go.RowKit
theorem own_knob : ownKnob Try.prog.godebug = none := by kernel_rfl
theorem laid_out : laidOutB Try.prog = true := by kernel_rfl
set_option maxRecDepth 100000 in
theorem lifted (os : Os) (started : os.Started) (H : Type) (enc : TypeId × Value → H) :
    ReturnsInHanded {} Try.checked os 3 .any (Rows.journalLastSpec.pre6 enc Try.prog Try.f3 Rows.journalLastRow.domain false) (Rows.journalLastSpec.post enc Try.prog Try.f3 false true false false) := by
  refine returnsInHanded_of_change_sized (C := Try.checked) own_knob started (by kernel_rfl) Try.func3
    (ChangeSpec.witness6 (enc := enc) (C := Try.checked) false ⟨#[], #[.slice none 0 0, .agg #[.int .i64 0, .int .u32 0, .int .u32 0], .int .i64 0, .int .u32 0], []⟩ 8 (by kernel_rfl) (by kernel_rfl) (by kernel_rfl) (by kernel_rfl)) ?_
  intro W base args ds gs before hval hW hcnd hsz _
  have hW' := hW
  obtain ⟨p, q, hA, hV, rfl, hfz, hnd⟩ := hW
  obtain ⟨rfl, rfl⟩ := trodVars_none hV
  have hA' : DataW.TrodAll enc Try.prog W 0 (fun _ => true) true Try.f3.params.toList args.toList ds p := hA
  have hval' : ∀ (j : Nat) t v, Try.f3.params[j]? = some t → args[j]? = some v → Value.okWide Try.prog W .any base t v := hval
  rw [Try.params3] at hA' hval'
  obtain ⟨v0, vs0, d0, ds0, p0, q0, hargs, rfl, rfl, h0, r0⟩ := trodAll_cons hA'
  obtain ⟨v1, vs1, d1, ds1, p1, q1, rfl, rfl, rfl, h1, r1⟩ := trodAll_cons r0
  obtain ⟨v2, vs2, d2, ds2, p2, q2, rfl, rfl, rfl, h2, r2⟩ := trodAll_cons r1
  obtain ⟨v3, vs3, d3, ds3, p3, q3, rfl, rfl, rfl, h3, r3⟩ := trodAll_cons r2
  obtain ⟨rfl, rfl, rfl⟩ := trodAll_nil r3
  obtain rfl : args = #[v0, v1, v2, v3] := by cases args; simp_all
  obtain ⟨xs0, A0⟩ := open_argSl (ks := fcKs) (sz := 3) 4 Try.underlying22 (by kernel_rfl) (by kernel_rfl) (by decide) dec_fc (hval' 0 _ v0 rfl rfl) h0
  obtain ⟨⟨cs1⟩, rfl, k1⟩ := open_flat (ks := fcKs) 4 Try.underlying25 (by kernel_rfl) (hval' 1 _ v1 rfl rfl) h1
  obtain ⟨x1, e1, hx1⟩ := dec_fc _ k1
  simp only at e1
  subst e1
  obtain ⟨n2, rfl, rfl, rfl, w2⟩ := open_int Try.underlying3 (hval' 2 _ v2 rfl rfl) h2
  obtain ⟨n3, rfl, rfl, rfl, w3⟩ := open_int Try.underlying23 (hval' 3 _ v3 rfl rfl) h3
  obtain ⟨a3, rfl, ha3⟩ := u32_wf w3
  refine (below_of (JournalLast_walk A0 hx1)).mono fun e W' ⟨he, bel⟩ => ?_
  subst he
  exact ⟨_, rfl, _, _, _, [], _, [], hW', trodAll_mk1 (shut_bool (by kernel_rfl) _), trodAll_below laid_out bel (by kernel_rfl) hA, rfl, bel.frame _, fun h => by cases h⟩
theorem over : Rows.journalLastRow.holds Try.pinned (OpenSpec.ofChange Rows.journalLastSpec) :=
  OpenClaim.holds_of_wide 3 Try.f3 rfl rfl rfl rfl rfl rfl rfl ⟨rfl, rfl, rfl, rfl, rfl⟩ rfl rfl rfl rfl rfl (by kernel_rfl) Try.func3 (by kernel_rfl)
    (of_decide_eq_true (by kernel_rfl)) (by unfold Func.isWrapper; first | (rw [if_pos (by decide +kernel)]; kernel_rfl) | (rw [if_neg (by decide +kernel)]; exact ⟨rfl, rfl⟩))
    (fun os started H enc _ => lifted os started H enc)
end Go.Proofs.Ytjcecdjbllpmcaa.JournalLast_row
namespace Go.Proofs.Ytjcecdjbllpmcaa
theorem journalLast_holds : Rows.JournalLastSaid := JournalLast_row.over
#print axioms journalLast_holds
end Go.Proofs.Ytjcecdjbllpmcaa
