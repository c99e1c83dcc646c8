/- Words for the printed formulas; monotony. -/
import Derived.Test.YtmbhlbohbpepaaaM5
namespace Go.Proofs.Ytmbhlbohbpepaaa
open Go

def rg (r : Env → Hp → (Env → Hp → Prop) → Prop) : Den := fun Q env h => r env h (Q .normal)

def subCode : List Nat → Code → Code
  | [], c => c
  | 0 :: p, .seq a _ => subCode p a
  | _ :: p, .seq _ b => subCode p b
  | 0 :: p, .cond _ a _ => subCode p a
  | _ :: p, .cond _ _ b => subCode p b
  | _ :: p, .block _ c => subCode p c
  | _ :: p, .loop c => subCode p c
  | _ :: p, .scope c => subCode p c
  | _, _ => .skip

def MonoD (D : Den) : Prop := ∀ (Q Q' : Post), (∀ e env h, Q e env h → Q' e env h) → ∀ env h, D Q env h → D Q' env h

theorem dops_mono {P : Program} {n : Nat} {ops : Array Oper} {K K' : Env → Hp → Prop} (q : ∀ env h, K env h → K' env h) : ∀ (l : List Nat) (env : Env) (h : Hp), dops P n ops l env h K → dops P n ops l env h K'
  | [], _, _, D => q _ _ D
  | _ :: rest, _, _, D => dOp_mono (fun _ _ hk => dops_mono q rest _ _ hk) D

theorem dall_mono {f g : Nat → Prop} (q : ∀ j, f j → g j) : ∀ rs : List Nat, dall rs f → dall rs g
  | [], _ => trivial
  | [_], h => q _ h
  | _ :: k :: rest, h => ⟨q _ h.1, dall_mono q (k :: rest) h.2⟩

theorem dreg_mono {P : Program} {n : Nat} {ops : Array Oper} {K K' : Env → Hp → Prop} (q : ∀ env h, K env h → K' env h) : ∀ (fuel : Nat) (pend : Pend) (listed : Array Bool) (env : Env) (h : Hp),
    dreg P n ops fuel pend listed env h K → dreg P n ops fuel pend listed env h K' := by
  intro fuel
  induction fuel with
  | zero =>
    intro pend listed env h D
    simp only [dreg] at D ⊢
    split
    · rename_i hr; simp only [hr] at D; exact q _ _ D
    · rename_i hr; split at D
      · rename_i hr2; exact absurd hr2 hr
      · exact D
  | succ fuel ih =>
    intro pend listed env h D
    simp only [dreg] at D ⊢
    split
    · rename_i i hf
      simp only [hf] at D
      split
      · rename_i o ho; simp only [ho] at D; exact gop_mono (fun v h hk => ih _ _ _ _ hk) D
      · rename_i ho; simp only [ho] at D
    · rename_i hf
      simp only [hf] at D
      split
      · rename_i hr; simp only [hr] at D; exact q _ _ D
      · rename_i rs hr
        split at D
        · rename_i hr2; exact absurd hr2 hr
        · exact dall_mono (fun j hj => dOp_mono (fun _ _ hk => ⟨hk.1, ih _ _ _ _ hk.2⟩) hj) _ D

theorem sq_mono {A B : Den} (ha : MonoD A) (hb : MonoD B) : MonoD (sq A B) := fun Q Q' q env h D =>
  ha _ _ (fun e env h hq => by cases e <;> first | exact hb _ _ q _ _ hq | exact q _ _ _ hq) _ _ D

theorem den_mono (P : Program) (n : Nat) (c : Code) : MonoD (den P n c).1 ∧ ∀ l d, (den P n c).2 l = some d → MonoD d := by
  induction c with
  | skip => exact ⟨fun Q Q' q env h D => q _ _ _ D, fun l d e => by cases e⟩
  | region id ops draw =>
    refine ⟨fun Q Q' q env h D => ?_, fun l d e => by cases e⟩
    show rgn P n ops draw Q' env h
    have D : rgn P n ops draw Q env h := D
    unfold rgn at D ⊢
    cases draw with
    | false => exact dops_mono (q .normal) _ _ _ D
    | true =>
      simp only at D ⊢
      split
      · rename_i hg; simp only [hg] at D; exact dreg_mono (q .normal) _ _ _ _ _ D
      · rename_i hg; simp only [hg] at D
  | seq x y ihx ihy =>
    refine ⟨sq_mono ihx.1 ihy.1, fun l d e => ?_⟩
    simp only [den] at e
    cases hx : (den P n x).2 l with
    | some d' => simp only [hx, Option.some.injEq] at e; subst e; exact sq_mono (ihx.2 l d' hx) ihy.1
    | none => simp only [hx] at e; exact ihy.2 l d e
  | cond o x y ihx ihy =>
    refine ⟨fun Q Q' q env h D => ?_, fun l d e => by cases e⟩
    obtain ⟨b, hb, D⟩ := D
    refine ⟨b, hb, ?_⟩
    cases b with
    | true => exact ihx.1 _ _ q _ _ D
    | false => exact ihy.1 _ _ q _ _ D
  | block id x ih =>
    refine ⟨fun Q Q' q env h D => ih.1 _ _ (fun e env h hq => ?_) _ _ D, fun l d e => by cases e⟩
    cases e with
    | exit i =>
      simp only [inBlk] at hq ⊢
      split
      · rename_i hi; simp only [hi, if_true] at hq; exact q _ _ _ hq
      · rename_i hi; simp only [hi, if_false] at hq; exact q _ _ _ hq
    | _ => exact q _ _ _ hq
  | loop x ih =>
    refine ⟨fun Q Q' q env h D => ?_, fun l d e => by cases e⟩
    obtain ⟨I, h0, hr⟩ := D
    refine ⟨I, h0, fun k env h hI => ih.1 _ _ (fun e env h hq => ?_) _ _ (hr k env h hI)⟩
    cases e <;> first | exact hq | exact q _ _ _ hq
  | rangeFunc f ps x y _ _ => exact ⟨fun Q Q' q env h D => D.elim, fun l d e => by cases e⟩
  | exit id => exact ⟨fun Q Q' q env h D => q _ _ _ D, fun l d e => by cases e⟩
  | scope x ih =>
    refine ⟨fun Q Q' q env h D => ?_, fun l d e => by cases e⟩
    obtain ⟨I, h0, hr⟩ := D
    refine ⟨I, ih.1 _ _ (fun e env h hq => ?_) _ _ h0, fun k l env h hI => ?_⟩
    · cases e <;> first | exact hq | exact q _ _ _ hq
    · obtain ⟨d, hd, D⟩ := hr k l env h hI
      refine ⟨d, hd, ih.2 l d hd _ _ (fun e env h hq => ?_) _ _ D⟩
      cases e <;> first | exact hq | exact q _ _ _ hq
  | label l' =>
    refine ⟨fun Q Q' q env h D => q _ _ _ D, fun l d e => ?_⟩
    simp only [den] at e
    split at e
    · cases e; exact fun Q Q' q env h D => q _ _ _ D
    · cases e
  | goto l => exact ⟨fun Q Q' q env h D => q _ _ _ D, fun l d e => by cases e⟩
  | ret => exact ⟨fun Q Q' q env h D => q _ _ _ D, fun l d e => by cases e⟩
  | refuse s => exact ⟨fun Q Q' q env h D => D.elim, fun l d e => by cases e⟩

/-- A scope with one label, to which it jumps back: what holds at the label. -/
theorem scp_one {P : Program} {n l : Nat} {code : Code} {A at0 : Den} {r : Env → Hp → (Env → Hp → Prop) → Prop} {Q : Post} {env : Env} {h : Hp} (hlab : (den P n code).2 l = some at0) (hA : A = sq (rg r) at0)
    (Inv : Nat → Env → Hp → Prop) (h0 : ∀ K : Env → Hp → Prop, (∀ m env h, Inv m env h → K env h) → r env h K)
    (step : ∀ m env h, Inv m env h → at0 (jumpK (fun l' env h => l' = l ∧ ∃ k, k < m ∧ Inv k env h) Q) env h) : scp A (den P n code).2 Q env h := by
  refine ⟨fun m l' env h => l' = l ∧ Inv m env h, ?_, ?_⟩
  · subst hA
    refine h0 _ fun m env h hI => (den_mono P n code).2 l at0 hlab _ _ (fun e env h hq => ?_) _ _ (step m env h hI)
    cases e with
    | goto l' => obtain ⟨e, k, _, hk⟩ := hq; exact ⟨k, e, hk⟩
    | _ => exact hq
  · rintro m l' env h ⟨rfl, hI⟩
    refine ⟨at0, hlab, (den_mono P n code).2 _ at0 hlab _ _ (fun e env h hq => ?_) _ _ (step m env h hI)⟩
    cases e with
    | goto l' => obtain ⟨e, k, hk, hI⟩ := hq; exact ⟨k, hk, e, hI⟩
    | _ => exact hq

end Go.Proofs.Ytmbhlbohbpepaaa
