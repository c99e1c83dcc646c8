/- Code and calls: the formulas are sound for the machine. -/
import Derived.Test.YtmbhlbohbpepaaaM4
namespace Go.Proofs.Ytmbhlbohbpepaaa
open Go

def Lift (n : Nat) (h0 : Hp) (w0 : World) (K : Env → Hp → Prop) : Act → World → Prop := fun a w =>
  a.defers = [] ∧ ∃ env h, Fits n a env ∧ View h w ∧ Keep h0 w0 h w ∧ K env h

def LiftQ (n : Nat) (h0 : Hp) (w0 : World) (Q : Post) : Exit → Act → World → Prop := fun e => Lift n h0 w0 (Q e)

theorem put_defers (a : Act) (dst : Option Tmp) (v : Value) : (a.put dst v).defers = a.defers := by cases dst <;> rfl

theorem dOp_sound {P : Program} {n : Nat} (hP : progOk P = true) {ops : Array Oper} {i : Nat} {a : Act} {env : Env} {h h0 : Hp} {w w0 : World} {K : Env → Hp → Prop} {Q : Exit → Act → World → Prop}
    (F : Fits n a env) (hd : a.defers = []) (V : View h w) (K0 : Keep h0 w0 h w) (D : dOp P n ops i env h K) : wpOp P ops Q i (Lift n h0 w0 K) a w := by
  unfold dOp at D
  unfold wpOp
  cases ho : ops[i]? with
  | none => simp only [ho] at D ⊢; exact ⟨hd, env, h, F, V, K0, D⟩
  | some o =>
    simp only [ho] at D ⊢
    have run : dexec P env o h (fun v h' => K (put n env o.dst v) h') → o.wp P a w (Lift n h0 w0 K) Q := by
      intro D
      refine Wpo.wp ?_
      have := dexec_sound hP F V D
      unfold Does Wpo at this
      unfold Wpo
      generalize (execOp a.eval o).run P w = r at this ⊢
      cases r with
      | halt x w' => exact this.elim
      | ok x w' =>
        cases x <;> simp only at this ⊢
        case value v =>
          obtain ⟨h', V', K', hk⟩ := this
          exact ⟨by rw [put_defers]; exact hd, _, h', F.put _ _, V', K0.trans K', hk⟩
        case skip =>
          obtain ⟨h', V', K', hk⟩ := this
          exact ⟨by rw [put_defers]; exact hd, _, h', F.put _ _, V', K0.trans K', hk⟩
        case enter f args =>
          refine this.mono ?_
          rintro e w'' ⟨v, he, h', V', K', hk⟩
          exact ⟨v, he, by rw [put_defers]; exact hd, _, h', F.put _ _, V', K0.trans K', hk⟩
    unfold gop gd at D
    cases hgd : o.guard with
    | none =>
      simp only [hgd] at D
      have hw : Region.wanted o (yielded ops a.tmps) = true := by simp [Region.wanted, hgd]
      rw [if_pos hw]
      exact .inl (run D)
    | some gw =>
      obtain ⟨j, want⟩ := gw
      simp only [hgd] at D
      have hw : Region.wanted o (yielded ops a.tmps) = (yieldedE ops env j == some want) := by
        simp only [Region.wanted, hgd]; rw [F.yielded]
      rw [hw]
      cases hc : (yieldedE ops env j == some want) with
      | true => rw [if_pos rfl]; rw [hc, if_pos rfl] at D; exact .inl (run D)
      | false =>
        rw [if_neg (by simp)]
        rw [hc, if_neg (by simp)] at D
        exact ⟨by rw [put_defers]; exact hd, _, h, F.put _ _, V, K0, D⟩

theorem dops_sound {P : Program} {n : Nat} (hP : progOk P = true) {ops : Array Oper} {h0 : Hp} {w0 : World} {Q : Post} : ∀ (l : List Nat) {a : Act} {env : Env} {h : Hp} {w : World},
    Fits n a env → a.defers = [] → View h w → Keep h0 w0 h w → dops P n ops l env h (Q .normal) → wpOps P ops (LiftQ n h0 w0 Q) l a w := by
  intro l
  induction l with
  | nil => intro a env h w F hd V K0 D; exact ⟨hd, env, h, F, V, K0, D⟩
  | cons i rest ih =>
    intro a env h w F hd V K0 D
    rw [wpOps_cons]
    refine wpOp_mono (fun a' w' hk => ?_) (dOp_sound hP F hd V K0 D)
    obtain ⟨hd', env', h', F', V', K', D'⟩ := hk
    exact ih F' hd' V' K' D'

theorem dAnyP_sound {P : Program} {n : Nat} (hP : progOk P = true) {ops : Array Oper} {h0 : Hp} {w0 : World} {Q : Post} : ∀ (fuel : Nat) (pend : Pend) (listed : Array Bool) {a : Act} {env : Env} {h : Hp} {w : World},
    Fits n a env → a.defers = [] → View h w → Keep h0 w0 h w → dAnyP P n ops fuel pend listed env h (Q .normal) → wpAny P .any ops (LiftQ n h0 w0 Q) fuel listed a w := by
  intro fuel
  induction fuel with
  | zero => intro pend listed a env h w F hd V K0 D; exact ⟨D.1, hd, env, h, F, V, K0, D.2⟩
  | succ fuel ih =>
    intro pend listed a env h w F hd V K0 D
    refine ⟨fun h0 => ⟨hd, env, h, F, V, K0, D.1 h0⟩, fun i hi => ?_⟩
    refine wpOp_mono (fun a' w' hk => ?_) (dOp_sound hP F hd V K0 (D.2 i hi))
    obtain ⟨hd', env', h', F', V', K', D'⟩ := hk
    exact ih _ _ F' hd' V' K' D'.2

def Snd (P : Program) (n : Nat) (D : Den) (c : Code) : Prop :=
  ∀ (Q : Post) (env : Env) (h : Hp) (a : Act) (w : World) (h0 : Hp) (w0 : World), Fits n a env → a.defers = [] → View h w → Keep h0 w0 h w → D Q env h → c.wp P (LiftQ n h0 w0 Q) a w

theorem getD_all_false (m j : Nat) (d : Bool) (h : (Array.replicate m false).getD j d = true) : d = true := by
  rcases Nat.lt_or_ge j m with h' | h'
  · simp [h'] at h
  · simpa [Array.getElem?_eq_none, h'] using h

theorem rgn_sound {P : Program} {n : Nat} (hP : progOk P = true) (id : Nat) (ops : Array Oper) (draw : Bool) : Snd P n (rgn P n ops draw) (.region id ops draw) := by
  intro Q env h a w h0 w0 F hd V K0 D
  unfold rgn at D
  cases draw with
  | false => exact wp_region (dops_sound hP _ F hd V K0 D)
  | true =>
    simp only at D
    split at D
    · rename_i hg
      have hm : P.follows .mixedOrders = true := by
        unfold progOk at hP
        rw [Bool.and_eq_true] at hP
        exact hP.1
      refine wp_region_any hm ?_
      refine dAnyP_sound hP _ [] _ F hd (w := { w with drawn := w.drawn + 1 }) (fun b o e => V b o e) ⟨K0.os, K0.tape, K0.output, K0.size, K0.old, K0.dom⟩ ?_
      exact dreg_any hg _ _ _ _ _ D (fun p hp => by cases hp) (fun j hj => absurd (getD_all_false _ _ _ hj) (by simp))
    · exact D.elim

theorem sq_sound {P : Program} {n : Nat} {A B : Den} {a b : Code} (ha : Snd P n A a) (hb : Snd P n B b) : Snd P n (sq A B) (.seq a b) := by
  intro Q env h ac w h0 w0 F hd V K0 D
  refine wp_seq (wp_mono (ha _ _ _ _ _ h0 w0 F hd V K0 D) ?_)
  rintro e a' w' ⟨hd', env', h', F', V', K', hq⟩
  cases e with
  | normal => exact hb _ _ _ _ _ _ _ F' hd' V' K' hq
  | exit i => exact ⟨hd', env', h', F', V', K', hq⟩
  | goto i => exact ⟨hd', env', h', F', V', K', hq⟩
  | ret => exact ⟨hd', env', h', F', V', K', hq⟩
  | panic i => exact ⟨hd', env', h', F', V', K', hq⟩
  | outgrown => exact ⟨hd', env', h', F', V', K', hq⟩

theorem lp_sound {P : Program} {n : Nat} {A : Den} {c : Code} (ha : Snd P n A c) : Snd P n (lp A) (.loop c) := by
  intro Q env h ac w h0 w0 F hd V K0 D
  obtain ⟨I, ⟨m, hm⟩, round⟩ := D
  refine wp_loop_ghost (fun k => Lift n h0 w0 (I k)) m ⟨hd, env, h, F, V, K0, hm⟩ ?_
  rintro k a' w' ⟨hd', env', h', F', V', K', hI⟩
  refine wp_mono (ha _ _ _ _ _ _ _ F' hd' V' K' (round k env' h' hI)) ?_
  rintro e a2 w2 ⟨hd2, env2, h2, F2, V2, K2, hq⟩
  cases e with
  | normal =>
    obtain ⟨j, hj, hI2⟩ := hq
    exact ⟨j, hj, hd2, env2, h2, F2, V2, K2, hI2⟩
  | exit i => exact ⟨hd2, env2, h2, F2, V2, K2, hq⟩
  | goto i => exact ⟨hd2, env2, h2, F2, V2, K2, hq⟩
  | ret => exact ⟨hd2, env2, h2, F2, V2, K2, hq⟩
  | panic i => exact ⟨hd2, env2, h2, F2, V2, K2, hq⟩
  | outgrown => exact ⟨hd2, env2, h2, F2, V2, K2, hq⟩

theorem blk_sound {P : Program} {n : Nat} {A : Den} {c : Code} (id : Nat) (ha : Snd P n A c) : Snd P n (blk id A) (.block id c) := by
  intro Q env h ac w h0 w0 F hd V K0 D
  refine wp_block (wp_mono (ha _ _ _ _ _ h0 w0 F hd V K0 D) ?_)
  rintro e a' w' ⟨hd', env', h', F', V', K', hq⟩
  cases e with
  | exit i =>
    simp only [inBlk] at hq
    simp only [Exit.inBlock]
    by_cases hi : i = id
    · simp only [hi, if_true] at hq ⊢; exact ⟨hd', env', h', F', V', K', hq⟩
    · simp only [hi, if_false] at hq ⊢; exact ⟨hd', env', h', F', V', K', hq⟩
  | normal => exact ⟨hd', env', h', F', V', K', hq⟩
  | goto i => exact ⟨hd', env', h', F', V', K', hq⟩
  | ret => exact ⟨hd', env', h', F', V', K', hq⟩
  | panic i => exact ⟨hd', env', h', F', V', K', hq⟩
  | outgrown => exact ⟨hd', env', h', F', V', K', hq⟩

theorem cnd_sound {P : Program} {n : Nat} {A B : Den} {x y : Code} (c : Operand) (ha : Snd P n A x) (hb : Snd P n B y) : Snd P n (cnd c A B) (.cond c x y) := by
  intro Q env h ac w h0 w0 F hd V K0 D
  obtain ⟨b, hb', D⟩ := D
  refine wp_cond (t := b) (by rw [F.eval]; exact hb') ?_
  cases b with
  | true => exact ha _ _ _ _ _ _ _ F hd V K0 D
  | false => exact hb _ _ _ _ _ _ _ F hd V K0 D

theorem scp_sound {P : Program} {n : Nat} {A : Den} {lab : Nat → Option Den} {c : Code} (ha : Snd P n A c)
    (hl : ∀ l d, lab l = some d → ∃ rest, findLabel c l = some rest ∧ Snd P n d rest) : Snd P n (scp A lab) (.scope c) := by
  intro Q env h ac w h0 w0 F hd V K0 D
  obtain ⟨I, first, pass⟩ := D
  intro b k cs
  have key : ∀ m l rest, findLabel c l = some rest → ∀ a w, Lift n h0 w0 (I m l) a w →
      ∃ e a' w', LiftQ n h0 w0 Q e a' w' ∧ Arrives P (lone (b.at a (.code rest :: .inScope c :: k)) cs w) b k cs e a' w' := by
    intro m
    induction m using Nat.strongRecOn with
    | _ m ih =>
      rintro l rest hf a w ⟨hd', env', h', F', V', K', hI⟩
      obtain ⟨d, hld, hdp⟩ := pass m l env' h' hI
      obtain ⟨rest', hf', hs⟩ := hl l d hld
      rw [hf] at hf'
      cases hf'
      obtain ⟨e, a₁, w₁, hq, harr⟩ := hs _ _ _ _ _ _ _ F' hd' V' K' hdp b (.inScope c :: k) cs
      obtain ⟨hd2, env2, h2, F2, V2, K2, hq⟩ := hq
      cases e with
      | normal => exact ⟨.normal, a₁, w₁, ⟨hd2, env2, h2, F2, V2, K2, hq⟩, Steps.trans harr (.one step_inScope)⟩
      | exit id => exact ⟨.exit id, a₁, w₁, ⟨hd2, env2, h2, F2, V2, K2, hq⟩, fun k' hk => harr k' (by simp [exitTo, hk])⟩
      | goto l' =>
        obtain ⟨j, hj, hI'⟩ := hq
        obtain ⟨d', hld', _⟩ := pass j l' env2 h2 hI'
        obtain ⟨rest2, hf2, _⟩ := hl l' d' hld'
        have hg : gotoIn l' (.inScope c :: k) = some (.code rest2 :: .inScope c :: k) := by simp [gotoIn, hf2]
        obtain ⟨e₂, a₂, w₂, hq₂, harr₂⟩ := ih j hj l' rest2 hf2 a₁ w₁ ⟨hd2, env2, h2, F2, V2, K2, hI'⟩
        exact ⟨e₂, a₂, w₂, hq₂, .of_steps (harr _ hg) harr₂⟩
      | ret => exact ⟨_, a₁, w₁, ⟨hd2, env2, h2, F2, V2, K2, hq⟩, harr⟩
      | panic ch => exact ⟨_, a₁, w₁, ⟨hd2, env2, h2, F2, V2, K2, hq⟩, harr⟩
      | outgrown => exact ⟨_, a₁, w₁, ⟨hd2, env2, h2, F2, V2, K2, hq⟩, harr⟩
  obtain ⟨e, a₁, w₁, hq, harr⟩ := ha _ _ _ _ _ _ _ F hd V K0 first b (.inScope c :: k) cs
  obtain ⟨hd2, env2, h2, F2, V2, K2, hq⟩ := hq
  cases e with
  | normal => exact ⟨.normal, a₁, w₁, ⟨hd2, env2, h2, F2, V2, K2, hq⟩, .head step_scope (Steps.trans harr (.one step_inScope))⟩
  | exit id => exact ⟨.exit id, a₁, w₁, ⟨hd2, env2, h2, F2, V2, K2, hq⟩, fun k' hk => .head step_scope (harr k' (by simp [exitTo, hk]))⟩
  | goto l' =>
    obtain ⟨j, hI'⟩ := hq
    obtain ⟨d', hld', _⟩ := pass j l' env2 h2 hI'
    obtain ⟨rest2, hf2, _⟩ := hl l' d' hld'
    have hg : gotoIn l' (.inScope c :: k) = some (.code rest2 :: .inScope c :: k) := by simp [gotoIn, hf2]
    obtain ⟨e₂, a₂, w₂, hq₂, harr₂⟩ := key j l' rest2 hf2 a₁ w₁ ⟨hd2, env2, h2, F2, V2, K2, hI'⟩
    exact ⟨e₂, a₂, w₂, hq₂, .of_steps (.head step_scope (harr _ hg)) harr₂⟩
  | ret => exact ⟨_, a₁, w₁, ⟨hd2, env2, h2, F2, V2, K2, hq⟩, .of_steps (.one step_scope) harr⟩
  | panic ch => exact ⟨_, a₁, w₁, ⟨hd2, env2, h2, F2, V2, K2, hq⟩, .of_steps (.one step_scope) harr⟩
  | outgrown => exact ⟨_, a₁, w₁, ⟨hd2, env2, h2, F2, V2, K2, hq⟩, .of_steps (.one step_scope) harr⟩

theorem den_sound {P : Program} {n : Nat} (hP : progOk P = true) (c : Code) :
    Snd P n (den P n c).1 c ∧ ∀ l d, (den P n c).2 l = some d → ∃ rest, findLabel c l = some rest ∧ Snd P n d rest := by
  induction c with
  | skip => exact ⟨fun Q env h a w h0 w0 F hd V K0 D => wp_skip ⟨hd, env, h, F, V, K0, D⟩, fun l d e => by cases e⟩
  | region id ops draw => exact ⟨rgn_sound hP id ops draw, fun l d e => by cases e⟩
  | seq x y ihx ihy =>
    refine ⟨sq_sound ihx.1 ihy.1, fun l d e => ?_⟩
    simp only [den] at e
    cases hx : (den P n x).2 l with
    | some d' =>
      simp only [hx, Option.some.injEq] at e
      subst e
      obtain ⟨rest, hf, hs⟩ := ihx.2 l d' hx
      exact ⟨.seq rest y, by simp [findLabel, hf], sq_sound hs ihy.1⟩
    | none =>
      simp only [hx] at e
      obtain ⟨rest, hf, hs⟩ := ihy.2 l d e
      have hn : findLabel x l = none := by
        clear e hf hs ihy ihx
        induction x with
        | seq p q ihp ihq =>
          simp only [den] at hx
          cases hp : (den P n p).2 l with
          | some d' => simp [hp] at hx
          | none => simp only [hp] at hx; simp [findLabel, ihp hp, ihq hx]
        | label l' =>
          simp only [den] at hx
          split at hx
          · cases hx
          · rename_i hne; simp only [findLabel, if_neg hne]
        | _ => rfl
      exact ⟨rest, by simp [findLabel, hn, hf], hs⟩
  | cond o x y ihx ihy => exact ⟨cnd_sound o ihx.1 ihy.1, fun l d e => by cases e⟩
  | block id x ih => exact ⟨blk_sound id ih.1, fun l d e => by cases e⟩
  | loop x ih => exact ⟨lp_sound ih.1, fun l d e => by cases e⟩
  | rangeFunc f ps x y _ _ => exact ⟨fun Q env h a w h0 w0 F hd V K0 D => D.elim, fun l d e => by cases e⟩
  | exit id => exact ⟨fun Q env h a w h0 w0 F hd V K0 D => wp_exit ⟨hd, env, h, F, V, K0, D⟩, fun l d e => by cases e⟩
  | scope x ih => exact ⟨scp_sound ih.1 ih.2, fun l d e => by cases e⟩
  | label l' =>
    refine ⟨fun Q env h a w h0 w0 F hd V K0 D => wp_label ⟨hd, env, h, F, V, K0, D⟩, fun l d e => ?_⟩
    simp only [den] at e
    split at e
    · rename_i hl
      cases e
      exact ⟨.skip, by simp only [findLabel, if_pos hl], fun Q env h a w h0 w0 F hd V K0 D => wp_skip ⟨hd, env, h, F, V, K0, D⟩⟩
    · cases e
  | goto l => exact ⟨fun Q env h a w h0 w0 F hd V K0 D => wp_goto ⟨hd, env, h, F, V, K0, D⟩, fun l d e => by cases e⟩
  | ret => exact ⟨fun Q env h a w h0 w0 F hd V K0 D => wp_ret ⟨hd, env, h, F, V, K0, D⟩, fun l d e => by cases e⟩
  | refuse s => exact ⟨fun Q env h a w h0 w0 F hd V K0 D => D.elim, fun l d e => by cases e⟩

/-! ### Calls -/

def resv (P : Program) (env : Env) (h : Hp) : List ResultVar → Option (List Value)
  | [] => some []
  | .tmp t :: rest => (resv P env h rest).map (env t :: ·)
  | .cell a t :: rest =>
    match env a with
    | .pointer (some ad) =>
      (match rrun P (loadVar t ad) h with
      | some v => (resv P env h rest).map (v :: ·)
      | none => none)
    | _ => none

def retv : List Value → Value
  | [v] => v
  | vs => .tuple vs.toArray

def fin (P : Program) (rs : List ResultVar) (Q : Value → Hp → Prop) : Post := fun e env h =>
  match e with
  | .normal | .ret => ∃ vs, resv P env h rs = some vs ∧ ∃ h', (∀ b o, h' b = some o → h b = some o) ∧ Q (retv vs) h'
  | _ => False

def env0 (args : Array Value) : Env := fun t => args.getD t undef

def resOne (tmps : Array Value) : ResultVar → Sem Value
  | .tmp t => pure (tmps.getD t undef)
  | .cell ad t => do loadVar t (← asAddr (tmps.getD ad undef))

theorem resv_run {P : Program} {n : Nat} {a : Act} {env : Env} {h : Hp} {w : World} (F : Fits n a env) (V : View h w) : ∀ (rs : List ResultVar) (vs : List Value), resv P env h rs = some vs →
    Sem.run P (rs.mapM (resOne a.tmps)) w = .ok vs w := by
  intro rs
  induction rs with
  | nil => intro vs e; cases e; rfl
  | cons r rest ih =>
    intro vs e
    rw [List.mapM_cons]
    cases r with
    | tmp t =>
      simp only [resv] at e
      cases hr : resv P env h rest with
      | none => simp [hr] at e
      | some us =>
        simp only [hr, Option.map_some, Option.some.injEq] at e
        subst e
        have := ih us hr
        simp only [resOne, Sem.run_bind, F.get t]
        show Result.andThen (Result.ok (env t) w) _ = _
        simp only [Result.andThen, this]
        rfl
    | cell ad t =>
      simp only [resv] at e
      split at e
      · rename_i ad' hp
        split at e
        · rename_i v hv
          cases hr : resv P env h rest with
          | none => simp [hr] at e
          | some us =>
            simp only [hr, Option.map_some, Option.some.injEq] at e
            subst e
            have := ih us hr
            have h2 := rrun_sound _ V hv
            simp only [resOne, Sem.run_bind, F.get ad, hp]
            show Result.andThen (Result.andThen (Result.ok ad' w) _) _ = _
            simp only [Result.andThen, h2, this]
            rfl
        · cases e
      · cases e

theorem results_run {P : Program} {n : Nat} {a : Act} {env : Env} {h : Hp} {w : World} {fn : Func} {vs : List Value} (F : Fits n a env) (V : View h w) (e : resv P env h fn.results.toList = some vs) :
    (results fn a.tmps).run P w = .ok (retv vs) w := by
  have := resv_run F V _ _ e
  have hres : results fn a.tmps = (do let vs ← fn.results.mapM (resOne a.tmps); pure (if h : vs.size = 1 then vs[0] else .tuple vs)) := rfl
  rw [hres, Array.mapM_eq_mapM_toList]
  simp only [Sem.run_bind, Sem.run_map]
  rw [this]
  simp only [Result.andThen]
  show Result.ok _ w = _
  congr 1
  cases vs with
  | nil => rfl
  | cons v rest => cases rest <;> rfl

theorem ok_of_den {P : Program} (hP : progOk P = true) {f : FuncId} {fn : Func} {c : Code} {args : Array Value} {h : Hp} {Q : Value → Hp → Prop} (hf : P.funcs[f]? = some fn) (hb : fn.body = some c)
    (hn : args.size ≤ fn.ntmps) (D : (den P fn.ntmps c).1 (fin P fn.results.toList Q) (env0 args) h) : Ok P f args h Q := by
  refine ⟨⟨fn, c, hf, hb⟩, fun w V => calls_of_wp hf hb ?_⟩
  have F : Fits fn.ntmps ⟨args ++ Array.replicate (fn.ntmps - args.size) undef, []⟩ (env0 args) := by
    refine ⟨by simp; omega, fun t => ?_⟩
    unfold env0
    simp only [Array.getD_eq_getD_getElem?]
    rcases Nat.lt_or_ge t args.size with ht | ht
    · rw [Array.getElem?_append_left ht]
    · rw [Array.getElem?_append_right ht, Array.getElem?_eq_none ht]
      simp only [Array.getElem?_replicate, Option.getD_none]
      split <;> rfl
  refine wp_mono ((den_sound hP c).1 _ _ _ _ _ h w F rfl V (Keep.refl _ _) D) ?_
  rintro e a' w' ⟨hd', env', h', F', V', K', hq⟩
  cases e with
  | normal =>
    obtain ⟨vs, hvs, h'', hl, hQ⟩ := hq
    exact ⟨hd', _, results_run F' V' hvs, _, h'', rfl, V'.less hl, K'.less hl, hQ⟩
  | ret =>
    obtain ⟨vs, hvs, h'', hl, hQ⟩ := hq
    exact ⟨hd', _, results_run F' V' hvs, _, h'', rfl, V'.less hl, K'.less hl, hQ⟩
  | exit i => exact hq.elim
  | goto i => exact hq.elim
  | panic i => exact hq.elim
  | outgrown => exact hq.elim

end Go.Proofs.Ytmbhlbohbpepaaa
