/- Regions in any order, and code: soundness. -/
import Derived.Test.YtmbhlbohbpepaaaM3
namespace Go.Proofs.Ytmbhlbohbpepaaa
open Go

def Down (ops : Array Oper) (listed : Array Bool) : Prop := ∀ j, listed.getD j false = true → ∀ e ∈ preds ops j, listed.getD e false = true

theorem ready_preds {ops : Array Oper} {listed : Array Bool} {j : Nat} (hj : j ∈ Region.ready .any ops listed) : ∀ e ∈ preds ops j, listed.getD e false = true := by
  obtain ⟨_, o, ho, hall⟩ := mem_ready.1 hj
  intro e he
  unfold preds at he
  simp only [ho, List.mem_map, List.mem_filter, Array.mem_toList_iff] at he
  obtain ⟨x, ⟨hx, hb⟩, rfl⟩ := he
  exact hall x hx hb

theorem Down.set {ops : Array Oper} {listed : Array Bool} {j : Nat} (hd : Down ops listed) (hj : j ∈ Region.ready .any ops listed) : Down ops (listed.setIfInBounds j true) := by
  intro i hi e he
  by_cases hij : i = j
  · subst hij; exact getD_set_true (ready_preds hj e he)
  · rw [getD_set_ne false (Ne.symm hij)] at hi
    exact getD_set_true (hd i hi e he)

theorem reach_listed {ops : Array Oper} {listed : Array Bool} (hd : Down ops listed) : ∀ k S, (∀ x ∈ S, listed.getD x false = true) → ∀ x ∈ reach ops k S, listed.getD x false = true := by
  intro k
  induction k with
  | zero => intro S _ x hx; simp [reach] at hx
  | succ k ih =>
    intro S hS x hx
    simp only [reach, List.mem_append] at hx
    rcases hx with hx | hx
    · exact hS x hx
    · split at hx
      · cases hx
      · refine ih _ (fun y hy => ?_) x hx
        rw [List.mem_eraseDups, List.mem_flatMap] at hy
        obtain ⟨z, hz, hy⟩ := hy
        exact hd z (hS z hz) y hy

theorem not_bef {ops : Array Oper} {listed : Array Bool} {i j : Nat} (hd : Down ops listed) (hi : i ∈ Region.ready .any ops listed) (hj : j ∈ Region.ready .any ops listed) : bef ops i j = false := by
  cases h : bef ops i j with
  | false => rfl
  | true =>
    unfold bef at h
    have h1 := reach_listed hd _ _ (ready_preds hj) i (by simpa using h)
    obtain ⟨h0, o, ho, _⟩ := mem_ready.1 hi
    rcases Nat.lt_or_ge i listed.size with h' | h'
    · simp [h'] at h0 h1; rw [h0] at h1; cases h1
    · simp [Array.getElem?_eq_none h'] at h1

theorem apart_of_good {ops : Array Oper} (hg : regionGood ops = true) {i j : Nat} {oi oj : Oper} (hi : ops[i]? = some oi) (hj : ops[j]? = some oj) (hne : i ≠ j)
    (h1 : bef ops i j = false) (h2 : bef ops j i = false) : oi.apart ops oj = true := by
  simp only [regionGood, Bool.and_eq_true, List.all_eq_true, List.mem_range] at hg
  have := hg.2 j (Array.getElem?_eq_some_iff.1 hj).1 i (Array.getElem?_eq_some_iff.1 hi).1
  simpa [hi, hj, h1, h2, hne] using this

theorem mem_updP {P : Program} {ops : Array Oper} {pend : Pend} {j : Nat} {p : Nat × (Hp → Prop)} : p ∈ updP P ops pend j ↔ p ∈ pend ∧ (isRdI P ops j = false → bef ops p.1 j = false) := by
  unfold updP
  cases h : isRdI P ops j <;> simp

theorem dAnyP_mono {P : Program} {n : Nat} {ops : Array Oper} {K : Env → Hp → Prop} : ∀ (fuel : Nat) (p1 p2 : Pend) (listed : Array Bool) (env : Env) (h : Hp), (∀ p ∈ p1, p ∈ p2 ∨ ∀ h, p.2 h) →
    dAnyP P n ops fuel p2 listed env h K → dAnyP P n ops fuel p1 listed env h K := by
  intro fuel
  induction fuel with
  | zero => intro p1 p2 listed env h _ D; exact D
  | succ fuel ih =>
    intro p1 p2 listed env h hp D
    refine ⟨D.1, fun j hj => dOp_mono (fun env' h' hk => ⟨fun p hpp => ?_, ih _ _ _ _ _ (fun p hpp => ?_) hk.2⟩) (D.2 j hj)⟩
    · obtain ⟨hm, hb⟩ := mem_updP.1 hpp
      rcases hp p hm with h2 | h2
      · exact hk.1 p (mem_updP.2 ⟨h2, hb⟩)
      · exact h2 _
    · obtain ⟨hm, hb⟩ := mem_updP.1 hpp
      rcases hp p hm with h2 | h2
      · exact .inl (mem_updP.2 ⟨h2, hb⟩)
      · exact .inr h2

theorem dAnyP_first {P : Program} {n : Nat} {ops : Array Oper} {K : Env → Hp → Prop} (hg : regionGood ops = true) {i : Nat} {oi : Oper} (hi : ops[i]? = some oi) (hrd : isRd P oi = true) {v : Value} {R : Hp → Prop} :
    ∀ (fuel : Nat) (pend : Pend) (listed : Array Bool) (env : Env) (h : Hp), Down ops listed → i ∈ Region.ready .any ops listed → (∀ p ∈ pend, p.2 h) → (∀ h', R h' → gval P ops env oi h' = some v) → R h →
      dAnyP P n ops fuel ((i, R) :: pend) (listed.setIfInBounds i true) (put n env oi.dst v) h K → dAnyP P n ops (fuel + 1) pend listed env h K := by
  have hsel : ∀ (j : Nat) (o : Oper), ops[j]? = some o → ∀ cs b, o.op ≠ .select cs b := by
    intro j o ho cs b
    simp only [regionGood, Bool.and_eq_true] at hg
    exact Region.noSelect_spec hg.1 j o cs b ho
  have hri : isRdI P ops i = true := by simp [isRdI, hi, hrd]
  have self : ∀ (fuel : Nat) (pend : Pend) (listed : Array Bool) (env : Env) (h : Hp), (∀ p ∈ pend, p.2 h) → (∀ h', R h' → gval P ops env oi h' = some v) → R h →
      dAnyP P n ops fuel ((i, R) :: pend) (listed.setIfInBounds i true) (put n env oi.dst v) h K →
      dOp P n ops i env h fun env' h' => (∀ p ∈ updP P ops pend i, p.2 h') ∧ dAnyP P n ops fuel (updP P ops pend i) (listed.setIfInBounds i true) env' h' K := by
    intro fuel pend listed env h hpend hval hR H
    unfold dOp
    simp only [hi]
    refine gop_of_gval (hval h hR) ⟨fun p hp => hpend p (mem_updP.1 hp).1, ?_⟩
    exact dAnyP_mono _ _ _ _ _ _ (fun p hp => .inl (List.mem_cons_of_mem _ (mem_updP.1 hp).1)) H
  intro fuel
  induction fuel with
  | zero =>
    intro pend listed env h hd hr hpend hval hR H
    refine ⟨fun h0 => (by rw [h0] at hr; cases hr), fun j hj => ?_⟩
    by_cases hji : j = i
    · subst hji; exact self _ _ _ _ _ hpend hval hR H
    · have := ready_mono hj hji
      rw [H.1] at this
      cases this
  | succ fuel ih =>
    intro pend listed env h hd hr hpend hval hR H
    refine ⟨fun h0 => (by rw [h0] at hr; cases hr), fun j hj => ?_⟩
    by_cases hji : j = i
    · subst hji; exact self _ _ _ _ _ hpend hval hR H
    · have h1 := H.2 j (ready_mono hj hji)
      obtain ⟨_, oj, hoj, _⟩ := mem_ready.1 hj
      have hij : bef ops i j = false := not_bef hd hr hj
      have hap := apart_of_good hg hi hoj (Ne.symm hji) hij (not_bef hd hj hr)
      obtain ⟨a1, a2, a3⟩ := Oper.apart_spec hap
      unfold dOp at h1 ⊢
      simp only [hoj] at h1 ⊢
      rw [gop_put (hsel j oj hoj) a1] at h1
      refine gop_mono (fun u h' hk => ?_) h1
      obtain ⟨hch, hk⟩ := hk
      have himem : (i, R) ∈ updP P ops ((i, R) :: pend) j := mem_updP.2 ⟨List.mem_cons_self, fun _ => hij⟩
      have hpend' : ∀ p ∈ updP P ops pend j, p.2 h' := fun p hp => hch p (mem_updP.2 ⟨List.mem_cons_of_mem _ (mem_updP.1 hp).1, (mem_updP.1 hp).2⟩)
      refine ⟨hpend', ih (updP P ops pend j) _ _ _ (hd.set hj) (ready_mono hr (Ne.symm hji)) hpend' (fun h'' hR' => ?_) (hch _ himem) ?_⟩
      · rw [gval_put hrd (hsel i oi hi) a3]; exact hval h'' hR'
      · rw [Array.setIfInBounds_comm _ _ hji, ← put_comm n env v u a2]
        refine dAnyP_mono _ _ _ _ _ _ (fun p hp => ?_) hk
        rcases List.mem_cons.1 hp with rfl | hp
        · exact .inl himem
        · exact .inl (mem_updP.2 ⟨List.mem_cons_of_mem _ (mem_updP.1 hp).1, (mem_updP.1 hp).2⟩)

theorem dall_mem {f : Nat → Prop} : ∀ {rs : List Nat}, dall rs f → ∀ j ∈ rs, f j
  | [], _, j, hj => by cases hj
  | [i], h, j, hj => by rw [List.mem_singleton] at hj; subst hj; exact h
  | i :: k :: rest, h, j, hj => by
    rcases List.mem_cons.1 hj with rfl | hj
    · exact h.1
    · exact dall_mem h.2 j hj

theorem dchk_mem {h : Hp} : ∀ {pend : Pend}, dchk pend h → ∀ p ∈ pend, p.2 h
  | [], _, p, hp => by cases hp
  | q :: rest, hc, p, hp => by
    rcases List.mem_cons.1 hp with rfl | hp
    · exact hc.1
    · exact dchk_mem hc.2 p hp

theorem gchk_of_gval {P : Program} {ops : Array Oper} {env : Env} {o : Oper} {h : Hp} {v : Value} (hv : gval P ops env o h = some v) : gchk P ops env o v h := by
  unfold gval at hv
  unfold gchk
  cases hg : o.guard with
  | none => simp only [hg] at hv ⊢; exact hv
  | some gw =>
    obtain ⟨j, want⟩ := gw
    simp only [hg] at hv ⊢
    intro hc
    simpa only [hc, if_true] using hv

theorem gval_still {P : Program} {ops : Array Oper} {env : Env} {o : Oper} {h h' : Hp} {v : Value} (hn : isHeapRd env o = false) (hv : gval P ops env o h = some v) : gval P ops env o h' = some v := by
  have key : ∀ u, rval P env o h = some u → rval P env o h' = some u := by
    intro u hu
    unfold rval at hu ⊢
    split at hu <;> rename_i ho
    · exact hu
    · exact hu
    · exact hu
    · cases hp : pureSem P env o with
      | some s => simp only [hp] at hu ⊢; exact hu
      | none =>
        cases hs : readSem env o with
        | some s => simp [isHeapRd, hs] at hn
        | none => simp [hp, hs] at hu
  unfold gval at hv ⊢
  split
  · rename_i hg; simp only [hg] at hv; exact key _ hv
  · rename_i j want hg
    simp only [hg] at hv
    split
    · rename_i hc; simp only [hc, if_true] at hv; exact key _ hv
    · rename_i hc; simp only [hc] at hv; exact hv

theorem dreg_any {P : Program} {n : Nat} {ops : Array Oper} {K : Env → Hp → Prop} (hg : regionGood ops = true) : ∀ (fuel : Nat) (pend : Pend) (listed : Array Bool) (env : Env) (h : Hp),
    dreg P n ops fuel pend listed env h K → (∀ p ∈ pend, p.2 h) → Down ops listed → dAnyP P n ops fuel pend listed env h K := by
  intro fuel
  induction fuel with
  | zero =>
    intro pend listed env h D _ _
    simp only [dreg] at D
    split at D
    · rename_i hnil; exact ⟨hnil, D⟩
    · exact D.elim
  | succ fuel ih =>
    intro pend listed env h D hpend hd
    simp only [dreg] at D
    split at D
    · rename_i i hfind
      have hir := List.mem_of_find?_eq_some hfind
      have hird := List.find?_some hfind
      obtain ⟨_, oi, hoi, _⟩ := mem_ready.1 hir
      simp only [hoi] at D
      have hrd : isRd P oi = true := by simpa [isRdI, hoi] using hird
      obtain ⟨v, hv, D⟩ := gop_rd hrd D
      cases hh : isHeapRd env oi with
      | true =>
        simp only [hh] at D
        refine dAnyP_first hg hoi hrd fuel pend listed env h hd hir hpend (R := gchk P ops env oi v) (fun h' hc => gchk_gval hv hc) (gchk_of_gval hv) ?_
        refine ih _ _ _ _ D (fun p hp => ?_) (hd.set hir)
        rcases List.mem_cons.1 hp with rfl | hp
        · exact gchk_of_gval hv
        · exact hpend p hp
      | false =>
        simp only [hh] at D
        refine dAnyP_first hg hoi hrd fuel pend listed env h hd hir hpend (R := fun _ => True) (fun h' _ => gval_still hh hv) trivial ?_
        refine dAnyP_mono _ _ pend _ _ _ (fun p hp => ?_) (ih _ _ _ _ D hpend (hd.set hir))
        rcases List.mem_cons.1 hp with rfl | hp
        · exact .inr fun _ => trivial
        · exact .inl hp
    · split at D
      · rename_i hnil
        exact ⟨fun _ => D, by rw [hnil]; simp⟩
      · rename_i rs hne
        refine ⟨fun h0 => absurd h0 hne, fun j hj => dOp_mono (fun env' h' hk => ?_) (dall_mem D j hj)⟩
        have hc := dchk_mem hk.1
        exact ⟨hc, ih _ _ _ _ hk.2 hc (hd.set hj)⟩

/-! ### Code -/

abbrev Post := Exit → Env → Hp → Prop
abbrev Den := Post → Env → Hp → Prop

def thenK (B : Den) (Q : Post) : Post := fun e env h =>
  match e with
  | .normal => B Q env h
  | e => Q e env h

def sq (A B : Den) : Den := fun Q env h => A (thenK B Q) env h

def cnd (x : Operand) (A B : Den) : Den := fun Q env h => ∃ b, ev env x = .bool b ∧ (match b with | true => A Q env h | false => B Q env h)

def inBlk (id : Nat) (Q : Post) : Post := fun e env h =>
  match e with
  | .exit i => if i = id then Q .normal env h else Q (.exit i) env h
  | e => Q e env h

def blk (id : Nat) (A : Den) : Den := fun Q env h => A (inBlk id Q) env h

def roundK (I : Nat → Env → Hp → Prop) (n : Nat) (Q : Post) : Post := fun e env h =>
  match e with
  | .normal => ∃ m, m < n ∧ I m env h
  | e => Q e env h

def lp (A : Den) : Den := fun Q env h => ∃ I : Nat → Env → Hp → Prop, (∃ n, I n env h) ∧ ∀ n env h, I n env h → A (roundK I n Q) env h

def jumpK (I : Nat → Env → Hp → Prop) (Q : Post) : Post := fun e env h =>
  match e with
  | .goto l => I l env h
  | e => Q e env h

def scp (A : Den) (lab : Nat → Option Den) : Den := fun Q env h => ∃ I : Nat → Nat → Env → Hp → Prop,
  A (jumpK (fun l env h => ∃ m, I m l env h) Q) env h ∧
  ∀ n l env h, I n l env h → ∃ d, lab l = some d ∧ d (jumpK (fun l env h => ∃ m, m < n ∧ I m l env h) Q) env h

def ex (e : Exit) : Den := fun Q env h => Q e env h

def bad : Den := fun _ _ _ => False

def rgn (P : Program) (n : Nat) (ops : Array Oper) (draw : Bool) : Den := fun Q env h =>
  match draw with
  | true => (match regionGood ops with
    | true => dreg P n ops ops.size [] (Array.replicate ops.size false) env h (Q .normal)
    | false => False)
  | false => dops P n ops (List.range ops.size) env h (Q .normal)

def den (P : Program) (n : Nat) : Code → Den × (Nat → Option Den)
  | .skip => (ex .normal, fun _ => none)
  | .region _ ops draw => (rgn P n ops draw, fun _ => none)
  | .seq a b =>
    (sq (den P n a).1 (den P n b).1,
     fun l => match (den P n a).2 l with
      | some d => some (sq d (den P n b).1)
      | none => (den P n b).2 l)
  | .cond c x y => (cnd c (den P n x).1 (den P n y).1, fun _ => none)
  | .block id c => (blk id (den P n c).1, fun _ => none)
  | .loop c => (lp (den P n c).1, fun _ => none)
  | .rangeFunc .. => (bad, fun _ => none)
  | .exit id => (ex (.exit id), fun _ => none)
  | .scope c => (scp (den P n c).1 (den P n c).2, fun _ => none)
  | .label l' => (ex .normal, fun l => if l' == l then some (ex .normal) else none)
  | .goto l => (ex (.goto l), fun _ => none)
  | .ret => (ex .ret, fun _ => none)
  | .refuse _ => (bad, fun _ => none)

end Go.Proofs.Ytmbhlbohbpepaaa
