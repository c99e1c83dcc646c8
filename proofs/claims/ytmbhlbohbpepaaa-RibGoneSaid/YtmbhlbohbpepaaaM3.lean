/- Regions: in the text's order, and in any order. -/
import Derived.Test.YtmbhlbohbpepaaaM2
namespace Go.Proofs.Ytmbhlbohbpepaaa
open Go

def preds (ops : Array Oper) (j : Nat) : List Nat :=
  match ops[j]? with
  | some o => (o.after.toList.filter fun e => Region.binds .any e).map (·.on)
  | none => []

def reach (ops : Array Oper) : Nat → List Nat → List Nat
  | 0, _ => []
  | k + 1, S => S ++ (match S with | [] => [] | _ => reach ops k (S.flatMap (preds ops)).eraseDups)

/-- i comes ahead of j by the region's edges. -/
def bef (ops : Array Oper) (i j : Nat) : Bool := (reach ops ops.size (preds ops j)).contains i

def regionGood (ops : Array Oper) : Bool :=
  Region.noSelect ops &&
  (List.range ops.size).all fun j => (List.range ops.size).all fun i =>
    i == j || bef ops i j || bef ops j i || (match ops[i]?, ops[j]? with | some x, some y => x.apart ops y | _, _ => true)

def isRd (P : Program) (o : Oper) : Bool :=
  match o.op with
  | .move _ | .assign _ | .nilCheck _ => true
  | _ => (pureSem P (fun _ => undef) o).isSome || (readSem (fun _ => undef) o).isSome

def isRdI (P : Program) (ops : Array Oper) (i : Nat) : Bool :=
  match ops[i]? with
  | some o => isRd P o
  | none => false

def rval (P : Program) (env : Env) (o : Oper) (h : Hp) : Option Value :=
  match o.op with
  | .move x | .assign x => some (ev env x)
  | .nilCheck x => if nilOk (ev env x) then some (ev env x) else none
  | _ =>
    match pureSem P env o with
    | some s => rrun P s noHp
    | none =>
      match readSem env o with
      | some s => rrun P s h
      | none => none

/-- The operation would still yield v. -/
def gchk (P : Program) (ops : Array Oper) (env : Env) (o : Oper) (v : Value) (h : Hp) : Prop :=
  match o.guard with
  | none => rval P env o h = some v
  | some (j, want) => (yieldedE ops env j == some want) = true → rval P env o h = some v

abbrev Pend := List (Nat × (Hp → Prop))

def updP (P : Program) (ops : Array Oper) (pend : Pend) (j : Nat) : Pend :=
  match isRdI P ops j with
  | true => pend
  | false => pend.filter fun p => !bef ops p.1 j

def dAnyP (P : Program) (n : Nat) (ops : Array Oper) : Nat → Pend → Array Bool → Env → Hp → (Env → Hp → Prop) → Prop
  | 0, _, listed, env, h, K => Region.ready .any ops listed = [] ∧ K env h
  | fuel + 1, pend, listed, env, h, K =>
    (Region.ready .any ops listed = [] → K env h) ∧
    ∀ j ∈ Region.ready .any ops listed, dOp P n ops j env h fun env' h' =>
      (∀ p ∈ updP P ops pend j, p.2 h') ∧ dAnyP P n ops fuel (updP P ops pend j) (listed.setIfInBounds j true) env' h' K

def dchk : Pend → Hp → Prop
  | [], _ => True
  | p :: rest, h => p.2 h ∧ dchk rest h

def dall : List Nat → (Nat → Prop) → Prop
  | [], _ => True
  | [j], f => f j
  | j :: rest, f => f j ∧ dall rest f

def isHeapRd (env : Env) (o : Oper) : Bool := (readSem env o).isSome

def dreg (P : Program) (n : Nat) (ops : Array Oper) : Nat → Pend → Array Bool → Env → Hp → (Env → Hp → Prop) → Prop
  | 0, _, listed, env, h, K =>
    match Region.ready .any ops listed with
    | [] => K env h
    | _ => False
  | fuel + 1, pend, listed, env, h, K =>
    match (Region.ready .any ops listed).find? (isRdI P ops) with
    | some i =>
      (match ops[i]? with
      | some o => gop P ops env o h fun v h' =>
          dreg P n ops fuel (match isHeapRd env o with | true => (i, gchk P ops env o v) :: pend | false => pend) (listed.setIfInBounds i true) (put n env o.dst v) h' K
      | none => False)
    | none =>
      match Region.ready .any ops listed with
      | [] => K env h
      | rs => dall rs fun j => dOp P n ops j env h fun env' h' =>
          dchk (updP P ops pend j) h' ∧ dreg P n ops fuel (updP P ops pend j) (listed.setIfInBounds j true) env' h' K

/-! ### Congruence -/

theorem ev_put {n : Nat} {env : Env} {dst : Option Tmp} {v : Value} {x : Operand} (h : ∀ d, dst = some d → x ≠ .tmp d) : ev (put n env dst v) x = ev env x := by
  cases dst with
  | none => rfl
  | some d =>
    cases x with
    | tmp t =>
      have hne : t ≠ d := fun e => h d rfl (e ▸ rfl)
      simp only [ev, put]
      split
      · simp [Env.set, hne]
      · rfl
    | _ => rfl

theorem put_comm (n : Nat) (env : Env) {x y : Option Tmp} (v u : Value) (h : ∀ d, x = some d → y ≠ some d) :
    put n (put n env x v) y u = put n (put n env y u) x v := by
  cases x with
  | none => rfl
  | some d =>
    cases y with
    | none => rfl
    | some e =>
      have hne : d ≠ e := fun he => h d rfl (he ▸ rfl)
      funext t
      simp only [put]
      by_cases h1 : d < n <;> by_cases h2 : e < n <;> simp only [h1, h2, if_true, if_false] <;> simp only [Env.set]
      by_cases ht : t = e
      · subst ht; simp [Ne.symm hne]
      · simp [ht]

theorem dexec_congr {P : Program} {env env' : Env} {o : Oper} (hs : ∀ cs b, o.op ≠ .select cs b) (h : ∀ x ∈ o.op.operands, ev env x = ev env' x) (hp : Hp) (k : Value → Hp → Prop) :
    dexec P env o hp k = dexec P env' o hp k := by
  have hx := execOp_congr o hs h
  have hmap : ∀ xs : Array Operand, (∀ x ∈ xs, x ∈ o.op.operands) → evs env xs = evs env' xs := fun xs hm => by
    rw [evs_eq, evs_eq]; exact Array.map_congr_left fun x hx => h x (hm x hx)
  have pairs : ∀ ps : Array (Nat × Operand), (∀ x ∈ ps.map (·.2), ev env x = ev env' x) →
      evp env ps = evp env' ps := fun ps hp => by
    rw [evp_eq, evp_eq]
    exact Array.map_congr_left fun p hm => by
      obtain ⟨i, x⟩ := p
      simp only [hp x (Array.mem_map.2 ⟨(i, x), hm, rfl⟩)]
  obtain ⟨dst, op, type, pos, after, guard⟩ := o
  cases op <;> simp only [Op.operands] at h hmap <;> simp only [dexec, pureSem, readSem, otherExec]
  case call c =>
    obtain ⟨callee, args, argTypes⟩ := c
    simp only [Call.operands] at hmap
    have hargs : evs env args = evs env' args := hmap args (fun x hx => by simp [hx])
    cases callee with
    | builtin b => cases b <;> simp only [hargs, hx]
    | value f =>
      have hf : ev env f = ev env' f := h f (by simp [Call.operands])
      cases f <;> simp only [hargs, hf]
    | invoke r m => simp only [hx]
  case build t ps => rw [pairs ps fun x hx => h x (by simpa using hx)]
  case buildSlice t n ps => rw [pairs ps fun x hx => h x (by simpa using hx)]
  case makeFunc fn first captured =>
    rw [hmap first (fun x hx => by simp [hx]), hmap captured (fun x hx => by simp [hx])]
  case makeMap t r => cases r <;> simp_all
  case slice t x lo hi mx => cases lo <;> cases hi <;> cases mx <;> simp_all
  all_goals (first | rfl | (simp_all; done) | (simp only [hx]; done))

theorem yieldedE_put {n : Nat} {ops : Array Oper} {env : Env} {dst : Option Tmp} {v : Value} {g : Nat} (h : ∀ d t, dst = some d → (ops[g]?).bind (·.dst) = some t → d ≠ t) :
    yieldedE ops (put n env dst v) g = yieldedE ops env g := by
  unfold yieldedE
  cases ht : (ops[g]?).bind (·.dst) with
  | none => rfl
  | some t =>
    have : put n env dst v t = env t := ev_put (x := .tmp t) (fun d hd e => h d t hd ht (by cases e; rfl))
    simp only [this]

theorem looks_op {ops : Array Oper} {o : Oper} {x : Operand} {d : Tmp} (hx : x ∈ o.op.operands) (he : x = .tmp d) : d ∈ o.looksAt ops := by
  subst he
  exact List.mem_append_left _ (List.mem_filterMap.2 ⟨.tmp d, by simpa using hx, rfl⟩)

theorem looks_guard {ops : Array Oper} {o : Oper} {g : Nat} {want : Bool} {t : Tmp} (hg : o.guard = some (g, want)) (ht : (ops[g]?).bind (·.dst) = some t) : t ∈ o.looksAt ops := by
  unfold Oper.looksAt
  rw [hg]
  exact List.mem_append_right _ (by simp [ht])

theorem gop_put {P : Program} {n : Nat} {ops : Array Oper} {o : Oper} (hs : ∀ cs b, o.op ≠ .select cs b) {env : Env} {dst : Option Tmp} {v : Value} (h : ∀ d, dst = some d → d ∉ o.looksAt ops)
    (hp : Hp) (k : Value → Hp → Prop) : gop P ops (put n env dst v) o hp k = gop P ops env o hp k := by
  have he : ∀ hp k, dexec P (put n env dst v) o hp k = dexec P env o hp k := fun hp k =>
    dexec_congr hs (fun x hx => ev_put fun d hd e => h d hd (looks_op hx e)) hp k
  unfold gop
  cases hg : o.guard with
  | none => exact he _ _
  | some gw =>
    obtain ⟨g, want⟩ := gw
    simp only
    rw [yieldedE_put (fun d t hd ht e => h d hd (by subst e; exact looks_guard hg ht))]
    unfold gd
    rw [he]

theorem dexec_mono {P : Program} {env : Env} {o : Oper} {h : Hp} {k k' : Value → Hp → Prop} (q : ∀ v h, k v h → k' v h) (D : dexec P env o h k) : dexec P env o h k' := by
  unfold dexec at *
  cases hp : pureSem P env o with
  | some s => simp only [hp] at D ⊢; obtain ⟨v, hv, hk⟩ := D; exact ⟨v, hv, q _ _ hk⟩
  | none =>
    simp only [hp] at D ⊢
    cases hr : readSem env o with
    | some s => simp only [hr] at D ⊢; obtain ⟨v, hv, hk⟩ := D; exact ⟨v, hv, q _ _ hk⟩
    | none =>
      simp only [hr] at D ⊢
      unfold otherExec at *
      split <;> rename_i ho <;> simp only [ho] at D
      all_goals first
        | exact q _ _ D
        | exact ⟨D.1, q _ _ D.2⟩
        | exact Ok.mono D q
        | exact callV.mono D q
        | exact arun_mono _ q D
        | exact arun_mono _ (fun _ h x => q _ h x) D
        | skip
      refine arun_mono _ (fun x h hx => ?_) D
      cases x <;> simp only [dnext] at hx ⊢ <;> first | exact q _ _ hx | exact Ok.mono hx q | exact hx.elim

theorem gop_mono {P : Program} {ops : Array Oper} {env : Env} {o : Oper} {h : Hp} {k k' : Value → Hp → Prop} (q : ∀ v h, k v h → k' v h) (D : gop P ops env o h k) : gop P ops env o h k' := by
  unfold gop gd at *
  split
  · rename_i hg; simp only [hg] at D; exact dexec_mono q D
  · rename_i j want hg
    simp only [hg] at D
    split
    · rename_i hc; simp only [hc, if_true] at D; exact dexec_mono q D
    · rename_i hc; simp only [hc] at D; exact q _ _ D

theorem dOp_mono {P : Program} {n : Nat} {ops : Array Oper} {i : Nat} {env : Env} {h : Hp} {K K' : Env → Hp → Prop} (q : ∀ e h, K e h → K' e h) (D : dOp P n ops i env h K) : dOp P n ops i env h K' := by
  unfold dOp at *
  split
  · rename_i ho; simp only [ho] at D; exact q _ _ D
  · rename_i o ho; simp only [ho] at D; exact gop_mono (fun v h hk => q _ _ hk) D

theorem pureSem_isSome (P : Program) (env env' : Env) (o : Oper) : (pureSem P env o).isSome = (pureSem P env' o).isSome := by
  unfold pureSem
  cases o.op <;> simp only [] <;> first | rfl | (split <;> rfl)

theorem readSem_isSome (env env' : Env) (o : Oper) : (readSem env o).isSome = (readSem env' o).isSome := by
  unfold readSem
  split <;> rfl

theorem dexec_rd {P : Program} {env : Env} {o : Oper} {h : Hp} {k : Value → Hp → Prop} (hr : isRd P o = true) (D : dexec P env o h k) : ∃ v, rval P env o h = some v ∧ k v h := by
  have special : ∀ x, (o.op = .move x ∨ o.op = .assign x ∨ o.op = .nilCheck x) → pureSem P env o = none ∧ readSem env o = none := by
    intro x hx
    rcases hx with hx | hx | hx <;> simp [pureSem, readSem, hx]
  unfold dexec at D
  cases hp : pureSem P env o with
  | some s =>
    simp only [hp] at D
    obtain ⟨v, hv, hk⟩ := D
    refine ⟨v, ?_, hk⟩
    unfold rval
    split <;> rename_i ho
    · have := (special _ (.inl ho)).1; rw [hp] at this; cases this
    · have := (special _ (.inr (.inl ho))).1; rw [hp] at this; cases this
    · have := (special _ (.inr (.inr ho))).1; rw [hp] at this; cases this
    · simp only [hp]; exact hv
  | none =>
    simp only [hp] at D
    cases hs : readSem env o with
    | some s =>
      simp only [hs] at D
      obtain ⟨v, hv, hk⟩ := D
      refine ⟨v, ?_, hk⟩
      unfold rval
      split <;> rename_i ho
      · have := (special _ (.inl ho)).2; rw [hs] at this; cases this
      · have := (special _ (.inr (.inl ho))).2; rw [hs] at this; cases this
      · have := (special _ (.inr (.inr ho))).2; rw [hs] at this; cases this
      · simp only [hp, hs]; exact hv
    | none =>
      simp only [hs] at D
      unfold isRd at hr
      unfold otherExec at D
      split at hr <;> rename_i ho
      · simp only [ho] at D; exact ⟨_, by simp [rval, ho], D⟩
      · simp only [ho] at D; exact ⟨_, by simp [rval, ho], D⟩
      · simp only [ho] at D; exact ⟨_, by simp [rval, ho, D.1], D.2⟩
      · rw [pureSem_isSome P _ env, readSem_isSome _ env, hp, hs] at hr; simp at hr

theorem dexec_of_rval {P : Program} {env : Env} {o : Oper} {h : Hp} {k : Value → Hp → Prop} {v : Value} (hv : rval P env o h = some v) (hk : k v h) : dexec P env o h k := by
  unfold rval at hv
  split at hv <;> rename_i ho
  · cases hv; simp only [dexec, pureSem, readSem, otherExec, ho]; exact hk
  · cases hv; simp only [dexec, pureSem, readSem, otherExec, ho]; exact hk
  · split at hv
    · rename_i hn; cases hv; simp only [dexec, pureSem, readSem, otherExec, ho]; exact ⟨hn, hk⟩
    · cases hv
  · unfold dexec
    cases hp : pureSem P env o with
    | some s => simp only [hp] at hv ⊢; exact ⟨v, hv, hk⟩
    | none =>
      simp only [hp] at hv ⊢
      cases hs : readSem env o with
      | some s => simp only [hs] at hv ⊢; exact ⟨v, hv, hk⟩
      | none => simp [hs] at hv

/-- What a reader under its guard yields. -/
def gval (P : Program) (ops : Array Oper) (env : Env) (o : Oper) (h : Hp) : Option Value :=
  match o.guard with
  | none => rval P env o h
  | some (j, want) => if yieldedE ops env j == some want then rval P env o h else some undef

theorem gop_rd {P : Program} {ops : Array Oper} {env : Env} {o : Oper} {h : Hp} {k : Value → Hp → Prop} (hr : isRd P o = true) (D : gop P ops env o h k) : ∃ v, gval P ops env o h = some v ∧ k v h := by
  unfold gop gd at D
  unfold gval
  cases hg : o.guard with
  | none => simp only [hg] at D ⊢; exact dexec_rd hr D
  | some gw =>
    obtain ⟨j, want⟩ := gw
    simp only [hg] at D ⊢
    cases hc : (yieldedE ops env j == some want) with
    | true => simp only [hc, if_true] at D ⊢; exact dexec_rd hr D
    | false => simp only [hc] at D ⊢; exact ⟨undef, rfl, D⟩

theorem gop_of_gval {P : Program} {ops : Array Oper} {env : Env} {o : Oper} {h : Hp} {k : Value → Hp → Prop} {v : Value} (hv : gval P ops env o h = some v) (hk : k v h) : gop P ops env o h k := by
  unfold gval at hv
  unfold gop gd
  cases hg : o.guard with
  | none => simp only [hg] at hv ⊢; exact dexec_of_rval hv hk
  | some gw =>
    obtain ⟨j, want⟩ := gw
    simp only [hg] at hv ⊢
    cases hc : (yieldedE ops env j == some want) with
    | true => simp only [hc, if_true] at hv ⊢; exact dexec_of_rval hv hk
    | false => simp only [hc] at hv ⊢; cases hv; exact hk

theorem gval_put {P : Program} {n : Nat} {ops : Array Oper} {o : Oper} (hr : isRd P o = true) (hs : ∀ cs b, o.op ≠ .select cs b) {env : Env} {dst : Option Tmp} {v : Value} (h : ∀ d, dst = some d → d ∉ o.looksAt ops)
    (hp : Hp) : gval P ops (put n env dst v) o hp = gval P ops env o hp := by
  have key : ∀ u, gval P ops (put n env dst v) o hp = some u ↔ gval P ops env o hp = some u := by
    intro u
    constructor
    · intro hu
      have := gop_of_gval (k := fun v _ => v = u) hu rfl
      rw [gop_put hs h] at this
      obtain ⟨v, hv, rfl⟩ := gop_rd hr this
      exact hv
    · intro hu
      have := gop_of_gval (k := fun v _ => v = u) hu rfl
      rw [← gop_put (n := n) (dst := dst) (v := v) hs h] at this
      obtain ⟨v, hv, rfl⟩ := gop_rd hr this
      exact hv
  cases h1 : gval P ops (put n env dst v) o hp with
  | some u => exact ((key u).1 h1).symm
  | none =>
    cases h2 : gval P ops env o hp with
    | none => rfl
    | some u => rw [(key u).2 h2] at h1; cases h1

theorem gchk_gval {P : Program} {ops : Array Oper} {env : Env} {o : Oper} {h h' : Hp} {v : Value} (hv : gval P ops env o h = some v) : gchk P ops env o v h' → gval P ops env o h' = some v := by
  unfold gval at hv
  unfold gval gchk
  cases hg : o.guard with
  | none => simp only [hg] at hv ⊢; exact id
  | some gw =>
    obtain ⟨j, want⟩ := gw
    simp only [hg] at hv ⊢
    cases hc : (yieldedE ops env j == some want) with
    | true => simp
    | false => simp only [hc] at hv; simp; simpa using hv

end Go.Proofs.Ytmbhlbohbpepaaa
