/- What code does to a frame and a partial heap, as a formula, and that the machine does the same. -/
import Derived.Test.YtmbhlbohbpepaaaM1
namespace Go.Proofs.Ytmbhlbohbpepaaa
open Go

abbrev Env := Nat → Value

def Env.set (env : Env) (d : Nat) (v : Value) : Env := fun i => if i = d then v else env i

def put (n : Nat) (env : Env) (dst : Option Tmp) (v : Value) : Env :=
  match dst with
  | some d => if d < n then env.set d v else env
  | none => env

def ev (env : Env) : Operand → Value
  | .tmp t => env t
  | .const v => v
  | .global g => .pointer (some ⟨g, 0, none⟩)
  | .func f => .func (.func f) #[] #[]

/-- The call of a Go function, from a partial heap: it returns, whatever the tape answers. -/
def Ok (P : Program) (f : FuncId) (args : Array Value) (h : Hp) (Q : Value → Hp → Prop) : Prop :=
  (∃ fn c, P.funcs[f]? = some fn ∧ fn.body = some c) ∧
  ∀ w, View h w → Calls P f args w fun e w' => ∃ v h', e = .returned v ∧ View h' w' ∧ Keep h w h' w' ∧ Q v h'

theorem Ok.mono {P : Program} {f : FuncId} {args : Array Value} {h : Hp} {Q Q' : Value → Hp → Prop} (a : Ok P f args h Q) (q : ∀ v h', Q v h' → Q' v h') : Ok P f args h Q' :=
  ⟨a.1, fun w V => (a.2 w V).mono fun _ _ ⟨v, h', e, V', K, r⟩ => ⟨v, h', e, V', K, q _ _ r⟩⟩

/-- The call of a function value. -/
def callV (P : Program) (v : Value) (args : Array Value) (h : Hp) (k : Value → Hp → Prop) : Prop :=
  match v with
  | .func (.func f) first captured => Ok P f (first ++ args ++ captured) h k
  | _ => False

theorem callV.mono {P : Program} {v : Value} {args : Array Value} {h : Hp} {k k' : Value → Hp → Prop} (a : callV P v args h k) (q : ∀ v h', k v h' → k' v h') : callV P v args h k' := by
  unfold callV at *
  split <;> rename_i e
  · exact Ok.mono a q
  · split at a
    · rename_i e2 _; exact (e _ _ _ rfl).elim
    · exact a

def dnext (P : Program) (k : Value → Hp → Prop) : Next → Hp → Prop
  | .value v, h => k v h
  | .skip, h => k undef h
  | .enter f args, h => Ok P f args h k
  | _, _ => False

def nilOk : Value → Bool
  | .pointer none | .nilIface | .nilFunc | .func (.method _) _ _ => false
  | _ => true

/-- A value that is no nil. -/
def nck (x : Value) (q : Prop) : Prop := nilOk x = true ∧ q

/-- An empty heap: what runs over it touches none. -/
def noHp : Hp := fun _ => none

def rdv (o : Option Value) (k : Value → Prop) : Prop := ∃ v, o = some v ∧ k v

def rd (P : Program) (s : Sem Value) (h : Hp) (k : Value → Prop) : Prop := rdv (rrun P s h) k

def isNum (P : Program) (t : TypeId) : Bool :=
  match P.underlying t with
  | some (.int _) | some (.float _) | some (.complex _) => true
  | _ => false

def bop (op : BinOp) (t : TypeId) (x y : Operand) (a b : Value) : Sem Value := do eqGuard op t x y a b; binOp op t a b

def pck (c a b : Value) : Sem Value := do pure (if ← asBool c then a else b)

def amap {α β : Type} (f : α → β) (a : Array α) : Array β := (a.toList.map f).toArray

theorem amap_eq {α β : Type} (f : α → β) (a : Array α) : amap f a = a.map f := by
  apply Array.toList_inj.1
  simp [amap]

def evs (env : Env) (a : Array Operand) : Array Value := amap (ev env) a

theorem evs_eq (env : Env) (a : Array Operand) : evs env a = a.map (ev env) := amap_eq _ _

def evp (env : Env) (a : Array (Nat × Operand)) : Array (Nat × Value) := amap (fun (i, x) => (i, ev env x)) a

theorem evp_eq (env : Env) (a : Array (Nat × Operand)) : evp env a = a.map fun (i, x) => (i, ev env x) := amap_eq _ _

/-- Operations that neither read nor write memory. -/
def pureSem (P : Program) (env : Env) (o : Oper) : Option (Sem Value) :=
  match o.op with
  | .pick c a b => some (pck (ev env c) (ev env a) (ev env b))
  | .build t parts => some (Instr.build t (evp env parts))
  | .binOp op xType x y _ => some (bop op xType x y (ev env x) (ev env y))
  | .unOp op _ x => some (Op.unary op (ev env x))
  | .convert src dst x => if isNum P dst then some (convert src dst (ev env x)) else none
  | .makeInterface xType x => some (Instr.makeInterface xType (ev env x))
  | .makeFunc fn first captured => some (Instr.makeFunc fn (evs env first) (evs env captured))
  | .slice t x lo hi mx => some (Instr.sliceAt t (ev env x) (lo.map (ev env)) (hi.map (ev env)) (mx.map (ev env)))
  | .fieldAddr s x f => some (Instr.fieldAt s (ev env x) f)
  | .field xType x f => some (Instr.field xType (ev env x) f)
  | .indexAddr t x ix => some (Instr.indexAt t (ev env x) (ev env ix))
  | .index xType x ix => some (Instr.index xType (ev env x) (ev env ix))
  | .extract t ix => some (Instr.extract (ev env t) ix)
  | .typeAssert x xType asserted ok => some (Instr.typeAssert (ev env x) xType asserted ok)
  | _ => none

/-- Operations that read memory and write none. -/
def readSem (env : Env) (o : Oper) : Option (Sem Value) :=
  match o.op with
  | .load t a => some (Instr.loadAt t (ev env a))
  | .lookup xType x ix ok => some (Instr.lookup xType (ev env x) (ev env ix) ok)
  | .call { callee := .builtin .len, args, argTypes } => some (Builtin.len_ argTypes o.type (evs env args))
  | .call { callee := .builtin .cap, args, argTypes } => some (Builtin.cap_ argTypes o.type (evs env args))
  | .call { callee := .builtin .min, args, argTypes } => some (Builtin.min_ argTypes o.type (evs env args))
  | .call { callee := .builtin .max, args, argTypes } => some (Builtin.max_ argTypes o.type (evs env args))
  | _ => none

def otherExec (P : Program) (env : Env) (o : Oper) (h : Hp) (k : Value → Hp → Prop) : Prop :=
  match o.op with
  | .move x | .assign x => k (ev env x) h
  | .nilCheck x => nck (ev env x) (k (ev env x) h)
  | .call { callee := .value (.func f), args, .. } => Ok P f (evs env args) h k
  | .call { callee := .value x, args, .. } => callV P (ev env x) (evs env args) h k
  | .call { callee := .builtin .append, args, argTypes } => arun P (Builtin.append_ argTypes o.type (evs env args)) h k
  | .call { callee := .builtin .copy, args, argTypes } => arun P (Builtin.copy_ argTypes o.type (evs env args)) h k
  | .call { callee := .builtin .delete, args, argTypes } => arun P (Builtin.delete_ argTypes o.type (evs env args)) h k
  | .alloc elem => arun P (Instr.alloc elem true (.tuple #[])) h k
  | .box elem x => arun P (Instr.box elem (ev env x)) h k
  | .buildSlice t len parts => arun P (Instr.buildSlice t len (evp env parts)) h k
  | .store t a x => arun P (Instr.storeAt t (ev env a) (ev env x)) h fun _ h => k undef h
  | .convert src dst x => arun P (convert src dst (ev env x)) h k
  | .makeMap t r => arun P (Instr.makeMap t (r.map (ev env))) h k
  | .makeSlice t l c => arun P (Instr.makeSlice t (ev env l) (ev env c)) h k
  | .mapUpdate t m k' x | .insert t m k' x => arun P (Instr.mapUpdate t (ev env m) (ev env k') (ev env x)) h fun _ h => k undef h
  | .mapEntry t m k' => arun P (Instr.mapEntry t (ev env m) (ev env k')) h k
  | .entryStore t m s x => arun P (Instr.entryStore t (ev env m) (ev env s) (ev env x)) h fun _ h => k undef h
  | .range xType x => arun P (Instr.range xType (ev env x)) h k
  | .next it isString => arun P (Instr.next (ev env it) isString o.type) h k
  | .entry it => arun P (Instr.entry (ev env it)) h k
  | .panic _ => False
  | _ => arun P (execOp (ev env) o) h (dnext P k)

def dexec (P : Program) (env : Env) (o : Oper) (h : Hp) (k : Value → Hp → Prop) : Prop :=
  match pureSem P env o with
  | some s => rd P s noHp fun v => k v h
  | none =>
    match readSem env o with
    | some s => rd P s h fun v => k v h
    | none => otherExec P env o h k

/-- An operation under a guard. -/
def gd (c : Bool) (ex : Hp → (Value → Hp → Prop) → Prop) (h : Hp) (k : Value → Hp → Prop) : Prop := if c then ex h k else k undef h

theorem gd_true (ex : Hp → (Value → Hp → Prop) → Prop) (h : Hp) (k : Value → Hp → Prop) : gd true ex h k = ex h k := by unfold gd; simp
theorem gd_false (ex : Hp → (Value → Hp → Prop) → Prop) (h : Hp) (k : Value → Hp → Prop) : gd false ex h k = k undef h := by unfold gd; simp

def yb : Value → Option Bool
  | .bool b => some b
  | _ => none

def yieldedE (ops : Array Oper) (env : Env) (j : Nat) : Option Bool :=
  match (ops[j]?).bind (·.dst) with
  | some d => yb (env d)
  | none => none

def gop (P : Program) (ops : Array Oper) (env : Env) (o : Oper) (h : Hp) (k : Value → Hp → Prop) : Prop :=
  match o.guard with
  | none => dexec P env o h k
  | some (j, want) => gd (yieldedE ops env j == some want) (dexec P env o) h k

def dOp (P : Program) (n : Nat) (ops : Array Oper) (i : Nat) (env : Env) (h : Hp) (K : Env → Hp → Prop) : Prop :=
  match ops[i]? with
  | none => K env h
  | some o => gop P ops env o h fun v h' => K (put n env o.dst v) h'

def dops (P : Program) (n : Nat) (ops : Array Oper) : List Nat → Env → Hp → (Env → Hp → Prop) → Prop
  | [], env, h, K => K env h
  | i :: rest, env, h, K => dOp P n ops i env h fun env' h' => dops P n ops rest env' h' K

/-! ### Soundness of one operation -/

structure Fits (n : Nat) (a : Act) (env : Env) : Prop where
  size : a.tmps.size = n
  get : ∀ t, a.tmps.getD t undef = env t

theorem Fits.eval {n : Nat} {a : Act} {env : Env} (F : Fits n a env) (x : Operand) : a.eval x = ev env x := by
  cases x with
  | tmp t => exact F.get t
  | _ => rfl

theorem Fits.evalf {n : Nat} {a : Act} {env : Env} (F : Fits n a env) : a.eval = ev env := funext F.eval

theorem Fits.put {n : Nat} {a : Act} {env : Env} (F : Fits n a env) (dst : Option Tmp) (v : Value) : Fits n (a.put dst v) (put n env dst v) := by
  cases dst with
  | none => exact F
  | some d =>
    refine ⟨by simp [Act.put, F.size], fun t => ?_⟩
    simp only [Act.put, Ytmbhlbohbpepaaa.put]
    by_cases hd : d < n
    · rw [if_pos hd]
      by_cases ht : t = d
      · subst ht
        have : t < a.tmps.size := by rw [F.size]; exact hd
        simp [Env.set, Array.getD_eq_getD_getElem?, this]
      · have := F.get t
        simp only [Array.getD_eq_getD_getElem?] at this ⊢
        rw [Array.getElem?_setIfInBounds_ne (Ne.symm ht), this]
        simp [Env.set, ht]
    · rw [if_neg hd]
      have : a.tmps.setIfInBounds d v = a.tmps := by
        unfold Array.setIfInBounds; rw [dif_neg (by rw [F.size]; exact hd)]
      rw [this]; exact F.get t

theorem Fits.yielded {n : Nat} {a : Act} {env : Env} (F : Fits n a env) (ops : Array Oper) (j : Nat) : yielded ops a.tmps j = yieldedE ops env j := by
  unfold Go.yielded yieldedE
  cases hd : (ops[j]?).bind (·.dst) with
  | none => rfl
  | some d =>
    have h := F.get d
    simp only [Array.getD_eq_getD_getElem?] at h
    simp only [Option.bind_some]
    cases ht : a.tmps[d]? with
    | none => rw [ht] at h; simp at h; rw [← h]; rfl
    | some v => rw [ht] at h; simp at h; rw [← h]; cases v <;> rfl

def progOk (P : Program) : Bool :=
  P.follows .mixedOrders && P.funcs.all fun fn => fn.body.isNone || fn.name != "runtime.NumGoroutine"

theorem callFunc_run {P : Program} (hP : progOk P = true) {f : FuncId} {fn : Func} {c : Code} (hf : P.funcs[f]? = some fn) (hb : fn.body = some c) (args : Array Value) (w : World) :
    (callFunc f args).run P w = .ok (.enter f args) w := by
  simp only [progOk, Bool.and_eq_true, Array.all_eq_true_iff_forall_mem] at hP
  have h := hP.2 fn (Array.mem_of_getElem? hf)
  simp only [hb, Option.isNone_some, Bool.false_or] at h
  have hn : (fn.name == "runtime.NumGoroutine") = false := by simpa using h
  unfold callFunc
  show Sem.run P (Sem.program fun p => _) w = _
  simp only [Sem.run, Sem.bind, bind, hf, hn, hb, Option.isNone_some, Bool.false_eq_true, if_false, pure]

/-- What one operation of the machine comes to. -/
def Wpo (P : Program) (o : Oper) (a : Act) (w : World) (k : Value → World → Prop) : Prop :=
  match (execOp a.eval o).run P w with
  | .ok (.value v) w' => k v w'
  | .ok .skip w' => k undef w'
  | .ok (.enter f args) w' => Calls P f args w' fun e w'' => ∃ v, e = .returned v ∧ k v w''
  | _ => False

theorem Wpo.wp {P : Program} {o : Oper} {a : Act} {w : World} {next : Act → World → Prop} {Q : Exit → Act → World → Prop} (h : Wpo P o a w fun v w' => next (a.put o.dst v) w') :
    o.wp P a w next Q := by
  unfold Wpo at h
  unfold Oper.wp
  generalize (execOp a.eval o).run P w = r at *
  cases r with
  | halt x w' => exact h.elim
  | ok x w' =>
    cases x <;> simp only at h <;> simp only [Oper.upon]
    case value v => exact h
    case skip => exact h
    case enter f args => exact h.mono fun e w'' ⟨v, he, hk⟩ => by subst he; exact hk
    all_goals exact h.elim

theorem value_run {P : Program} {s : Sem Value} {w w' : World} {v : Value} (h : s.run P w = .ok v w') : Sem.run P (do pure (Next.value (← s))) w = .ok (.value v) w' := by
  show Sem.run P (s.bind fun v => Sem.pure (Next.value v)) w = _
  rw [Sem.run_bind', h]; rfl

theorem skip_run {P : Program} {s : Sem Unit} {w w' : World} {v : Unit} (h : s.run P w = .ok v w') : Sem.run P (do s; pure Next.skip) w = .ok .skip w' := by
  show Sem.run P (s.bind fun _ => Sem.pure Next.skip) w = _
  rw [Sem.run_bind', h]; rfl

section
variable {P : Program} {o : Oper} {a : Act} {w : World} {env : Env} {h : Hp} {k : Value → Hp → Prop}

def Does (P : Program) (o : Oper) (a : Act) (h : Hp) (w : World) (k : Value → Hp → Prop) : Prop :=
  Wpo P o a w fun v w' => ∃ h', View h' w' ∧ Keep h w h' w' ∧ k v h'

theorem Does.read {s : Sem Value} {h0 : Hp} (V : View h w) (V0 : View h0 w) (he : execOp a.eval o = do pure (Next.value (← s))) (A : rd P s h0 fun v => k v h) : Does P o a h w k := by
  obtain ⟨v, hv, hk⟩ := A
  unfold Does Wpo
  rw [he, value_run (rrun_sound s V0 hv)]
  exact ⟨h, V, Keep.refl _ _, hk⟩

theorem Does.value {s : Sem Value} (V : View h w) (he : execOp a.eval o = do pure (Next.value (← s))) (A : arun P s h k) : Does P o a h w k := by
  obtain ⟨v, w', h', hr, V', K, hk⟩ := arun_sound s V A
  unfold Does Wpo
  rw [he, value_run hr]
  exact ⟨h', V', K, hk⟩

theorem Does.unit {s : Sem Unit} (V : View h w) (he : execOp a.eval o = do s; pure Next.skip) (A : arun P s h fun _ h => k undef h) : Does P o a h w k := by
  obtain ⟨v, w', h', hr, V', K, hk⟩ := arun_sound s V A
  unfold Does Wpo
  rw [he, skip_run hr]
  exact ⟨h', V', K, hk⟩

theorem Does.is {v : Value} (V : View h w) (he : execOp a.eval o = pure (Next.value v)) (A : k v h) : Does P o a h w k := by
  unfold Does Wpo
  rw [he]
  exact ⟨h, V, Keep.refl _ _, A⟩

theorem Does.next (V : View h w) (A : arun P (execOp a.eval o) h (dnext P k)) : Does P o a h w k := by
  obtain ⟨x, w', h', hr, V', K, hk⟩ := arun_sound _ V A
  unfold Does Wpo
  rw [hr]
  cases x <;> simp only [dnext] at hk
  case value v => exact ⟨h', V', K, hk⟩
  case skip => exact ⟨h', V', K, hk⟩
  case enter f args =>
    refine (hk.2 w' V').mono ?_
    rintro e w'' ⟨v, h'', he, V2, K2, hk2⟩
    exact ⟨v, he, h'', V2, K.trans K2, hk2⟩

theorem Does.static (hP : progOk P = true) {f : FuncId} {args : Array Operand} {argTypes : Array TypeId} (V : View h w)
    (ho : o.op = .call { callee := .value (.func f), args, argTypes }) (A : Ok P f (args.map a.eval) h k) : Does P o a h w k := by
  obtain ⟨⟨fn, c, hf, hb⟩, A⟩ := A
  have he : (execOp a.eval o).run P w = .ok (.enter f (args.map a.eval)) w := by
    have : execOp a.eval o = callFunc f (#[] ++ args.map a.eval ++ #[]) := by
      unfold execOp
      simp only [ho]
      rfl
    rw [this, callFunc_run hP hf hb]
    simp
  unfold Does Wpo
  rw [he]
  refine (A w V).mono ?_
  rintro e w'' ⟨v, h'', he, V2, K2, hk2⟩
  exact ⟨v, he, h'', V2, K2, hk2⟩

theorem Does.callv (hP : progOk P = true) {x : Operand} {args : Array Operand} {argTypes : Array TypeId} (V : View h w)
    (ho : o.op = .call { callee := .value x, args, argTypes }) (A : callV P (a.eval x) (args.map a.eval) h k) : Does P o a h w k := by
  unfold callV at A
  split at A
  · rename_i f first captured hv
    obtain ⟨⟨fn, c, hf, hb⟩, A⟩ := A
    have he : (execOp a.eval o).run P w = .ok (.enter f (first ++ args.map a.eval ++ captured)) w := by
      have : execOp a.eval o = callFunc f (first ++ args.map a.eval ++ captured) := by
        unfold execOp
        simp only [ho, resolve, hv]
        rfl
      rw [this, callFunc_run hP hf hb]
    unfold Does Wpo
    rw [he]
    refine (A w V).mono ?_
    rintro e w'' ⟨v, h'', he, V2, K2, hk2⟩
    exact ⟨v, he, h'', V2, K2, hk2⟩
  · exact A.elim

theorem View.no (w : World) : View noHp w := fun _ _ e => by cases e

theorem dexec_sound {n : Nat} (hP : progOk P = true) (F : Fits n a env) (V : View h w) (D : dexec P env o h k) : Does P o a h w k := by
  have hF := F.evalf
  unfold dexec at D
  cases hp : pureSem P env o with
  | some s =>
    simp only [hp] at D
    refine Does.read V (View.no w) ?_ D
    unfold pureSem at hp
    unfold execOp
    rw [hF]
    cases ho : o.op <;> simp only [ho] at hp ⊢ <;> first
      | cases hp; done
      | (simp only [Option.some.injEq] at hp; subst hp; rfl)
      | (simp only [Option.some.injEq] at hp; subst hp; simp only [pck, bind_assoc, pure_bind]; done)
      | (simp only [Option.some.injEq] at hp; subst hp; simp only [evs_eq, evp_eq]; first | done | rfl)
      | (split at hp <;> first | cases hp; done | (simp only [Option.some.injEq] at hp; subst hp; rfl))
  | none =>
    simp only [hp] at D
    cases hr : readSem env o with
    | some s =>
      simp only [hr] at D
      refine Does.read V V ?_ D
      unfold readSem at hr
      unfold execOp
      rw [hF]
      split at hr <;> rename_i ho <;> simp only [ho] <;> first
        | cases hr; done
        | (simp only [Option.some.injEq] at hr; subst hr; rfl)
        | (simp only [Option.some.injEq] at hr; subst hr; simp only [evs_eq]; first | done | rfl)
    | none =>
      simp only [hr] at D
      unfold otherExec at D
      simp only [evs_eq, evp_eq] at D
      rw [← hF] at D
      split at D <;> rename_i ho
      all_goals first
        | exact D.elim
        | exact Does.static hP V ho D
        | exact Does.callv hP V ho D
        | exact Does.next V D
        | (refine Does.value V ?_ D; unfold execOp; simp only [ho]; try rfl)
        | (refine Does.unit V ?_ D; unfold execOp; simp only [ho]; try rfl)
        | (refine Does.is V ?_ D; unfold execOp; simp only [ho]; try rfl)
        | skip
      · obtain ⟨hn, hk⟩ := D
        refine Does.is V ?_ hk
        unfold execOp
        simp only [ho]
        cases hv : a.eval ‹Operand› <;> rw [hv] at hn <;> first
          | rfl
          | (rename_i fn first captured; cases fn <;> first | (simp [nilOk] at hn; done) | rfl)
          | (rename_i x; cases x <;> first | (simp [nilOk] at hn; done) | rfl)
          | simp [nilOk] at hn
end

end Go.Proofs.Ytmbhlbohbpepaaa
