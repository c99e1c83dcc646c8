/- Maps: what they hold, a look, a store. -/
import Derived.Test.YtmbhlbohbpepaaaM10
namespace Go.Proofs.Ytmbhlbohbpepaaa
open Go
set_option linter.unusedSimpArgs false
set_option linter.unusedVariables false

/-- A map's entries read so, in the order in which they lie. -/
inductive Ents {α β : Type} (kenc : α → Value) (venc : β → Value) : List MapEntry → List (α × β) → Prop where
  | nil : Ents kenc venc [] []
  | cons {e : MapEntry} {es : List MapEntry} {k : α} {v : β} {m : List (α × β)} : e.key = kenc k → e.val = venc v → Ents kenc venc es m → Ents kenc venc (e :: es) ((k, v) :: m)

def findM {α β : Type} [DecidableEq α] (a : α) : List (α × β) → Nat → Option (Nat × β)
  | [], _ => none
  | x :: xs, i => if a = x.1 then some (i, x.2) else findM a xs (i + 1)

theorem Ents.get {α β : Type} {kenc : α → Value} {venc : β → Value} {es : List MapEntry} {m : List (α × β)} (H : Ents kenc venc es m) : ∀ {i : Nat} {x : α × β}, m[i]? = some x → ∃ e, es[i]? = some e ∧ e.key = kenc x.1 ∧ e.val = venc x.2 := by
  induction H with
  | nil => intro i x h; simp at h
  | @cons e es k v m h1 h2 _ ih =>
    intro i x h
    cases i with
    | zero => simp at h; subst h; exact ⟨e, rfl, h1, h2⟩
    | succ i => simpa using ih (by simpa using h)

section
variable {P : Program} {h : Hp} {α β : Type} [DecidableEq α] {kenc : α → Value} {venc : β → Value}

theorem rr_findAsking {kt : TypeId} {a : α} (heq : ∀ b, rrun P (Op.equal kt (kenc a) (kenc b)) h = some (decide (a = b))) : ∀ {es : List MapEntry} {m : List (α × β)}, Ents kenc venc es m → ∀ i,
    rrun P (Instr.findAsking kt (kenc a) es i) h = some ((findM a m i).map fun x => (x.1, venc x.2)) := by
  intro es m H
  induction H with
  | nil => intro i; rfl
  | @cons e es k v m h1 h2 _ ih =>
    intro i
    unfold Instr.findAsking
    rw [rrun_bnd, h1, heq, Option.bind_some]
    by_cases hab : a = k
    · simp [hab, findM, h2, rrun_pure]
    · simp [hab, findM, ih]

theorem rr_findKey_struct {kt : TypeId} {fs : Array Field} {a : α} (hu : P.underlying kt = some (.struct fs)) (heq : ∀ b, rrun P (Op.equal kt (kenc a) (kenc b)) h = some (decide (a = b))) {es : List MapEntry} {m : List (α × β)} (H : Ents kenc venc es m) :
    rrun P (Instr.findKey kt (kenc a) es) h = some ((findM a m 0).map fun x => (x.1, venc x.2)) := by
  unfold Instr.findKey
  rw [rrun_bnd, rr_underlying, hu, Option.bind_some]
  cases H with
  | nil => rfl
  | cons h1 h2 h3 => exact rr_findAsking heq (.cons h1 h2 h3) 0

def getM (m : List (α × β)) (a : α) : Option β := (findM a m 0).map (·.2)

def MapAt (h : Hp) (r : Nat) (kenc : α → Value) (venc : β → Value) (m : List (α × β)) : Prop := ∃ es clock, h r = some (.map es clock) ∧ Ents kenc venc es.toList m

theorem rr_lookup {t kt et : TypeId} {r : Nat} {a : α} {m : List (α × β)} {z : Value} (hu : P.underlying t = some (.map kt et)) (M : MapAt h r kenc venc m) (hck : ∀ e, rrun P (Instr.checkKey e 10000 kt (kenc a)) h = some ())
    (hfk : ∀ es : List MapEntry, Ents kenc venc es m → rrun P (Instr.findKey kt (kenc a) es) h = some ((findM a m 0).map fun x => (x.1, venc x.2))) (hz : (P.info? et).bind (·.zero) = some z) :
    rrun P (Instr.lookup t (.map (some r)) (kenc a) true) h = some (.tuple #[match getM m a with | some v => venc v | none => z, .bool (getM m a).isSome]) := by
  obtain ⟨es, clock, hr, hE⟩ := M
  unfold Instr.lookup
  rw [rrun_bnd, rr_underlying, hu, Option.bind_some]
  simp only []
  have hg : rrun P (getObj r) h = some (.map es clock) := by
    unfold getObj
    simp only [rrun, hr, isRow]
  simp only [rrun_bnd, hg, Option.bind_some, rrun_pure, hck, hfk _ hE]
  unfold getM
  cases findM a m 0 with
  | none =>
    have e : ∀ (s : Sem Value) (f : Value → Value), rrun P (f <$> s) h = (rrun P s h).map f := by
      intro s f
      have : f <$> s = s >>= fun x => pure (f x) := by simp
      rw [this, rrun_bnd]
      cases rrun P s h <;> rfl
    simp [rrun_bnd, rrun_pure, e, rr_zeroValue hz]
  | some x => simp [rrun_bnd, rrun_pure]

def setM (a : α) (v : β) : List (α × β) → List (α × β)
  | [] => [(a, v)]
  | x :: xs => if a = x.1 then (a, v) :: xs else x :: setM a v xs

theorem findM_some {a : α} : ∀ {m : List (α × β)} {i j : Nat} {v : β}, findM a m i = some (j, v) → i ≤ j ∧ m[j - i]? = some (a, v)
  | [], i, j, v, h => by cases h
  | x :: xs, i, j, v, h => by
    simp only [findM] at h
    split at h
    · rename_i e; cases h; rw [Nat.sub_self]; exact ⟨Nat.le_refl _, by simp [e]⟩
    · obtain ⟨h1, h2⟩ := findM_some h
      refine ⟨by omega, ?_⟩
      have e : j - i = (j - (i + 1)) + 1 := by omega
      rw [e]; simpa using h2

theorem Ents.push {es : List MapEntry} {m : List (α × β)} (H : Ents kenc venc es m) {a : α} {v : β} {c : Nat} : findM a m 0 = none → Ents kenc venc (es ++ [{ key := kenc a, val := venc v, born := c }]) (setM a v m) := by
  have key : ∀ (es : List MapEntry) (m : List (α × β)), Ents kenc venc es m → ∀ i, findM a m i = none → Ents kenc venc (es ++ [{ key := kenc a, val := venc v, born := c }]) (setM a v m) := by
    intro es m H
    induction H with
    | nil => intro i _; exact .cons rfl rfl .nil
    | @cons e es k v' m h1 h2 _ ih =>
      intro i h
      simp only [findM] at h
      split at h
      · cases h
      · rename_i hne
        simp only [setM, if_neg hne, List.cons_append]
        exact .cons h1 h2 (ih _ h)
  exact key es m H 0

theorem Ents.modify {es : List MapEntry} {m : List (α × β)} (H : Ents kenc venc es m) {a : α} {v v0 : β} {j : Nat} : findM a m 0 = some (j, v0) → Ents kenc venc (es.modify j fun e => { e with key := kenc a, val := venc v }) (setM a v m) := by
  have key : ∀ (es : List MapEntry) (m : List (α × β)), Ents kenc venc es m → ∀ i, findM a m i = some (i + j, v0) → Ents kenc venc (es.modify j fun e => { e with key := kenc a, val := venc v }) (setM a v m) := by
    intro es m H
    induction H generalizing j with
    | nil => intro i h; cases h
    | @cons e es k v' m h1 h2 h3 ih =>
      intro i h
      simp only [findM] at h
      split at h
      · rename_i e
        have : j = 0 := by
          simp only [Option.some.injEq, Prod.mk.injEq] at h; omega
        subst this
        simp only [setM, if_pos e]
        exact .cons rfl rfl h3
      · rename_i hne
        have := (findM_some h).1
        obtain ⟨j', rfl⟩ : ∃ j', j = j' + 1 := ⟨j - 1, by omega⟩
        simp only [setM, if_neg hne, List.modify_succ_cons]
        refine .cons h1 h2 (ih (j := j') (i + 1) ?_)
        rw [h]; congr 2; omega
  intro h
  exact key es m H 0 (by simpa using h)

theorem rr_getObj {r : Nat} {es : Array MapEntry} {clock : Nat} (hr : h r = some (.map es clock)) : rrun P (getObj r) h = some (.map es clock) := by
  unfold getObj
  simp only [rrun, hr, isRow]

theorem arun_mapUpdate {t kt et : TypeId} {r : Nat} {a : α} {v : β} {m : List (α × β)} {K : Unit → Hp → Prop} (hu : P.underlying t = some (.map kt et)) (M : MapAt h r kenc venc m) (hck : ∀ e, rrun P (Instr.checkKey e 10000 kt (kenc a)) h = some ())
    (hfk : ∀ es : List MapEntry, Ents kenc venc es m → rrun P (Instr.findKey kt (kenc a) es) h = some ((findM a m 0).map fun x => (x.1, venc x.2))) (hsb : Instr.sameBits 10000 (kenc a) (kenc a) = true)
    (hK : ∀ es clock, Ents kenc venc es.toList (setM a v m) → K () (h.upd r (.map es clock))) :
    arun P (Instr.mapUpdate t (.map (some r)) (kenc a) (venc v)) h K := by
  obtain ⟨es, clock, hr, hE⟩ := M
  unfold Instr.mapUpdate
  rw [arun_bnd_rr (a := .map kt et) (by rw [rr_underlying, hu])]
  simp only []
  rw [arun_bnd_rr (a := .map es clock) (rr_getObj hr)]
  simp only []
  rw [arun_bnd_rr (a := ()) (hck _), arun_bnd_rr (hfk _ hE)]
  have set : ∀ o, K () (h.upd r o) → arun P (setObj r o) h K := fun o hk => ⟨⟨_, hr, rfl⟩, hk⟩
  cases hf : findM a m 0 with
  | none =>
    simp only [Option.map_none]
    refine set _ (hK _ _ ?_)
    rw [Array.toList_push]
    exact hE.push hf
  | some x =>
    obtain ⟨j, v0⟩ := x
    simp only [Option.map_some]
    obtain ⟨e, he, hke, _⟩ := hE.get (i := j) (x := (a, v0)) (by have := (findM_some hf).2; simpa using this)
    have hes : es[j]? = some e := by simpa using he
    have hks : rrun P (Instr.keyThatStays (((es[j]?).map (·.key)).getD (kenc a)) (kenc a)) h = some (kenc a) := by
      rw [hes]
      unfold Instr.keyThatStays
      simp only [Option.map_some, Option.getD_some, hke, hsb, if_true]
      rfl
    rw [arun_bnd_rr hks]
    refine set _ (hK _ _ ?_)
    rw [Array.toList_modify]
    exact hE.modify hf

theorem arun_makeMap {t : TypeId} {K : Value → Hp → Prop} (hK : ∀ b, h b = none → K (.map (some b)) (h.upd b (.map #[] 0))) : arun P (Instr.makeMap t none) h K := hK
end
end Go.Proofs.Ytmbhlbohbpepaaa
