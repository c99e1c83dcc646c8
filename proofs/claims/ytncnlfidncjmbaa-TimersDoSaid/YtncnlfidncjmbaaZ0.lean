/- A partial heap, what a piece of the model's semantics does to it whatever the tape answers, and that the model's run does the same to every world that has this heap. -/
import Derived.WalkKit
import Derived.KernelRfl
import Derived.Deep.LoopGhost
import Derived.Below

namespace Go.Proofs.Ytncnlfidncjmbaa
open Go

abbrev Hp := Nat → Option Obj

def Hp.upd (h : Hp) (b : Nat) (o : Obj) : Hp := fun i => if i = b then some o else h i

def View (h : Hp) (w : World) : Prop := ∀ b o, h b = some o → w.heap[b]? = some o

def Hp.cell? (h : Hp) (a : Addr) : Option Value :=
  match h a.block with
  | some (.cells c _ _) => if a.spot.isSome then none else c[a.off]?
  | _ => none

def Hp.frozen? (h : Hp) (a : Addr) : Bool :=
  match h a.block with
  | some (.cells _ _ (lo, hi)) => lo ≤ a.off && a.off < hi
  | _ => false

def Hp.setCell (h : Hp) (a : Addr) (v : Value) : Hp :=
  match h a.block with
  | some (.cells c e fr) => h.upd a.block (.cells (if a.spot.isSome then c else c.setIfInBounds a.off v) e fr)
  | _ => h

def Hp.freeze (h : Hp) (a : Addr) (n : Nat) : Hp :=
  if n = 0 then h else
  match h a.block with
  | some (.cells c e (lo, hi)) => h.upd a.block (.cells c e (if lo == hi then (a.off, a.off + n) else (min lo a.off, max hi (a.off + n))))
  | _ => h

def oneCell : Value → Bool
  | .agg _ | .tuple _ => false
  | _ => true

def shapeOf : Obj → Option (TypeId × Nat)
  | .cells c e _ => some (e, c.size)
  | _ => none

def isRow : Obj → Bool
  | .cells .. => true
  | _ => false

/-- What a piece of semantics does to a partial heap, whatever the tape answers. -/
def arun (P : Program) {α : Type} : Sem α → Hp → (α → Hp → Prop) → Prop
  | .pure a, h, Q => Q a h
  | .load _ a k, h, Q => ∃ v, h.cell? a = some v ∧ arun P (k v) h Q
  | .store _ a v k, h, Q => oneCell v = true ∧ (∃ u, h.cell? a = some u) ∧ h.frozen? a = false ∧ arun P k (h.setCell a v) Q
  | .new o k, h, Q => ∀ b, h b = none → arun P (k b) (h.upd b o) Q
  | .shape r k, h, Q => ∃ o, h r = some o ∧ arun P (k (shapeOf o)) h Q
  | .freeze a n k, h, Q => (n = 0 ∨ ∃ o, h a.block = some o) ∧ arun P k (h.freeze a n) Q
  | .frozen a k, h, Q => (∃ o, h a.block = some o) ∧ arun P (k (h.frozen? a)) h Q
  | .getObj r k, h, Q => ∃ o, h r = some o ∧ isRow o = false ∧ arun P (k o) h Q
  | .setObj r o k, h, Q => (∃ o', h r = some o' ∧ isRow o' = false) ∧ arun P k (h.upd r o) Q
  | .choose q k, h, Q => if q.forced then arun P (k 0) h Q else ∀ t, arun P (k (q.cut t)) h Q
  | .sys _ _, _, _ => False
  | .program k, h, Q => arun P (k P) h Q
  | .mark _ k, h, Q => arun P k h Q
  | .halt _, _, _ => False

/-- What a piece that only reads comes to. -/
def rrun (P : Program) {α : Type} : Sem α → Hp → Option α
  | .pure a, _ => some a
  | .load _ a k, h => match h.cell? a with | some v => rrun P (k v) h | none => none
  | .shape r k, h => match h r with | some o => rrun P (k (shapeOf o)) h | none => none
  | .frozen a k, h => match h a.block with | some _ => rrun P (k (h.frozen? a)) h | none => none
  | .getObj r k, h => match h r with | some o => (match isRow o with | true => none | false => rrun P (k o) h) | none => none
  | .choose q k, h => if q.forced then rrun P (k 0) h else none
  | .program k, h => rrun P (k P) h
  | .mark _ k, h => rrun P k h
  | _, _ => none

structure Keep (h : Hp) (w : World) (h' : Hp) (w' : World) : Prop where
  os : w'.os = w.os
  tape : w'.tape = w.tape
  output : w'.output = w.output
  size : w.heap.size ≤ w'.heap.size
  old : ∀ b, b < w.heap.size → h b = none → w'.heap[b]? = w.heap[b]?
  dom : ∀ b, b < w.heap.size → h b = none → h' b = none
  drawn : w.drawn ≤ w'.drawn

theorem Keep.refl (h : Hp) (w : World) : Keep h w h w := ⟨rfl, rfl, rfl, Nat.le_refl _, fun _ _ _ => rfl, fun _ _ e => e, Nat.le_refl _⟩

theorem Keep.trans {h h1 h2 : Hp} {w w1 w2 : World} (a : Keep h w h1 w1) (b : Keep h1 w1 h2 w2) : Keep h w h2 w2 where
  os := b.os.trans a.os
  tape := b.tape.trans a.tape
  output := b.output.trans a.output
  size := Nat.le_trans a.size b.size
  old := fun i hi hn => (b.old i (Nat.lt_of_lt_of_le hi a.size) (a.dom i hi hn)).trans (a.old i hi hn)
  dom := fun i hi hn => b.dom i (Nat.lt_of_lt_of_le hi a.size) (a.dom i hi hn)
  drawn := Nat.le_trans a.drawn b.drawn

theorem Keep.less {h h1 h2 : Hp} {w w1 : World} (a : Keep h w h1 w1) (hl : ∀ b o, h2 b = some o → h1 b = some o) : Keep h w h2 w1 where
  os := a.os
  tape := a.tape
  output := a.output
  size := a.size
  old := a.old
  dom := fun i hi hn => by
    have := a.dom i hi hn
    cases h' : h2 i with
    | none => rfl
    | some o => rw [hl i o h'] at this; cases this
  drawn := a.drawn

theorem View.less {h1 h2 : Hp} {w : World} (v : View h1 w) (hl : ∀ b o, h2 b = some o → h1 b = some o) : View h2 w := fun b o e => v b o (hl b o e)

theorem View.cell {h : Hp} {w : World} (V : View h w) {a : Addr} {v : Value} (e : h.cell? a = some v) : w.cell? a = some v := by
  unfold Hp.cell? at e
  unfold World.cell?
  cases hb : h a.block with
  | none => simp [hb] at e
  | some o => rw [V _ _ hb]; cases o <;> simp_all

theorem View.frozen {h : Hp} {w : World} (V : View h w) {a : Addr} {o : Obj} (e : h a.block = some o) : w.frozen? a = h.frozen? a := by
  unfold Hp.frozen? World.frozen?
  rw [V _ _ e, e]
  cases o <;> rfl

theorem View.frozen_of_cell {h : Hp} {w : World} (V : View h w) {a : Addr} {v : Value} (e : h.cell? a = some v) : w.frozen? a = h.frozen? a := by
  cases hb : h a.block with
  | none => simp [Hp.cell?, hb] at e
  | some o => exact V.frozen hb

theorem View.lt {h : Hp} {w : World} (V : View h w) {b : Nat} {o : Obj} (e : h b = some o) : b < w.heap.size :=
  (Array.getElem?_eq_some_iff.1 (V b o e)).1

theorem View.modify {h : Hp} {w w' : World} (V : View h w) {b : Nat} {o o' : Obj} (e : h b = some o)
    (hos : w'.os = w.os) (ht : w'.tape = w.tape) (ho : w'.output = w.output) (hs : w'.heap.size = w.heap.size)
    (hb : w'.heap[b]? = some o') (hne : ∀ i, i ≠ b → w'.heap[i]? = w.heap[i]?) (hd : w.drawn ≤ w'.drawn) :
    View (h.upd b o') w' ∧ Keep h w (h.upd b o') w' := by
  constructor
  · intro i u hu
    unfold Hp.upd at hu
    by_cases hi : i = b
    · subst hi; simp at hu; subst hu; exact hb
    · simp [hi] at hu; rw [hne i hi]; exact V i u hu
  · refine ⟨hos, ht, ho, by omega, fun i hi hn => ?_, fun i hi hn => ?_, hd⟩
    · by_cases hib : i = b
      · subst hib; rw [e] at hn; cases hn
      · exact hne i hib
    · by_cases hib : i = b
      · subst hib; rw [e] at hn; cases hn
      · simp [Hp.upd, hib, hn]

theorem View.setCell {h : Hp} {w : World} (V : View h w) {a : Addr} {u : Value} (v : Value) (e : h.cell? a = some u) :
    View (h.setCell a v) (w.setCell a v) ∧ Keep h w (h.setCell a v) (w.setCell a v) := by
  unfold Hp.cell? at e
  unfold Hp.setCell
  cases hb : h a.block with
  | none => simp [hb] at e
  | some o =>
    cases o with
    | cells c el fr =>
      have hw := V _ _ hb
      refine V.modify hb rfl rfl rfl (by simp [World.setCell]) ?_ (fun i hi => ?_) (Nat.le_refl _)
      · simp only [World.setCell, Array.getElem?_modify, if_true, hw, Option.map_some]
      · simp only [World.setCell, Array.getElem?_modify]; rw [if_neg (fun e => hi e.symm)]
    | _ => simp [hb] at e

theorem View.freeze {h : Hp} {w : World} (V : View h w) {a : Addr} {n : Nat} (e : n = 0 ∨ ∃ o, h a.block = some o) :
    View (h.freeze a n) (w.freeze a n) ∧ Keep h w (h.freeze a n) (w.freeze a n) := by
  unfold Hp.freeze World.freeze
  by_cases hn : n = 0
  · simp only [hn, if_true]; exact ⟨V, Keep.refl _ _⟩
  · simp only [hn, if_false]
    obtain ⟨o, hb⟩ := e.resolve_left hn
    have hw := V _ _ hb
    cases o with
    | cells c el fr =>
      obtain ⟨lo, hi⟩ := fr
      simp only [hb]
      refine V.modify hb rfl rfl rfl (by simp) ?_ (fun i hi => ?_) (Nat.le_refl _)
      · simp only [Array.getElem?_modify, if_true, hw, Option.map_some]
      · simp only [Array.getElem?_modify]; rw [if_neg (fun e => hi e.symm)]
    | _ =>
      simp only [hb]
      constructor
      · intro i u hu
        rw [← V i u hu]
        simp only [Array.getElem?_modify]
        split
        · rename_i hi; subst hi; rw [hw]; rfl
        · rfl
      · refine ⟨rfl, rfl, rfl, by simp, fun i hi hn => ?_, fun i hi hn => hn, Nat.le_refl _⟩
        simp only [Array.getElem?_modify]
        split
        · rename_i hi; subst hi; rw [hw]; rfl
        · rfl

theorem View.new {h : Hp} {w : World} (V : View h w) (o : Obj) :
    h w.heap.size = none ∧ View (h.upd w.heap.size o) { w with heap := w.heap.push o } ∧ Keep h w (h.upd w.heap.size o) { w with heap := w.heap.push o } := by
  have hn : h w.heap.size = none := by
    cases hb : h w.heap.size with
    | none => rfl
    | some o => have := V.lt hb; omega
  refine ⟨hn, fun i u hu => ?_, ⟨rfl, rfl, rfl, by simp, fun i hi _ => ?_, fun i hi hn => ?_, Nat.le_refl _⟩⟩
  · unfold Hp.upd at hu
    by_cases hi : i = w.heap.size
    · subst hi; simp at hu; subst hu; simp
    · simp [hi] at hu
      have := V i u hu
      have hlt := V.lt hu
      simp [Array.getElem?_push, hi, this]
  · simp [Array.getElem?_push]; omega
  · have : i ≠ w.heap.size := by omega
    simp [Hp.upd, this, hn]

theorem run_store_one {P : Program} {α : Type} {m : Mode} {a : Addr} {v : Value} {k : Sem α} {w : World} (h : oneCell v = true) :
    Sem.run P (.store m a v k) w = (match w.cell? a with
    | some _ => if w.frozen? a then .halt (.unsupported (.unsafePointer "a write to bytes that a string shares")) w else k.run P (w.setCell a v)
    | none => match w.farStore P a v (m == .atomic) with
      | .ok (w, _) => k.run P w
      | .error h => .halt h w) := by
  cases v <;> first | rfl | (simp [oneCell] at h)

theorem arun_sound {P : Program} {α : Type} (s : Sem α) : ∀ {h : Hp} {w : World} {Q : α → Hp → Prop}, View h w → arun P s h Q →
    ∃ a w' h', s.run P w = .ok a w' ∧ View h' w' ∧ Keep h w h' w' ∧ Q a h' := by
  induction s with
  | pure a => intro h w Q V A; exact ⟨a, w, h, rfl, V, Keep.refl _ _, A⟩
  | load m a k ih =>
    intro h w Q V A
    obtain ⟨v, hv, A⟩ := A
    obtain ⟨x, w', h', r, V', K, q⟩ := ih v V A
    exact ⟨x, w', h', by simp only [Sem.run, V.cell hv]; exact r, V', K, q⟩
  | store m a v k ih =>
    intro h w Q V A
    obtain ⟨ho, ⟨u, hu⟩, hf, A⟩ := A
    obtain ⟨V1, K1⟩ := V.setCell v hu
    obtain ⟨x, w', h', r, V', K, q⟩ := ih V1 A
    refine ⟨x, w', h', ?_, V', K1.trans K, q⟩
    rw [run_store_one ho, V.cell hu]
    simp only [V.frozen_of_cell hu, hf, Bool.false_eq_true, if_false]
    exact r
  | new o k ih =>
    intro h w Q V A
    obtain ⟨hn, V1, K1⟩ := V.new o
    obtain ⟨x, w', h', r, V', K, q⟩ := ih _ V1 (A _ hn)
    exact ⟨x, w', h', by simp only [Sem.run]; exact r, V', K1.trans K, q⟩
  | shape r k ih =>
    intro h w Q V A
    obtain ⟨o, ho, A⟩ := A
    obtain ⟨x, w', h', r', V', K, q⟩ := ih _ V A
    have : w.shape? r = shapeOf o := by unfold World.shape?; rw [V _ _ ho]; cases o <;> rfl
    exact ⟨x, w', h', by simp only [Sem.run, this]; exact r', V', K, q⟩
  | freeze a n k ih =>
    intro h w Q V A
    obtain ⟨V1, K1⟩ := V.freeze A.1
    obtain ⟨x, w', h', r, V', K, q⟩ := ih V1 A.2
    exact ⟨x, w', h', by simp only [Sem.run]; exact r, V', K1.trans K, q⟩
  | frozen a k ih =>
    intro h w Q V A
    obtain ⟨⟨o, ho⟩, A⟩ := A
    obtain ⟨x, w', h', r, V', K, q⟩ := ih _ V A
    exact ⟨x, w', h', by simp only [Sem.run, V.frozen ho]; exact r, V', K, q⟩
  | getObj r k ih =>
    intro h w Q V A
    obtain ⟨o, ho, hr, A⟩ := A
    obtain ⟨x, w', h', r', V', K, q⟩ := ih _ V A
    refine ⟨x, w', h', ?_, V', K, q⟩
    simp only [Sem.run, V _ _ ho]
    cases o <;> first | exact r' | simp [isRow] at hr
  | setObj r o k ih =>
    intro h w Q V A
    obtain ⟨⟨o', ho, hr⟩, A⟩ := A
    have hlt := V.lt ho
    obtain ⟨V1, K1⟩ := V.modify (w' := { w with heap := w.heap.setIfInBounds r o }) (o' := o) ho rfl rfl rfl (by simp) (by simp [hlt]) (fun i hi => by
      simp [Array.getElem?_setIfInBounds_ne (Ne.symm hi)]) (Nat.le_refl _)
    obtain ⟨x, w', h', r', V', K, q⟩ := ih V1 A
    refine ⟨x, w', h', ?_, V', K1.trans K, q⟩
    simp only [Sem.run, V _ _ ho]
    cases o' <;> first | exact r' | simp [isRow] at hr
  | choose q k ih =>
    intro h w Q V A
    unfold arun at A
    by_cases hq : q.forced = true
    · simp only [hq, if_true] at A
      obtain ⟨x, w', h', r, V', K, q'⟩ := ih _ V A
      exact ⟨x, w', h', by simp only [Sem.run, hq, if_true]; exact r, V', K, q'⟩
    · simp only [hq, Bool.false_eq_true, if_false] at A
      obtain ⟨x, w', h', r, V', K, q'⟩ := ih _ (w := { w with drawn := w.drawn + 1 }) (fun b o e => V b o e) (A (w.tape w.drawn q))
      refine ⟨x, w', h', ?_, V', ⟨K.os, K.tape, K.output, K.size, K.old, K.dom, Nat.le_trans (Nat.le_succ _) K.drawn⟩, q'⟩
      simp only [Sem.run, hq, Bool.false_eq_true, if_false]; exact r
  | sys c k ih => intro h w Q V A; exact A.elim
  | program k ih =>
    intro h w Q V A
    obtain ⟨x, w', h', r, V', K, q⟩ := ih P V A
    exact ⟨x, w', h', by simp only [Sem.run]; exact r, V', K, q⟩
  | mark m k ih =>
    intro h w Q V A
    obtain ⟨x, w', h', r, V', K, q⟩ := ih V A
    exact ⟨x, w', h', by simp only [Sem.run]; exact r, V', K, q⟩
  | halt x => intro h w Q V A; exact A.elim

theorem rrun_sound {P : Program} {α : Type} (s : Sem α) : ∀ {h : Hp} {w : World} {a : α}, View h w → rrun P s h = some a → s.run P w = .ok a w := by
  induction s with
  | pure a => intro h w b V A; simp only [rrun, Option.some.injEq] at A; subst A; rfl
  | load m a k ih =>
    intro h w b V A
    simp only [rrun] at A
    cases hc : h.cell? a with
    | none => simp [hc] at A
    | some v => simp only [hc] at A; simp only [Sem.run, V.cell hc]; exact ih v V A
  | shape r k ih =>
    intro h w b V A
    simp only [rrun] at A
    cases ho : h r with
    | none => simp [ho] at A
    | some o =>
      simp only [ho] at A
      have : w.shape? r = shapeOf o := by unfold World.shape?; rw [V _ _ ho]; cases o <;> rfl
      simp only [Sem.run, this]; exact ih _ V A
  | frozen a k ih =>
    intro h w b V A
    simp only [rrun] at A
    cases ho : h a.block with
    | none => simp [ho] at A
    | some o => simp only [ho] at A; simp only [Sem.run, V.frozen ho]; exact ih _ V A
  | getObj r k ih =>
    intro h w b V A
    simp only [rrun] at A
    cases ho : h r with
    | none => simp [ho] at A
    | some o =>
      simp only [ho] at A
      cases hr : isRow o with
      | true => simp [hr] at A
      | false =>
        simp only [hr] at A
        simp only [Sem.run, V _ _ ho]
        cases o <;> first | exact ih _ V A | simp [isRow] at hr
  | choose q k ih =>
    intro h w b V A
    simp only [rrun] at A
    by_cases hq : q.forced = true
    · simp only [hq, if_true] at A; simp only [Sem.run, hq, if_true]; exact ih _ V A
    · simp [hq] at A
  | program k ih => intro h w b V A; simp only [rrun] at A; simp only [Sem.run]; exact ih P V A
  | mark m k ih => intro h w b V A; simp only [rrun] at A; simp only [Sem.run]; exact ih V A
  | _ => intro h w b V A; simp [rrun] at A

theorem arun_of_rrun {P : Program} {α : Type} (s : Sem α) : ∀ {h : Hp} {Q : α → Hp → Prop} {a : α}, rrun P s h = some a → Q a h → arun P s h Q := by
  induction s with
  | pure a => intro h Q b A q; simp only [rrun, Option.some.injEq] at A; subst A; exact q
  | load m a k ih =>
    intro h Q b A q
    simp only [rrun] at A
    cases hc : h.cell? a with
    | none => simp [hc] at A
    | some v => simp only [hc] at A; exact ⟨v, hc, ih v A q⟩
  | shape r k ih =>
    intro h Q b A q
    simp only [rrun] at A
    cases ho : h r with
    | none => simp [ho] at A
    | some o => simp only [ho] at A; exact ⟨o, ho, ih _ A q⟩
  | frozen a k ih =>
    intro h Q b A q
    simp only [rrun] at A
    cases ho : h a.block with
    | none => simp [ho] at A
    | some o => simp only [ho] at A; exact ⟨⟨o, ho⟩, ih _ A q⟩
  | getObj r k ih =>
    intro h Q b A q
    simp only [rrun] at A
    cases ho : h r with
    | none => simp [ho] at A
    | some o =>
      simp only [ho] at A
      cases hr : isRow o with
      | true => simp [hr] at A
      | false => simp only [hr] at A; exact ⟨o, ho, hr, ih _ A q⟩
  | choose q k ih =>
    intro h Q b A q'
    simp only [rrun] at A
    by_cases hq : q.forced = true
    · simp only [hq, if_true] at A; unfold arun; simp only [hq, if_true]; exact ih _ A q'
    · simp [hq] at A
  | program k ih => intro h Q b A q; simp only [rrun] at A; exact ih P A q
  | mark m k ih => intro h Q b A q; simp only [rrun] at A; exact ih A q
  | _ => intro h Q b A q; simp [rrun] at A

theorem arun_mono {P : Program} {α : Type} (s : Sem α) : ∀ {h : Hp} {Q Q' : α → Hp → Prop}, (∀ a h, Q a h → Q' a h) → arun P s h Q → arun P s h Q' := by
  induction s with
  | pure a => intro h Q Q' q A; exact q _ _ A
  | load m a k ih => intro h Q Q' q A; obtain ⟨v, hv, A⟩ := A; exact ⟨v, hv, ih _ q A⟩
  | store m a v k ih => intro h Q Q' q A; exact ⟨A.1, A.2.1, A.2.2.1, ih q A.2.2.2⟩
  | new o k ih => intro h Q Q' q A b hb; exact ih _ q (A b hb)
  | shape r k ih => intro h Q Q' q A; obtain ⟨o, ho, A⟩ := A; exact ⟨o, ho, ih _ q A⟩
  | freeze a n k ih => intro h Q Q' q A; exact ⟨A.1, ih q A.2⟩
  | frozen a k ih => intro h Q Q' q A; exact ⟨A.1, ih _ q A.2⟩
  | getObj r k ih => intro h Q Q' q A; obtain ⟨o, ho, hr, A⟩ := A; exact ⟨o, ho, hr, ih _ q A⟩
  | setObj r o k ih => intro h Q Q' q A; exact ⟨A.1, ih q A.2⟩
  | choose q' k ih =>
    intro h Q Q' q A
    unfold arun at A ⊢
    by_cases hq : q'.forced = true
    · simp only [hq, if_true] at A ⊢; exact ih _ q A
    · simp only [hq, Bool.false_eq_true, if_false] at A ⊢; exact fun t => ih _ q (A t)
  | sys c k ih => intro h Q Q' q A; exact A.elim
  | program k ih => intro h Q Q' q A; exact ih _ q A
  | mark m k ih => intro h Q Q' q A; exact ih q A
  | halt x => intro h Q Q' q A; exact A.elim

theorem arun_bind {P : Program} {α β : Type} (s : Sem α) (f : α → Sem β) : ∀ {h : Hp} {Q : β → Hp → Prop}, arun P s h (fun a h' => arun P (f a) h' Q) → arun P (s.bind f) h Q := by
  induction s with
  | pure a => intro h Q A; exact A
  | load m a k ih => intro h Q A; obtain ⟨v, hv, A⟩ := A; exact ⟨v, hv, ih _ A⟩
  | store m a v k ih => intro h Q A; exact ⟨A.1, A.2.1, A.2.2.1, ih A.2.2.2⟩
  | new o k ih => intro h Q A b hb; exact ih _ (A b hb)
  | shape r k ih => intro h Q A; obtain ⟨o, ho, A⟩ := A; exact ⟨o, ho, ih _ A⟩
  | freeze a n k ih => intro h Q A; exact ⟨A.1, ih A.2⟩
  | frozen a k ih => intro h Q A; exact ⟨A.1, ih _ A.2⟩
  | getObj r k ih => intro h Q A; obtain ⟨o, ho, hr, A⟩ := A; exact ⟨o, ho, hr, ih _ A⟩
  | setObj r o k ih => intro h Q A; exact ⟨A.1, ih A.2⟩
  | choose q' k ih =>
    intro h Q A
    simp only [Sem.bind]
    unfold arun at A ⊢
    by_cases hq : q'.forced = true
    · simp only [hq, if_true] at A ⊢; exact ih _ A
    · simp only [hq, Bool.false_eq_true, if_false] at A ⊢; exact fun t => ih _ (A t)
  | sys c k ih => intro h Q A; exact A.elim
  | program k ih => intro h Q A; exact ih _ A
  | mark m k ih => intro h Q A; exact ih A
  | halt x => intro h Q A; exact A.elim

theorem rrun_bind {P : Program} {α β : Type} (s : Sem α) (f : α → Sem β) : ∀ {h : Hp} {a : α}, rrun P s h = some a → rrun P (s.bind f) h = rrun P (f a) h := by
  induction s with
  | pure a => intro h b A; simp only [rrun, Option.some.injEq] at A; subst A; rfl
  | load m a k ih =>
    intro h b A
    simp only [rrun] at A
    cases hc : h.cell? a with
    | none => simp [hc] at A
    | some v => simp only [hc] at A; simp only [Sem.bind, rrun, hc]; exact ih v A
  | shape r k ih =>
    intro h b A
    simp only [rrun] at A
    cases ho : h r with
    | none => simp [ho] at A
    | some o => simp only [ho] at A; simp only [Sem.bind, rrun, ho]; exact ih _ A
  | frozen a k ih =>
    intro h b A
    simp only [rrun] at A
    cases ho : h a.block with
    | none => simp [ho] at A
    | some o => simp only [ho] at A; simp only [Sem.bind, rrun, ho]; exact ih _ A
  | getObj r k ih =>
    intro h b A
    simp only [rrun] at A
    cases ho : h r with
    | none => simp [ho] at A
    | some o =>
      simp only [ho] at A
      cases hr : isRow o with
      | true => simp [hr] at A
      | false => simp only [hr] at A; simp only [Sem.bind, rrun, ho, hr]; exact ih _ A
  | choose q k ih =>
    intro h b A
    simp only [rrun] at A
    by_cases hq : q.forced = true
    · simp only [hq, if_true] at A; simp only [Sem.bind, rrun, hq, if_true]; exact ih _ A
    · simp [hq] at A
  | program k ih => intro h b A; simp only [rrun] at A; simp only [Sem.bind, rrun]; exact ih P A
  | mark m k ih => intro h b A; simp only [rrun] at A; simp only [Sem.bind, rrun]; exact ih A
  | _ => intro h b A; simp [rrun] at A

end Go.Proofs.Ytncnlfidncjmbaa

/- What code does to a frame and a partial heap, as a formula, and that the machine does the same. -/
namespace Go.Proofs.Ytncnlfidncjmbaa
open Go

abbrev Env := Nat → Value

def Env.set (env : Env) (d : Nat) (v : Value) : Env := fun i => if i = d then v else env i

def put (n : Nat) (env : Env) (dst : Option Tmp) (v : Value) : Env :=
  match dst with
  | some d => if d < n then env.set d v else env
  | none => env

def ev (env : Env) : Operand → Value
  | .tmp t => env t
  | .const v => v
  | .global g => .pointer (some ⟨g, 0, none⟩)
  | .func f => .func (.func f) #[] #[]

/-- The call of a Go function, from a partial heap: it returns, whatever the tape answers. -/
def Ok (P : Program) (f : FuncId) (args : Array Value) (h : Hp) (Q : Value → Hp → Prop) : Prop :=
  (∃ fn c, P.funcs[f]? = some fn ∧ fn.body = some c) ∧
  ∀ w, View h w → Calls P f args w fun e w' => ∃ v h', e = .returned v ∧ View h' w' ∧ Keep h w h' w' ∧ Q v h'

theorem Ok.mono {P : Program} {f : FuncId} {args : Array Value} {h : Hp} {Q Q' : Value → Hp → Prop} (a : Ok P f args h Q) (q : ∀ v h', Q v h' → Q' v h') : Ok P f args h Q' :=
  ⟨a.1, fun w V => (a.2 w V).mono fun _ _ ⟨v, h', e, V', K, r⟩ => ⟨v, h', e, V', K, q _ _ r⟩⟩

/-- The call of a function value. -/
def callV (P : Program) (v : Value) (args : Array Value) (h : Hp) (k : Value → Hp → Prop) : Prop :=
  match v with
  | .func (.func f) first captured => Ok P f (first ++ args ++ captured) h k
  | _ => False

theorem callV.mono {P : Program} {v : Value} {args : Array Value} {h : Hp} {k k' : Value → Hp → Prop} (a : callV P v args h k) (q : ∀ v h', k v h' → k' v h') : callV P v args h k' := by
  unfold callV at *
  split <;> rename_i e
  · exact Ok.mono a q
  · split at a
    · rename_i e2 _; exact (e _ _ _ rfl).elim
    · exact a

def dnext (P : Program) (k : Value → Hp → Prop) : Next → Hp → Prop
  | .value v, h => k v h
  | .skip, h => k undef h
  | .enter f args, h => Ok P f args h k
  | _, _ => False

def nilOk : Value → Bool
  | .pointer none | .nilIface | .nilFunc | .func (.method _) _ _ => false
  | _ => true

/-- A value that is no nil. -/
def nck (x : Value) (q : Prop) : Prop := nilOk x = true ∧ q

/-- An empty heap: what runs over it touches none. -/
def noHp : Hp := fun _ => none

def rdv (o : Option Value) (k : Value → Prop) : Prop := ∃ v, o = some v ∧ k v

def rd (P : Program) (s : Sem Value) (h : Hp) (k : Value → Prop) : Prop := rdv (rrun P s h) k

def isNum (P : Program) (t : TypeId) : Bool :=
  match P.underlying t with
  | some (.int _) | some (.float _) | some (.complex _) => true
  | _ => false

def bop (op : BinOp) (t : TypeId) (x y : Operand) (a b : Value) : Sem Value := do eqGuard op t x y a b; binOp op t a b

def pck (c a b : Value) : Sem Value := do pure (if ← asBool c then a else b)

def amap {α β : Type} (f : α → β) (a : Array α) : Array β := (a.toList.map f).toArray

theorem amap_eq {α β : Type} (f : α → β) (a : Array α) : amap f a = a.map f := by
  apply Array.toList_inj.1
  simp [amap]

def evs (env : Env) (a : Array Operand) : Array Value := amap (ev env) a

theorem evs_eq (env : Env) (a : Array Operand) : evs env a = a.map (ev env) := amap_eq _ _

def evp (env : Env) (a : Array (Nat × Operand)) : Array (Nat × Value) := amap (fun (i, x) => (i, ev env x)) a

theorem evp_eq (env : Env) (a : Array (Nat × Operand)) : evp env a = a.map fun (i, x) => (i, ev env x) := amap_eq _ _

/-- Operations that neither read nor write memory. -/
def pureSem (P : Program) (env : Env) (o : Oper) : Option (Sem Value) :=
  match o.op with
  | .pick c a b => some (pck (ev env c) (ev env a) (ev env b))
  | .build t parts => some (Instr.build t (evp env parts))
  | .binOp op xType x y _ => some (bop op xType x y (ev env x) (ev env y))
  | .unOp op _ x => some (Op.unary op (ev env x))
  | .convert src dst x => if isNum P dst then some (convert src dst (ev env x)) else none
  | .makeInterface xType x => some (Instr.makeInterface xType (ev env x))
  | .makeFunc fn first captured => some (Instr.makeFunc fn (evs env first) (evs env captured))
  | .slice t x lo hi mx => some (Instr.sliceAt t (ev env x) (lo.map (ev env)) (hi.map (ev env)) (mx.map (ev env)))
  | .fieldAddr s x f => some (Instr.fieldAt s (ev env x) f)
  | .field xType x f => some (Instr.field xType (ev env x) f)
  | .indexAddr t x ix => some (Instr.indexAt t (ev env x) (ev env ix))
  | .index xType x ix => some (Instr.index xType (ev env x) (ev env ix))
  | .extract t ix => some (Instr.extract (ev env t) ix)
  | .typeAssert x xType asserted ok => some (Instr.typeAssert (ev env x) xType asserted ok)
  | _ => none

/-- Operations that read memory and write none. -/
def readSem (env : Env) (o : Oper) : Option (Sem Value) :=
  match o.op with
  | .load t a => some (Instr.loadAt t (ev env a))
  | .lookup xType x ix ok => some (Instr.lookup xType (ev env x) (ev env ix) ok)
  | .call { callee := .builtin .len, args, argTypes } => some (Builtin.len_ argTypes o.type (evs env args))
  | .call { callee := .builtin .cap, args, argTypes } => some (Builtin.cap_ argTypes o.type (evs env args))
  | .call { callee := .builtin .min, args, argTypes } => some (Builtin.min_ argTypes o.type (evs env args))
  | .call { callee := .builtin .max, args, argTypes } => some (Builtin.max_ argTypes o.type (evs env args))
  | _ => none

def otherExec (P : Program) (env : Env) (o : Oper) (h : Hp) (k : Value → Hp → Prop) : Prop :=
  match o.op with
  | .move x | .assign x => k (ev env x) h
  | .nilCheck x => nck (ev env x) (k (ev env x) h)
  | .call { callee := .value (.func f), args, .. } => Ok P f (evs env args) h k
  | .call { callee := .value x, args, .. } => callV P (ev env x) (evs env args) h k
  | .call { callee := .builtin .append, args, argTypes } => arun P (Builtin.append_ argTypes o.type (evs env args)) h k
  | .call { callee := .builtin .copy, args, argTypes } => arun P (Builtin.copy_ argTypes o.type (evs env args)) h k
  | .call { callee := .builtin .delete, args, argTypes } => arun P (Builtin.delete_ argTypes o.type (evs env args)) h k
  | .alloc elem => arun P (Instr.alloc elem true (.tuple #[])) h k
  | .box elem x => arun P (Instr.box elem (ev env x)) h k
  | .buildSlice t len parts => arun P (Instr.buildSlice t len (evp env parts)) h k
  | .store t a x => arun P (Instr.storeAt t (ev env a) (ev env x)) h fun _ h => k undef h
  | .convert src dst x => arun P (convert src dst (ev env x)) h k
  | .makeMap t r => arun P (Instr.makeMap t (r.map (ev env))) h k
  | .makeSlice t l c => arun P (Instr.makeSlice t (ev env l) (ev env c)) h k
  | .mapUpdate t m k' x | .insert t m k' x => arun P (Instr.mapUpdate t (ev env m) (ev env k') (ev env x)) h fun _ h => k undef h
  | .mapEntry t m k' => arun P (Instr.mapEntry t (ev env m) (ev env k')) h k
  | .entryStore t m s x => arun P (Instr.entryStore t (ev env m) (ev env s) (ev env x)) h fun _ h => k undef h
  | .range xType x => arun P (Instr.range xType (ev env x)) h k
  | .next it isString => arun P (Instr.next (ev env it) isString o.type) h k
  | .entry it => arun P (Instr.entry (ev env it)) h k
  | .panic _ => False
  | _ => arun P (execOp (ev env) o) h (dnext P k)

def dexec (P : Program) (env : Env) (o : Oper) (h : Hp) (k : Value → Hp → Prop) : Prop :=
  match pureSem P env o with
  | some s => rd P s noHp fun v => k v h
  | none =>
    match readSem env o with
    | some s => rd P s h fun v => k v h
    | none => otherExec P env o h k

/-- An operation under a guard. -/
def gd (c : Bool) (ex : Hp → (Value → Hp → Prop) → Prop) (h : Hp) (k : Value → Hp → Prop) : Prop := if c then ex h k else k undef h

theorem gd_true (ex : Hp → (Value → Hp → Prop) → Prop) (h : Hp) (k : Value → Hp → Prop) : gd true ex h k = ex h k := by unfold gd; simp
theorem gd_false (ex : Hp → (Value → Hp → Prop) → Prop) (h : Hp) (k : Value → Hp → Prop) : gd false ex h k = k undef h := by unfold gd; simp

def yb : Value → Option Bool
  | .bool b => some b
  | _ => none

def yieldedE (ops : Array Oper) (env : Env) (j : Nat) : Option Bool :=
  match (ops[j]?).bind (·.dst) with
  | some d => yb (env d)
  | none => none

def gop (P : Program) (ops : Array Oper) (env : Env) (o : Oper) (h : Hp) (k : Value → Hp → Prop) : Prop :=
  match o.guard with
  | none => dexec P env o h k
  | some (j, want) => gd (yieldedE ops env j == some want) (dexec P env o) h k

def dOp (P : Program) (n : Nat) (ops : Array Oper) (i : Nat) (env : Env) (h : Hp) (K : Env → Hp → Prop) : Prop :=
  match ops[i]? with
  | none => K env h
  | some o => gop P ops env o h fun v h' => K (put n env o.dst v) h'

def dops (P : Program) (n : Nat) (ops : Array Oper) : List Nat → Env → Hp → (Env → Hp → Prop) → Prop
  | [], env, h, K => K env h
  | i :: rest, env, h, K => dOp P n ops i env h fun env' h' => dops P n ops rest env' h' K

/-! ### Soundness of one operation -/

structure Fits (n : Nat) (a : Act) (env : Env) : Prop where
  size : a.tmps.size = n
  get : ∀ t, a.tmps.getD t undef = env t

theorem Fits.eval {n : Nat} {a : Act} {env : Env} (F : Fits n a env) (x : Operand) : a.eval x = ev env x := by
  cases x with
  | tmp t => exact F.get t
  | _ => rfl

theorem Fits.evalf {n : Nat} {a : Act} {env : Env} (F : Fits n a env) : a.eval = ev env := funext F.eval

theorem Fits.put {n : Nat} {a : Act} {env : Env} (F : Fits n a env) (dst : Option Tmp) (v : Value) : Fits n (a.put dst v) (put n env dst v) := by
  cases dst with
  | none => exact F
  | some d =>
    refine ⟨by simp [Act.put, F.size], fun t => ?_⟩
    simp only [Act.put, Ytncnlfidncjmbaa.put]
    by_cases hd : d < n
    · rw [if_pos hd]
      by_cases ht : t = d
      · subst ht
        have : t < a.tmps.size := by rw [F.size]; exact hd
        simp [Env.set, Array.getD_eq_getD_getElem?, this]
      · have := F.get t
        simp only [Array.getD_eq_getD_getElem?] at this ⊢
        rw [Array.getElem?_setIfInBounds_ne (Ne.symm ht), this]
        simp [Env.set, ht]
    · rw [if_neg hd]
      have : a.tmps.setIfInBounds d v = a.tmps := by
        unfold Array.setIfInBounds; rw [dif_neg (by rw [F.size]; exact hd)]
      rw [this]; exact F.get t

theorem Fits.yielded {n : Nat} {a : Act} {env : Env} (F : Fits n a env) (ops : Array Oper) (j : Nat) : yielded ops a.tmps j = yieldedE ops env j := by
  unfold Go.yielded yieldedE
  cases hd : (ops[j]?).bind (·.dst) with
  | none => rfl
  | some d =>
    have h := F.get d
    simp only [Array.getD_eq_getD_getElem?] at h
    simp only [Option.bind_some]
    cases ht : a.tmps[d]? with
    | none => rw [ht] at h; simp at h; rw [← h]; rfl
    | some v => rw [ht] at h; simp at h; rw [← h]; cases v <;> rfl

def progOk (P : Program) : Bool :=
  P.follows .mixedOrders && P.funcs.all fun fn => fn.body.isNone || fn.name != "runtime.NumGoroutine"

theorem callFunc_run {P : Program} (hP : progOk P = true) {f : FuncId} {fn : Func} {c : Code} (hf : P.funcs[f]? = some fn) (hb : fn.body = some c) (args : Array Value) (w : World) :
    (callFunc f args).run P w = .ok (.enter f args) w := by
  simp only [progOk, Bool.and_eq_true, Array.all_eq_true_iff_forall_mem] at hP
  have h := hP.2 fn (Array.mem_of_getElem? hf)
  simp only [hb, Option.isNone_some, Bool.false_or] at h
  have hn : (fn.name == "runtime.NumGoroutine") = false := by simpa using h
  unfold callFunc
  show Sem.run P (Sem.program fun p => _) w = _
  simp only [Sem.run, Sem.bind, bind, hf, hn, hb, Option.isNone_some, Bool.false_eq_true, if_false, pure]

/-- What one operation of the machine comes to. -/
def Wpo (P : Program) (o : Oper) (a : Act) (w : World) (k : Value → World → Prop) : Prop :=
  match (execOp a.eval o).run P w with
  | .ok (.value v) w' => k v w'
  | .ok .skip w' => k undef w'
  | .ok (.enter f args) w' => Calls P f args w' fun e w'' => ∃ v, e = .returned v ∧ k v w''
  | _ => False

theorem Wpo.wp {P : Program} {o : Oper} {a : Act} {w : World} {next : Act → World → Prop} {Q : Exit → Act → World → Prop} (h : Wpo P o a w fun v w' => next (a.put o.dst v) w') :
    o.wp P a w next Q := by
  unfold Wpo at h
  unfold Oper.wp
  generalize (execOp a.eval o).run P w = r at *
  cases r with
  | halt x w' => exact h.elim
  | ok x w' =>
    cases x <;> simp only at h <;> simp only [Oper.upon]
    case value v => exact h
    case skip => exact h
    case enter f args => exact h.mono fun e w'' ⟨v, he, hk⟩ => by subst he; exact hk
    all_goals exact h.elim

theorem value_run {P : Program} {s : Sem Value} {w w' : World} {v : Value} (h : s.run P w = .ok v w') : Sem.run P (do pure (Next.value (← s))) w = .ok (.value v) w' := by
  show Sem.run P (s.bind fun v => Sem.pure (Next.value v)) w = _
  rw [Sem.run_bind', h]; rfl

theorem skip_run {P : Program} {s : Sem Unit} {w w' : World} {v : Unit} (h : s.run P w = .ok v w') : Sem.run P (do s; pure Next.skip) w = .ok .skip w' := by
  show Sem.run P (s.bind fun _ => Sem.pure Next.skip) w = _
  rw [Sem.run_bind', h]; rfl

section
variable {P : Program} {o : Oper} {a : Act} {w : World} {env : Env} {h : Hp} {k : Value → Hp → Prop}

def Does (P : Program) (o : Oper) (a : Act) (h : Hp) (w : World) (k : Value → Hp → Prop) : Prop :=
  Wpo P o a w fun v w' => ∃ h', View h' w' ∧ Keep h w h' w' ∧ k v h'

theorem Does.read {s : Sem Value} {h0 : Hp} (V : View h w) (V0 : View h0 w) (he : execOp a.eval o = do pure (Next.value (← s))) (A : rd P s h0 fun v => k v h) : Does P o a h w k := by
  obtain ⟨v, hv, hk⟩ := A
  unfold Does Wpo
  rw [he, value_run (rrun_sound s V0 hv)]
  exact ⟨h, V, Keep.refl _ _, hk⟩

theorem Does.value {s : Sem Value} (V : View h w) (he : execOp a.eval o = do pure (Next.value (← s))) (A : arun P s h k) : Does P o a h w k := by
  obtain ⟨v, w', h', hr, V', K, hk⟩ := arun_sound s V A
  unfold Does Wpo
  rw [he, value_run hr]
  exact ⟨h', V', K, hk⟩

theorem Does.unit {s : Sem Unit} (V : View h w) (he : execOp a.eval o = do s; pure Next.skip) (A : arun P s h fun _ h => k undef h) : Does P o a h w k := by
  obtain ⟨v, w', h', hr, V', K, hk⟩ := arun_sound s V A
  unfold Does Wpo
  rw [he, skip_run hr]
  exact ⟨h', V', K, hk⟩

theorem Does.is {v : Value} (V : View h w) (he : execOp a.eval o = pure (Next.value v)) (A : k v h) : Does P o a h w k := by
  unfold Does Wpo
  rw [he]
  exact ⟨h, V, Keep.refl _ _, A⟩

theorem Does.next (V : View h w) (A : arun P (execOp a.eval o) h (dnext P k)) : Does P o a h w k := by
  obtain ⟨x, w', h', hr, V', K, hk⟩ := arun_sound _ V A
  unfold Does Wpo
  rw [hr]
  cases x <;> simp only [dnext] at hk
  case value v => exact ⟨h', V', K, hk⟩
  case skip => exact ⟨h', V', K, hk⟩
  case enter f args =>
    refine (hk.2 w' V').mono ?_
    rintro e w'' ⟨v, h'', he, V2, K2, hk2⟩
    exact ⟨v, he, h'', V2, K.trans K2, hk2⟩

theorem Does.static (hP : progOk P = true) {f : FuncId} {args : Array Operand} {argTypes : Array TypeId} (V : View h w)
    (ho : o.op = .call { callee := .value (.func f), args, argTypes }) (A : Ok P f (args.map a.eval) h k) : Does P o a h w k := by
  obtain ⟨⟨fn, c, hf, hb⟩, A⟩ := A
  have he : (execOp a.eval o).run P w = .ok (.enter f (args.map a.eval)) w := by
    have : execOp a.eval o = callFunc f (#[] ++ args.map a.eval ++ #[]) := by
      unfold execOp
      simp only [ho]
      rfl
    rw [this, callFunc_run hP hf hb]
    simp
  unfold Does Wpo
  rw [he]
  refine (A w V).mono ?_
  rintro e w'' ⟨v, h'', he, V2, K2, hk2⟩
  exact ⟨v, he, h'', V2, K2, hk2⟩

theorem Does.callv (hP : progOk P = true) {x : Operand} {args : Array Operand} {argTypes : Array TypeId} (V : View h w)
    (ho : o.op = .call { callee := .value x, args, argTypes }) (A : callV P (a.eval x) (args.map a.eval) h k) : Does P o a h w k := by
  unfold callV at A
  split at A
  · rename_i f first captured hv
    obtain ⟨⟨fn, c, hf, hb⟩, A⟩ := A
    have he : (execOp a.eval o).run P w = .ok (.enter f (first ++ args.map a.eval ++ captured)) w := by
      have : execOp a.eval o = callFunc f (first ++ args.map a.eval ++ captured) := by
        unfold execOp
        simp only [ho, resolve, hv]
        rfl
      rw [this, callFunc_run hP hf hb]
    unfold Does Wpo
    rw [he]
    refine (A w V).mono ?_
    rintro e w'' ⟨v, h'', he, V2, K2, hk2⟩
    exact ⟨v, he, h'', V2, K2, hk2⟩
  · exact A.elim

theorem View.no (w : World) : View noHp w := fun _ _ e => by cases e

theorem dexec_sound {n : Nat} (hP : progOk P = true) (F : Fits n a env) (V : View h w) (D : dexec P env o h k) : Does P o a h w k := by
  have hF := F.evalf
  unfold dexec at D
  cases hp : pureSem P env o with
  | some s =>
    simp only [hp] at D
    refine Does.read V (View.no w) ?_ D
    unfold pureSem at hp
    unfold execOp
    rw [hF]
    cases ho : o.op <;> simp only [ho] at hp ⊢ <;> first
      | cases hp; done
      | (simp only [Option.some.injEq] at hp; subst hp; rfl)
      | (simp only [Option.some.injEq] at hp; subst hp; simp only [pck, bind_assoc, pure_bind]; done)
      | (simp only [Option.some.injEq] at hp; subst hp; simp only [evs_eq, evp_eq]; first | done | rfl)
      | (split at hp <;> first | cases hp; done | (simp only [Option.some.injEq] at hp; subst hp; rfl))
  | none =>
    simp only [hp] at D
    cases hr : readSem env o with
    | some s =>
      simp only [hr] at D
      refine Does.read V V ?_ D
      unfold readSem at hr
      unfold execOp
      rw [hF]
      split at hr <;> rename_i ho <;> simp only [ho] <;> first
        | cases hr; done
        | (simp only [Option.some.injEq] at hr; subst hr; rfl)
        | (simp only [Option.some.injEq] at hr; subst hr; simp only [evs_eq]; first | done | rfl)
    | none =>
      simp only [hr] at D
      unfold otherExec at D
      simp only [evs_eq, evp_eq] at D
      rw [← hF] at D
      split at D <;> rename_i ho
      all_goals first
        | exact D.elim
        | exact Does.static hP V ho D
        | exact Does.callv hP V ho D
        | exact Does.next V D
        | (refine Does.value V ?_ D; unfold execOp; simp only [ho]; try rfl)
        | (refine Does.unit V ?_ D; unfold execOp; simp only [ho]; try rfl)
        | (refine Does.is V ?_ D; unfold execOp; simp only [ho]; try rfl)
        | skip
      · obtain ⟨hn, hk⟩ := D
        refine Does.is V ?_ hk
        unfold execOp
        simp only [ho]
        cases hv : a.eval ‹Operand› <;> rw [hv] at hn <;> first
          | rfl
          | (rename_i fn first captured; cases fn <;> first | (simp [nilOk] at hn; done) | rfl)
          | (rename_i x; cases x <;> first | (simp [nilOk] at hn; done) | rfl)
          | simp [nilOk] at hn
end

end Go.Proofs.Ytncnlfidncjmbaa

/- Regions: in the text's order, and in any order. -/
namespace Go.Proofs.Ytncnlfidncjmbaa
open Go

def preds (ops : Array Oper) (j : Nat) : List Nat :=
  match ops[j]? with
  | some o => (o.after.toList.filter fun e => Region.binds .any e).map (·.on)
  | none => []

def reach (ops : Array Oper) : Nat → List Nat → List Nat
  | 0, _ => []
  | k + 1, S => S ++ (match S with | [] => [] | _ => reach ops k (S.flatMap (preds ops)).eraseDups)

/-- i comes ahead of j by the region's edges. -/
def bef (ops : Array Oper) (i j : Nat) : Bool := (reach ops ops.size (preds ops j)).contains i

def regionGood (ops : Array Oper) : Bool :=
  Region.noSelect ops &&
  (List.range ops.size).all fun j => (List.range ops.size).all fun i =>
    i == j || bef ops i j || bef ops j i || (match ops[i]?, ops[j]? with | some x, some y => x.apart ops y | _, _ => true)

def isRd (P : Program) (o : Oper) : Bool :=
  match o.op with
  | .move _ | .assign _ | .nilCheck _ => true
  | _ => (pureSem P (fun _ => undef) o).isSome || (readSem (fun _ => undef) o).isSome

def isRdI (P : Program) (ops : Array Oper) (i : Nat) : Bool :=
  match ops[i]? with
  | some o => isRd P o
  | none => false

def rval (P : Program) (env : Env) (o : Oper) (h : Hp) : Option Value :=
  match o.op with
  | .move x | .assign x => some (ev env x)
  | .nilCheck x => if nilOk (ev env x) then some (ev env x) else none
  | _ =>
    match pureSem P env o with
    | some s => rrun P s noHp
    | none =>
      match readSem env o with
      | some s => rrun P s h
      | none => none

/-- The operation would still yield v. -/
def gchk (P : Program) (ops : Array Oper) (env : Env) (o : Oper) (v : Value) (h : Hp) : Prop :=
  match o.guard with
  | none => rval P env o h = some v
  | some (j, want) => (yieldedE ops env j == some want) = true → rval P env o h = some v

abbrev Pend := List (Nat × (Hp → Prop))

def updP (P : Program) (ops : Array Oper) (pend : Pend) (j : Nat) : Pend :=
  match isRdI P ops j with
  | true => pend
  | false => pend.filter fun p => !bef ops p.1 j

def dAnyP (P : Program) (n : Nat) (ops : Array Oper) : Nat → Pend → Array Bool → Env → Hp → (Env → Hp → Prop) → Prop
  | 0, _, listed, env, h, K => Region.ready .any ops listed = [] ∧ K env h
  | fuel + 1, pend, listed, env, h, K =>
    (Region.ready .any ops listed = [] → K env h) ∧
    ∀ j ∈ Region.ready .any ops listed, dOp P n ops j env h fun env' h' =>
      (∀ p ∈ updP P ops pend j, p.2 h') ∧ dAnyP P n ops fuel (updP P ops pend j) (listed.setIfInBounds j true) env' h' K

def dchk : Pend → Hp → Prop
  | [], _ => True
  | p :: rest, h => p.2 h ∧ dchk rest h

def dall : List Nat → (Nat → Prop) → Prop
  | [], _ => True
  | [j], f => f j
  | j :: rest, f => f j ∧ dall rest f

def isHeapRd (env : Env) (o : Oper) : Bool := (readSem env o).isSome

def dreg (P : Program) (n : Nat) (ops : Array Oper) : Nat → Pend → Array Bool → Env → Hp → (Env → Hp → Prop) → Prop
  | 0, _, listed, env, h, K =>
    match Region.ready .any ops listed with
    | [] => K env h
    | _ => False
  | fuel + 1, pend, listed, env, h, K =>
    match (Region.ready .any ops listed).find? (isRdI P ops) with
    | some i =>
      (match ops[i]? with
      | some o => gop P ops env o h fun v h' =>
          dreg P n ops fuel (match isHeapRd env o with | true => (i, gchk P ops env o v) :: pend | false => pend) (listed.setIfInBounds i true) (put n env o.dst v) h' K
      | none => False)
    | none =>
      match Region.ready .any ops listed with
      | [] => K env h
      | rs => dall rs fun j => dOp P n ops j env h fun env' h' =>
          dchk (updP P ops pend j) h' ∧ dreg P n ops fuel (updP P ops pend j) (listed.setIfInBounds j true) env' h' K

/-! ### Congruence -/

theorem ev_put {n : Nat} {env : Env} {dst : Option Tmp} {v : Value} {x : Operand} (h : ∀ d, dst = some d → x ≠ .tmp d) : ev (put n env dst v) x = ev env x := by
  cases dst with
  | none => rfl
  | some d =>
    cases x with
    | tmp t =>
      have hne : t ≠ d := fun e => h d rfl (e ▸ rfl)
      simp only [ev, put]
      split
      · simp [Env.set, hne]
      · rfl
    | _ => rfl

theorem put_comm (n : Nat) (env : Env) {x y : Option Tmp} (v u : Value) (h : ∀ d, x = some d → y ≠ some d) :
    put n (put n env x v) y u = put n (put n env y u) x v := by
  cases x with
  | none => rfl
  | some d =>
    cases y with
    | none => rfl
    | some e =>
      have hne : d ≠ e := fun he => h d rfl (he ▸ rfl)
      funext t
      simp only [put]
      by_cases h1 : d < n <;> by_cases h2 : e < n <;> simp only [h1, h2, if_true, if_false] <;> simp only [Env.set]
      by_cases ht : t = e
      · subst ht; simp [Ne.symm hne]
      · simp [ht]

theorem dexec_congr {P : Program} {env env' : Env} {o : Oper} (hs : ∀ cs b, o.op ≠ .select cs b) (h : ∀ x ∈ o.op.operands, ev env x = ev env' x) (hp : Hp) (k : Value → Hp → Prop) :
    dexec P env o hp k = dexec P env' o hp k := by
  have hx := execOp_congr o hs h
  have hmap : ∀ xs : Array Operand, (∀ x ∈ xs, x ∈ o.op.operands) → evs env xs = evs env' xs := fun xs hm => by
    rw [evs_eq, evs_eq]; exact Array.map_congr_left fun x hx => h x (hm x hx)
  have pairs : ∀ ps : Array (Nat × Operand), (∀ x ∈ ps.map (·.2), ev env x = ev env' x) →
      evp env ps = evp env' ps := fun ps hp => by
    rw [evp_eq, evp_eq]
    exact Array.map_congr_left fun p hm => by
      obtain ⟨i, x⟩ := p
      simp only [hp x (Array.mem_map.2 ⟨(i, x), hm, rfl⟩)]
  obtain ⟨dst, op, type, pos, after, guard⟩ := o
  cases op <;> simp only [Op.operands] at h hmap <;> simp only [dexec, pureSem, readSem, otherExec]
  case call c =>
    obtain ⟨callee, args, argTypes⟩ := c
    simp only [Call.operands] at hmap
    have hargs : evs env args = evs env' args := hmap args (fun x hx => by simp [hx])
    cases callee with
    | builtin b => cases b <;> simp only [hargs, hx]
    | value f =>
      have hf : ev env f = ev env' f := h f (by simp [Call.operands])
      cases f <;> simp only [hargs, hf]
    | invoke r m => simp only [hx]
  case build t ps => rw [pairs ps fun x hx => h x (by simpa using hx)]
  case buildSlice t n ps => rw [pairs ps fun x hx => h x (by simpa using hx)]
  case makeFunc fn first captured =>
    rw [hmap first (fun x hx => by simp [hx]), hmap captured (fun x hx => by simp [hx])]
  case makeMap t r => cases r <;> simp_all
  case slice t x lo hi mx => cases lo <;> cases hi <;> cases mx <;> simp_all
  all_goals (first | rfl | (simp_all; done) | (simp only [hx]; done))

theorem yieldedE_put {n : Nat} {ops : Array Oper} {env : Env} {dst : Option Tmp} {v : Value} {g : Nat} (h : ∀ d t, dst = some d → (ops[g]?).bind (·.dst) = some t → d ≠ t) :
    yieldedE ops (put n env dst v) g = yieldedE ops env g := by
  unfold yieldedE
  cases ht : (ops[g]?).bind (·.dst) with
  | none => rfl
  | some t =>
    have : put n env dst v t = env t := ev_put (x := .tmp t) (fun d hd e => h d t hd ht (by cases e; rfl))
    simp only [this]

theorem looks_op {ops : Array Oper} {o : Oper} {x : Operand} {d : Tmp} (hx : x ∈ o.op.operands) (he : x = .tmp d) : d ∈ o.looksAt ops := by
  subst he
  exact List.mem_append_left _ (List.mem_filterMap.2 ⟨.tmp d, by simpa using hx, rfl⟩)

theorem looks_guard {ops : Array Oper} {o : Oper} {g : Nat} {want : Bool} {t : Tmp} (hg : o.guard = some (g, want)) (ht : (ops[g]?).bind (·.dst) = some t) : t ∈ o.looksAt ops := by
  unfold Oper.looksAt
  rw [hg]
  exact List.mem_append_right _ (by simp [ht])

theorem gop_put {P : Program} {n : Nat} {ops : Array Oper} {o : Oper} (hs : ∀ cs b, o.op ≠ .select cs b) {env : Env} {dst : Option Tmp} {v : Value} (h : ∀ d, dst = some d → d ∉ o.looksAt ops)
    (hp : Hp) (k : Value → Hp → Prop) : gop P ops (put n env dst v) o hp k = gop P ops env o hp k := by
  have he : ∀ hp k, dexec P (put n env dst v) o hp k = dexec P env o hp k := fun hp k =>
    dexec_congr hs (fun x hx => ev_put fun d hd e => h d hd (looks_op hx e)) hp k
  unfold gop
  cases hg : o.guard with
  | none => exact he _ _
  | some gw =>
    obtain ⟨g, want⟩ := gw
    simp only
    rw [yieldedE_put (fun d t hd ht e => h d hd (by subst e; exact looks_guard hg ht))]
    unfold gd
    rw [he]

theorem dexec_mono {P : Program} {env : Env} {o : Oper} {h : Hp} {k k' : Value → Hp → Prop} (q : ∀ v h, k v h → k' v h) (D : dexec P env o h k) : dexec P env o h k' := by
  unfold dexec at *
  cases hp : pureSem P env o with
  | some s => simp only [hp] at D ⊢; obtain ⟨v, hv, hk⟩ := D; exact ⟨v, hv, q _ _ hk⟩
  | none =>
    simp only [hp] at D ⊢
    cases hr : readSem env o with
    | some s => simp only [hr] at D ⊢; obtain ⟨v, hv, hk⟩ := D; exact ⟨v, hv, q _ _ hk⟩
    | none =>
      simp only [hr] at D ⊢
      unfold otherExec at *
      split <;> rename_i ho <;> simp only [ho] at D
      all_goals first
        | exact q _ _ D
        | exact ⟨D.1, q _ _ D.2⟩
        | exact Ok.mono D q
        | exact callV.mono D q
        | exact arun_mono _ q D
        | exact arun_mono _ (fun _ h x => q _ h x) D
        | skip
      refine arun_mono _ (fun x h hx => ?_) D
      cases x <;> simp only [dnext] at hx ⊢ <;> first | exact q _ _ hx | exact Ok.mono hx q | exact hx.elim

theorem gop_mono {P : Program} {ops : Array Oper} {env : Env} {o : Oper} {h : Hp} {k k' : Value → Hp → Prop} (q : ∀ v h, k v h → k' v h) (D : gop P ops env o h k) : gop P ops env o h k' := by
  unfold gop gd at *
  split
  · rename_i hg; simp only [hg] at D; exact dexec_mono q D
  · rename_i j want hg
    simp only [hg] at D
    split
    · rename_i hc; simp only [hc, if_true] at D; exact dexec_mono q D
    · rename_i hc; simp only [hc] at D; exact q _ _ D

theorem dOp_mono {P : Program} {n : Nat} {ops : Array Oper} {i : Nat} {env : Env} {h : Hp} {K K' : Env → Hp → Prop} (q : ∀ e h, K e h → K' e h) (D : dOp P n ops i env h K) : dOp P n ops i env h K' := by
  unfold dOp at *
  split
  · rename_i ho; simp only [ho] at D; exact q _ _ D
  · rename_i o ho; simp only [ho] at D; exact gop_mono (fun v h hk => q _ _ hk) D

theorem pureSem_isSome (P : Program) (env env' : Env) (o : Oper) : (pureSem P env o).isSome = (pureSem P env' o).isSome := by
  unfold pureSem
  cases o.op <;> simp only [] <;> first | rfl | (split <;> rfl)

theorem readSem_isSome (env env' : Env) (o : Oper) : (readSem env o).isSome = (readSem env' o).isSome := by
  unfold readSem
  split <;> rfl

theorem dexec_rd {P : Program} {env : Env} {o : Oper} {h : Hp} {k : Value → Hp → Prop} (hr : isRd P o = true) (D : dexec P env o h k) : ∃ v, rval P env o h = some v ∧ k v h := by
  have special : ∀ x, (o.op = .move x ∨ o.op = .assign x ∨ o.op = .nilCheck x) → pureSem P env o = none ∧ readSem env o = none := by
    intro x hx
    rcases hx with hx | hx | hx <;> simp [pureSem, readSem, hx]
  unfold dexec at D
  cases hp : pureSem P env o with
  | some s =>
    simp only [hp] at D
    obtain ⟨v, hv, hk⟩ := D
    refine ⟨v, ?_, hk⟩
    unfold rval
    split <;> rename_i ho
    · have := (special _ (.inl ho)).1; rw [hp] at this; cases this
    · have := (special _ (.inr (.inl ho))).1; rw [hp] at this; cases this
    · have := (special _ (.inr (.inr ho))).1; rw [hp] at this; cases this
    · simp only [hp]; exact hv
  | none =>
    simp only [hp] at D
    cases hs : readSem env o with
    | some s =>
      simp only [hs] at D
      obtain ⟨v, hv, hk⟩ := D
      refine ⟨v, ?_, hk⟩
      unfold rval
      split <;> rename_i ho
      · have := (special _ (.inl ho)).2; rw [hs] at this; cases this
      · have := (special _ (.inr (.inl ho))).2; rw [hs] at this; cases this
      · have := (special _ (.inr (.inr ho))).2; rw [hs] at this; cases this
      · simp only [hp, hs]; exact hv
    | none =>
      simp only [hs] at D
      unfold isRd at hr
      unfold otherExec at D
      split at hr <;> rename_i ho
      · simp only [ho] at D; exact ⟨_, by simp [rval, ho], D⟩
      · simp only [ho] at D; exact ⟨_, by simp [rval, ho], D⟩
      · simp only [ho] at D; exact ⟨_, by simp [rval, ho, D.1], D.2⟩
      · rw [pureSem_isSome P _ env, readSem_isSome _ env, hp, hs] at hr; simp at hr

theorem dexec_of_rval {P : Program} {env : Env} {o : Oper} {h : Hp} {k : Value → Hp → Prop} {v : Value} (hv : rval P env o h = some v) (hk : k v h) : dexec P env o h k := by
  unfold rval at hv
  split at hv <;> rename_i ho
  · cases hv; simp only [dexec, pureSem, readSem, otherExec, ho]; exact hk
  · cases hv; simp only [dexec, pureSem, readSem, otherExec, ho]; exact hk
  · split at hv
    · rename_i hn; cases hv; simp only [dexec, pureSem, readSem, otherExec, ho]; exact ⟨hn, hk⟩
    · cases hv
  · unfold dexec
    cases hp : pureSem P env o with
    | some s => simp only [hp] at hv ⊢; exact ⟨v, hv, hk⟩
    | none =>
      simp only [hp] at hv ⊢
      cases hs : readSem env o with
      | some s => simp only [hs] at hv ⊢; exact ⟨v, hv, hk⟩
      | none => simp [hs] at hv

/-- What a reader under its guard yields. -/
def gval (P : Program) (ops : Array Oper) (env : Env) (o : Oper) (h : Hp) : Option Value :=
  match o.guard with
  | none => rval P env o h
  | some (j, want) => if yieldedE ops env j == some want then rval P env o h else some undef

theorem gop_rd {P : Program} {ops : Array Oper} {env : Env} {o : Oper} {h : Hp} {k : Value → Hp → Prop} (hr : isRd P o = true) (D : gop P ops env o h k) : ∃ v, gval P ops env o h = some v ∧ k v h := by
  unfold gop gd at D
  unfold gval
  cases hg : o.guard with
  | none => simp only [hg] at D ⊢; exact dexec_rd hr D
  | some gw =>
    obtain ⟨j, want⟩ := gw
    simp only [hg] at D ⊢
    cases hc : (yieldedE ops env j == some want) with
    | true => simp only [hc, if_true] at D ⊢; exact dexec_rd hr D
    | false => simp only [hc] at D ⊢; exact ⟨undef, rfl, D⟩

theorem gop_of_gval {P : Program} {ops : Array Oper} {env : Env} {o : Oper} {h : Hp} {k : Value → Hp → Prop} {v : Value} (hv : gval P ops env o h = some v) (hk : k v h) : gop P ops env o h k := by
  unfold gval at hv
  unfold gop gd
  cases hg : o.guard with
  | none => simp only [hg] at hv ⊢; exact dexec_of_rval hv hk
  | some gw =>
    obtain ⟨j, want⟩ := gw
    simp only [hg] at hv ⊢
    cases hc : (yieldedE ops env j == some want) with
    | true => simp only [hc, if_true] at hv ⊢; exact dexec_of_rval hv hk
    | false => simp only [hc] at hv ⊢; cases hv; exact hk

theorem gval_put {P : Program} {n : Nat} {ops : Array Oper} {o : Oper} (hr : isRd P o = true) (hs : ∀ cs b, o.op ≠ .select cs b) {env : Env} {dst : Option Tmp} {v : Value} (h : ∀ d, dst = some d → d ∉ o.looksAt ops)
    (hp : Hp) : gval P ops (put n env dst v) o hp = gval P ops env o hp := by
  have key : ∀ u, gval P ops (put n env dst v) o hp = some u ↔ gval P ops env o hp = some u := by
    intro u
    constructor
    · intro hu
      have := gop_of_gval (k := fun v _ => v = u) hu rfl
      rw [gop_put hs h] at this
      obtain ⟨v, hv, rfl⟩ := gop_rd hr this
      exact hv
    · intro hu
      have := gop_of_gval (k := fun v _ => v = u) hu rfl
      rw [← gop_put (n := n) (dst := dst) (v := v) hs h] at this
      obtain ⟨v, hv, rfl⟩ := gop_rd hr this
      exact hv
  cases h1 : gval P ops (put n env dst v) o hp with
  | some u => exact ((key u).1 h1).symm
  | none =>
    cases h2 : gval P ops env o hp with
    | none => rfl
    | some u => rw [(key u).2 h2] at h1; cases h1

theorem gchk_gval {P : Program} {ops : Array Oper} {env : Env} {o : Oper} {h h' : Hp} {v : Value} (hv : gval P ops env o h = some v) : gchk P ops env o v h' → gval P ops env o h' = some v := by
  unfold gval at hv
  unfold gval gchk
  cases hg : o.guard with
  | none => simp only [hg] at hv ⊢; exact id
  | some gw =>
    obtain ⟨j, want⟩ := gw
    simp only [hg] at hv ⊢
    cases hc : (yieldedE ops env j == some want) with
    | true => simp
    | false => simp only [hc] at hv; simp; simpa using hv

end Go.Proofs.Ytncnlfidncjmbaa

/- Regions in any order, and code: soundness. -/
namespace Go.Proofs.Ytncnlfidncjmbaa
open Go

def Down (ops : Array Oper) (listed : Array Bool) : Prop := ∀ j, listed.getD j false = true → ∀ e ∈ preds ops j, listed.getD e false = true

theorem ready_preds {ops : Array Oper} {listed : Array Bool} {j : Nat} (hj : j ∈ Region.ready .any ops listed) : ∀ e ∈ preds ops j, listed.getD e false = true := by
  obtain ⟨_, o, ho, hall⟩ := mem_ready.1 hj
  intro e he
  unfold preds at he
  simp only [ho, List.mem_map, List.mem_filter, Array.mem_toList_iff] at he
  obtain ⟨x, ⟨hx, hb⟩, rfl⟩ := he
  exact hall x hx hb

theorem Down.set {ops : Array Oper} {listed : Array Bool} {j : Nat} (hd : Down ops listed) (hj : j ∈ Region.ready .any ops listed) : Down ops (listed.setIfInBounds j true) := by
  intro i hi e he
  by_cases hij : i = j
  · subst hij; exact getD_set_true (ready_preds hj e he)
  · rw [getD_set_ne false (Ne.symm hij)] at hi
    exact getD_set_true (hd i hi e he)

theorem reach_listed {ops : Array Oper} {listed : Array Bool} (hd : Down ops listed) : ∀ k S, (∀ x ∈ S, listed.getD x false = true) → ∀ x ∈ reach ops k S, listed.getD x false = true := by
  intro k
  induction k with
  | zero => intro S _ x hx; simp [reach] at hx
  | succ k ih =>
    intro S hS x hx
    simp only [reach, List.mem_append] at hx
    rcases hx with hx | hx
    · exact hS x hx
    · split at hx
      · cases hx
      · refine ih _ (fun y hy => ?_) x hx
        rw [List.mem_eraseDups, List.mem_flatMap] at hy
        obtain ⟨z, hz, hy⟩ := hy
        exact hd z (hS z hz) y hy

theorem not_bef {ops : Array Oper} {listed : Array Bool} {i j : Nat} (hd : Down ops listed) (hi : i ∈ Region.ready .any ops listed) (hj : j ∈ Region.ready .any ops listed) : bef ops i j = false := by
  cases h : bef ops i j with
  | false => rfl
  | true =>
    unfold bef at h
    have h1 := reach_listed hd _ _ (ready_preds hj) i (by simpa using h)
    obtain ⟨h0, o, ho, _⟩ := mem_ready.1 hi
    rcases Nat.lt_or_ge i listed.size with h' | h'
    · simp [h'] at h0 h1; rw [h0] at h1; cases h1
    · simp [Array.getElem?_eq_none h'] at h1

theorem apart_of_good {ops : Array Oper} (hg : regionGood ops = true) {i j : Nat} {oi oj : Oper} (hi : ops[i]? = some oi) (hj : ops[j]? = some oj) (hne : i ≠ j)
    (h1 : bef ops i j = false) (h2 : bef ops j i = false) : oi.apart ops oj = true := by
  simp only [regionGood, Bool.and_eq_true, List.all_eq_true, List.mem_range] at hg
  have := hg.2 j (Array.getElem?_eq_some_iff.1 hj).1 i (Array.getElem?_eq_some_iff.1 hi).1
  simpa [hi, hj, h1, h2, hne] using this

theorem mem_updP {P : Program} {ops : Array Oper} {pend : Pend} {j : Nat} {p : Nat × (Hp → Prop)} : p ∈ updP P ops pend j ↔ p ∈ pend ∧ (isRdI P ops j = false → bef ops p.1 j = false) := by
  unfold updP
  cases h : isRdI P ops j <;> simp

theorem dAnyP_mono {P : Program} {n : Nat} {ops : Array Oper} {K : Env → Hp → Prop} : ∀ (fuel : Nat) (p1 p2 : Pend) (listed : Array Bool) (env : Env) (h : Hp), (∀ p ∈ p1, p ∈ p2 ∨ ∀ h, p.2 h) →
    dAnyP P n ops fuel p2 listed env h K → dAnyP P n ops fuel p1 listed env h K := by
  intro fuel
  induction fuel with
  | zero => intro p1 p2 listed env h _ D; exact D
  | succ fuel ih =>
    intro p1 p2 listed env h hp D
    refine ⟨D.1, fun j hj => dOp_mono (fun env' h' hk => ⟨fun p hpp => ?_, ih _ _ _ _ _ (fun p hpp => ?_) hk.2⟩) (D.2 j hj)⟩
    · obtain ⟨hm, hb⟩ := mem_updP.1 hpp
      rcases hp p hm with h2 | h2
      · exact hk.1 p (mem_updP.2 ⟨h2, hb⟩)
      · exact h2 _
    · obtain ⟨hm, hb⟩ := mem_updP.1 hpp
      rcases hp p hm with h2 | h2
      · exact .inl (mem_updP.2 ⟨h2, hb⟩)
      · exact .inr h2

theorem dAnyP_first {P : Program} {n : Nat} {ops : Array Oper} {K : Env → Hp → Prop} (hg : regionGood ops = true) {i : Nat} {oi : Oper} (hi : ops[i]? = some oi) (hrd : isRd P oi = true) {v : Value} {R : Hp → Prop} :
    ∀ (fuel : Nat) (pend : Pend) (listed : Array Bool) (env : Env) (h : Hp), Down ops listed → i ∈ Region.ready .any ops listed → (∀ p ∈ pend, p.2 h) → (∀ h', R h' → gval P ops env oi h' = some v) → R h →
      dAnyP P n ops fuel ((i, R) :: pend) (listed.setIfInBounds i true) (put n env oi.dst v) h K → dAnyP P n ops (fuel + 1) pend listed env h K := by
  have hsel : ∀ (j : Nat) (o : Oper), ops[j]? = some o → ∀ cs b, o.op ≠ .select cs b := by
    intro j o ho cs b
    simp only [regionGood, Bool.and_eq_true] at hg
    exact Region.noSelect_spec hg.1 j o cs b ho
  have hri : isRdI P ops i = true := by simp [isRdI, hi, hrd]
  have self : ∀ (fuel : Nat) (pend : Pend) (listed : Array Bool) (env : Env) (h : Hp), (∀ p ∈ pend, p.2 h) → (∀ h', R h' → gval P ops env oi h' = some v) → R h →
      dAnyP P n ops fuel ((i, R) :: pend) (listed.setIfInBounds i true) (put n env oi.dst v) h K →
      dOp P n ops i env h fun env' h' => (∀ p ∈ updP P ops pend i, p.2 h') ∧ dAnyP P n ops fuel (updP P ops pend i) (listed.setIfInBounds i true) env' h' K := by
    intro fuel pend listed env h hpend hval hR H
    unfold dOp
    simp only [hi]
    refine gop_of_gval (hval h hR) ⟨fun p hp => hpend p (mem_updP.1 hp).1, ?_⟩
    exact dAnyP_mono _ _ _ _ _ _ (fun p hp => .inl (List.mem_cons_of_mem _ (mem_updP.1 hp).1)) H
  intro fuel
  induction fuel with
  | zero =>
    intro pend listed env h hd hr hpend hval hR H
    refine ⟨fun h0 => (by rw [h0] at hr; cases hr), fun j hj => ?_⟩
    by_cases hji : j = i
    · subst hji; exact self _ _ _ _ _ hpend hval hR H
    · have := ready_mono hj hji
      rw [H.1] at this
      cases this
  | succ fuel ih =>
    intro pend listed env h hd hr hpend hval hR H
    refine ⟨fun h0 => (by rw [h0] at hr; cases hr), fun j hj => ?_⟩
    by_cases hji : j = i
    · subst hji; exact self _ _ _ _ _ hpend hval hR H
    · have h1 := H.2 j (ready_mono hj hji)
      obtain ⟨_, oj, hoj, _⟩ := mem_ready.1 hj
      have hij : bef ops i j = false := not_bef hd hr hj
      have hap := apart_of_good hg hi hoj (Ne.symm hji) hij (not_bef hd hj hr)
      obtain ⟨a1, a2, a3⟩ := Oper.apart_spec hap
      unfold dOp at h1 ⊢
      simp only [hoj] at h1 ⊢
      rw [gop_put (hsel j oj hoj) a1] at h1
      refine gop_mono (fun u h' hk => ?_) h1
      obtain ⟨hch, hk⟩ := hk
      have himem : (i, R) ∈ updP P ops ((i, R) :: pend) j := mem_updP.2 ⟨List.mem_cons_self, fun _ => hij⟩
      have hpend' : ∀ p ∈ updP P ops pend j, p.2 h' := fun p hp => hch p (mem_updP.2 ⟨List.mem_cons_of_mem _ (mem_updP.1 hp).1, (mem_updP.1 hp).2⟩)
      refine ⟨hpend', ih (updP P ops pend j) _ _ _ (hd.set hj) (ready_mono hr (Ne.symm hji)) hpend' (fun h'' hR' => ?_) (hch _ himem) ?_⟩
      · rw [gval_put hrd (hsel i oi hi) a3]; exact hval h'' hR'
      · rw [Array.setIfInBounds_comm _ _ hji, ← put_comm n env v u a2]
        refine dAnyP_mono _ _ _ _ _ _ (fun p hp => ?_) hk
        rcases List.mem_cons.1 hp with rfl | hp
        · exact .inl himem
        · exact .inl (mem_updP.2 ⟨List.mem_cons_of_mem _ (mem_updP.1 hp).1, (mem_updP.1 hp).2⟩)

theorem dall_mem {f : Nat → Prop} : ∀ {rs : List Nat}, dall rs f → ∀ j ∈ rs, f j
  | [], _, j, hj => by cases hj
  | [i], h, j, hj => by rw [List.mem_singleton] at hj; subst hj; exact h
  | i :: k :: rest, h, j, hj => by
    rcases List.mem_cons.1 hj with rfl | hj
    · exact h.1
    · exact dall_mem h.2 j hj

theorem dchk_mem {h : Hp} : ∀ {pend : Pend}, dchk pend h → ∀ p ∈ pend, p.2 h
  | [], _, p, hp => by cases hp
  | q :: rest, hc, p, hp => by
    rcases List.mem_cons.1 hp with rfl | hp
    · exact hc.1
    · exact dchk_mem hc.2 p hp

theorem gchk_of_gval {P : Program} {ops : Array Oper} {env : Env} {o : Oper} {h : Hp} {v : Value} (hv : gval P ops env o h = some v) : gchk P ops env o v h := by
  unfold gval at hv
  unfold gchk
  cases hg : o.guard with
  | none => simp only [hg] at hv ⊢; exact hv
  | some gw =>
    obtain ⟨j, want⟩ := gw
    simp only [hg] at hv ⊢
    intro hc
    simpa only [hc, if_true] using hv

theorem gval_still {P : Program} {ops : Array Oper} {env : Env} {o : Oper} {h h' : Hp} {v : Value} (hn : isHeapRd env o = false) (hv : gval P ops env o h = some v) : gval P ops env o h' = some v := by
  have key : ∀ u, rval P env o h = some u → rval P env o h' = some u := by
    intro u hu
    unfold rval at hu ⊢
    split at hu <;> rename_i ho
    · exact hu
    · exact hu
    · exact hu
    · cases hp : pureSem P env o with
      | some s => simp only [hp] at hu ⊢; exact hu
      | none =>
        cases hs : readSem env o with
        | some s => simp [isHeapRd, hs] at hn
        | none => simp [hp, hs] at hu
  unfold gval at hv ⊢
  split
  · rename_i hg; simp only [hg] at hv; exact key _ hv
  · rename_i j want hg
    simp only [hg] at hv
    split
    · rename_i hc; simp only [hc, if_true] at hv; exact key _ hv
    · rename_i hc; simp only [hc] at hv; exact hv

theorem dreg_any {P : Program} {n : Nat} {ops : Array Oper} {K : Env → Hp → Prop} (hg : regionGood ops = true) : ∀ (fuel : Nat) (pend : Pend) (listed : Array Bool) (env : Env) (h : Hp),
    dreg P n ops fuel pend listed env h K → (∀ p ∈ pend, p.2 h) → Down ops listed → dAnyP P n ops fuel pend listed env h K := by
  intro fuel
  induction fuel with
  | zero =>
    intro pend listed env h D _ _
    simp only [dreg] at D
    split at D
    · rename_i hnil; exact ⟨hnil, D⟩
    · exact D.elim
  | succ fuel ih =>
    intro pend listed env h D hpend hd
    simp only [dreg] at D
    split at D
    · rename_i i hfind
      have hir := List.mem_of_find?_eq_some hfind
      have hird := List.find?_some hfind
      obtain ⟨_, oi, hoi, _⟩ := mem_ready.1 hir
      simp only [hoi] at D
      have hrd : isRd P oi = true := by simpa [isRdI, hoi] using hird
      obtain ⟨v, hv, D⟩ := gop_rd hrd D
      cases hh : isHeapRd env oi with
      | true =>
        simp only [hh] at D
        refine dAnyP_first hg hoi hrd fuel pend listed env h hd hir hpend (R := gchk P ops env oi v) (fun h' hc => gchk_gval hv hc) (gchk_of_gval hv) ?_
        refine ih _ _ _ _ D (fun p hp => ?_) (hd.set hir)
        rcases List.mem_cons.1 hp with rfl | hp
        · exact gchk_of_gval hv
        · exact hpend p hp
      | false =>
        simp only [hh] at D
        refine dAnyP_first hg hoi hrd fuel pend listed env h hd hir hpend (R := fun _ => True) (fun h' _ => gval_still hh hv) trivial ?_
        refine dAnyP_mono _ _ pend _ _ _ (fun p hp => ?_) (ih _ _ _ _ D hpend (hd.set hir))
        rcases List.mem_cons.1 hp with rfl | hp
        · exact .inr fun _ => trivial
        · exact .inl hp
    · split at D
      · rename_i hnil
        exact ⟨fun _ => D, by rw [hnil]; simp⟩
      · rename_i rs hne
        refine ⟨fun h0 => absurd h0 hne, fun j hj => dOp_mono (fun env' h' hk => ?_) (dall_mem D j hj)⟩
        have hc := dchk_mem hk.1
        exact ⟨hc, ih _ _ _ _ hk.2 hc (hd.set hj)⟩

/-! ### Code -/

abbrev Post := Exit → Env → Hp → Prop
abbrev Den := Post → Env → Hp → Prop

def thenK (B : Den) (Q : Post) : Post := fun e env h =>
  match e with
  | .normal => B Q env h
  | e => Q e env h

def sq (A B : Den) : Den := fun Q env h => A (thenK B Q) env h

def cnd (x : Operand) (A B : Den) : Den := fun Q env h => ∃ b, ev env x = .bool b ∧ (match b with | true => A Q env h | false => B Q env h)

def inBlk (id : Nat) (Q : Post) : Post := fun e env h =>
  match e with
  | .exit i => if i = id then Q .normal env h else Q (.exit i) env h
  | e => Q e env h

def blk (id : Nat) (A : Den) : Den := fun Q env h => A (inBlk id Q) env h

def roundK (I : Nat → Env → Hp → Prop) (n : Nat) (Q : Post) : Post := fun e env h =>
  match e with
  | .normal => ∃ m, m < n ∧ I m env h
  | e => Q e env h

def lp (A : Den) : Den := fun Q env h => ∃ I : Nat → Env → Hp → Prop, (∃ n, I n env h) ∧ ∀ n env h, I n env h → A (roundK I n Q) env h

def jumpK (I : Nat → Env → Hp → Prop) (Q : Post) : Post := fun e env h =>
  match e with
  | .goto l => I l env h
  | e => Q e env h

def scp (A : Den) (lab : Nat → Option Den) : Den := fun Q env h => ∃ I : Nat → Nat → Env → Hp → Prop,
  A (jumpK (fun l env h => ∃ m, I m l env h) Q) env h ∧
  ∀ n l env h, I n l env h → ∃ d, lab l = some d ∧ d (jumpK (fun l env h => ∃ m, m < n ∧ I m l env h) Q) env h

def ex (e : Exit) : Den := fun Q env h => Q e env h

def bad : Den := fun _ _ _ => False

def rgn (P : Program) (n : Nat) (ops : Array Oper) (draw : Bool) : Den := fun Q env h =>
  match draw with
  | true => (match regionGood ops with
    | true => dreg P n ops ops.size [] (Array.replicate ops.size false) env h (Q .normal)
    | false => False)
  | false => dops P n ops (List.range ops.size) env h (Q .normal)

def den (P : Program) (n : Nat) : Code → Den × (Nat → Option Den)
  | .skip => (ex .normal, fun _ => none)
  | .region _ ops draw => (rgn P n ops draw, fun _ => none)
  | .seq a b =>
    (sq (den P n a).1 (den P n b).1,
     fun l => match (den P n a).2 l with
      | some d => some (sq d (den P n b).1)
      | none => (den P n b).2 l)
  | .cond c x y => (cnd c (den P n x).1 (den P n y).1, fun _ => none)
  | .block id c => (blk id (den P n c).1, fun _ => none)
  | .loop c => (lp (den P n c).1, fun _ => none)
  | .rangeFunc .. => (bad, fun _ => none)
  | .exit id => (ex (.exit id), fun _ => none)
  | .scope c => (scp (den P n c).1 (den P n c).2, fun _ => none)
  | .label l' => (ex .normal, fun l => if l' == l then some (ex .normal) else none)
  | .goto l => (ex (.goto l), fun _ => none)
  | .ret => (ex .ret, fun _ => none)
  | .refuse _ => (bad, fun _ => none)

end Go.Proofs.Ytncnlfidncjmbaa

/- Code and calls: the formulas are sound for the machine. -/
namespace Go.Proofs.Ytncnlfidncjmbaa
open Go

def Lift (n : Nat) (h0 : Hp) (w0 : World) (K : Env → Hp → Prop) : Act → World → Prop := fun a w =>
  a.defers = [] ∧ ∃ env h, Fits n a env ∧ View h w ∧ Keep h0 w0 h w ∧ K env h

def LiftQ (n : Nat) (h0 : Hp) (w0 : World) (Q : Post) : Exit → Act → World → Prop := fun e => Lift n h0 w0 (Q e)

theorem put_defers (a : Act) (dst : Option Tmp) (v : Value) : (a.put dst v).defers = a.defers := by cases dst <;> rfl

theorem dOp_sound {P : Program} {n : Nat} (hP : progOk P = true) {ops : Array Oper} {i : Nat} {a : Act} {env : Env} {h h0 : Hp} {w w0 : World} {K : Env → Hp → Prop} {Q : Exit → Act → World → Prop}
    (F : Fits n a env) (hd : a.defers = []) (V : View h w) (K0 : Keep h0 w0 h w) (D : dOp P n ops i env h K) : wpOp P ops Q i (Lift n h0 w0 K) a w := by
  unfold dOp at D
  unfold wpOp
  cases ho : ops[i]? with
  | none => simp only [ho] at D ⊢; exact ⟨hd, env, h, F, V, K0, D⟩
  | some o =>
    simp only [ho] at D ⊢
    have run : dexec P env o h (fun v h' => K (put n env o.dst v) h') → o.wp P a w (Lift n h0 w0 K) Q := by
      intro D
      refine Wpo.wp ?_
      have := dexec_sound hP F V D
      unfold Does Wpo at this
      unfold Wpo
      generalize (execOp a.eval o).run P w = r at this ⊢
      cases r with
      | halt x w' => exact this.elim
      | ok x w' =>
        cases x <;> simp only at this ⊢
        case value v =>
          obtain ⟨h', V', K', hk⟩ := this
          exact ⟨by rw [put_defers]; exact hd, _, h', F.put _ _, V', K0.trans K', hk⟩
        case skip =>
          obtain ⟨h', V', K', hk⟩ := this
          exact ⟨by rw [put_defers]; exact hd, _, h', F.put _ _, V', K0.trans K', hk⟩
        case enter f args =>
          refine this.mono ?_
          rintro e w'' ⟨v, he, h', V', K', hk⟩
          exact ⟨v, he, by rw [put_defers]; exact hd, _, h', F.put _ _, V', K0.trans K', hk⟩
    unfold gop gd at D
    cases hgd : o.guard with
    | none =>
      simp only [hgd] at D
      have hw : Region.wanted o (yielded ops a.tmps) = true := by simp [Region.wanted, hgd]
      rw [if_pos hw]
      exact .inl (run D)
    | some gw =>
      obtain ⟨j, want⟩ := gw
      simp only [hgd] at D
      have hw : Region.wanted o (yielded ops a.tmps) = (yieldedE ops env j == some want) := by
        simp only [Region.wanted, hgd]; rw [F.yielded]
      rw [hw]
      cases hc : (yieldedE ops env j == some want) with
      | true => rw [if_pos rfl]; rw [hc, if_pos rfl] at D; exact .inl (run D)
      | false =>
        rw [if_neg (by simp)]
        rw [hc, if_neg (by simp)] at D
        exact ⟨by rw [put_defers]; exact hd, _, h, F.put _ _, V, K0, D⟩

theorem dops_sound {P : Program} {n : Nat} (hP : progOk P = true) {ops : Array Oper} {h0 : Hp} {w0 : World} {Q : Post} : ∀ (l : List Nat) {a : Act} {env : Env} {h : Hp} {w : World},
    Fits n a env → a.defers = [] → View h w → Keep h0 w0 h w → dops P n ops l env h (Q .normal) → wpOps P ops (LiftQ n h0 w0 Q) l a w := by
  intro l
  induction l with
  | nil => intro a env h w F hd V K0 D; exact ⟨hd, env, h, F, V, K0, D⟩
  | cons i rest ih =>
    intro a env h w F hd V K0 D
    rw [wpOps_cons]
    refine wpOp_mono (fun a' w' hk => ?_) (dOp_sound hP F hd V K0 D)
    obtain ⟨hd', env', h', F', V', K', D'⟩ := hk
    exact ih F' hd' V' K' D'

theorem dAnyP_sound {P : Program} {n : Nat} (hP : progOk P = true) {ops : Array Oper} {h0 : Hp} {w0 : World} {Q : Post} : ∀ (fuel : Nat) (pend : Pend) (listed : Array Bool) {a : Act} {env : Env} {h : Hp} {w : World},
    Fits n a env → a.defers = [] → View h w → Keep h0 w0 h w → dAnyP P n ops fuel pend listed env h (Q .normal) → wpAny P .any ops (LiftQ n h0 w0 Q) fuel listed a w := by
  intro fuel
  induction fuel with
  | zero => intro pend listed a env h w F hd V K0 D; exact ⟨D.1, hd, env, h, F, V, K0, D.2⟩
  | succ fuel ih =>
    intro pend listed a env h w F hd V K0 D
    refine ⟨fun h0 => ⟨hd, env, h, F, V, K0, D.1 h0⟩, fun i hi => ?_⟩
    refine wpOp_mono (fun a' w' hk => ?_) (dOp_sound hP F hd V K0 (D.2 i hi))
    obtain ⟨hd', env', h', F', V', K', D'⟩ := hk
    exact ih _ _ F' hd' V' K' D'.2

def Snd (P : Program) (n : Nat) (D : Den) (c : Code) : Prop :=
  ∀ (Q : Post) (env : Env) (h : Hp) (a : Act) (w : World) (h0 : Hp) (w0 : World), Fits n a env → a.defers = [] → View h w → Keep h0 w0 h w → D Q env h → c.wp P (LiftQ n h0 w0 Q) a w

theorem getD_all_false (m j : Nat) (d : Bool) (h : (Array.replicate m false).getD j d = true) : d = true := by
  rcases Nat.lt_or_ge j m with h' | h'
  · simp [h'] at h
  · simpa [Array.getElem?_eq_none, h'] using h

theorem rgn_sound {P : Program} {n : Nat} (hP : progOk P = true) (id : Nat) (ops : Array Oper) (draw : Bool) : Snd P n (rgn P n ops draw) (.region id ops draw) := by
  intro Q env h a w h0 w0 F hd V K0 D
  unfold rgn at D
  cases draw with
  | false => exact wp_region (dops_sound hP _ F hd V K0 D)
  | true =>
    simp only at D
    split at D
    · rename_i hg
      have hm : P.follows .mixedOrders = true := by
        unfold progOk at hP
        rw [Bool.and_eq_true] at hP
        exact hP.1
      refine wp_region_any hm ?_
      refine dAnyP_sound hP _ [] _ F hd (w := { w with drawn := w.drawn + 1 }) (fun b o e => V b o e) ⟨K0.os, K0.tape, K0.output, K0.size, K0.old, K0.dom, Nat.le_trans K0.drawn (Nat.le_succ _)⟩ ?_
      exact dreg_any hg _ _ _ _ _ D (fun p hp => by cases hp) (fun j hj => absurd (getD_all_false _ _ _ hj) (by simp))
    · exact D.elim

theorem sq_sound {P : Program} {n : Nat} {A B : Den} {a b : Code} (ha : Snd P n A a) (hb : Snd P n B b) : Snd P n (sq A B) (.seq a b) := by
  intro Q env h ac w h0 w0 F hd V K0 D
  refine wp_seq (wp_mono (ha _ _ _ _ _ h0 w0 F hd V K0 D) ?_)
  rintro e a' w' ⟨hd', env', h', F', V', K', hq⟩
  cases e with
  | normal => exact hb _ _ _ _ _ _ _ F' hd' V' K' hq
  | exit i => exact ⟨hd', env', h', F', V', K', hq⟩
  | goto i => exact ⟨hd', env', h', F', V', K', hq⟩
  | ret => exact ⟨hd', env', h', F', V', K', hq⟩
  | panic i => exact ⟨hd', env', h', F', V', K', hq⟩
  | outgrown => exact ⟨hd', env', h', F', V', K', hq⟩

theorem lp_sound {P : Program} {n : Nat} {A : Den} {c : Code} (ha : Snd P n A c) : Snd P n (lp A) (.loop c) := by
  intro Q env h ac w h0 w0 F hd V K0 D
  obtain ⟨I, ⟨m, hm⟩, round⟩ := D
  refine wp_loop_ghost (fun k => Lift n h0 w0 (I k)) m ⟨hd, env, h, F, V, K0, hm⟩ ?_
  rintro k a' w' ⟨hd', env', h', F', V', K', hI⟩
  refine wp_mono (ha _ _ _ _ _ _ _ F' hd' V' K' (round k env' h' hI)) ?_
  rintro e a2 w2 ⟨hd2, env2, h2, F2, V2, K2, hq⟩
  cases e with
  | normal =>
    obtain ⟨j, hj, hI2⟩ := hq
    exact ⟨j, hj, hd2, env2, h2, F2, V2, K2, hI2⟩
  | exit i => exact ⟨hd2, env2, h2, F2, V2, K2, hq⟩
  | goto i => exact ⟨hd2, env2, h2, F2, V2, K2, hq⟩
  | ret => exact ⟨hd2, env2, h2, F2, V2, K2, hq⟩
  | panic i => exact ⟨hd2, env2, h2, F2, V2, K2, hq⟩
  | outgrown => exact ⟨hd2, env2, h2, F2, V2, K2, hq⟩

theorem blk_sound {P : Program} {n : Nat} {A : Den} {c : Code} (id : Nat) (ha : Snd P n A c) : Snd P n (blk id A) (.block id c) := by
  intro Q env h ac w h0 w0 F hd V K0 D
  refine wp_block (wp_mono (ha _ _ _ _ _ h0 w0 F hd V K0 D) ?_)
  rintro e a' w' ⟨hd', env', h', F', V', K', hq⟩
  cases e with
  | exit i =>
    simp only [inBlk] at hq
    simp only [Exit.inBlock]
    by_cases hi : i = id
    · simp only [hi, if_true] at hq ⊢; exact ⟨hd', env', h', F', V', K', hq⟩
    · simp only [hi, if_false] at hq ⊢; exact ⟨hd', env', h', F', V', K', hq⟩
  | normal => exact ⟨hd', env', h', F', V', K', hq⟩
  | goto i => exact ⟨hd', env', h', F', V', K', hq⟩
  | ret => exact ⟨hd', env', h', F', V', K', hq⟩
  | panic i => exact ⟨hd', env', h', F', V', K', hq⟩
  | outgrown => exact ⟨hd', env', h', F', V', K', hq⟩

theorem cnd_sound {P : Program} {n : Nat} {A B : Den} {x y : Code} (c : Operand) (ha : Snd P n A x) (hb : Snd P n B y) : Snd P n (cnd c A B) (.cond c x y) := by
  intro Q env h ac w h0 w0 F hd V K0 D
  obtain ⟨b, hb', D⟩ := D
  refine wp_cond (t := b) (by rw [F.eval]; exact hb') ?_
  cases b with
  | true => exact ha _ _ _ _ _ _ _ F hd V K0 D
  | false => exact hb _ _ _ _ _ _ _ F hd V K0 D

theorem scp_sound {P : Program} {n : Nat} {A : Den} {lab : Nat → Option Den} {c : Code} (ha : Snd P n A c)
    (hl : ∀ l d, lab l = some d → ∃ rest, findLabel c l = some rest ∧ Snd P n d rest) : Snd P n (scp A lab) (.scope c) := by
  intro Q env h ac w h0 w0 F hd V K0 D
  obtain ⟨I, first, pass⟩ := D
  intro b k cs
  have key : ∀ m l rest, findLabel c l = some rest → ∀ a w, Lift n h0 w0 (I m l) a w →
      ∃ e a' w', LiftQ n h0 w0 Q e a' w' ∧ Arrives P (lone (b.at a (.code rest :: .inScope c :: k)) cs w) b k cs e a' w' := by
    intro m
    induction m using Nat.strongRecOn with
    | _ m ih =>
      rintro l rest hf a w ⟨hd', env', h', F', V', K', hI⟩
      obtain ⟨d, hld, hdp⟩ := pass m l env' h' hI
      obtain ⟨rest', hf', hs⟩ := hl l d hld
      rw [hf] at hf'
      cases hf'
      obtain ⟨e, a₁, w₁, hq, harr⟩ := hs _ _ _ _ _ _ _ F' hd' V' K' hdp b (.inScope c :: k) cs
      obtain ⟨hd2, env2, h2, F2, V2, K2, hq⟩ := hq
      cases e with
      | normal => exact ⟨.normal, a₁, w₁, ⟨hd2, env2, h2, F2, V2, K2, hq⟩, Steps.trans harr (.one step_inScope)⟩
      | exit id => exact ⟨.exit id, a₁, w₁, ⟨hd2, env2, h2, F2, V2, K2, hq⟩, fun k' hk => harr k' (by simp [exitTo, hk])⟩
      | goto l' =>
        obtain ⟨j, hj, hI'⟩ := hq
        obtain ⟨d', hld', _⟩ := pass j l' env2 h2 hI'
        obtain ⟨rest2, hf2, _⟩ := hl l' d' hld'
        have hg : gotoIn l' (.inScope c :: k) = some (.code rest2 :: .inScope c :: k) := by simp [gotoIn, hf2]
        obtain ⟨e₂, a₂, w₂, hq₂, harr₂⟩ := ih j hj l' rest2 hf2 a₁ w₁ ⟨hd2, env2, h2, F2, V2, K2, hI'⟩
        exact ⟨e₂, a₂, w₂, hq₂, .of_steps (harr _ hg) harr₂⟩
      | ret => exact ⟨_, a₁, w₁, ⟨hd2, env2, h2, F2, V2, K2, hq⟩, harr⟩
      | panic ch => exact ⟨_, a₁, w₁, ⟨hd2, env2, h2, F2, V2, K2, hq⟩, harr⟩
      | outgrown => exact ⟨_, a₁, w₁, ⟨hd2, env2, h2, F2, V2, K2, hq⟩, harr⟩
  obtain ⟨e, a₁, w₁, hq, harr⟩ := ha _ _ _ _ _ _ _ F hd V K0 first b (.inScope c :: k) cs
  obtain ⟨hd2, env2, h2, F2, V2, K2, hq⟩ := hq
  cases e with
  | normal => exact ⟨.normal, a₁, w₁, ⟨hd2, env2, h2, F2, V2, K2, hq⟩, .head step_scope (Steps.trans harr (.one step_inScope))⟩
  | exit id => exact ⟨.exit id, a₁, w₁, ⟨hd2, env2, h2, F2, V2, K2, hq⟩, fun k' hk => .head step_scope (harr k' (by simp [exitTo, hk]))⟩
  | goto l' =>
    obtain ⟨j, hI'⟩ := hq
    obtain ⟨d', hld', _⟩ := pass j l' env2 h2 hI'
    obtain ⟨rest2, hf2, _⟩ := hl l' d' hld'
    have hg : gotoIn l' (.inScope c :: k) = some (.code rest2 :: .inScope c :: k) := by simp [gotoIn, hf2]
    obtain ⟨e₂, a₂, w₂, hq₂, harr₂⟩ := key j l' rest2 hf2 a₁ w₁ ⟨hd2, env2, h2, F2, V2, K2, hI'⟩
    exact ⟨e₂, a₂, w₂, hq₂, .of_steps (.head step_scope (harr _ hg)) harr₂⟩
  | ret => exact ⟨_, a₁, w₁, ⟨hd2, env2, h2, F2, V2, K2, hq⟩, .of_steps (.one step_scope) harr⟩
  | panic ch => exact ⟨_, a₁, w₁, ⟨hd2, env2, h2, F2, V2, K2, hq⟩, .of_steps (.one step_scope) harr⟩
  | outgrown => exact ⟨_, a₁, w₁, ⟨hd2, env2, h2, F2, V2, K2, hq⟩, .of_steps (.one step_scope) harr⟩

theorem den_sound {P : Program} {n : Nat} (hP : progOk P = true) (c : Code) :
    Snd P n (den P n c).1 c ∧ ∀ l d, (den P n c).2 l = some d → ∃ rest, findLabel c l = some rest ∧ Snd P n d rest := by
  induction c with
  | skip => exact ⟨fun Q env h a w h0 w0 F hd V K0 D => wp_skip ⟨hd, env, h, F, V, K0, D⟩, fun l d e => by cases e⟩
  | region id ops draw => exact ⟨rgn_sound hP id ops draw, fun l d e => by cases e⟩
  | seq x y ihx ihy =>
    refine ⟨sq_sound ihx.1 ihy.1, fun l d e => ?_⟩
    simp only [den] at e
    cases hx : (den P n x).2 l with
    | some d' =>
      simp only [hx, Option.some.injEq] at e
      subst e
      obtain ⟨rest, hf, hs⟩ := ihx.2 l d' hx
      exact ⟨.seq rest y, by simp [findLabel, hf], sq_sound hs ihy.1⟩
    | none =>
      simp only [hx] at e
      obtain ⟨rest, hf, hs⟩ := ihy.2 l d e
      have hn : findLabel x l = none := by
        clear e hf hs ihy ihx
        induction x with
        | seq p q ihp ihq =>
          simp only [den] at hx
          cases hp : (den P n p).2 l with
          | some d' => simp [hp] at hx
          | none => simp only [hp] at hx; simp [findLabel, ihp hp, ihq hx]
        | label l' =>
          simp only [den] at hx
          split at hx
          · cases hx
          · rename_i hne; simp only [findLabel, if_neg hne]
        | _ => rfl
      exact ⟨rest, by simp [findLabel, hn, hf], hs⟩
  | cond o x y ihx ihy => exact ⟨cnd_sound o ihx.1 ihy.1, fun l d e => by cases e⟩
  | block id x ih => exact ⟨blk_sound id ih.1, fun l d e => by cases e⟩
  | loop x ih => exact ⟨lp_sound ih.1, fun l d e => by cases e⟩
  | rangeFunc f ps x y _ _ => exact ⟨fun Q env h a w h0 w0 F hd V K0 D => D.elim, fun l d e => by cases e⟩
  | exit id => exact ⟨fun Q env h a w h0 w0 F hd V K0 D => wp_exit ⟨hd, env, h, F, V, K0, D⟩, fun l d e => by cases e⟩
  | scope x ih => exact ⟨scp_sound ih.1 ih.2, fun l d e => by cases e⟩
  | label l' =>
    refine ⟨fun Q env h a w h0 w0 F hd V K0 D => wp_label ⟨hd, env, h, F, V, K0, D⟩, fun l d e => ?_⟩
    simp only [den] at e
    split at e
    · rename_i hl
      cases e
      exact ⟨.skip, by simp only [findLabel, if_pos hl], fun Q env h a w h0 w0 F hd V K0 D => wp_skip ⟨hd, env, h, F, V, K0, D⟩⟩
    · cases e
  | goto l => exact ⟨fun Q env h a w h0 w0 F hd V K0 D => wp_goto ⟨hd, env, h, F, V, K0, D⟩, fun l d e => by cases e⟩
  | ret => exact ⟨fun Q env h a w h0 w0 F hd V K0 D => wp_ret ⟨hd, env, h, F, V, K0, D⟩, fun l d e => by cases e⟩
  | refuse s => exact ⟨fun Q env h a w h0 w0 F hd V K0 D => D.elim, fun l d e => by cases e⟩

/-! ### Calls -/

def resv (P : Program) (env : Env) (h : Hp) : List ResultVar → Option (List Value)
  | [] => some []
  | .tmp t :: rest => (resv P env h rest).map (env t :: ·)
  | .cell a t :: rest =>
    match env a with
    | .pointer (some ad) =>
      (match rrun P (loadVar t ad) h with
      | some v => (resv P env h rest).map (v :: ·)
      | none => none)
    | _ => none

def retv : List Value → Value
  | [v] => v
  | vs => .tuple vs.toArray

def fin (P : Program) (rs : List ResultVar) (Q : Value → Hp → Prop) : Post := fun e env h =>
  match e with
  | .normal | .ret => ∃ vs, resv P env h rs = some vs ∧ ∃ h', (∀ b o, h' b = some o → h b = some o) ∧ Q (retv vs) h'
  | _ => False

def env0 (args : Array Value) : Env := fun t => args.getD t undef

def resOne (tmps : Array Value) : ResultVar → Sem Value
  | .tmp t => pure (tmps.getD t undef)
  | .cell ad t => do loadVar t (← asAddr (tmps.getD ad undef))

theorem resv_run {P : Program} {n : Nat} {a : Act} {env : Env} {h : Hp} {w : World} (F : Fits n a env) (V : View h w) : ∀ (rs : List ResultVar) (vs : List Value), resv P env h rs = some vs →
    Sem.run P (rs.mapM (resOne a.tmps)) w = .ok vs w := by
  intro rs
  induction rs with
  | nil => intro vs e; cases e; rfl
  | cons r rest ih =>
    intro vs e
    rw [List.mapM_cons]
    cases r with
    | tmp t =>
      simp only [resv] at e
      cases hr : resv P env h rest with
      | none => simp [hr] at e
      | some us =>
        simp only [hr, Option.map_some, Option.some.injEq] at e
        subst e
        have := ih us hr
        simp only [resOne, Sem.run_bind, F.get t]
        show Result.andThen (Result.ok (env t) w) _ = _
        simp only [Result.andThen, this]
        rfl
    | cell ad t =>
      simp only [resv] at e
      split at e
      · rename_i ad' hp
        split at e
        · rename_i v hv
          cases hr : resv P env h rest with
          | none => simp [hr] at e
          | some us =>
            simp only [hr, Option.map_some, Option.some.injEq] at e
            subst e
            have := ih us hr
            have h2 := rrun_sound _ V hv
            simp only [resOne, Sem.run_bind, F.get ad, hp]
            show Result.andThen (Result.andThen (Result.ok ad' w) _) _ = _
            simp only [Result.andThen, h2, this]
            rfl
        · cases e
      · cases e

theorem results_run {P : Program} {n : Nat} {a : Act} {env : Env} {h : Hp} {w : World} {fn : Func} {vs : List Value} (F : Fits n a env) (V : View h w) (e : resv P env h fn.results.toList = some vs) :
    (results fn a.tmps).run P w = .ok (retv vs) w := by
  have := resv_run F V _ _ e
  have hres : results fn a.tmps = (do let vs ← fn.results.mapM (resOne a.tmps); pure (if h : vs.size = 1 then vs[0] else .tuple vs)) := rfl
  rw [hres, Array.mapM_eq_mapM_toList]
  simp only [Sem.run_bind, Sem.run_map]
  rw [this]
  simp only [Result.andThen]
  show Result.ok _ w = _
  congr 1
  cases vs with
  | nil => rfl
  | cons v rest => cases rest <;> rfl

theorem ok_of_den {P : Program} (hP : progOk P = true) {f : FuncId} {fn : Func} {c : Code} {args : Array Value} {h : Hp} {Q : Value → Hp → Prop} (hf : P.funcs[f]? = some fn) (hb : fn.body = some c)
    (hn : args.size ≤ fn.ntmps) (D : (den P fn.ntmps c).1 (fin P fn.results.toList Q) (env0 args) h) : Ok P f args h Q := by
  refine ⟨⟨fn, c, hf, hb⟩, fun w V => calls_of_wp hf hb ?_⟩
  have F : Fits fn.ntmps ⟨args ++ Array.replicate (fn.ntmps - args.size) undef, []⟩ (env0 args) := by
    refine ⟨by simp; omega, fun t => ?_⟩
    unfold env0
    simp only [Array.getD_eq_getD_getElem?]
    rcases Nat.lt_or_ge t args.size with ht | ht
    · rw [Array.getElem?_append_left ht]
    · rw [Array.getElem?_append_right ht, Array.getElem?_eq_none ht]
      simp only [Array.getElem?_replicate, Option.getD_none]
      split <;> rfl
  refine wp_mono ((den_sound hP c).1 _ _ _ _ _ h w F rfl V (Keep.refl _ _) D) ?_
  rintro e a' w' ⟨hd', env', h', F', V', K', hq⟩
  cases e with
  | normal =>
    obtain ⟨vs, hvs, h'', hl, hQ⟩ := hq
    exact ⟨hd', _, results_run F' V' hvs, _, h'', rfl, V'.less hl, K'.less hl, hQ⟩
  | ret =>
    obtain ⟨vs, hvs, h'', hl, hQ⟩ := hq
    exact ⟨hd', _, results_run F' V' hvs, _, h'', rfl, V'.less hl, K'.less hl, hQ⟩
  | exit i => exact hq.elim
  | goto i => exact hq.elim
  | panic i => exact hq.elim
  | outgrown => exact hq.elim

end Go.Proofs.Ytncnlfidncjmbaa

/- Words for the printed formulas; monotony. -/
namespace Go.Proofs.Ytncnlfidncjmbaa
open Go

def rg (r : Env → Hp → (Env → Hp → Prop) → Prop) : Den := fun Q env h => r env h (Q .normal)

def subCode : List Nat → Code → Code
  | [], c => c
  | 0 :: p, .seq a _ => subCode p a
  | _ :: p, .seq _ b => subCode p b
  | 0 :: p, .cond _ a _ => subCode p a
  | _ :: p, .cond _ _ b => subCode p b
  | _ :: p, .block _ c => subCode p c
  | _ :: p, .loop c => subCode p c
  | _ :: p, .scope c => subCode p c
  | _, _ => .skip

def MonoD (D : Den) : Prop := ∀ (Q Q' : Post), (∀ e env h, Q e env h → Q' e env h) → ∀ env h, D Q env h → D Q' env h

theorem dops_mono {P : Program} {n : Nat} {ops : Array Oper} {K K' : Env → Hp → Prop} (q : ∀ env h, K env h → K' env h) : ∀ (l : List Nat) (env : Env) (h : Hp), dops P n ops l env h K → dops P n ops l env h K'
  | [], _, _, D => q _ _ D
  | _ :: rest, _, _, D => dOp_mono (fun _ _ hk => dops_mono q rest _ _ hk) D

theorem dall_mono {f g : Nat → Prop} (q : ∀ j, f j → g j) : ∀ rs : List Nat, dall rs f → dall rs g
  | [], _ => trivial
  | [_], h => q _ h
  | _ :: k :: rest, h => ⟨q _ h.1, dall_mono q (k :: rest) h.2⟩

theorem dreg_mono {P : Program} {n : Nat} {ops : Array Oper} {K K' : Env → Hp → Prop} (q : ∀ env h, K env h → K' env h) : ∀ (fuel : Nat) (pend : Pend) (listed : Array Bool) (env : Env) (h : Hp),
    dreg P n ops fuel pend listed env h K → dreg P n ops fuel pend listed env h K' := by
  intro fuel
  induction fuel with
  | zero =>
    intro pend listed env h D
    simp only [dreg] at D ⊢
    split
    · rename_i hr; simp only [hr] at D; exact q _ _ D
    · rename_i hr; split at D
      · rename_i hr2; exact absurd hr2 hr
      · exact D
  | succ fuel ih =>
    intro pend listed env h D
    simp only [dreg] at D ⊢
    split
    · rename_i i hf
      simp only [hf] at D
      split
      · rename_i o ho; simp only [ho] at D; exact gop_mono (fun v h hk => ih _ _ _ _ hk) D
      · rename_i ho; simp only [ho] at D
    · rename_i hf
      simp only [hf] at D
      split
      · rename_i hr; simp only [hr] at D; exact q _ _ D
      · rename_i rs hr
        split at D
        · rename_i hr2; exact absurd hr2 hr
        · exact dall_mono (fun j hj => dOp_mono (fun _ _ hk => ⟨hk.1, ih _ _ _ _ hk.2⟩) hj) _ D

theorem sq_mono {A B : Den} (ha : MonoD A) (hb : MonoD B) : MonoD (sq A B) := fun Q Q' q env h D =>
  ha _ _ (fun e env h hq => by cases e <;> first | exact hb _ _ q _ _ hq | exact q _ _ _ hq) _ _ D

theorem den_mono (P : Program) (n : Nat) (c : Code) : MonoD (den P n c).1 ∧ ∀ l d, (den P n c).2 l = some d → MonoD d := by
  induction c with
  | skip => exact ⟨fun Q Q' q env h D => q _ _ _ D, fun l d e => by cases e⟩
  | region id ops draw =>
    refine ⟨fun Q Q' q env h D => ?_, fun l d e => by cases e⟩
    show rgn P n ops draw Q' env h
    have D : rgn P n ops draw Q env h := D
    unfold rgn at D ⊢
    cases draw with
    | false => exact dops_mono (q .normal) _ _ _ D
    | true =>
      simp only at D ⊢
      split
      · rename_i hg; simp only [hg] at D; exact dreg_mono (q .normal) _ _ _ _ _ D
      · rename_i hg; simp only [hg] at D
  | seq x y ihx ihy =>
    refine ⟨sq_mono ihx.1 ihy.1, fun l d e => ?_⟩
    simp only [den] at e
    cases hx : (den P n x).2 l with
    | some d' => simp only [hx, Option.some.injEq] at e; subst e; exact sq_mono (ihx.2 l d' hx) ihy.1
    | none => simp only [hx] at e; exact ihy.2 l d e
  | cond o x y ihx ihy =>
    refine ⟨fun Q Q' q env h D => ?_, fun l d e => by cases e⟩
    obtain ⟨b, hb, D⟩ := D
    refine ⟨b, hb, ?_⟩
    cases b with
    | true => exact ihx.1 _ _ q _ _ D
    | false => exact ihy.1 _ _ q _ _ D
  | block id x ih =>
    refine ⟨fun Q Q' q env h D => ih.1 _ _ (fun e env h hq => ?_) _ _ D, fun l d e => by cases e⟩
    cases e with
    | exit i =>
      simp only [inBlk] at hq ⊢
      split
      · rename_i hi; simp only [hi, if_true] at hq; exact q _ _ _ hq
      · rename_i hi; simp only [hi, if_false] at hq; exact q _ _ _ hq
    | _ => exact q _ _ _ hq
  | loop x ih =>
    refine ⟨fun Q Q' q env h D => ?_, fun l d e => by cases e⟩
    obtain ⟨I, h0, hr⟩ := D
    refine ⟨I, h0, fun k env h hI => ih.1 _ _ (fun e env h hq => ?_) _ _ (hr k env h hI)⟩
    cases e <;> first | exact hq | exact q _ _ _ hq
  | rangeFunc f ps x y _ _ => exact ⟨fun Q Q' q env h D => D.elim, fun l d e => by cases e⟩
  | exit id => exact ⟨fun Q Q' q env h D => q _ _ _ D, fun l d e => by cases e⟩
  | scope x ih =>
    refine ⟨fun Q Q' q env h D => ?_, fun l d e => by cases e⟩
    obtain ⟨I, h0, hr⟩ := D
    refine ⟨I, ih.1 _ _ (fun e env h hq => ?_) _ _ h0, fun k l env h hI => ?_⟩
    · cases e <;> first | exact hq | exact q _ _ _ hq
    · obtain ⟨d, hd, D⟩ := hr k l env h hI
      refine ⟨d, hd, ih.2 l d hd _ _ (fun e env h hq => ?_) _ _ D⟩
      cases e <;> first | exact hq | exact q _ _ _ hq
  | label l' =>
    refine ⟨fun Q Q' q env h D => q _ _ _ D, fun l d e => ?_⟩
    simp only [den] at e
    split at e
    · cases e; exact fun Q Q' q env h D => q _ _ _ D
    · cases e
  | goto l => exact ⟨fun Q Q' q env h D => q _ _ _ D, fun l d e => by cases e⟩
  | ret => exact ⟨fun Q Q' q env h D => q _ _ _ D, fun l d e => by cases e⟩
  | refuse s => exact ⟨fun Q Q' q env h D => D.elim, fun l d e => by cases e⟩

/-- A scope with one label, to which it jumps back: what holds at the label. -/
theorem scp_one {P : Program} {n l : Nat} {code : Code} {A at0 : Den} {r : Env → Hp → (Env → Hp → Prop) → Prop} {Q : Post} {env : Env} {h : Hp} (hlab : (den P n code).2 l = some at0) (hA : A = sq (rg r) at0)
    (Inv : Nat → Env → Hp → Prop) (h0 : ∀ K : Env → Hp → Prop, (∀ m env h, Inv m env h → K env h) → r env h K)
    (step : ∀ m env h, Inv m env h → at0 (jumpK (fun l' env h => l' = l ∧ ∃ k, k < m ∧ Inv k env h) Q) env h) : scp A (den P n code).2 Q env h := by
  refine ⟨fun m l' env h => l' = l ∧ Inv m env h, ?_, ?_⟩
  · subst hA
    refine h0 _ fun m env h hI => (den_mono P n code).2 l at0 hlab _ _ (fun e env h hq => ?_) _ _ (step m env h hI)
    cases e with
    | goto l' => obtain ⟨e, k, _, hk⟩ := hq; exact ⟨k, e, hk⟩
    | _ => exact hq
  · rintro m l' env h ⟨rfl, hI⟩
    refine ⟨at0, hlab, (den_mono P n code).2 _ at0 hlab _ _ (fun e env h hq => ?_) _ _ (step m env h hI)⟩
    cases e with
    | goto l' => obtain ⟨e, k, hk, hI⟩ := hq; exact ⟨k, hk, e, hI⟩
    | _ => exact hq

end Go.Proofs.Ytncnlfidncjmbaa

/- Rules by which the printed formulas are worked off. -/
namespace Go.Proofs.Ytncnlfidncjmbaa
open Go
set_option linter.unusedSimpArgs false

/-! ### Control -/
section
variable {A B : Den} {Q : Post} {env : Env} {h : Hp}

@[congr] theorem sq_congr : sq A B Q env h = sq A B Q env h := rfl
@[simp ↓] theorem sq_def : sq A B Q env h = A (thenK B Q) env h := Eq.trans rfl (Eq.symm (Eq.trans rfl rfl))
@[congr] theorem rg_congr {r : Env → Hp → (Env → Hp → Prop) → Prop} : rg r Q env h = rg r Q env h := rfl
@[simp ↓] theorem rg_def {r : Env → Hp → (Env → Hp → Prop) → Prop} : rg r Q env h = r env h (Q .normal) := Eq.trans rfl (Eq.symm (Eq.trans rfl rfl))
@[congr] theorem thenK_congr {e : Exit} : thenK B Q e env h = thenK B Q e env h := rfl
@[simp ↓] theorem thenK_normal : thenK B Q .normal env h = B Q env h := rfl
@[simp ↓] theorem thenK_ret : thenK B Q .ret env h = Q .ret env h := rfl
@[simp ↓] theorem thenK_exit {i : Nat} : thenK B Q (.exit i) env h = Q (.exit i) env h := rfl
@[simp ↓] theorem thenK_goto {i : Nat} : thenK B Q (.goto i) env h = Q (.goto i) env h := rfl
@[congr] theorem ex_congr {e : Exit} : ex e Q env h = ex e Q env h := rfl
@[simp ↓] theorem ex_def {e : Exit} : ex e Q env h = Q e env h := Eq.trans rfl (Eq.symm (Eq.trans rfl rfl))
@[congr] theorem blk_congr {i : Nat} : blk i A Q env h = blk i A Q env h := rfl
@[simp ↓] theorem blk_def {i : Nat} : blk i A Q env h = A (inBlk i Q) env h := Eq.trans rfl (Eq.symm (Eq.trans rfl rfl))
@[congr] theorem inBlk_congr {i : Nat} {e : Exit} : inBlk i Q e env h = inBlk i Q e env h := rfl
@[simp ↓] theorem inBlk_normal {i : Nat} : inBlk i Q .normal env h = Q .normal env h := rfl
@[simp ↓] theorem inBlk_ret {i : Nat} : inBlk i Q .ret env h = Q .ret env h := rfl
@[simp ↓] theorem inBlk_goto {i l : Nat} : inBlk i Q (.goto l) env h = Q (.goto l) env h := rfl
@[simp ↓] theorem inBlk_exit {i j : Nat} : inBlk i Q (.exit j) env h = if j = i then Q .normal env h else Q (.exit j) env h := rfl
@[congr] theorem roundK_congr {I : Nat → Env → Hp → Prop} {n : Nat} {e : Exit} : roundK I n Q e env h = roundK I n Q e env h := rfl
@[simp ↓] theorem roundK_normal {I : Nat → Env → Hp → Prop} {n : Nat} : roundK I n Q .normal env h = ∃ m, m < n ∧ I m env h := rfl
@[simp ↓] theorem roundK_ret {I : Nat → Env → Hp → Prop} {n : Nat} : roundK I n Q .ret env h = Q .ret env h := rfl
@[simp ↓] theorem roundK_exit {I : Nat → Env → Hp → Prop} {n i : Nat} : roundK I n Q (.exit i) env h = Q (.exit i) env h := rfl
@[simp ↓] theorem roundK_goto {I : Nat → Env → Hp → Prop} {n i : Nat} : roundK I n Q (.goto i) env h = Q (.goto i) env h := rfl
@[congr] theorem jumpK_congr {I : Nat → Env → Hp → Prop} {e : Exit} : jumpK I Q e env h = jumpK I Q e env h := rfl
@[simp ↓] theorem jumpK_normal {I : Nat → Env → Hp → Prop} : jumpK I Q .normal env h = Q .normal env h := rfl
@[simp ↓] theorem jumpK_ret {I : Nat → Env → Hp → Prop} : jumpK I Q .ret env h = Q .ret env h := rfl
@[simp ↓] theorem jumpK_goto {I : Nat → Env → Hp → Prop} {l : Nat} : jumpK I Q (.goto l) env h = I l env h := rfl
@[simp ↓] theorem jumpK_exit {I : Nat → Env → Hp → Prop} {i : Nat} : jumpK I Q (.exit i) env h = Q (.exit i) env h := rfl
@[congr] theorem lp_congr : lp A Q env h = lp A Q env h := rfl
@[congr] theorem scp_congr {lab : Nat → Option Den} : scp A lab Q env h = scp A lab Q env h := rfl

/-- A branch at a value. -/
def brv (v : Value) (x y : Prop) : Prop := ∃ b, v = .bool b ∧ (match b with | true => x | false => y)
@[congr] theorem brv_congr {v v' : Value} {x y : Prop} (e : v = v') : brv v x y = brv v' x y := by rw [e]
@[simp ↓] theorem brv_true {x y : Prop} : brv (.bool true) x y = x := by unfold brv; simp
@[simp ↓] theorem brv_false {x y : Prop} : brv (.bool false) x y = y := by unfold brv; simp
@[congr] theorem cnd_congr {x : Operand} : cnd x A B Q env h = cnd x A B Q env h := rfl
@[simp ↓] theorem cnd_def {x : Operand} : cnd x A B Q env h = brv (ev env x) (A Q env h) (B Q env h) := Eq.trans rfl (Eq.symm (Eq.trans rfl rfl))
theorem brv_of {b : Bool} {x y : Prop} (h1 : b = true → x) (h2 : b = false → y) : brv (.bool b) x y := by
  cases b
  · exact ⟨false, rfl, h2 rfl⟩
  · exact ⟨true, rfl, h1 rfl⟩
@[simp ↓] theorem ev_tmp {t : Nat} : ev env (.tmp t) = env t := rfl
@[simp ↓] theorem ev_const {v : Value} : ev env (.const v) = v := rfl
end

@[congr] theorem callV_congr {P : Program} {v v' : Value} {args args' : Array Value} {h : Hp} {k : Value → Hp → Prop} (e : v = v') (e2 : args = args') : callV P v args h k = callV P v' args' h k := by rw [e, e2]
@[simp] theorem callV_func {P : Program} {f : FuncId} {first captured args : Array Value} {h : Hp} {k : Value → Hp → Prop} : callV P (.func (.func f) first captured) args h k = Ok P f (first ++ args ++ captured) h k := by unfold callV; rfl

@[simp ↓] theorem Env.set_get {env : Env} {d i : Nat} {v : Value} : env.set d v i = if i = d then v else env i := rfl
@[simp ↓] theorem env0_0 {a0 : Value} {l : List Value} : env0 (List.toArray (a0 :: l)) 0 = a0 := rfl
@[simp ↓] theorem env0_1 {a0 a1 : Value} {l : List Value} : env0 (List.toArray (a0 :: a1 :: l)) 1 = a1 := rfl
@[simp ↓] theorem env0_2 {a0 a1 a2 : Value} {l : List Value} : env0 (List.toArray (a0 :: a1 :: a2 :: l)) 2 = a2 := rfl
@[simp ↓] theorem env0_3 {a0 a1 a2 a3 : Value} {l : List Value} : env0 (List.toArray (a0 :: a1 :: a2 :: a3 :: l)) 3 = a3 := rfl
@[simp ↓] theorem env0_4 {a0 a1 a2 a3 a4 : Value} {l : List Value} : env0 (List.toArray (a0 :: a1 :: a2 :: a3 :: a4 :: l)) 4 = a4 := rfl
@[simp ↓] theorem env0_5 {a0 a1 a2 a3 a4 a5 : Value} {l : List Value} : env0 (List.toArray (a0 :: a1 :: a2 :: a3 :: a4 :: a5 :: l)) 5 = a5 := rfl
@[simp ↓] theorem env0_6 {a0 a1 a2 a3 a4 a5 a6 : Value} {l : List Value} : env0 (List.toArray (a0 :: a1 :: a2 :: a3 :: a4 :: a5 :: a6 :: l)) 6 = a6 := rfl
@[simp ↓] theorem env0_7 {a0 a1 a2 a3 a4 a5 a6 a7 : Value} {l : List Value} : env0 (List.toArray (a0 :: a1 :: a2 :: a3 :: a4 :: a5 :: a6 :: a7 :: l)) 7 = a7 := rfl
@[simp ↓] theorem env0_8 {a0 a1 a2 a3 a4 a5 a6 a7 a8 : Value} {l : List Value} : env0 (List.toArray (a0 :: a1 :: a2 :: a3 :: a4 :: a5 :: a6 :: a7 :: a8 :: l)) 8 = a8 := rfl
@[simp ↓] theorem env0_9 {a0 a1 a2 a3 a4 a5 a6 a7 a8 a9 : Value} {l : List Value} : env0 (List.toArray (a0 :: a1 :: a2 :: a3 :: a4 :: a5 :: a6 :: a7 :: a8 :: a9 :: l)) 9 = a9 := rfl

/-! ### Ends -/
def Le (h h' : Hp) : Prop := ∀ b o, h b = some o → h' b = some o
theorem Le.refl (h : Hp) : Le h h := fun _ _ e => e
theorem Le.trans {a b c : Hp} (x : Le a b) (y : Le b c) : Le a c := fun i o e => y i o (x i o e)
theorem Le.upd {a b : Hp} (x : Le a b) {i : Nat} {o : Obj} (hi : b i = none) : Le a (b.upd i o) := by
  intro j u e
  have := x j u e
  unfold Hp.upd
  by_cases hj : j = i
  · subst hj; rw [this] at hi; cases hi
  · rw [if_neg hj]; exact this
theorem Le.new {h : Hp} {i : Nat} {o : Obj} (hi : h i = none) : Le h (h.upd i o) := (Le.refl h).upd hi
theorem Le.put {a b : Hp} (x : Le a b) {i : Nat} {o : Obj} (hi : a i = none) : Le a (b.upd i o) := by
  intro j u e
  have := x j u e
  unfold Hp.upd
  by_cases hj : j = i
  · subst hj; rw [e] at hi; cases hi
  · rw [if_neg hj]; exact this
theorem ne_new {h : Hp} {x b : Nat} {o : Obj} (hx : h x = some o) (hb : h b = none) : x ≠ b := by
  rintro rfl; rw [hx] at hb; cases hb

/-- The end of a function: what nobody needs any more may be let go. -/
def drp (Q : Value → Hp → Prop) (v : Value) (h : Hp) : Prop := ∃ h', Le h' h ∧ Q v h'
@[congr] theorem drp_congr {Q : Value → Hp → Prop} {v v' : Value} {h : Hp} (e : v = v') : drp Q v h = drp Q v' h := by rw [e]
theorem drp.to {Q : Value → Hp → Prop} {v : Value} {h : Hp} (h' : Hp) (l : Le h' h) (q : Q v h') : drp Q v h := ⟨h', l, q⟩
def finr (o : Option (List Value)) (h : Hp) (Q : Value → Hp → Prop) : Prop := ∃ vs, o = some vs ∧ drp Q (retv vs) h
@[congr] theorem finr_congr {o o' : Option (List Value)} {h : Hp} {Q : Value → Hp → Prop} (e : o = o') : finr o h Q = finr o' h Q := by rw [e]
@[simp ↓] theorem finr_some {vs : List Value} {h : Hp} {Q : Value → Hp → Prop} : finr (some vs) h Q = drp Q (retv vs) h := by unfold finr; simp
@[simp ↓] theorem retv_1 {a : Value} : retv [a] = a := rfl
@[simp ↓] theorem retv_0 : retv [] = .tuple #[] := rfl
@[simp ↓] theorem retv_2 {a b : Value} {l : List Value} : retv (a :: b :: l) = .tuple (List.toArray (a :: b :: l)) := rfl
section
variable {P : Program} {rs : List ResultVar} {Q : Value → Hp → Prop} {env : Env} {h : Hp}
@[congr] theorem fin_congr {e : Exit} : fin P rs Q e env h = fin P rs Q e env h := rfl
@[simp ↓] theorem fin_ret : fin P rs Q .ret env h = finr (resv P env h rs) h Q := rfl
@[simp ↓] theorem fin_normal : fin P rs Q .normal env h = finr (resv P env h rs) h Q := rfl
@[simp ↓] theorem resv_nil : resv P env h [] = some [] := rfl
@[simp ↓] theorem resv_tmp {t : Nat} : resv P env h (.tmp t :: rs) = (resv P env h rs).map (env t :: ·) := rfl
def loadV (P : Program) (t : TypeId) (v : Value) (h : Hp) : Option Value := match v with | .pointer (some a) => rrun P (Instr.loadAt t (.pointer (some a))) h | _ => none
@[simp] theorem resv_cell {t a : Nat} : resv P env h (.cell a t :: rs) = (loadV P t (env a) h).bind fun v => (resv P env h rs).map (v :: ·) := by
  simp only [resv, loadV]
  cases env a <;> try rfl
  rename_i p
  cases p with
  | none => rfl
  | some ad =>
    simp only
    have : rrun P (Instr.loadAt t (.pointer (some ad))) h = rrun P (loadVar t ad) h := rfl
    rw [this]
    cases rrun P (loadVar t ad) h <;> rfl
@[simp ↓] theorem loadV_ptr {t : TypeId} {a : Addr} : loadV P t (.pointer (some a)) h = rrun P (Instr.loadAt t (.pointer (some a))) h := rfl
end

/-! ### Short arrays -/
@[simp ↓] theorem aget_0 {α : Type} {a0 : α} {l : List α} : (List.toArray (a0 :: l))[0]? = some a0 := rfl
@[simp ↓] theorem lget_0 {α : Type} {a0 : α} {l : List α} : (a0 :: l)[0]? = some a0 := rfl
@[simp ↓] theorem aset_0 {α : Type} {a0 v : α} {l : List α} : (List.toArray (a0 :: l)).setIfInBounds 0 v = List.toArray (v :: l) := by simp
@[simp ↓] theorem aget_1 {α : Type} {a0 a1 : α} {l : List α} : (List.toArray (a0 :: a1 :: l))[1]? = some a1 := rfl
@[simp ↓] theorem lget_1 {α : Type} {a0 a1 : α} {l : List α} : (a0 :: a1 :: l)[1]? = some a1 := rfl
@[simp ↓] theorem aset_1 {α : Type} {a0 a1 v : α} {l : List α} : (List.toArray (a0 :: a1 :: l)).setIfInBounds 1 v = List.toArray (a0 :: v :: l) := by simp
@[simp ↓] theorem aget_2 {α : Type} {a0 a1 a2 : α} {l : List α} : (List.toArray (a0 :: a1 :: a2 :: l))[2]? = some a2 := rfl
@[simp ↓] theorem lget_2 {α : Type} {a0 a1 a2 : α} {l : List α} : (a0 :: a1 :: a2 :: l)[2]? = some a2 := rfl
@[simp ↓] theorem aset_2 {α : Type} {a0 a1 a2 v : α} {l : List α} : (List.toArray (a0 :: a1 :: a2 :: l)).setIfInBounds 2 v = List.toArray (a0 :: a1 :: v :: l) := by simp
@[simp ↓] theorem aget_3 {α : Type} {a0 a1 a2 a3 : α} {l : List α} : (List.toArray (a0 :: a1 :: a2 :: a3 :: l))[3]? = some a3 := rfl
@[simp ↓] theorem lget_3 {α : Type} {a0 a1 a2 a3 : α} {l : List α} : (a0 :: a1 :: a2 :: a3 :: l)[3]? = some a3 := rfl
@[simp ↓] theorem aset_3 {α : Type} {a0 a1 a2 a3 v : α} {l : List α} : (List.toArray (a0 :: a1 :: a2 :: a3 :: l)).setIfInBounds 3 v = List.toArray (a0 :: a1 :: a2 :: v :: l) := by simp
@[simp ↓] theorem aget_4 {α : Type} {a0 a1 a2 a3 a4 : α} {l : List α} : (List.toArray (a0 :: a1 :: a2 :: a3 :: a4 :: l))[4]? = some a4 := rfl
@[simp ↓] theorem lget_4 {α : Type} {a0 a1 a2 a3 a4 : α} {l : List α} : (a0 :: a1 :: a2 :: a3 :: a4 :: l)[4]? = some a4 := rfl
@[simp ↓] theorem aset_4 {α : Type} {a0 a1 a2 a3 a4 v : α} {l : List α} : (List.toArray (a0 :: a1 :: a2 :: a3 :: a4 :: l)).setIfInBounds 4 v = List.toArray (a0 :: a1 :: a2 :: a3 :: v :: l) := by simp
@[simp ↓] theorem aget_5 {α : Type} {a0 a1 a2 a3 a4 a5 : α} {l : List α} : (List.toArray (a0 :: a1 :: a2 :: a3 :: a4 :: a5 :: l))[5]? = some a5 := rfl
@[simp ↓] theorem lget_5 {α : Type} {a0 a1 a2 a3 a4 a5 : α} {l : List α} : (a0 :: a1 :: a2 :: a3 :: a4 :: a5 :: l)[5]? = some a5 := rfl
@[simp ↓] theorem aset_5 {α : Type} {a0 a1 a2 a3 a4 a5 v : α} {l : List α} : (List.toArray (a0 :: a1 :: a2 :: a3 :: a4 :: a5 :: l)).setIfInBounds 5 v = List.toArray (a0 :: a1 :: a2 :: a3 :: a4 :: v :: l) := by simp
@[simp ↓] theorem aget_6 {α : Type} {a0 a1 a2 a3 a4 a5 a6 : α} {l : List α} : (List.toArray (a0 :: a1 :: a2 :: a3 :: a4 :: a5 :: a6 :: l))[6]? = some a6 := rfl
@[simp ↓] theorem lget_6 {α : Type} {a0 a1 a2 a3 a4 a5 a6 : α} {l : List α} : (a0 :: a1 :: a2 :: a3 :: a4 :: a5 :: a6 :: l)[6]? = some a6 := rfl
@[simp ↓] theorem aset_6 {α : Type} {a0 a1 a2 a3 a4 a5 a6 v : α} {l : List α} : (List.toArray (a0 :: a1 :: a2 :: a3 :: a4 :: a5 :: a6 :: l)).setIfInBounds 6 v = List.toArray (a0 :: a1 :: a2 :: a3 :: a4 :: a5 :: v :: l) := by simp
@[simp ↓] theorem aget_7 {α : Type} {a0 a1 a2 a3 a4 a5 a6 a7 : α} {l : List α} : (List.toArray (a0 :: a1 :: a2 :: a3 :: a4 :: a5 :: a6 :: a7 :: l))[7]? = some a7 := rfl
@[simp ↓] theorem lget_7 {α : Type} {a0 a1 a2 a3 a4 a5 a6 a7 : α} {l : List α} : (a0 :: a1 :: a2 :: a3 :: a4 :: a5 :: a6 :: a7 :: l)[7]? = some a7 := rfl
@[simp ↓] theorem aset_7 {α : Type} {a0 a1 a2 a3 a4 a5 a6 a7 v : α} {l : List α} : (List.toArray (a0 :: a1 :: a2 :: a3 :: a4 :: a5 :: a6 :: a7 :: l)).setIfInBounds 7 v = List.toArray (a0 :: a1 :: a2 :: a3 :: a4 :: a5 :: a6 :: v :: l) := by simp
@[simp ↓] theorem aget_8 {α : Type} {a0 a1 a2 a3 a4 a5 a6 a7 a8 : α} {l : List α} : (List.toArray (a0 :: a1 :: a2 :: a3 :: a4 :: a5 :: a6 :: a7 :: a8 :: l))[8]? = some a8 := rfl
@[simp ↓] theorem lget_8 {α : Type} {a0 a1 a2 a3 a4 a5 a6 a7 a8 : α} {l : List α} : (a0 :: a1 :: a2 :: a3 :: a4 :: a5 :: a6 :: a7 :: a8 :: l)[8]? = some a8 := rfl
@[simp ↓] theorem aset_8 {α : Type} {a0 a1 a2 a3 a4 a5 a6 a7 a8 v : α} {l : List α} : (List.toArray (a0 :: a1 :: a2 :: a3 :: a4 :: a5 :: a6 :: a7 :: a8 :: l)).setIfInBounds 8 v = List.toArray (a0 :: a1 :: a2 :: a3 :: a4 :: a5 :: a6 :: a7 :: v :: l) := by simp
@[simp ↓] theorem aget_9 {α : Type} {a0 a1 a2 a3 a4 a5 a6 a7 a8 a9 : α} {l : List α} : (List.toArray (a0 :: a1 :: a2 :: a3 :: a4 :: a5 :: a6 :: a7 :: a8 :: a9 :: l))[9]? = some a9 := rfl
@[simp ↓] theorem lget_9 {α : Type} {a0 a1 a2 a3 a4 a5 a6 a7 a8 a9 : α} {l : List α} : (a0 :: a1 :: a2 :: a3 :: a4 :: a5 :: a6 :: a7 :: a8 :: a9 :: l)[9]? = some a9 := rfl
@[simp ↓] theorem aset_9 {α : Type} {a0 a1 a2 a3 a4 a5 a6 a7 a8 a9 v : α} {l : List α} : (List.toArray (a0 :: a1 :: a2 :: a3 :: a4 :: a5 :: a6 :: a7 :: a8 :: a9 :: l)).setIfInBounds 9 v = List.toArray (a0 :: a1 :: a2 :: a3 :: a4 :: a5 :: a6 :: a7 :: a8 :: v :: l) := by simp
@[simp ↓] theorem aget_10 {α : Type} {a0 a1 a2 a3 a4 a5 a6 a7 a8 a9 a10 : α} {l : List α} : (List.toArray (a0 :: a1 :: a2 :: a3 :: a4 :: a5 :: a6 :: a7 :: a8 :: a9 :: a10 :: l))[10]? = some a10 := rfl
@[simp ↓] theorem lget_10 {α : Type} {a0 a1 a2 a3 a4 a5 a6 a7 a8 a9 a10 : α} {l : List α} : (a0 :: a1 :: a2 :: a3 :: a4 :: a5 :: a6 :: a7 :: a8 :: a9 :: a10 :: l)[10]? = some a10 := rfl
@[simp ↓] theorem aset_10 {α : Type} {a0 a1 a2 a3 a4 a5 a6 a7 a8 a9 a10 v : α} {l : List α} : (List.toArray (a0 :: a1 :: a2 :: a3 :: a4 :: a5 :: a6 :: a7 :: a8 :: a9 :: a10 :: l)).setIfInBounds 10 v = List.toArray (a0 :: a1 :: a2 :: a3 :: a4 :: a5 :: a6 :: a7 :: a8 :: a9 :: v :: l) := by simp
@[simp ↓] theorem aget_11 {α : Type} {a0 a1 a2 a3 a4 a5 a6 a7 a8 a9 a10 a11 : α} {l : List α} : (List.toArray (a0 :: a1 :: a2 :: a3 :: a4 :: a5 :: a6 :: a7 :: a8 :: a9 :: a10 :: a11 :: l))[11]? = some a11 := rfl
@[simp ↓] theorem lget_11 {α : Type} {a0 a1 a2 a3 a4 a5 a6 a7 a8 a9 a10 a11 : α} {l : List α} : (a0 :: a1 :: a2 :: a3 :: a4 :: a5 :: a6 :: a7 :: a8 :: a9 :: a10 :: a11 :: l)[11]? = some a11 := rfl
@[simp ↓] theorem aset_11 {α : Type} {a0 a1 a2 a3 a4 a5 a6 a7 a8 a9 a10 a11 v : α} {l : List α} : (List.toArray (a0 :: a1 :: a2 :: a3 :: a4 :: a5 :: a6 :: a7 :: a8 :: a9 :: a10 :: a11 :: l)).setIfInBounds 11 v = List.toArray (a0 :: a1 :: a2 :: a3 :: a4 :: a5 :: a6 :: a7 :: a8 :: a9 :: a10 :: v :: l) := by simp

/-! ### Operations -/
def bits_and (k : IntKind) (a b : Int) : Int := k.wrap (BitVec.ofInt k.bits a &&& BitVec.ofInt k.bits b : BitVec k.bits).toNat
def bits_or (k : IntKind) (a b : Int) : Int := k.wrap (BitVec.ofInt k.bits a ||| BitVec.ofInt k.bits b : BitVec k.bits).toNat
def bits_xor (k : IntKind) (a b : Int) : Int := k.wrap (BitVec.ofInt k.bits a ^^^ BitVec.ofInt k.bits b : BitVec k.bits).toNat
def bits_andNot (k : IntKind) (a b : Int) : Int := k.wrap (BitVec.ofInt k.bits a &&& ~~~(BitVec.ofInt k.bits b) : BitVec k.bits).toNat
section
variable {P : Program} {h : Hp}

@[congr] theorem rdv_congr {o o' : Option Value} {k : Value → Prop} (e : o = o') : rdv o k = rdv o' k := by rw [e]
@[simp ↓] theorem rdv_some {v : Value} {k : Value → Prop} : rdv (some v) k = k v := by unfold rdv; simp
@[congr] theorem rd_congr {s s' : Sem Value} {k : Value → Prop} (e : s = s') : rd P s h k = rd P s' h k := by rw [e]
@[simp] theorem rd_def {s : Sem Value} {k : Value → Prop} : rd P s h k = rdv (rrun P s h) k := rfl
@[congr] theorem arun_congr {α : Type} {s s' : Sem α} {k : α → Hp → Prop} (e : s = s') : arun P s h k = arun P s' h k := by rw [e]
@[congr] theorem Ok_congr {f : Nat} {a a' : Array Value} {k : Value → Hp → Prop} (e : a = a') : Ok P f a h k = Ok P f a' h k := by rw [e]
@[congr] theorem nck_congr {x x' : Value} {q : Prop} (e : x = x') : nck x q = nck x' q := by rw [e]
@[simp ↓] theorem nck_ptr {a : Addr} {q : Prop} : nck (.pointer (some a)) q = q := by simp [nck, nilOk]
@[simp ↓] theorem nck_map {a : Option Nat} {q : Prop} : nck (.map a) q = q := by simp [nck, nilOk]
@[simp ↓] theorem nck_iface {t : TypeId} {v : Value} {q : Prop} : nck (.iface t v) q = q := by simp [nck, nilOk]
@[congr] theorem gd_congr {c c' : Bool} {ex : Hp → (Value → Hp → Prop) → Prop} {k : Value → Hp → Prop} (e : c = c') : gd c ex h k = gd c' ex h k := by rw [e]
attribute [simp ↓] gd_true gd_false
@[simp] theorem yb_bool {b : Bool} : yb (.bool b) = some b := rfl
@[simp] theorem yb_undef : yb undef = none := rfl

/-- A new block. -/
def nw (h : Hp) (o : Obj) (k : Nat → Hp → Prop) : Prop := ∀ b, h b = none → k b (h.upd b o)
@[congr] theorem nw_congr {o o' : Obj} {k : Nat → Hp → Prop} (e : o = o') : nw h o k = nw h o' k := by rw [e]

/-- A store. -/
def stw (c : Option Value) (f : Bool) (q : Prop) : Prop := (∃ u, c = some u) ∧ f = false ∧ q
@[congr] theorem stw_congr {c c' : Option Value} {f f' : Bool} {q : Prop} (e : c = c') (e2 : f = f') : stw c f q = stw c' f' q := by rw [e, e2]
@[simp ↓] theorem stw_ok {u : Value} {q : Prop} : stw (some u) false q = q := by unfold stw; simp

@[simp ↓] theorem arun_box {t : TypeId} {v : Value} {k : Value → Hp → Prop} : arun P (Instr.box t v) h k = nw h (.cells v.cells t) fun b h => k (.pointer (some ⟨b, 0, none⟩)) h := rfl
@[simp] theorem cells_agg {c : Array Value} : Value.cells (.agg c) = c := rfl
@[simp] theorem cells_int {k : IntKind} {n : Int} : Value.cells (.int k n) = #[.int k n] := rfl
@[simp] theorem cells_bool {n : Bool} : Value.cells (.bool n) = #[.bool n] := rfl
@[simp] theorem cells_slice {a : Option Addr} {n c : Nat} : Value.cells (.slice a n c) = #[.slice a n c] := rfl
@[simp] theorem cells_ptr {a : Option Addr} : Value.cells (.pointer a) = #[.pointer a] := rfl
@[simp] theorem cells_map {a : Option Nat} : Value.cells (.map a) = #[.map a] := rfl

@[simp] theorem rr_extract {vs : Array Value} {i : Nat} : rrun P (Instr.extract (.tuple vs) i) h = vs[i]? := by
  cases h' : vs[i]? <;> simp only [Instr.extract, h'] <;> rfl
@[simp] theorem rr_not {b : Bool} : rrun P (Op.unary .not (.bool b)) h = some (.bool !b) := rfl
@[simp] theorem rr_pck {b : Bool} {x y : Value} : rrun P (pck (.bool b) x y) h = some (if b then x else y) := rfl

@[simp] theorem rr_add_i64 {t : TypeId} {x y : Operand} {a b : Int} : rrun P (bop .add t x y (.int .i64 a) (.int .i64 b)) h = some (.int .i64 (IntKind.i64.wrap (a + b))) := rfl
@[simp] theorem rr_sub_i64 {t : TypeId} {x y : Operand} {a b : Int} : rrun P (bop .sub t x y (.int .i64 a) (.int .i64 b)) h = some (.int .i64 (IntKind.i64.wrap (a - b))) := rfl
@[simp] theorem rr_mul_i64 {t : TypeId} {x y : Operand} {a b : Int} : rrun P (bop .mul t x y (.int .i64 a) (.int .i64 b)) h = some (.int .i64 (IntKind.i64.wrap (a * b))) := rfl
@[simp] theorem rr_eql_i64 {t : TypeId} {x y : Operand} {a b : Int} : rrun P (bop .eql t x y (.int .i64 a) (.int .i64 b)) h = some (.bool (decide (a = b))) := rfl
@[simp] theorem rr_neq_i64 {t : TypeId} {x y : Operand} {a b : Int} : rrun P (bop .neq t x y (.int .i64 a) (.int .i64 b)) h = some (.bool (!decide (a = b))) := rfl
@[simp] theorem rr_lss_i64 {t : TypeId} {x y : Operand} {a b : Int} : rrun P (bop .lss t x y (.int .i64 a) (.int .i64 b)) h = some (.bool (decide (a < b))) := rfl
@[simp] theorem rr_leq_i64 {t : TypeId} {x y : Operand} {a b : Int} : rrun P (bop .leq t x y (.int .i64 a) (.int .i64 b)) h = some (.bool (decide (a ≤ b))) := rfl
@[simp] theorem rr_gtr_i64 {t : TypeId} {x y : Operand} {a b : Int} : rrun P (bop .gtr t x y (.int .i64 a) (.int .i64 b)) h = some (.bool (decide (a > b))) := rfl
@[simp] theorem rr_geq_i64 {t : TypeId} {x y : Operand} {a b : Int} : rrun P (bop .geq t x y (.int .i64 a) (.int .i64 b)) h = some (.bool (decide (a ≥ b))) := rfl
@[simp] theorem rr_and_i64 {t : TypeId} {x y : Operand} {a b : Int} : rrun P (bop .and t x y (.int .i64 a) (.int .i64 b)) h = some (.int .i64 (bits_and .i64 a b)) := rfl
@[simp] theorem rr_or_i64 {t : TypeId} {x y : Operand} {a b : Int} : rrun P (bop .or t x y (.int .i64 a) (.int .i64 b)) h = some (.int .i64 (bits_or .i64 a b)) := rfl
@[simp] theorem rr_xor_i64 {t : TypeId} {x y : Operand} {a b : Int} : rrun P (bop .xor t x y (.int .i64 a) (.int .i64 b)) h = some (.int .i64 (bits_xor .i64 a b)) := rfl
@[simp] theorem rr_andNot_i64 {t : TypeId} {x y : Operand} {a b : Int} : rrun P (bop .andNot t x y (.int .i64 a) (.int .i64 b)) h = some (.int .i64 (bits_andNot .i64 a b)) := rfl
@[simp] theorem rr_quo_i64 {t : TypeId} {x y : Operand} {a b : Int} (hb : b ≠ 0) : rrun P (bop .quo t x y (.int .i64 a) (.int .i64 b)) h = some (.int .i64 (IntKind.i64.wrap (a.tdiv b))) := by
  show rrun P (Op.intDiv .quo .i64 a b) h = _
  simp only [Op.intDiv, if_neg hb]; rfl
@[simp] theorem rr_rem_i64 {t : TypeId} {x y : Operand} {a b : Int} (hb : b ≠ 0) : rrun P (bop .rem t x y (.int .i64 a) (.int .i64 b)) h = some (.int .i64 (a.tmod b)) := by
  show rrun P (Op.intDiv .rem .i64 a b) h = _
  simp only [Op.intDiv, if_neg hb]; rfl
@[simp] theorem rr_shl_i64_i64 {t : TypeId} {x y : Operand} {a b : Int} (hb : 0 ≤ b) : rrun P (bop .shl t x y (.int .i64 a) (.int .i64 b)) h = some (.int .i64 (IntKind.i64.wrap (a * 2 ^ (min b.toNat 64)))) := by
  show rrun P (Op.shift .shl .i64 a .i64 b) h = _
  simp only [Op.shift, if_neg (Int.not_lt.2 hb)]; rfl
@[simp] theorem rr_shr_i64_i64 {t : TypeId} {x y : Operand} {a b : Int} (hb : 0 ≤ b) : rrun P (bop .shr t x y (.int .i64 a) (.int .i64 b)) h = some (.int .i64 (a.fdiv (2 ^ (min b.toNat 64)))) := by
  show rrun P (Op.shift .shr .i64 a .i64 b) h = _
  simp only [Op.shift, if_neg (Int.not_lt.2 hb)]; rfl
@[simp] theorem rr_shl_i64_u32 {t : TypeId} {x y : Operand} {a b : Int} (hb : 0 ≤ b) : rrun P (bop .shl t x y (.int .i64 a) (.int .u32 b)) h = some (.int .i64 (IntKind.i64.wrap (a * 2 ^ (min b.toNat 64)))) := by
  show rrun P (Op.shift .shl .i64 a .u32 b) h = _
  simp only [Op.shift, if_neg (Int.not_lt.2 hb)]; rfl
@[simp] theorem rr_shr_i64_u32 {t : TypeId} {x y : Operand} {a b : Int} (hb : 0 ≤ b) : rrun P (bop .shr t x y (.int .i64 a) (.int .u32 b)) h = some (.int .i64 (a.fdiv (2 ^ (min b.toNat 64)))) := by
  show rrun P (Op.shift .shr .i64 a .u32 b) h = _
  simp only [Op.shift, if_neg (Int.not_lt.2 hb)]; rfl
@[simp] theorem rr_shl_i64_u64 {t : TypeId} {x y : Operand} {a b : Int} (hb : 0 ≤ b) : rrun P (bop .shl t x y (.int .i64 a) (.int .u64 b)) h = some (.int .i64 (IntKind.i64.wrap (a * 2 ^ (min b.toNat 64)))) := by
  show rrun P (Op.shift .shl .i64 a .u64 b) h = _
  simp only [Op.shift, if_neg (Int.not_lt.2 hb)]; rfl
@[simp] theorem rr_shr_i64_u64 {t : TypeId} {x y : Operand} {a b : Int} (hb : 0 ≤ b) : rrun P (bop .shr t x y (.int .i64 a) (.int .u64 b)) h = some (.int .i64 (a.fdiv (2 ^ (min b.toNat 64)))) := by
  show rrun P (Op.shift .shr .i64 a .u64 b) h = _
  simp only [Op.shift, if_neg (Int.not_lt.2 hb)]; rfl
@[simp] theorem rr_min_i64 {ts : Array TypeId} {t : TypeId} {a b : Int} : rrun P (Builtin.min_ ts t #[.int .i64 a, .int .i64 b]) h = some (.int .i64 (min a b)) := by
  show some (Value.int .i64 (if b < a then b else a)) = _
  congr 2; split <;> omega
@[simp] theorem rr_max_i64 {ts : Array TypeId} {t : TypeId} {a b : Int} : rrun P (Builtin.max_ ts t #[.int .i64 a, .int .i64 b]) h = some (.int .i64 (max a b)) := by
  show some (Value.int .i64 (if b > a then b else a)) = _
  congr 2; split <;> omega
@[simp] theorem rr_add_u32 {t : TypeId} {x y : Operand} {a b : Int} : rrun P (bop .add t x y (.int .u32 a) (.int .u32 b)) h = some (.int .u32 (IntKind.u32.wrap (a + b))) := rfl
@[simp] theorem rr_sub_u32 {t : TypeId} {x y : Operand} {a b : Int} : rrun P (bop .sub t x y (.int .u32 a) (.int .u32 b)) h = some (.int .u32 (IntKind.u32.wrap (a - b))) := rfl
@[simp] theorem rr_mul_u32 {t : TypeId} {x y : Operand} {a b : Int} : rrun P (bop .mul t x y (.int .u32 a) (.int .u32 b)) h = some (.int .u32 (IntKind.u32.wrap (a * b))) := rfl
@[simp] theorem rr_eql_u32 {t : TypeId} {x y : Operand} {a b : Int} : rrun P (bop .eql t x y (.int .u32 a) (.int .u32 b)) h = some (.bool (decide (a = b))) := rfl
@[simp] theorem rr_neq_u32 {t : TypeId} {x y : Operand} {a b : Int} : rrun P (bop .neq t x y (.int .u32 a) (.int .u32 b)) h = some (.bool (!decide (a = b))) := rfl
@[simp] theorem rr_lss_u32 {t : TypeId} {x y : Operand} {a b : Int} : rrun P (bop .lss t x y (.int .u32 a) (.int .u32 b)) h = some (.bool (decide (a < b))) := rfl
@[simp] theorem rr_leq_u32 {t : TypeId} {x y : Operand} {a b : Int} : rrun P (bop .leq t x y (.int .u32 a) (.int .u32 b)) h = some (.bool (decide (a ≤ b))) := rfl
@[simp] theorem rr_gtr_u32 {t : TypeId} {x y : Operand} {a b : Int} : rrun P (bop .gtr t x y (.int .u32 a) (.int .u32 b)) h = some (.bool (decide (a > b))) := rfl
@[simp] theorem rr_geq_u32 {t : TypeId} {x y : Operand} {a b : Int} : rrun P (bop .geq t x y (.int .u32 a) (.int .u32 b)) h = some (.bool (decide (a ≥ b))) := rfl
@[simp] theorem rr_and_u32 {t : TypeId} {x y : Operand} {a b : Int} : rrun P (bop .and t x y (.int .u32 a) (.int .u32 b)) h = some (.int .u32 (bits_and .u32 a b)) := rfl
@[simp] theorem rr_or_u32 {t : TypeId} {x y : Operand} {a b : Int} : rrun P (bop .or t x y (.int .u32 a) (.int .u32 b)) h = some (.int .u32 (bits_or .u32 a b)) := rfl
@[simp] theorem rr_xor_u32 {t : TypeId} {x y : Operand} {a b : Int} : rrun P (bop .xor t x y (.int .u32 a) (.int .u32 b)) h = some (.int .u32 (bits_xor .u32 a b)) := rfl
@[simp] theorem rr_andNot_u32 {t : TypeId} {x y : Operand} {a b : Int} : rrun P (bop .andNot t x y (.int .u32 a) (.int .u32 b)) h = some (.int .u32 (bits_andNot .u32 a b)) := rfl
@[simp] theorem rr_quo_u32 {t : TypeId} {x y : Operand} {a b : Int} (hb : b ≠ 0) : rrun P (bop .quo t x y (.int .u32 a) (.int .u32 b)) h = some (.int .u32 (IntKind.u32.wrap (a.tdiv b))) := by
  show rrun P (Op.intDiv .quo .u32 a b) h = _
  simp only [Op.intDiv, if_neg hb]; rfl
@[simp] theorem rr_rem_u32 {t : TypeId} {x y : Operand} {a b : Int} (hb : b ≠ 0) : rrun P (bop .rem t x y (.int .u32 a) (.int .u32 b)) h = some (.int .u32 (a.tmod b)) := by
  show rrun P (Op.intDiv .rem .u32 a b) h = _
  simp only [Op.intDiv, if_neg hb]; rfl
@[simp] theorem rr_shl_u32_i64 {t : TypeId} {x y : Operand} {a b : Int} (hb : 0 ≤ b) : rrun P (bop .shl t x y (.int .u32 a) (.int .i64 b)) h = some (.int .u32 (IntKind.u32.wrap (a * 2 ^ (min b.toNat 32)))) := by
  show rrun P (Op.shift .shl .u32 a .i64 b) h = _
  simp only [Op.shift, if_neg (Int.not_lt.2 hb)]; rfl
@[simp] theorem rr_shr_u32_i64 {t : TypeId} {x y : Operand} {a b : Int} (hb : 0 ≤ b) : rrun P (bop .shr t x y (.int .u32 a) (.int .i64 b)) h = some (.int .u32 (a.fdiv (2 ^ (min b.toNat 32)))) := by
  show rrun P (Op.shift .shr .u32 a .i64 b) h = _
  simp only [Op.shift, if_neg (Int.not_lt.2 hb)]; rfl
@[simp] theorem rr_shl_u32_u32 {t : TypeId} {x y : Operand} {a b : Int} (hb : 0 ≤ b) : rrun P (bop .shl t x y (.int .u32 a) (.int .u32 b)) h = some (.int .u32 (IntKind.u32.wrap (a * 2 ^ (min b.toNat 32)))) := by
  show rrun P (Op.shift .shl .u32 a .u32 b) h = _
  simp only [Op.shift, if_neg (Int.not_lt.2 hb)]; rfl
@[simp] theorem rr_shr_u32_u32 {t : TypeId} {x y : Operand} {a b : Int} (hb : 0 ≤ b) : rrun P (bop .shr t x y (.int .u32 a) (.int .u32 b)) h = some (.int .u32 (a.fdiv (2 ^ (min b.toNat 32)))) := by
  show rrun P (Op.shift .shr .u32 a .u32 b) h = _
  simp only [Op.shift, if_neg (Int.not_lt.2 hb)]; rfl
@[simp] theorem rr_shl_u32_u64 {t : TypeId} {x y : Operand} {a b : Int} (hb : 0 ≤ b) : rrun P (bop .shl t x y (.int .u32 a) (.int .u64 b)) h = some (.int .u32 (IntKind.u32.wrap (a * 2 ^ (min b.toNat 32)))) := by
  show rrun P (Op.shift .shl .u32 a .u64 b) h = _
  simp only [Op.shift, if_neg (Int.not_lt.2 hb)]; rfl
@[simp] theorem rr_shr_u32_u64 {t : TypeId} {x y : Operand} {a b : Int} (hb : 0 ≤ b) : rrun P (bop .shr t x y (.int .u32 a) (.int .u64 b)) h = some (.int .u32 (a.fdiv (2 ^ (min b.toNat 32)))) := by
  show rrun P (Op.shift .shr .u32 a .u64 b) h = _
  simp only [Op.shift, if_neg (Int.not_lt.2 hb)]; rfl
@[simp] theorem rr_min_u32 {ts : Array TypeId} {t : TypeId} {a b : Int} : rrun P (Builtin.min_ ts t #[.int .u32 a, .int .u32 b]) h = some (.int .u32 (min a b)) := by
  show some (Value.int .u32 (if b < a then b else a)) = _
  congr 2; split <;> omega
@[simp] theorem rr_max_u32 {ts : Array TypeId} {t : TypeId} {a b : Int} : rrun P (Builtin.max_ ts t #[.int .u32 a, .int .u32 b]) h = some (.int .u32 (max a b)) := by
  show some (Value.int .u32 (if b > a then b else a)) = _
  congr 2; split <;> omega
@[simp] theorem rr_add_u16 {t : TypeId} {x y : Operand} {a b : Int} : rrun P (bop .add t x y (.int .u16 a) (.int .u16 b)) h = some (.int .u16 (IntKind.u16.wrap (a + b))) := rfl
@[simp] theorem rr_sub_u16 {t : TypeId} {x y : Operand} {a b : Int} : rrun P (bop .sub t x y (.int .u16 a) (.int .u16 b)) h = some (.int .u16 (IntKind.u16.wrap (a - b))) := rfl
@[simp] theorem rr_mul_u16 {t : TypeId} {x y : Operand} {a b : Int} : rrun P (bop .mul t x y (.int .u16 a) (.int .u16 b)) h = some (.int .u16 (IntKind.u16.wrap (a * b))) := rfl
@[simp] theorem rr_eql_u16 {t : TypeId} {x y : Operand} {a b : Int} : rrun P (bop .eql t x y (.int .u16 a) (.int .u16 b)) h = some (.bool (decide (a = b))) := rfl
@[simp] theorem rr_neq_u16 {t : TypeId} {x y : Operand} {a b : Int} : rrun P (bop .neq t x y (.int .u16 a) (.int .u16 b)) h = some (.bool (!decide (a = b))) := rfl
@[simp] theorem rr_lss_u16 {t : TypeId} {x y : Operand} {a b : Int} : rrun P (bop .lss t x y (.int .u16 a) (.int .u16 b)) h = some (.bool (decide (a < b))) := rfl
@[simp] theorem rr_leq_u16 {t : TypeId} {x y : Operand} {a b : Int} : rrun P (bop .leq t x y (.int .u16 a) (.int .u16 b)) h = some (.bool (decide (a ≤ b))) := rfl
@[simp] theorem rr_gtr_u16 {t : TypeId} {x y : Operand} {a b : Int} : rrun P (bop .gtr t x y (.int .u16 a) (.int .u16 b)) h = some (.bool (decide (a > b))) := rfl
@[simp] theorem rr_geq_u16 {t : TypeId} {x y : Operand} {a b : Int} : rrun P (bop .geq t x y (.int .u16 a) (.int .u16 b)) h = some (.bool (decide (a ≥ b))) := rfl
@[simp] theorem rr_and_u16 {t : TypeId} {x y : Operand} {a b : Int} : rrun P (bop .and t x y (.int .u16 a) (.int .u16 b)) h = some (.int .u16 (bits_and .u16 a b)) := rfl
@[simp] theorem rr_or_u16 {t : TypeId} {x y : Operand} {a b : Int} : rrun P (bop .or t x y (.int .u16 a) (.int .u16 b)) h = some (.int .u16 (bits_or .u16 a b)) := rfl
@[simp] theorem rr_xor_u16 {t : TypeId} {x y : Operand} {a b : Int} : rrun P (bop .xor t x y (.int .u16 a) (.int .u16 b)) h = some (.int .u16 (bits_xor .u16 a b)) := rfl
@[simp] theorem rr_andNot_u16 {t : TypeId} {x y : Operand} {a b : Int} : rrun P (bop .andNot t x y (.int .u16 a) (.int .u16 b)) h = some (.int .u16 (bits_andNot .u16 a b)) := rfl
@[simp] theorem rr_quo_u16 {t : TypeId} {x y : Operand} {a b : Int} (hb : b ≠ 0) : rrun P (bop .quo t x y (.int .u16 a) (.int .u16 b)) h = some (.int .u16 (IntKind.u16.wrap (a.tdiv b))) := by
  show rrun P (Op.intDiv .quo .u16 a b) h = _
  simp only [Op.intDiv, if_neg hb]; rfl
@[simp] theorem rr_rem_u16 {t : TypeId} {x y : Operand} {a b : Int} (hb : b ≠ 0) : rrun P (bop .rem t x y (.int .u16 a) (.int .u16 b)) h = some (.int .u16 (a.tmod b)) := by
  show rrun P (Op.intDiv .rem .u16 a b) h = _
  simp only [Op.intDiv, if_neg hb]; rfl
@[simp] theorem rr_shl_u16_i64 {t : TypeId} {x y : Operand} {a b : Int} (hb : 0 ≤ b) : rrun P (bop .shl t x y (.int .u16 a) (.int .i64 b)) h = some (.int .u16 (IntKind.u16.wrap (a * 2 ^ (min b.toNat 16)))) := by
  show rrun P (Op.shift .shl .u16 a .i64 b) h = _
  simp only [Op.shift, if_neg (Int.not_lt.2 hb)]; rfl
@[simp] theorem rr_shr_u16_i64 {t : TypeId} {x y : Operand} {a b : Int} (hb : 0 ≤ b) : rrun P (bop .shr t x y (.int .u16 a) (.int .i64 b)) h = some (.int .u16 (a.fdiv (2 ^ (min b.toNat 16)))) := by
  show rrun P (Op.shift .shr .u16 a .i64 b) h = _
  simp only [Op.shift, if_neg (Int.not_lt.2 hb)]; rfl
@[simp] theorem rr_shl_u16_u32 {t : TypeId} {x y : Operand} {a b : Int} (hb : 0 ≤ b) : rrun P (bop .shl t x y (.int .u16 a) (.int .u32 b)) h = some (.int .u16 (IntKind.u16.wrap (a * 2 ^ (min b.toNat 16)))) := by
  show rrun P (Op.shift .shl .u16 a .u32 b) h = _
  simp only [Op.shift, if_neg (Int.not_lt.2 hb)]; rfl
@[simp] theorem rr_shr_u16_u32 {t : TypeId} {x y : Operand} {a b : Int} (hb : 0 ≤ b) : rrun P (bop .shr t x y (.int .u16 a) (.int .u32 b)) h = some (.int .u16 (a.fdiv (2 ^ (min b.toNat 16)))) := by
  show rrun P (Op.shift .shr .u16 a .u32 b) h = _
  simp only [Op.shift, if_neg (Int.not_lt.2 hb)]; rfl
@[simp] theorem rr_shl_u16_u64 {t : TypeId} {x y : Operand} {a b : Int} (hb : 0 ≤ b) : rrun P (bop .shl t x y (.int .u16 a) (.int .u64 b)) h = some (.int .u16 (IntKind.u16.wrap (a * 2 ^ (min b.toNat 16)))) := by
  show rrun P (Op.shift .shl .u16 a .u64 b) h = _
  simp only [Op.shift, if_neg (Int.not_lt.2 hb)]; rfl
@[simp] theorem rr_shr_u16_u64 {t : TypeId} {x y : Operand} {a b : Int} (hb : 0 ≤ b) : rrun P (bop .shr t x y (.int .u16 a) (.int .u64 b)) h = some (.int .u16 (a.fdiv (2 ^ (min b.toNat 16)))) := by
  show rrun P (Op.shift .shr .u16 a .u64 b) h = _
  simp only [Op.shift, if_neg (Int.not_lt.2 hb)]; rfl
@[simp] theorem rr_min_u16 {ts : Array TypeId} {t : TypeId} {a b : Int} : rrun P (Builtin.min_ ts t #[.int .u16 a, .int .u16 b]) h = some (.int .u16 (min a b)) := by
  show some (Value.int .u16 (if b < a then b else a)) = _
  congr 2; split <;> omega
@[simp] theorem rr_max_u16 {ts : Array TypeId} {t : TypeId} {a b : Int} : rrun P (Builtin.max_ ts t #[.int .u16 a, .int .u16 b]) h = some (.int .u16 (max a b)) := by
  show some (Value.int .u16 (if b > a then b else a)) = _
  congr 2; split <;> omega
@[simp] theorem rr_add_u64 {t : TypeId} {x y : Operand} {a b : Int} : rrun P (bop .add t x y (.int .u64 a) (.int .u64 b)) h = some (.int .u64 (IntKind.u64.wrap (a + b))) := rfl
@[simp] theorem rr_sub_u64 {t : TypeId} {x y : Operand} {a b : Int} : rrun P (bop .sub t x y (.int .u64 a) (.int .u64 b)) h = some (.int .u64 (IntKind.u64.wrap (a - b))) := rfl
@[simp] theorem rr_mul_u64 {t : TypeId} {x y : Operand} {a b : Int} : rrun P (bop .mul t x y (.int .u64 a) (.int .u64 b)) h = some (.int .u64 (IntKind.u64.wrap (a * b))) := rfl
@[simp] theorem rr_eql_u64 {t : TypeId} {x y : Operand} {a b : Int} : rrun P (bop .eql t x y (.int .u64 a) (.int .u64 b)) h = some (.bool (decide (a = b))) := rfl
@[simp] theorem rr_neq_u64 {t : TypeId} {x y : Operand} {a b : Int} : rrun P (bop .neq t x y (.int .u64 a) (.int .u64 b)) h = some (.bool (!decide (a = b))) := rfl
@[simp] theorem rr_lss_u64 {t : TypeId} {x y : Operand} {a b : Int} : rrun P (bop .lss t x y (.int .u64 a) (.int .u64 b)) h = some (.bool (decide (a < b))) := rfl
@[simp] theorem rr_leq_u64 {t : TypeId} {x y : Operand} {a b : Int} : rrun P (bop .leq t x y (.int .u64 a) (.int .u64 b)) h = some (.bool (decide (a ≤ b))) := rfl
@[simp] theorem rr_gtr_u64 {t : TypeId} {x y : Operand} {a b : Int} : rrun P (bop .gtr t x y (.int .u64 a) (.int .u64 b)) h = some (.bool (decide (a > b))) := rfl
@[simp] theorem rr_geq_u64 {t : TypeId} {x y : Operand} {a b : Int} : rrun P (bop .geq t x y (.int .u64 a) (.int .u64 b)) h = some (.bool (decide (a ≥ b))) := rfl
@[simp] theorem rr_and_u64 {t : TypeId} {x y : Operand} {a b : Int} : rrun P (bop .and t x y (.int .u64 a) (.int .u64 b)) h = some (.int .u64 (bits_and .u64 a b)) := rfl
@[simp] theorem rr_or_u64 {t : TypeId} {x y : Operand} {a b : Int} : rrun P (bop .or t x y (.int .u64 a) (.int .u64 b)) h = some (.int .u64 (bits_or .u64 a b)) := rfl
@[simp] theorem rr_xor_u64 {t : TypeId} {x y : Operand} {a b : Int} : rrun P (bop .xor t x y (.int .u64 a) (.int .u64 b)) h = some (.int .u64 (bits_xor .u64 a b)) := rfl
@[simp] theorem rr_andNot_u64 {t : TypeId} {x y : Operand} {a b : Int} : rrun P (bop .andNot t x y (.int .u64 a) (.int .u64 b)) h = some (.int .u64 (bits_andNot .u64 a b)) := rfl
@[simp] theorem rr_quo_u64 {t : TypeId} {x y : Operand} {a b : Int} (hb : b ≠ 0) : rrun P (bop .quo t x y (.int .u64 a) (.int .u64 b)) h = some (.int .u64 (IntKind.u64.wrap (a.tdiv b))) := by
  show rrun P (Op.intDiv .quo .u64 a b) h = _
  simp only [Op.intDiv, if_neg hb]; rfl
@[simp] theorem rr_rem_u64 {t : TypeId} {x y : Operand} {a b : Int} (hb : b ≠ 0) : rrun P (bop .rem t x y (.int .u64 a) (.int .u64 b)) h = some (.int .u64 (a.tmod b)) := by
  show rrun P (Op.intDiv .rem .u64 a b) h = _
  simp only [Op.intDiv, if_neg hb]; rfl
@[simp] theorem rr_shl_u64_i64 {t : TypeId} {x y : Operand} {a b : Int} (hb : 0 ≤ b) : rrun P (bop .shl t x y (.int .u64 a) (.int .i64 b)) h = some (.int .u64 (IntKind.u64.wrap (a * 2 ^ (min b.toNat 64)))) := by
  show rrun P (Op.shift .shl .u64 a .i64 b) h = _
  simp only [Op.shift, if_neg (Int.not_lt.2 hb)]; rfl
@[simp] theorem rr_shr_u64_i64 {t : TypeId} {x y : Operand} {a b : Int} (hb : 0 ≤ b) : rrun P (bop .shr t x y (.int .u64 a) (.int .i64 b)) h = some (.int .u64 (a.fdiv (2 ^ (min b.toNat 64)))) := by
  show rrun P (Op.shift .shr .u64 a .i64 b) h = _
  simp only [Op.shift, if_neg (Int.not_lt.2 hb)]; rfl
@[simp] theorem rr_shl_u64_u32 {t : TypeId} {x y : Operand} {a b : Int} (hb : 0 ≤ b) : rrun P (bop .shl t x y (.int .u64 a) (.int .u32 b)) h = some (.int .u64 (IntKind.u64.wrap (a * 2 ^ (min b.toNat 64)))) := by
  show rrun P (Op.shift .shl .u64 a .u32 b) h = _
  simp only [Op.shift, if_neg (Int.not_lt.2 hb)]; rfl
@[simp] theorem rr_shr_u64_u32 {t : TypeId} {x y : Operand} {a b : Int} (hb : 0 ≤ b) : rrun P (bop .shr t x y (.int .u64 a) (.int .u32 b)) h = some (.int .u64 (a.fdiv (2 ^ (min b.toNat 64)))) := by
  show rrun P (Op.shift .shr .u64 a .u32 b) h = _
  simp only [Op.shift, if_neg (Int.not_lt.2 hb)]; rfl
@[simp] theorem rr_shl_u64_u64 {t : TypeId} {x y : Operand} {a b : Int} (hb : 0 ≤ b) : rrun P (bop .shl t x y (.int .u64 a) (.int .u64 b)) h = some (.int .u64 (IntKind.u64.wrap (a * 2 ^ (min b.toNat 64)))) := by
  show rrun P (Op.shift .shl .u64 a .u64 b) h = _
  simp only [Op.shift, if_neg (Int.not_lt.2 hb)]; rfl
@[simp] theorem rr_shr_u64_u64 {t : TypeId} {x y : Operand} {a b : Int} (hb : 0 ≤ b) : rrun P (bop .shr t x y (.int .u64 a) (.int .u64 b)) h = some (.int .u64 (a.fdiv (2 ^ (min b.toNat 64)))) := by
  show rrun P (Op.shift .shr .u64 a .u64 b) h = _
  simp only [Op.shift, if_neg (Int.not_lt.2 hb)]; rfl
@[simp] theorem rr_min_u64 {ts : Array TypeId} {t : TypeId} {a b : Int} : rrun P (Builtin.min_ ts t #[.int .u64 a, .int .u64 b]) h = some (.int .u64 (min a b)) := by
  show some (Value.int .u64 (if b < a then b else a)) = _
  congr 2; split <;> omega
@[simp] theorem rr_max_u64 {ts : Array TypeId} {t : TypeId} {a b : Int} : rrun P (Builtin.max_ ts t #[.int .u64 a, .int .u64 b]) h = some (.int .u64 (max a b)) := by
  show some (Value.int .u64 (if b > a then b else a)) = _
  congr 2; split <;> omega
@[simp] theorem rr_add_u8 {t : TypeId} {x y : Operand} {a b : Int} : rrun P (bop .add t x y (.int .u8 a) (.int .u8 b)) h = some (.int .u8 (IntKind.u8.wrap (a + b))) := rfl
@[simp] theorem rr_sub_u8 {t : TypeId} {x y : Operand} {a b : Int} : rrun P (bop .sub t x y (.int .u8 a) (.int .u8 b)) h = some (.int .u8 (IntKind.u8.wrap (a - b))) := rfl
@[simp] theorem rr_mul_u8 {t : TypeId} {x y : Operand} {a b : Int} : rrun P (bop .mul t x y (.int .u8 a) (.int .u8 b)) h = some (.int .u8 (IntKind.u8.wrap (a * b))) := rfl
@[simp] theorem rr_eql_u8 {t : TypeId} {x y : Operand} {a b : Int} : rrun P (bop .eql t x y (.int .u8 a) (.int .u8 b)) h = some (.bool (decide (a = b))) := rfl
@[simp] theorem rr_neq_u8 {t : TypeId} {x y : Operand} {a b : Int} : rrun P (bop .neq t x y (.int .u8 a) (.int .u8 b)) h = some (.bool (!decide (a = b))) := rfl
@[simp] theorem rr_lss_u8 {t : TypeId} {x y : Operand} {a b : Int} : rrun P (bop .lss t x y (.int .u8 a) (.int .u8 b)) h = some (.bool (decide (a < b))) := rfl
@[simp] theorem rr_leq_u8 {t : TypeId} {x y : Operand} {a b : Int} : rrun P (bop .leq t x y (.int .u8 a) (.int .u8 b)) h = some (.bool (decide (a ≤ b))) := rfl
@[simp] theorem rr_gtr_u8 {t : TypeId} {x y : Operand} {a b : Int} : rrun P (bop .gtr t x y (.int .u8 a) (.int .u8 b)) h = some (.bool (decide (a > b))) := rfl
@[simp] theorem rr_geq_u8 {t : TypeId} {x y : Operand} {a b : Int} : rrun P (bop .geq t x y (.int .u8 a) (.int .u8 b)) h = some (.bool (decide (a ≥ b))) := rfl
@[simp] theorem rr_and_u8 {t : TypeId} {x y : Operand} {a b : Int} : rrun P (bop .and t x y (.int .u8 a) (.int .u8 b)) h = some (.int .u8 (bits_and .u8 a b)) := rfl
@[simp] theorem rr_or_u8 {t : TypeId} {x y : Operand} {a b : Int} : rrun P (bop .or t x y (.int .u8 a) (.int .u8 b)) h = some (.int .u8 (bits_or .u8 a b)) := rfl
@[simp] theorem rr_xor_u8 {t : TypeId} {x y : Operand} {a b : Int} : rrun P (bop .xor t x y (.int .u8 a) (.int .u8 b)) h = some (.int .u8 (bits_xor .u8 a b)) := rfl
@[simp] theorem rr_andNot_u8 {t : TypeId} {x y : Operand} {a b : Int} : rrun P (bop .andNot t x y (.int .u8 a) (.int .u8 b)) h = some (.int .u8 (bits_andNot .u8 a b)) := rfl
@[simp] theorem rr_quo_u8 {t : TypeId} {x y : Operand} {a b : Int} (hb : b ≠ 0) : rrun P (bop .quo t x y (.int .u8 a) (.int .u8 b)) h = some (.int .u8 (IntKind.u8.wrap (a.tdiv b))) := by
  show rrun P (Op.intDiv .quo .u8 a b) h = _
  simp only [Op.intDiv, if_neg hb]; rfl
@[simp] theorem rr_rem_u8 {t : TypeId} {x y : Operand} {a b : Int} (hb : b ≠ 0) : rrun P (bop .rem t x y (.int .u8 a) (.int .u8 b)) h = some (.int .u8 (a.tmod b)) := by
  show rrun P (Op.intDiv .rem .u8 a b) h = _
  simp only [Op.intDiv, if_neg hb]; rfl
@[simp] theorem rr_shl_u8_i64 {t : TypeId} {x y : Operand} {a b : Int} (hb : 0 ≤ b) : rrun P (bop .shl t x y (.int .u8 a) (.int .i64 b)) h = some (.int .u8 (IntKind.u8.wrap (a * 2 ^ (min b.toNat 8)))) := by
  show rrun P (Op.shift .shl .u8 a .i64 b) h = _
  simp only [Op.shift, if_neg (Int.not_lt.2 hb)]; rfl
@[simp] theorem rr_shr_u8_i64 {t : TypeId} {x y : Operand} {a b : Int} (hb : 0 ≤ b) : rrun P (bop .shr t x y (.int .u8 a) (.int .i64 b)) h = some (.int .u8 (a.fdiv (2 ^ (min b.toNat 8)))) := by
  show rrun P (Op.shift .shr .u8 a .i64 b) h = _
  simp only [Op.shift, if_neg (Int.not_lt.2 hb)]; rfl
@[simp] theorem rr_shl_u8_u32 {t : TypeId} {x y : Operand} {a b : Int} (hb : 0 ≤ b) : rrun P (bop .shl t x y (.int .u8 a) (.int .u32 b)) h = some (.int .u8 (IntKind.u8.wrap (a * 2 ^ (min b.toNat 8)))) := by
  show rrun P (Op.shift .shl .u8 a .u32 b) h = _
  simp only [Op.shift, if_neg (Int.not_lt.2 hb)]; rfl
@[simp] theorem rr_shr_u8_u32 {t : TypeId} {x y : Operand} {a b : Int} (hb : 0 ≤ b) : rrun P (bop .shr t x y (.int .u8 a) (.int .u32 b)) h = some (.int .u8 (a.fdiv (2 ^ (min b.toNat 8)))) := by
  show rrun P (Op.shift .shr .u8 a .u32 b) h = _
  simp only [Op.shift, if_neg (Int.not_lt.2 hb)]; rfl
@[simp] theorem rr_shl_u8_u64 {t : TypeId} {x y : Operand} {a b : Int} (hb : 0 ≤ b) : rrun P (bop .shl t x y (.int .u8 a) (.int .u64 b)) h = some (.int .u8 (IntKind.u8.wrap (a * 2 ^ (min b.toNat 8)))) := by
  show rrun P (Op.shift .shl .u8 a .u64 b) h = _
  simp only [Op.shift, if_neg (Int.not_lt.2 hb)]; rfl
@[simp] theorem rr_shr_u8_u64 {t : TypeId} {x y : Operand} {a b : Int} (hb : 0 ≤ b) : rrun P (bop .shr t x y (.int .u8 a) (.int .u64 b)) h = some (.int .u8 (a.fdiv (2 ^ (min b.toNat 8)))) := by
  show rrun P (Op.shift .shr .u8 a .u64 b) h = _
  simp only [Op.shift, if_neg (Int.not_lt.2 hb)]; rfl
@[simp] theorem rr_min_u8 {ts : Array TypeId} {t : TypeId} {a b : Int} : rrun P (Builtin.min_ ts t #[.int .u8 a, .int .u8 b]) h = some (.int .u8 (min a b)) := by
  show some (Value.int .u8 (if b < a then b else a)) = _
  congr 2; split <;> omega
@[simp] theorem rr_max_u8 {ts : Array TypeId} {t : TypeId} {a b : Int} : rrun P (Builtin.max_ ts t #[.int .u8 a, .int .u8 b]) h = some (.int .u8 (max a b)) := by
  show some (Value.int .u8 (if b > a then b else a)) = _
  congr 2; split <;> omega

theorem wrap_i64 {x : Int} (h1 : -9223372036854775808 ≤ x) (h2 : x < 9223372036854775808) : IntKind.i64.wrap x = x := by
  show (if (decide (x % 18446744073709551616 ≥ 9223372036854775808)) = true then x % 18446744073709551616 - 18446744073709551616 else x % 18446744073709551616) = x
  by_cases c : x % 18446744073709551616 ≥ 9223372036854775808
  · rw [if_pos (by simpa using c)]; omega
  · rw [if_neg (by simpa using c)]; omega
theorem wrap_u32 {x : Int} (h1 : 0 ≤ x) (h2 : x < 4294967296) : IntKind.u32.wrap x = x := by
  show x % 4294967296 = x
  omega
theorem wrap_u16 {x : Int} (h1 : 0 ≤ x) (h2 : x < 65536) : IntKind.u16.wrap x = x := by
  show x % 65536 = x
  omega
theorem wrap_u8 {x : Int} (h1 : 0 ≤ x) (h2 : x < 256) : IntKind.u8.wrap x = x := by
  show x % 256 = x
  omega
theorem wrap_u64 {x : Int} (h1 : 0 ≤ x) (h2 : x < 18446744073709551616) : IntKind.u64.wrap x = x := by
  show x % 18446744073709551616 = x
  omega

/-! ### Memory -/

@[simp] theorem add_none {b o n : Nat} : Addr.add ⟨b, o, none⟩ n = ⟨b, o + n, none⟩ := by
  unfold Addr.add; split
  · rename_i e; subst e; rfl
  · rfl

/-- n cells from a place on. -/
def ldN (h : Hp) (b : Nat) : Nat → Nat → Option (List Value)
  | _, 0 => some []
  | o, n + 1 =>
    match h.cell? ⟨b, o, none⟩ with
    | some v => (ldN h b (o + 1) n).map (v :: ·)
    | none => none

theorem rr_loadCellsFrom {b o : Nat} : ∀ (n i : Nat) (acc : Array Value), rrun P (loadCellsFrom ⟨b, o, none⟩ i n acc) h = (ldN h b (o + i) n).map fun l => acc ++ l.toArray := by
  intro n
  induction n with
  | zero => intro i acc; simp [loadCellsFrom, ldN]; rfl
  | succ n ih =>
    intro i acc
    simp only [loadCellsFrom, ldN, add_none]
    rw [show (do let v ← load ⟨b, o + i, none⟩; loadCellsFrom ⟨b, o, none⟩ (i + 1) n (acc.push v) : Sem (Array Value)) = Sem.load .plain ⟨b, o + i, none⟩ fun v => loadCellsFrom ⟨b, o, none⟩ (i + 1) n (acc.push v) from rfl]
    simp only [rrun]
    cases h.cell? ⟨b, o + i, none⟩ with
    | none => rfl
    | some v =>
      simp only
      rw [ih]
      have : o + (i + 1) = o + i + 1 := by omega
      rw [this]
      cases ldN h b (o + i + 1) n <;> simp

theorem rr_bind_none {α β : Type} (s : Sem α) (f : α → Sem β) : ∀ {h : Hp}, rrun P s h = none → ∀ v, rrun P (s.bind f) h ≠ some v := by
  induction s with
  | pure a => intro h A; simp [rrun] at A
  | load m a k ih =>
    intro h A v
    simp only [rrun, Sem.bind] at A ⊢
    cases hc : h.cell? a with
    | none => simp
    | some u => simp only [hc] at A ⊢; exact ih u A v
  | shape r k ih =>
    intro h A v
    simp only [rrun, Sem.bind] at A ⊢
    cases ho : h r with
    | none => simp
    | some o => simp only [ho] at A ⊢; exact ih _ A v
  | frozen a k ih =>
    intro h A v
    simp only [rrun, Sem.bind] at A ⊢
    cases ho : h a.block with
    | none => simp
    | some o => simp only [ho] at A ⊢; exact ih _ A v
  | getObj r k ih =>
    intro h A v
    simp only [rrun, Sem.bind] at A ⊢
    cases ho : h r with
    | none => simp
    | some o =>
      simp only [ho] at A ⊢
      cases hr : isRow o with
      | true => simp
      | false => simp only [hr] at A ⊢; exact ih _ A v
  | choose q k ih =>
    intro h A v
    simp only [rrun, Sem.bind] at A ⊢
    by_cases hq : q.forced = true
    · simp only [hq, if_true] at A ⊢; exact ih _ A v
    · simp [hq]
  | program k ih => intro h A v; simp only [rrun, Sem.bind] at A ⊢; exact ih P A v
  | mark m k ih => intro h A v; simp only [rrun, Sem.bind] at A ⊢; exact ih A v
  | _ => intro h A v; simp [rrun, Sem.bind]

theorem rr_load_agg {t : TypeId} {n b o : Nat} (ha : rrun P (isAgg t) h = some true) (hs : rrun P (sizeOf t) h = some n) :
    rrun P (Instr.loadAt t (.pointer (some ⟨b, o, none⟩))) h = (ldN h b o n).map fun l => .agg l.toArray := by
  have e : Instr.loadAt t (.pointer (some ⟨b, o, none⟩)) = (isAgg t).bind fun g => if g then (sizeOf t).bind fun n => (loadCells ⟨b, o, none⟩ n).bind fun c => .pure (.agg c) else load ⟨b, o, none⟩ := rfl
  rw [e, rrun_bind _ _ ha]
  simp only [if_true]
  rw [rrun_bind _ _ hs]
  have := rr_loadCellsFrom (P := P) (h := h) (b := b) (o := o) n 0 #[]
  cases hl : ldN h b o n with
  | none =>
    simp only [Nat.add_zero, hl, Option.map_none] at this
    simp only [Option.map_none]
    cases hx : rrun P ((loadCells ⟨b, o, none⟩ n).bind fun c => .pure (Value.agg c)) h with
    | none => rfl
    | some v => exact absurd hx (rr_bind_none _ _ this v)
  | some l =>
    simp only [Nat.add_zero, hl, Option.map_some] at this
    rw [rrun_bind _ _ (show rrun P (loadCells ⟨b, o, none⟩ n) h = _ from this)]
    simp [rrun]

theorem rr_load_one {t : TypeId} {a : Addr} (ha : rrun P (isAgg t) h = some false) : rrun P (Instr.loadAt t (.pointer (some a))) h = h.cell? a := by
  have e : Instr.loadAt t (.pointer (some a)) = (isAgg t).bind fun g => if g then (sizeOf t).bind fun n => (loadCells a n).bind fun c => .pure (.agg c) else load a := rfl
  rw [e, rrun_bind _ _ ha, if_neg (by simp)]
  rw [show load a = Sem.load .plain a .pure from rfl]
  simp only [rrun]
  cases h.cell? a <;> rfl

/-- Cells stored one behind the other. -/
def stN (h : Hp) (b : Nat) : Nat → List Value → (Hp → Prop) → Prop
  | _, [], k => k h
  | o, v :: rest, k => stw (h.cell? ⟨b, o, none⟩) (h.frozen? ⟨b, o, none⟩) (oneCell v = true ∧ stN (h.setCell ⟨b, o, none⟩ v) b (o + 1) rest k)

theorem arun_storeCells {b o : Nat} : ∀ (l : List Value) (i : Nat) (h : Hp) (k : Unit → Hp → Prop), stN h b (o + i) l (k ()) → arun P (storeCells ⟨b, o, none⟩ l i) h k := by
  intro l
  induction l with
  | nil => intro i h k H; exact H
  | cons v rest ih =>
    intro i h k H
    obtain ⟨⟨u, hu⟩, hf, ho, H⟩ := H
    show arun P (Sem.store .plain (Addr.add ⟨b, o, none⟩ i) v _) h k
    rw [add_none]
    exact ⟨ho, ⟨u, hu⟩, hf, ih (i + 1) _ k H⟩

theorem arun_store {t : TypeId} {n b o : Nat} {v : Value} {k : Unit → Hp → Prop} (hs : ∀ h, rrun P (sizeOf t) h = some n) (hc : v.cells.size = n) (H : stN h b o v.cells.toList (k ())) :
    arun P (Instr.storeAt t (.pointer (some ⟨b, o, none⟩)) v) h k := by
  have e : Instr.storeAt t (.pointer (some ⟨b, o, none⟩)) v = (sizeOf t).bind fun n => if v.cells.size ≠ n then (stuck "storeVar: the value has not the size of the variable" : Sem Unit).bind fun _ => storeCells ⟨b, o, none⟩ v.cells.toList else storeCells ⟨b, o, none⟩ v.cells.toList := rfl
  rw [e]
  refine arun_bind _ _ (arun_of_rrun _ (hs h) ?_)
  rw [if_neg (by simp [hc])]
  exact arun_storeCells v.cells.toList 0 h k H


/-! ### Computing what a piece reads -/

theorem rrun_bnd {α β : Type} (s : Sem α) (f : α → Sem β) : rrun P (s >>= f) h = (rrun P s h).bind fun a => rrun P (f a) h := by
  cases hs : rrun P s h with
  | some a => exact rrun_bind s f hs
  | none =>
    simp only [Option.bind_none]
    cases hx : rrun P (s >>= f) h with
    | none => rfl
    | some v => exact absurd hx (rr_bind_none s f hs v)
theorem rrun_pure {α : Type} (a : α) : rrun P (pure a : Sem α) h = some a := rfl
theorem rrun_stuck {α : Type} (w : String) : rrun P (stuck w : Sem α) h = none := rfl
theorem rrun_unsup {α : Type} (w : Unsupported) : rrun P (unsupported w : Sem α) h = none := rfl
theorem rrun_ite {α : Type} (c : Prop) [Decidable c] (x y : Sem α) : rrun P (if c then x else y) h = if c then rrun P x h else rrun P y h := by split <;> rfl
theorem rr_underlying {t : TypeId} : rrun P (underlying t) h = P.underlying t := by
  have e : underlying t = Sem.program fun p => match p.underlying t with | some d => .pure d | none => stuck "no such type" := rfl
  rw [e]
  simp only [rrun]
  cases P.underlying t <;> rfl
theorem rr_info {t : TypeId} : rrun P (typeInfo t) h = P.info? t := by
  have e : typeInfo t = Sem.program fun p => match p.info? t with | some d => .pure d | none => stuck "no such type" := rfl
  rw [e]
  simp only [rrun]
  cases P.info? t <;> rfl
theorem rr_sizeOf {t : TypeId} : rrun P (sizeOf t) h = (P.info? t).map (·.size) := by
  unfold sizeOf
  rw [rrun_bnd, rr_info]
  cases P.info? t <;> rfl
theorem rr_zeroValue {t : TypeId} {v : Value} (hz : (P.info? t).bind (·.zero) = some v) : rrun P (zeroValue t) h = some v := by
  unfold zeroValue
  rw [rrun_bnd, rr_info]
  cases hi : P.info? t with
  | none => simp [hi] at hz
  | some i => simp only [hi, Option.bind_some] at hz ⊢; rw [hz]; rfl
theorem rr_boundsPanic {α : Type} {k : IntKind} {x y : Int} {c : BoundsCode} : rrun P (boundsPanic k x y c : Sem α) h = none := by
  have hp : ∀ (e : Bool), rrun P (runtimePanic (RuntimeError.bounds (IntKind.i64.wrap x) y e c) : Sem α) h = none := fun e => rfl
  unfold boundsPanic
  simp only []
  split
  · rw [rrun_bnd]
    cases hs : rrun P ((fun x => x == 1) <$> choose (Question.extern "runtime.boundsError.signed" 2)) h with
    | none => rfl
    | some v => exact hp v
  · exact hp _

theorem rr_indexAt_slice {t e : TypeId} {sz b o len cap : Nat} {i : Int} (hu : P.underlying t = some (.slice e)) (hs : (P.info? e).map (·.size) = some sz) (h0 : 0 ≤ i) (h1 : i < (len : Int)) :
    rrun P (Instr.indexAt t (.slice (some ⟨b, o, none⟩) len cap) (.int .i64 i)) h = some (.pointer (some ⟨b, o + i.toNat * sz, none⟩)) := by
  unfold Instr.indexAt
  simp only [rrun_bnd, asIntOf, rrun_pure, Option.bind_some, rr_underlying, hu]
  rw [if_pos ⟨h0, h1⟩]
  simp only [rrun_bnd, rr_sizeOf, hs, Option.bind_some, rrun_pure, add_none]

theorem rr_indexAt_array {t e : TypeId} {sz b o len : Nat} {i : Int} (hu : P.underlying t = some (.array len e)) (hs : (P.info? e).map (·.size) = some sz) (h0 : 0 ≤ i) (h1 : i < (len : Int)) :
    rrun P (Instr.indexAt t (.pointer (some ⟨b, o, none⟩)) (.int .i64 i)) h = some (.pointer (some ⟨b, o + i.toNat * sz, none⟩)) := by
  unfold Instr.indexAt
  simp only [rrun_bnd, asIntOf, Instr.sureAddr, rrun_pure, Option.bind_some, rr_underlying, hu]
  rw [if_pos ⟨h0, h1⟩]
  simp only [rrun_bnd, rr_sizeOf, hs, Option.bind_some, rrun_pure, add_none]

theorem rr_part_one {t : TypeId} {cs : Array Value} {o : Nat} (ha : rrun P (isAgg t) h = some false) : rrun P (part t cs o) h = cs[o]? := by
  unfold part
  rw [rrun_bnd, ha, Option.bind_some]
  simp only [Bool.false_eq_true, if_false]
  cases cs[o]? <;> rfl

theorem rr_index_array {t e n : Nat} {cs : Array Value} {i : Int} (hu : P.underlying t = some (.array n e)) (hs : (P.info? e).map (·.size) = some 1) (ha : rrun P (isAgg e) h = some false) (h0 : 0 ≤ i) (h1 : i < (n : Int)) :
    rrun P (Instr.index t (.agg cs) (.int .i64 i)) h = cs[i.toNat]? := by
  unfold Instr.index
  simp only [rrun_bnd, asIntOf, rrun_pure, Option.bind_some, rr_underlying, hu]
  rw [if_pos ⟨h0, h1⟩]
  simp only [rrun_bnd, rr_sizeOf, hs, Option.bind_some, Nat.mul_one, rr_part_one ha]

theorem arun_bind_rr {α β : Type} (s : Sem α) (f : α → Sem β) : ∀ {h : Hp} {Q : β → Hp → Prop} {a : α}, rrun P s h = some a → arun P (s.bind f) h Q = arun P (f a) h Q := by
  induction s with
  | pure a => intro h Q b A; simp only [rrun, Option.some.injEq] at A; subst A; rfl
  | load m a k ih =>
    intro h Q b A
    simp only [rrun] at A
    cases hc : h.cell? a with
    | none => simp [hc] at A
    | some v => simp only [hc] at A; simp only [Sem.bind, arun, hc, Option.some.injEq, exists_eq_left']; exact ih v A
  | shape r k ih =>
    intro h Q b A
    simp only [rrun] at A
    cases ho : h r with
    | none => simp [ho] at A
    | some o => simp only [ho] at A; simp only [Sem.bind, arun, ho, Option.some.injEq, exists_eq_left']; exact ih _ A
  | frozen a k ih =>
    intro h Q b A
    simp only [rrun] at A
    cases ho : h a.block with
    | none => simp [ho] at A
    | some o => simp only [ho] at A; simp only [Sem.bind, arun, ho, Option.some.injEq, exists_eq', true_and]; exact ih _ A
  | getObj r k ih =>
    intro h Q b A
    simp only [rrun] at A
    cases ho : h r with
    | none => simp [ho] at A
    | some o =>
      simp only [ho] at A
      cases hr : isRow o with
      | true => simp [hr] at A
      | false => simp only [hr] at A; simp only [Sem.bind, arun, ho, Option.some.injEq, exists_eq_left', hr, true_and]; exact ih _ A
  | choose q k ih =>
    intro h Q b A
    simp only [rrun] at A
    by_cases hq : q.forced = true
    · simp only [hq, if_true] at A; simp only [Sem.bind, arun, hq, if_true]; exact ih _ A
    · simp [hq] at A
  | program k ih => intro h Q b A; simp only [rrun] at A; simp only [Sem.bind, arun]; exact ih P A
  | mark m k ih => intro h Q b A; simp only [rrun] at A; simp only [Sem.bind, arun]; exact ih A
  | _ => intro h Q b A; simp [rrun] at A

theorem arun_storeCells_eq {b o : Nat} : ∀ (l : List Value) (i : Nat) (h : Hp) (k : Unit → Hp → Prop), arun P (storeCells ⟨b, o, none⟩ l i) h k = stN h b (o + i) l (k ()) := by
  intro l
  induction l with
  | nil => intro i h k; rfl
  | cons v rest ih =>
    intro i h k
    have e : storeCells ⟨b, o, none⟩ (v :: rest) i = Sem.store .plain (Addr.add ⟨b, o, none⟩ i) v (storeCells ⟨b, o, none⟩ rest (i + 1)) := rfl
    rw [e, add_none]
    simp only [arun, stN, stw]
    rw [ih (i + 1)]
    have : o + (i + 1) = o + i + 1 := by omega
    rw [this]
    apply propext
    constructor
    · rintro ⟨h1, h2, h3, h4⟩; exact ⟨h2, h3, h1, h4⟩
    · rintro ⟨h2, h3, h1, h4⟩; exact ⟨h1, h2, h3, h4⟩

theorem arun_store_eq {t : TypeId} {n b o : Nat} {v : Value} {k : Unit → Hp → Prop} (hs : (P.info? t).map (·.size) = some n) (hc : v.cells.size = n) :
    arun P (Instr.storeAt t (.pointer (some ⟨b, o, none⟩)) v) h k = stN h b o v.cells.toList (k ()) := by
  have e : Instr.storeAt t (.pointer (some ⟨b, o, none⟩)) v = (sizeOf t).bind fun n => if v.cells.size ≠ n then (stuck "storeVar: the value has not the size of the variable" : Sem Unit).bind fun _ => storeCells ⟨b, o, none⟩ v.cells.toList else storeCells ⟨b, o, none⟩ v.cells.toList := rfl
  rw [e, arun_bind_rr _ _ (rr_sizeOf.trans hs), if_neg (by simp [hc])]
  exact arun_storeCells_eq v.cells.toList 0 h k

theorem arun_alloc {t : TypeId} {v : Value} {k : Value → Hp → Prop} (hz : (P.info? t).bind (·.zero) = some v) :
    arun P (Instr.alloc t true (.tuple #[])) h k = nw h (.cells v.cells t) fun b h => k (.pointer (some ⟨b, 0, none⟩)) h := by
  have e : Instr.alloc t true (.tuple #[]) = (zeroValue t).bind fun z => (newVar t z).bind fun a => .pure (.pointer (some a)) := rfl
  rw [e, arun_bind_rr _ _ (rr_zeroValue hz)]
  rfl

/-! ### The partial heap -/
@[simp ↓] theorem upd_get {b x : Nat} {o : Obj} : (h.upd b o) x = if x = b then some o else h x := rfl
@[simp] theorem upd_upd {b : Nat} {o o' : Obj} : (h.upd b o).upd b o' = h.upd b o' := by
  funext x; simp only [Hp.upd]; split <;> rfl
@[simp] theorem cell_def {b o : Nat} : h.cell? ⟨b, o, none⟩ = match h b with | some (.cells c _ _) => c[o]? | _ => none := by
  unfold Hp.cell?; simp only; split <;> simp_all
@[simp] theorem frozen_def {b o : Nat} : h.frozen? ⟨b, o, none⟩ = match h b with | some (.cells _ _ (lo, hi)) => decide (lo ≤ o) && decide (o < hi) | _ => false := by
  unfold Hp.frozen?; rfl
@[simp] theorem setCell_def {b o : Nat} {v : Value} : h.setCell ⟨b, o, none⟩ v = match h b with | some (.cells c e fr) => h.upd b (.cells (c.setIfInBounds o v) e fr) | _ => h := by
  unfold Hp.setCell; simp only; split <;> simp_all
@[simp] theorem ldN_0 {b o : Nat} : ldN h b o 0 = some [] := rfl
theorem ldN_succ {b o n : Nat} : ldN h b o (n + 1) = (h.cell? ⟨b, o, none⟩).bind fun v => (ldN h b (o + 1) n).map (v :: ·) := by
  simp only [ldN]; cases h.cell? ⟨b, o, none⟩ <;> rfl
@[simp] theorem ldN_1 {b o : Nat} : ldN h b o 1 = (h.cell? ⟨b, o, none⟩).bind fun a0 => some [a0] := by
  simp only [ldN_succ, ldN_0, Nat.add_assoc, Option.map_some, Nat.reduceAdd]
  first | done | rfl | (simp only [Option.map_bind, Function.comp_def, Option.map_some]; try rfl)
@[simp] theorem ldN_2 {b o : Nat} : ldN h b o 2 = (h.cell? ⟨b, o, none⟩).bind fun a0 => (h.cell? ⟨b, o + 1, none⟩).bind fun a1 => some [a0, a1] := by
  simp only [ldN_succ, ldN_0, Nat.add_assoc, Option.map_some, Nat.reduceAdd]
  first | done | rfl | (simp only [Option.map_bind, Function.comp_def, Option.map_some]; try rfl)
@[simp] theorem ldN_3 {b o : Nat} : ldN h b o 3 = (h.cell? ⟨b, o, none⟩).bind fun a0 => (h.cell? ⟨b, o + 1, none⟩).bind fun a1 => (h.cell? ⟨b, o + 2, none⟩).bind fun a2 => some [a0, a1, a2] := by
  simp only [ldN_succ, ldN_0, Nat.add_assoc, Option.map_some, Nat.reduceAdd]
  first | done | rfl | (simp only [Option.map_bind, Function.comp_def, Option.map_some]; try rfl)
@[simp] theorem ldN_4 {b o : Nat} : ldN h b o 4 = (h.cell? ⟨b, o, none⟩).bind fun a0 => (h.cell? ⟨b, o + 1, none⟩).bind fun a1 => (h.cell? ⟨b, o + 2, none⟩).bind fun a2 => (h.cell? ⟨b, o + 3, none⟩).bind fun a3 => some [a0, a1, a2, a3] := by
  simp only [ldN_succ, ldN_0, Nat.add_assoc, Option.map_some, Nat.reduceAdd]
  first | done | rfl | (simp only [Option.map_bind, Function.comp_def, Option.map_some]; try rfl)
@[simp] theorem ldN_5 {b o : Nat} : ldN h b o 5 = (h.cell? ⟨b, o, none⟩).bind fun a0 => (h.cell? ⟨b, o + 1, none⟩).bind fun a1 => (h.cell? ⟨b, o + 2, none⟩).bind fun a2 => (h.cell? ⟨b, o + 3, none⟩).bind fun a3 => (h.cell? ⟨b, o + 4, none⟩).bind fun a4 => some [a0, a1, a2, a3, a4] := by
  simp only [ldN_succ, ldN_0, Nat.add_assoc, Option.map_some, Nat.reduceAdd]
  first | done | rfl | (simp only [Option.map_bind, Function.comp_def, Option.map_some]; try rfl)
@[simp] theorem ldN_6 {b o : Nat} : ldN h b o 6 = (h.cell? ⟨b, o, none⟩).bind fun a0 => (h.cell? ⟨b, o + 1, none⟩).bind fun a1 => (h.cell? ⟨b, o + 2, none⟩).bind fun a2 => (h.cell? ⟨b, o + 3, none⟩).bind fun a3 => (h.cell? ⟨b, o + 4, none⟩).bind fun a4 => (h.cell? ⟨b, o + 5, none⟩).bind fun a5 => some [a0, a1, a2, a3, a4, a5] := by
  simp only [ldN_succ, ldN_0, Nat.add_assoc, Option.map_some, Nat.reduceAdd]
  first | done | rfl | (simp only [Option.map_bind, Function.comp_def, Option.map_some]; try rfl)
@[simp] theorem ldN_7 {b o : Nat} : ldN h b o 7 = (h.cell? ⟨b, o, none⟩).bind fun a0 => (h.cell? ⟨b, o + 1, none⟩).bind fun a1 => (h.cell? ⟨b, o + 2, none⟩).bind fun a2 => (h.cell? ⟨b, o + 3, none⟩).bind fun a3 => (h.cell? ⟨b, o + 4, none⟩).bind fun a4 => (h.cell? ⟨b, o + 5, none⟩).bind fun a5 => (h.cell? ⟨b, o + 6, none⟩).bind fun a6 => some [a0, a1, a2, a3, a4, a5, a6] := by
  simp only [ldN_succ, ldN_0, Nat.add_assoc, Option.map_some, Nat.reduceAdd]
  first | done | rfl | (simp only [Option.map_bind, Function.comp_def, Option.map_some]; try rfl)
@[simp] theorem ldN_8 {b o : Nat} : ldN h b o 8 = (h.cell? ⟨b, o, none⟩).bind fun a0 => (h.cell? ⟨b, o + 1, none⟩).bind fun a1 => (h.cell? ⟨b, o + 2, none⟩).bind fun a2 => (h.cell? ⟨b, o + 3, none⟩).bind fun a3 => (h.cell? ⟨b, o + 4, none⟩).bind fun a4 => (h.cell? ⟨b, o + 5, none⟩).bind fun a5 => (h.cell? ⟨b, o + 6, none⟩).bind fun a6 => (h.cell? ⟨b, o + 7, none⟩).bind fun a7 => some [a0, a1, a2, a3, a4, a5, a6, a7] := by
  simp only [ldN_succ, ldN_0, Nat.add_assoc, Option.map_some, Nat.reduceAdd]
  first | done | rfl | (simp only [Option.map_bind, Function.comp_def, Option.map_some]; try rfl)
@[simp] theorem ldN_9 {b o : Nat} : ldN h b o 9 = (h.cell? ⟨b, o, none⟩).bind fun a0 => (h.cell? ⟨b, o + 1, none⟩).bind fun a1 => (h.cell? ⟨b, o + 2, none⟩).bind fun a2 => (h.cell? ⟨b, o + 3, none⟩).bind fun a3 => (h.cell? ⟨b, o + 4, none⟩).bind fun a4 => (h.cell? ⟨b, o + 5, none⟩).bind fun a5 => (h.cell? ⟨b, o + 6, none⟩).bind fun a6 => (h.cell? ⟨b, o + 7, none⟩).bind fun a7 => (h.cell? ⟨b, o + 8, none⟩).bind fun a8 => some [a0, a1, a2, a3, a4, a5, a6, a7, a8] := by
  simp only [ldN_succ, ldN_0, Nat.add_assoc, Option.map_some, Nat.reduceAdd]
  first | done | rfl | (simp only [Option.map_bind, Function.comp_def, Option.map_some]; try rfl)
theorem upd_none {b x : Nat} {o : Obj} (hx : (h.upd b o) x = none) : x ≠ b ∧ h x = none := by
  unfold Hp.upd at hx; split at hx
  · cases hx
  · rename_i hne; exact ⟨hne, hx⟩
@[simp] theorem oneCell_int {k : IntKind} {n : Int} : oneCell (.int k n) = true := rfl
@[simp] theorem oneCell_bool {n : Bool} : oneCell (.bool n) = true := rfl
@[simp] theorem oneCell_slice {a : Option Addr} {n c : Nat} : oneCell (.slice a n c) = true := rfl
@[simp] theorem oneCell_ptr {a : Option Addr} : oneCell (.pointer a) = true := rfl
@[simp] theorem oneCell_map {a : Option Nat} : oneCell (.map a) = true := rfl
@[simp] theorem oneCell_string {a : ByteArray} : oneCell (.string a) = true := rfl
@[congr] theorem stN_congr {b o : Nat} {l l' : List Value} {k : Hp → Prop} (e : l = l') : stN h b o l k = stN h b o l' k := by rw [e]
@[simp ↓] theorem stN_nil {b o : Nat} {k : Hp → Prop} : stN h b o [] k = k h := rfl
@[simp] theorem stN_cons {b o : Nat} {v : Value} {l : List Value} {k : Hp → Prop} : stN h b o (v :: l) k = stw (h.cell? ⟨b, o, none⟩) (h.frozen? ⟨b, o, none⟩) (oneCell v = true ∧ stN (h.setCell ⟨b, o, none⟩ v) b (o + 1) l k) := rfl


/-! ### A whole object stored -/
def stA (h : Hp) (b : Nat) (o : Nat) (l : List Value) (k : Hp → Prop) : Prop := stN h b o l k
@[congr] theorem stA_congr {h h' : Hp} {b o : Nat} {l l' : List Value} {k : Hp → Prop} (e0 : h = h') (e : l = l') : stA h b o l k = stA h' b o l' k := by rw [e0, e]

theorem upd_self {h : Hp} {b : Nat} {o : Obj} (hb : h b = some o) : h.upd b o = h := by
  funext i
  rw [upd_get]
  split
  · rename_i e; rw [e, hb]
  · rfl

theorem stN_run {b : Nat} {E : TypeId} {k : Hp → Prop} : ∀ (vals rest pre : List Value) (h : Hp), h b = some (.cells (pre ++ rest).toArray E (0, 0)) → rest.length = vals.length → vals.all oneCell = true →
    stN h b pre.length vals k = k (h.upd b (.cells (pre ++ vals).toArray E (0, 0)))
  | [], rest, pre, h, hb, hl, _ => by
    have : rest = [] := List.length_eq_zero_iff.1 hl
    subst this
    rw [stN_nil, upd_self hb]
  | v :: vals, [], pre, h, hb, hl, _ => by simp at hl
  | v :: vals, u :: rest, pre, h, hb, hl, ho => by
    simp only [List.all_cons, Bool.and_eq_true] at ho
    rw [stN_cons]
    have hc : h.cell? ⟨b, pre.length, none⟩ = some u := by unfold Hp.cell?; simp [hb]
    have hf : h.frozen? ⟨b, pre.length, none⟩ = false := by unfold Hp.frozen?; simp [hb]
    have hs : h.setCell ⟨b, pre.length, none⟩ v = h.upd b (.cells ((pre ++ [v]) ++ rest).toArray E (0, 0)) := by
      rw [setCell_def, hb]
      simp only []
      congr 2
      simp
    rw [hc, hf, stw_ok, hs, ho.1]
    simp only [true_and]
    have := stN_run (k := k) vals rest (pre ++ [v]) (h.upd b (.cells ((pre ++ [v]) ++ rest).toArray E (0, 0))) (by rw [upd_get, if_pos rfl]) (by simpa using hl) ho.2
    rw [List.length_append, List.length_singleton] at this
    rw [this]
    congr 1
    funext i
    rw [upd_get, upd_get, upd_get]
    split <;> simp

theorem stA_of {h : Hp} {b : Nat} {l vals : List Value} {E : TypeId} {k : Hp → Prop} (hb : h b = some (.cells l.toArray E (0, 0))) (hl : l.length = vals.length) (ho : vals.all oneCell = true) : stA h b 0 vals k = k (h.upd b (.cells vals.toArray E (0, 0))) :=
  stN_run vals l [] h hb hl ho

/-- Where the object was just made. -/
@[simp] theorem stA_upd {h : Hp} {b : Nat} {l vals : List Value} {E : TypeId} {k : Hp → Prop} : stA (h.upd b (.cells l.toArray E (0, 0))) b 0 vals k = if l.length = vals.length ∧ vals.all oneCell = true then k (h.upd b (.cells vals.toArray E (0, 0))) else stN (h.upd b (.cells l.toArray E (0, 0))) b 0 vals k := by
  split
  · rename_i e
    rw [stA_of (h := h.upd b (.cells l.toArray E (0, 0))) (by rw [upd_get, if_pos rfl]) e.1 e.2]
    congr 1
    funext i
    rw [upd_get, upd_get, upd_get]
    split <;> simp
  · rfl

end
end Go.Proofs.Ytncnlfidncjmbaa

/- '==' of structs, as one Bool. -/
namespace Go.Proofs.Ytncnlfidncjmbaa
open Go
section
variable {P : Program} {h : Hp} {d : Nat} {xs ys : Array Value} {f : Field} {fs : List Field} {a b : Value} {r s : Bool}

theorem rr_program : rrun P program h = some P := rfl

theorem rr_equalIn_struct {t : TypeId} {fs : Array Field} (hu : P.underlying t = some (.struct fs)) (hp : P.stoodInHeld t = false) :
    rrun P (Op.equalIn (d + 1) t (.agg xs) (.agg ys)) h = rrun P (Op.eqFields d xs ys fs.toList) h := by
  simp only [Op.equalIn, rrun_bnd, rr_underlying, hu, Option.bind_some, rr_program, hp, Bool.false_eq_true, if_false]
  rw [← Array.forIn_toList]
  generalize fs.toList = l
  clear hu
  induction l with
  | nil => simp [Op.eqFields, rrun_pure]
  | cons f fs ih =>
    simp only [List.forIn_cons, Op.eqFields, rrun_bnd, rrun_ite]
    split
    · cases rrun P (part f.type xs f.offset) h with
      | none => rfl
      | some a =>
        cases rrun P (part f.type ys f.offset) h with
        | none => rfl
        | some b =>
          simp only [Option.bind_some]
          cases rrun P (Op.equalIn d f.type a b) h with
          | none => rfl
          | some r =>
            cases r
            · simp [rrun_pure]
            · simp only [Option.bind_some, Bool.not_true, Bool.false_eq_true, if_false, rrun_pure]
              exact ih
    · simp only [rrun_pure, Option.bind_some]
      exact ih

theorem rr_eqf_nil : rrun P (Op.eqFields d xs ys []) h = some true := rfl

theorem rr_eqf_cons (hn : (f.name == "_") = false) (ha : rrun P (part f.type xs f.offset) h = some a) (hb : rrun P (part f.type ys f.offset) h = some b)
    (he : rrun P (Op.equalIn d f.type a b) h = some r) (hr : rrun P (Op.eqFields d xs ys fs) h = some s) : rrun P (Op.eqFields d xs ys (f :: fs)) h = some (r && s) := by
  have hn' : f.name ≠ "_" := by simpa using hn
  rw [Op.eqFields]
  simp only [if_pos hn', rrun_bnd, ha, hb, he, Option.bind_some, rrun_ite, rrun_pure]
  cases r
  · simp
  · simpa using hr

theorem rr_eql_struct {t : TypeId} {fs : Array Field} {x y : Operand} (hu : P.underlying t = some (.struct fs)) (hp : P.stoodInHeld t = false) (hg : P.eqGuardType P.depth t = false)
    (hr : rrun P (Op.eqFields 9999 xs ys fs.toList) h = some r) : rrun P (bop .eql t x y (.agg xs) (.agg ys)) h = some (.bool r) := by
  have hgd : rrun P (eqGuard .eql t x y (.agg xs) (.agg ys)) h = some () := by
    simp [eqGuard, rrun_bnd, rr_program, hg, rrun_pure]
  unfold bop
  rw [rrun_bnd, hgd, Option.bind_some]
  have e : binOp .eql t (.agg xs) (.agg ys) = (Op.equalIn (9999 + 1) t (.agg xs) (.agg ys) >>= fun b => pure (.bool b)) := rfl
  rw [e, rrun_bnd, rr_equalIn_struct hu hp, hr]
  rfl

theorem rr_neq_struct {t : TypeId} {fs : Array Field} {x y : Operand} (hu : P.underlying t = some (.struct fs)) (hp : P.stoodInHeld t = false) (hg : P.eqGuardType P.depth t = false)
    (hr : rrun P (Op.eqFields 9999 xs ys fs.toList) h = some r) : rrun P (bop .neq t x y (.agg xs) (.agg ys)) h = some (.bool !r) := by
  have hgd : rrun P (eqGuard .neq t x y (.agg xs) (.agg ys)) h = some () := by
    simp [eqGuard, rrun_bnd, rr_program, hg, rrun_pure]
  unfold bop
  rw [rrun_bnd, hgd, Option.bind_some]
  have e : binOp .neq t (.agg xs) (.agg ys) = (Op.equalIn (9999 + 1) t (.agg xs) (.agg ys) >>= fun b => pure (.bool (!b))) := rfl
  rw [e, rrun_bnd, rr_equalIn_struct hu hp, hr]
  rfl

end
end Go.Proofs.Ytncnlfidncjmbaa
