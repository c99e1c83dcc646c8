/- A partial heap, what a piece of the model's semantics does to it whatever the tape answers, and that the model's run does the same to every world that has this heap. -/
import Derived.WalkKit
import Derived.KernelRfl
import Derived.Deep.LoopGhost
import Derived.Below
import Derived.RangeFuncIn
import Derived.OrdersIn
import Derived.RangeFuncLeaves

set_option linter.unusedSimpArgs false
set_option linter.unusedVariables false

namespace Go.Proofs.Ytpeoholnlokdcaa
open Go

abbrev Hp := Nat → Option Obj

def Hp.upd (h : Hp) (b : Nat) (o : Obj) : Hp := fun i => if i = b then some o else h i

def View (h : Hp) (w : World) : Prop := ∀ b o, h b = some o → w.heap[b]? = some o

def Hp.cell? (h : Hp) (a : Addr) : Option Value :=
  match h a.block with
  | some (.cells c _ _) => if a.spot.isSome then none else c[a.off]?
  | _ => none

def Hp.frozen? (h : Hp) (a : Addr) : Bool :=
  match h a.block with
  | some (.cells _ _ (lo, hi)) => lo ≤ a.off && a.off < hi
  | _ => false

def Hp.setCell (h : Hp) (a : Addr) (v : Value) : Hp :=
  match h a.block with
  | some (.cells c e fr) => h.upd a.block (.cells (if a.spot.isSome then c else c.setIfInBounds a.off v) e fr)
  | _ => h

def Hp.freeze (h : Hp) (a : Addr) (n : Nat) : Hp :=
  if n = 0 then h else
  match h a.block with
  | some (.cells c e (lo, hi)) => h.upd a.block (.cells c e (if lo == hi then (a.off, a.off + n) else (min lo a.off, max hi (a.off + n))))
  | _ => h

def oneCell : Value → Bool
  | .agg _ | .tuple _ => false
  | _ => true

def shapeOf : Obj → Option (TypeId × Nat)
  | .cells c e _ => some (e, c.size)
  | _ => none

def isRow : Obj → Bool
  | .cells .. => true
  | _ => false

/-- What a piece of semantics does to a partial heap, whatever the tape answers. -/
def arun (P : Program) {α : Type} : Sem α → Hp → (α → Hp → Prop) → Prop
  | .pure a, h, Q => Q a h
  | .load _ a k, h, Q => ∃ v, h.cell? a = some v ∧ arun P (k v) h Q
  | .store _ a v k, h, Q => oneCell v = true ∧ (∃ u, h.cell? a = some u) ∧ h.frozen? a = false ∧ arun P k (h.setCell a v) Q
  | .new o k, h, Q => ∀ b, h b = none → arun P (k b) (h.upd b o) Q
  | .shape r k, h, Q => ∃ o, h r = some o ∧ arun P (k (shapeOf o)) h Q
  | .freeze a n k, h, Q => (n = 0 ∨ ∃ o, h a.block = some o) ∧ arun P k (h.freeze a n) Q
  | .frozen a k, h, Q => (∃ o, h a.block = some o) ∧ arun P (k (h.frozen? a)) h Q
  | .getObj r k, h, Q => ∃ o, h r = some o ∧ isRow o = false ∧ arun P (k o) h Q
  | .setObj r o k, h, Q => (∃ o', h r = some o' ∧ isRow o' = false) ∧ arun P k (h.upd r o) Q
  | .choose q k, h, Q => if q.forced then arun P (k 0) h Q else ∀ t, arun P (k (q.cut t)) h Q
  | .sys _ _, _, _ => False
  | .program k, h, Q => arun P (k P) h Q
  | .mark _ k, h, Q => arun P k h Q
  | .halt _, _, _ => False

/-- What a piece that only reads comes to. -/
def rrun (P : Program) {α : Type} : Sem α → Hp → Option α
  | .pure a, _ => some a
  | .load _ a k, h => match h.cell? a with | some v => rrun P (k v) h | none => none
  | .shape r k, h => match h r with | some o => rrun P (k (shapeOf o)) h | none => none
  | .frozen a k, h => match h a.block with | some _ => rrun P (k (h.frozen? a)) h | none => none
  | .getObj r k, h => match h r with | some o => (match isRow o with | true => none | false => rrun P (k o) h) | none => none
  | .choose q k, h => if q.forced then rrun P (k 0) h else none
  | .program k, h => rrun P (k P) h
  | .mark _ k, h => rrun P k h
  | _, _ => none

structure Keep (h : Hp) (w : World) (h' : Hp) (w' : World) : Prop where
  os : w'.os = w.os
  tape : w'.tape = w.tape
  output : w'.output = w.output
  size : w.heap.size ≤ w'.heap.size
  old : ∀ b, b < w.heap.size → h b = none → w'.heap[b]? = w.heap[b]?
  dom : ∀ b, b < w.heap.size → h b = none → h' b = none
  drawn : w.drawn ≤ w'.drawn

theorem Keep.refl (h : Hp) (w : World) : Keep h w h w := ⟨rfl, rfl, rfl, Nat.le_refl _, fun _ _ _ => rfl, fun _ _ e => e, Nat.le_refl _⟩

theorem Keep.trans {h h1 h2 : Hp} {w w1 w2 : World} (a : Keep h w h1 w1) (b : Keep h1 w1 h2 w2) : Keep h w h2 w2 where
  os := b.os.trans a.os
  tape := b.tape.trans a.tape
  output := b.output.trans a.output
  size := Nat.le_trans a.size b.size
  old := fun i hi hn => (b.old i (Nat.lt_of_lt_of_le hi a.size) (a.dom i hi hn)).trans (a.old i hi hn)
  dom := fun i hi hn => b.dom i (Nat.lt_of_lt_of_le hi a.size) (a.dom i hi hn)
  drawn := Nat.le_trans a.drawn b.drawn

theorem Keep.less {h h1 h2 : Hp} {w w1 : World} (a : Keep h w h1 w1) (hl : ∀ b o, h2 b = some o → h1 b = some o) : Keep h w h2 w1 where
  os := a.os
  tape := a.tape
  output := a.output
  size := a.size
  old := a.old
  dom := fun i hi hn => by
    have := a.dom i hi hn
    cases h' : h2 i with
    | none => rfl
    | some o => rw [hl i o h'] at this; cases this
  drawn := a.drawn

theorem View.less {h1 h2 : Hp} {w : World} (v : View h1 w) (hl : ∀ b o, h2 b = some o → h1 b = some o) : View h2 w := fun b o e => v b o (hl b o e)

theorem View.cell {h : Hp} {w : World} (V : View h w) {a : Addr} {v : Value} (e : h.cell? a = some v) : w.cell? a = some v := by
  unfold Hp.cell? at e
  unfold World.cell?
  cases hb : h a.block with
  | none => simp [hb] at e
  | some o => rw [V _ _ hb]; cases o <;> simp_all

theorem View.frozen {h : Hp} {w : World} (V : View h w) {a : Addr} {o : Obj} (e : h a.block = some o) : w.frozen? a = h.frozen? a := by
  unfold Hp.frozen? World.frozen?
  rw [V _ _ e, e]
  cases o <;> rfl

theorem View.frozen_of_cell {h : Hp} {w : World} (V : View h w) {a : Addr} {v : Value} (e : h.cell? a = some v) : w.frozen? a = h.frozen? a := by
  cases hb : h a.block with
  | none => simp [Hp.cell?, hb] at e
  | some o => exact V.frozen hb

theorem View.lt {h : Hp} {w : World} (V : View h w) {b : Nat} {o : Obj} (e : h b = some o) : b < w.heap.size :=
  (Array.getElem?_eq_some_iff.1 (V b o e)).1

theorem View.modify {h : Hp} {w w' : World} (V : View h w) {b : Nat} {o o' : Obj} (e : h b = some o)
    (hos : w'.os = w.os) (ht : w'.tape = w.tape) (ho : w'.output = w.output) (hs : w'.heap.size = w.heap.size)
    (hb : w'.heap[b]? = some o') (hne : ∀ i, i ≠ b → w'.heap[i]? = w.heap[i]?) (hd : w.drawn ≤ w'.drawn) :
    View (h.upd b o') w' ∧ Keep h w (h.upd b o') w' := by
  constructor
  · intro i u hu
    unfold Hp.upd at hu
    by_cases hi : i = b
    · subst hi; simp at hu; subst hu; exact hb
    · simp [hi] at hu; rw [hne i hi]; exact V i u hu
  · refine ⟨hos, ht, ho, by omega, fun i hi hn => ?_, fun i hi hn => ?_, hd⟩
    · by_cases hib : i = b
      · subst hib; rw [e] at hn; cases hn
      · exact hne i hib
    · by_cases hib : i = b
      · subst hib; rw [e] at hn; cases hn
      · simp [Hp.upd, hib, hn]

theorem View.setCell {h : Hp} {w : World} (V : View h w) {a : Addr} {u : Value} (v : Value) (e : h.cell? a = some u) :
    View (h.setCell a v) (w.setCell a v) ∧ Keep h w (h.setCell a v) (w.setCell a v) := by
  unfold Hp.cell? at e
  unfold Hp.setCell
  cases hb : h a.block with
  | none => simp [hb] at e
  | some o =>
    cases o with
    | cells c el fr =>
      have hw := V _ _ hb
      refine V.modify hb rfl rfl rfl (by simp [World.setCell]) ?_ (fun i hi => ?_) (Nat.le_refl _)
      · simp only [World.setCell, Array.getElem?_modify, if_true, hw, Option.map_some]
      · simp only [World.setCell, Array.getElem?_modify]; rw [if_neg (fun e => hi e.symm)]
    | _ => simp [hb] at e

theorem View.freeze {h : Hp} {w : World} (V : View h w) {a : Addr} {n : Nat} (e : n = 0 ∨ ∃ o, h a.block = some o) :
    View (h.freeze a n) (w.freeze a n) ∧ Keep h w (h.freeze a n) (w.freeze a n) := by
  unfold Hp.freeze World.freeze
  by_cases hn : n = 0
  · simp only [hn, if_true]; exact ⟨V, Keep.refl _ _⟩
  · simp only [hn, if_false]
    obtain ⟨o, hb⟩ := e.resolve_left hn
    have hw := V _ _ hb
    cases o with
    | cells c el fr =>
      obtain ⟨lo, hi⟩ := fr
      simp only [hb]
      refine V.modify hb rfl rfl rfl (by simp) ?_ (fun i hi => ?_) (Nat.le_refl _)
      · simp only [Array.getElem?_modify, if_true, hw, Option.map_some]
      · simp only [Array.getElem?_modify]; rw [if_neg (fun e => hi e.symm)]
    | _ =>
      simp only [hb]
      constructor
      · intro i u hu
        rw [← V i u hu]
        simp only [Array.getElem?_modify]
        split
        · rename_i hi; subst hi; rw [hw]; rfl
        · rfl
      · refine ⟨rfl, rfl, rfl, by simp, fun i hi hn => ?_, fun i hi hn => hn, Nat.le_refl _⟩
        simp only [Array.getElem?_modify]
        split
        · rename_i hi; subst hi; rw [hw]; rfl
        · rfl

theorem View.new {h : Hp} {w : World} (V : View h w) (o : Obj) :
    h w.heap.size = none ∧ View (h.upd w.heap.size o) { w with heap := w.heap.push o } ∧ Keep h w (h.upd w.heap.size o) { w with heap := w.heap.push o } := by
  have hn : h w.heap.size = none := by
    cases hb : h w.heap.size with
    | none => rfl
    | some o => have := V.lt hb; omega
  refine ⟨hn, fun i u hu => ?_, ⟨rfl, rfl, rfl, by simp, fun i hi _ => ?_, fun i hi hn => ?_, Nat.le_refl _⟩⟩
  · unfold Hp.upd at hu
    by_cases hi : i = w.heap.size
    · subst hi; simp at hu; subst hu; simp
    · simp [hi] at hu
      have := V i u hu
      have hlt := V.lt hu
      simp [Array.getElem?_push, hi, this]
  · simp [Array.getElem?_push]; omega
  · have : i ≠ w.heap.size := by omega
    simp [Hp.upd, this, hn]

theorem run_store_one {P : Program} {α : Type} {m : Mode} {a : Addr} {v : Value} {k : Sem α} {w : World} (h : oneCell v = true) :
    Sem.run P (.store m a v k) w = (match w.cell? a with
    | some _ => if w.frozen? a then .halt (.unsupported (.unsafePointer "a write to bytes that a string shares")) w else k.run P (w.setCell a v)
    | none => match w.farStore P a v (m == .atomic) with
      | .ok (w, _) => k.run P w
      | .error h => .halt h w) := by
  cases v <;> first | rfl | (simp [oneCell] at h)

theorem arun_sound {P : Program} {α : Type} (s : Sem α) : ∀ {h : Hp} {w : World} {Q : α → Hp → Prop}, View h w → arun P s h Q →
    ∃ a w' h', s.run P w = .ok a w' ∧ View h' w' ∧ Keep h w h' w' ∧ Q a h' := by
  induction s with
  | pure a => intro h w Q V A; exact ⟨a, w, h, rfl, V, Keep.refl _ _, A⟩
  | load m a k ih =>
    intro h w Q V A
    obtain ⟨v, hv, A⟩ := A
    obtain ⟨x, w', h', r, V', K, q⟩ := ih v V A
    exact ⟨x, w', h', by simp only [Sem.run, V.cell hv]; exact r, V', K, q⟩
  | store m a v k ih =>
    intro h w Q V A
    obtain ⟨ho, ⟨u, hu⟩, hf, A⟩ := A
    obtain ⟨V1, K1⟩ := V.setCell v hu
    obtain ⟨x, w', h', r, V', K, q⟩ := ih V1 A
    refine ⟨x, w', h', ?_, V', K1.trans K, q⟩
    rw [run_store_one ho, V.cell hu]
    simp only [V.frozen_of_cell hu, hf, Bool.false_eq_true, if_false]
    exact r
  | new o k ih =>
    intro h w Q V A
    obtain ⟨hn, V1, K1⟩ := V.new o
    obtain ⟨x, w', h', r, V', K, q⟩ := ih _ V1 (A _ hn)
    exact ⟨x, w', h', by simp only [Sem.run]; exact r, V', K1.trans K, q⟩
  | shape r k ih =>
    intro h w Q V A
    obtain ⟨o, ho, A⟩ := A
    obtain ⟨x, w', h', r', V', K, q⟩ := ih _ V A
    have : w.shape? r = shapeOf o := by unfold World.shape?; rw [V _ _ ho]; cases o <;> rfl
    exact ⟨x, w', h', by simp only [Sem.run, this]; exact r', V', K, q⟩
  | freeze a n k ih =>
    intro h w Q V A
    obtain ⟨V1, K1⟩ := V.freeze A.1
    obtain ⟨x, w', h', r, V', K, q⟩ := ih V1 A.2
    exact ⟨x, w', h', by simp only [Sem.run]; exact r, V', K1.trans K, q⟩
  | frozen a k ih =>
    intro h w Q V A
    obtain ⟨⟨o, ho⟩, A⟩ := A
    obtain ⟨x, w', h', r, V', K, q⟩ := ih _ V A
    exact ⟨x, w', h', by simp only [Sem.run, V.frozen ho]; exact r, V', K, q⟩
  | getObj r k ih =>
    intro h w Q V A
    obtain ⟨o, ho, hr, A⟩ := A
    obtain ⟨x, w', h', r', V', K, q⟩ := ih _ V A
    refine ⟨x, w', h', ?_, V', K, q⟩
    simp only [Sem.run, V _ _ ho]
    cases o <;> first | exact r' | simp [isRow] at hr
  | setObj r o k ih =>
    intro h w Q V A
    obtain ⟨⟨o', ho, hr⟩, A⟩ := A
    have hlt := V.lt ho
    obtain ⟨V1, K1⟩ := V.modify (w' := { w with heap := w.heap.setIfInBounds r o }) (o' := o) ho rfl rfl rfl (by simp) (by simp [hlt]) (fun i hi => by
      simp [Array.getElem?_setIfInBounds_ne (Ne.symm hi)]) (Nat.le_refl _)
    obtain ⟨x, w', h', r', V', K, q⟩ := ih V1 A
    refine ⟨x, w', h', ?_, V', K1.trans K, q⟩
    simp only [Sem.run, V _ _ ho]
    cases o' <;> first | exact r' | simp [isRow] at hr
  | choose q k ih =>
    intro h w Q V A
    unfold arun at A
    by_cases hq : q.forced = true
    · simp only [hq, if_true] at A
      obtain ⟨x, w', h', r, V', K, q'⟩ := ih _ V A
      exact ⟨x, w', h', by simp only [Sem.run, hq, if_true]; exact r, V', K, q'⟩
    · simp only [hq, Bool.false_eq_true, if_false] at A
      obtain ⟨x, w', h', r, V', K, q'⟩ := ih _ (w := { w with drawn := w.drawn + 1 }) (fun b o e => V b o e) (A (w.tape w.drawn q))
      refine ⟨x, w', h', ?_, V', ⟨K.os, K.tape, K.output, K.size, K.old, K.dom, Nat.le_trans (Nat.le_succ _) K.drawn⟩, q'⟩
      simp only [Sem.run, hq, Bool.false_eq_true, if_false]; exact r
  | sys c k ih => intro h w Q V A; exact A.elim
  | program k ih =>
    intro h w Q V A
    obtain ⟨x, w', h', r, V', K, q⟩ := ih P V A
    exact ⟨x, w', h', by simp only [Sem.run]; exact r, V', K, q⟩
  | mark m k ih =>
    intro h w Q V A
    obtain ⟨x, w', h', r, V', K, q⟩ := ih V A
    exact ⟨x, w', h', by simp only [Sem.run]; exact r, V', K, q⟩
  | halt x => intro h w Q V A; exact A.elim

theorem rrun_sound {P : Program} {α : Type} (s : Sem α) : ∀ {h : Hp} {w : World} {a : α}, View h w → rrun P s h = some a → s.run P w = .ok a w := by
  induction s with
  | pure a => intro h w b V A; simp only [rrun, Option.some.injEq] at A; subst A; rfl
  | load m a k ih =>
    intro h w b V A
    simp only [rrun] at A
    cases hc : h.cell? a with
    | none => simp [hc] at A
    | some v => simp only [hc] at A; simp only [Sem.run, V.cell hc]; exact ih v V A
  | shape r k ih =>
    intro h w b V A
    simp only [rrun] at A
    cases ho : h r with
    | none => simp [ho] at A
    | some o =>
      simp only [ho] at A
      have : w.shape? r = shapeOf o := by unfold World.shape?; rw [V _ _ ho]; cases o <;> rfl
      simp only [Sem.run, this]; exact ih _ V A
  | frozen a k ih =>
    intro h w b V A
    simp only [rrun] at A
    cases ho : h a.block with
    | none => simp [ho] at A
    | some o => simp only [ho] at A; simp only [Sem.run, V.frozen ho]; exact ih _ V A
  | getObj r k ih =>
    intro h w b V A
    simp only [rrun] at A
    cases ho : h r with
    | none => simp [ho] at A
    | some o =>
      simp only [ho] at A
      cases hr : isRow o with
      | true => simp [hr] at A
      | false =>
        simp only [hr] at A
        simp only [Sem.run, V _ _ ho]
        cases o <;> first | exact ih _ V A | simp [isRow] at hr
  | choose q k ih =>
    intro h w b V A
    simp only [rrun] at A
    by_cases hq : q.forced = true
    · simp only [hq, if_true] at A; simp only [Sem.run, hq, if_true]; exact ih _ V A
    · simp [hq] at A
  | program k ih => intro h w b V A; simp only [rrun] at A; simp only [Sem.run]; exact ih P V A
  | mark m k ih => intro h w b V A; simp only [rrun] at A; simp only [Sem.run]; exact ih V A
  | _ => intro h w b V A; simp [rrun] at A

theorem arun_of_rrun {P : Program} {α : Type} (s : Sem α) : ∀ {h : Hp} {Q : α → Hp → Prop} {a : α}, rrun P s h = some a → Q a h → arun P s h Q := by
  induction s with
  | pure a => intro h Q b A q; simp only [rrun, Option.some.injEq] at A; subst A; exact q
  | load m a k ih =>
    intro h Q b A q
    simp only [rrun] at A
    cases hc : h.cell? a with
    | none => simp [hc] at A
    | some v => simp only [hc] at A; exact ⟨v, hc, ih v A q⟩
  | shape r k ih =>
    intro h Q b A q
    simp only [rrun] at A
    cases ho : h r with
    | none => simp [ho] at A
    | some o => simp only [ho] at A; exact ⟨o, ho, ih _ A q⟩
  | frozen a k ih =>
    intro h Q b A q
    simp only [rrun] at A
    cases ho : h a.block with
    | none => simp [ho] at A
    | some o => simp only [ho] at A; exact ⟨⟨o, ho⟩, ih _ A q⟩
  | getObj r k ih =>
    intro h Q b A q
    simp only [rrun] at A
    cases ho : h r with
    | none => simp [ho] at A
    | some o =>
      simp only [ho] at A
      cases hr : isRow o with
      | true => simp [hr] at A
      | false => simp only [hr] at A; exact ⟨o, ho, hr, ih _ A q⟩
  | choose q k ih =>
    intro h Q b A q'
    simp only [rrun] at A
    by_cases hq : q.forced = true
    · simp only [hq, if_true] at A; unfold arun; simp only [hq, if_true]; exact ih _ A q'
    · simp [hq] at A
  | program k ih => intro h Q b A q; simp only [rrun] at A; exact ih P A q
  | mark m k ih => intro h Q b A q; simp only [rrun] at A; exact ih A q
  | _ => intro h Q b A q; simp [rrun] at A

theorem arun_mono {P : Program} {α : Type} (s : Sem α) : ∀ {h : Hp} {Q Q' : α → Hp → Prop}, (∀ a h, Q a h → Q' a h) → arun P s h Q → arun P s h Q' := by
  induction s with
  | pure a => intro h Q Q' q A; exact q _ _ A
  | load m a k ih => intro h Q Q' q A; obtain ⟨v, hv, A⟩ := A; exact ⟨v, hv, ih _ q A⟩
  | store m a v k ih => intro h Q Q' q A; exact ⟨A.1, A.2.1, A.2.2.1, ih q A.2.2.2⟩
  | new o k ih => intro h Q Q' q A b hb; exact ih _ q (A b hb)
  | shape r k ih => intro h Q Q' q A; obtain ⟨o, ho, A⟩ := A; exact ⟨o, ho, ih _ q A⟩
  | freeze a n k ih => intro h Q Q' q A; exact ⟨A.1, ih q A.2⟩
  | frozen a k ih => intro h Q Q' q A; exact ⟨A.1, ih _ q A.2⟩
  | getObj r k ih => intro h Q Q' q A; obtain ⟨o, ho, hr, A⟩ := A; exact ⟨o, ho, hr, ih _ q A⟩
  | setObj r o k ih => intro h Q Q' q A; exact ⟨A.1, ih q A.2⟩
  | choose q' k ih =>
    intro h Q Q' q A
    unfold arun at A ⊢
    by_cases hq : q'.forced = true
    · simp only [hq, if_true] at A ⊢; exact ih _ q A
    · simp only [hq, Bool.false_eq_true, if_false] at A ⊢; exact fun t => ih _ q (A t)
  | sys c k ih => intro h Q Q' q A; exact A.elim
  | program k ih => intro h Q Q' q A; exact ih _ q A
  | mark m k ih => intro h Q Q' q A; exact ih q A
  | halt x => intro h Q Q' q A; exact A.elim

theorem arun_bind {P : Program} {α β : Type} (s : Sem α) (f : α → Sem β) : ∀ {h : Hp} {Q : β → Hp → Prop}, arun P s h (fun a h' => arun P (f a) h' Q) → arun P (s.bind f) h Q := by
  induction s with
  | pure a => intro h Q A; exact A
  | load m a k ih => intro h Q A; obtain ⟨v, hv, A⟩ := A; exact ⟨v, hv, ih _ A⟩
  | store m a v k ih => intro h Q A; exact ⟨A.1, A.2.1, A.2.2.1, ih A.2.2.2⟩
  | new o k ih => intro h Q A b hb; exact ih _ (A b hb)
  | shape r k ih => intro h Q A; obtain ⟨o, ho, A⟩ := A; exact ⟨o, ho, ih _ A⟩
  | freeze a n k ih => intro h Q A; exact ⟨A.1, ih A.2⟩
  | frozen a k ih => intro h Q A; exact ⟨A.1, ih _ A.2⟩
  | getObj r k ih => intro h Q A; obtain ⟨o, ho, hr, A⟩ := A; exact ⟨o, ho, hr, ih _ A⟩
  | setObj r o k ih => intro h Q A; exact ⟨A.1, ih A.2⟩
  | choose q' k ih =>
    intro h Q A
    simp only [Sem.bind]
    unfold arun at A ⊢
    by_cases hq : q'.forced = true
    · simp only [hq, if_true] at A ⊢; exact ih _ A
    · simp only [hq, Bool.false_eq_true, if_false] at A ⊢; exact fun t => ih _ (A t)
  | sys c k ih => intro h Q A; exact A.elim
  | program k ih => intro h Q A; exact ih _ A
  | mark m k ih => intro h Q A; exact ih A
  | halt x => intro h Q A; exact A.elim

theorem rrun_bind {P : Program} {α β : Type} (s : Sem α) (f : α → Sem β) : ∀ {h : Hp} {a : α}, rrun P s h = some a → rrun P (s.bind f) h = rrun P (f a) h := by
  induction s with
  | pure a => intro h b A; simp only [rrun, Option.some.injEq] at A; subst A; rfl
  | load m a k ih =>
    intro h b A
    simp only [rrun] at A
    cases hc : h.cell? a with
    | none => simp [hc] at A
    | some v => simp only [hc] at A; simp only [Sem.bind, rrun, hc]; exact ih v A
  | shape r k ih =>
    intro h b A
    simp only [rrun] at A
    cases ho : h r with
    | none => simp [ho] at A
    | some o => simp only [ho] at A; simp only [Sem.bind, rrun, ho]; exact ih _ A
  | frozen a k ih =>
    intro h b A
    simp only [rrun] at A
    cases ho : h a.block with
    | none => simp [ho] at A
    | some o => simp only [ho] at A; simp only [Sem.bind, rrun, ho]; exact ih _ A
  | getObj r k ih =>
    intro h b A
    simp only [rrun] at A
    cases ho : h r with
    | none => simp [ho] at A
    | some o =>
      simp only [ho] at A
      cases hr : isRow o with
      | true => simp [hr] at A
      | false => simp only [hr] at A; simp only [Sem.bind, rrun, ho, hr]; exact ih _ A
  | choose q k ih =>
    intro h b A
    simp only [rrun] at A
    by_cases hq : q.forced = true
    · simp only [hq, if_true] at A; simp only [Sem.bind, rrun, hq, if_true]; exact ih _ A
    · simp [hq] at A
  | program k ih => intro h b A; simp only [rrun] at A; simp only [Sem.bind, rrun]; exact ih P A
  | mark m k ih => intro h b A; simp only [rrun] at A; simp only [Sem.bind, rrun]; exact ih A
  | _ => intro h b A; simp [rrun] at A

end Go.Proofs.Ytpeoholnlokdcaa

/- What code does to a frame and a partial heap, as a formula, and that the machine does the same. -/
namespace Go.Proofs.Ytpeoholnlokdcaa
open Go

abbrev Env := Nat → Value

def Env.set (env : Env) (d : Nat) (v : Value) : Env := fun i => if i = d then v else env i

def put (n : Nat) (env : Env) (dst : Option Tmp) (v : Value) : Env :=
  match dst with
  | some d => if d < n then env.set d v else env
  | none => env

def ev (env : Env) : Operand → Value
  | .tmp t => env t
  | .const v => v
  | .global g => .pointer (some ⟨g, 0, none⟩)
  | .func f => .func (.func f) #[] #[]

/-- The call of a Go function, from a partial heap: it returns, whatever the tape answers. -/
def Ok (P : Program) (f : FuncId) (args : Array Value) (h : Hp) (Q : Value → Hp → Prop) : Prop :=
  (∃ fn c, P.funcs[f]? = some fn ∧ fn.body = some c) ∧
  ∀ w, View h w → Calls P f args w fun e w' => ∃ v h', e = .returned v ∧ View h' w' ∧ Keep h w h' w' ∧ Q v h'

theorem Ok.mono {P : Program} {f : FuncId} {args : Array Value} {h : Hp} {Q Q' : Value → Hp → Prop} (a : Ok P f args h Q) (q : ∀ v h', Q v h' → Q' v h') : Ok P f args h Q' :=
  ⟨a.1, fun w V => (a.2 w V).mono fun _ _ ⟨v, h', e, V', K, r⟩ => ⟨v, h', e, V', K, q _ _ r⟩⟩

/-- A round of a loop over a function, as an iterator calls it, from a partial heap: it returns, whatever the tape answers. -/
def YOk (P : Program) (l : Nat) (args : Array Value) (h : Hp) (Q : Value → Hp → Prop) : Prop :=
  ∀ w, View h w → ∃ f tmps assign body, (Instr.yield l args).run P w = .ok (.round l f tmps assign body) w ∧
    RoundIn Fence.wide 0 P l f tmps assign body w fun e w' => ∃ v h', e = .returned v ∧ View h' w' ∧ Keep h w h' w' ∧ Q v h'

theorem YOk.mono {P : Program} {l : Nat} {args : Array Value} {h : Hp} {Q Q' : Value → Hp → Prop} (a : YOk P l args h Q) (q : ∀ v h', Q v h' → Q' v h') : YOk P l args h Q' := fun w V => by
  obtain ⟨f, tmps, asg, bd, e, r⟩ := a w V
  exact ⟨f, tmps, asg, bd, e, r.mono fun _ _ ⟨v, h', e, V', K, r⟩ => ⟨v, h', e, V', K, q _ _ r⟩⟩

/-- The call of a function value. -/
def callV (P : Program) (v : Value) (args : Array Value) (h : Hp) (k : Value → Hp → Prop) : Prop :=
  match v with
  | .func (.func f) first captured => Ok P f (first ++ args ++ captured) h k
  | .func (.yield l) first _ => YOk P l (first ++ args) h k
  | _ => False

theorem callV.mono {P : Program} {v : Value} {args : Array Value} {h : Hp} {k k' : Value → Hp → Prop} (a : callV P v args h k) (q : ∀ v h', k v h' → k' v h') : callV P v args h k' := by
  unfold callV at *
  cases v with
  | func f first captured =>
    cases f with
    | func f => exact Ok.mono a q
    | yield l => exact YOk.mono a q
    | _ => exact a
  | _ => exact a

def dnext (P : Program) (k : Value → Hp → Prop) : Next → Hp → Prop
  | .value v, h => k v h
  | .skip, h => k undef h
  | .enter f args, h => Ok P f args h k
  | _, _ => False

def nilOk : Value → Bool
  | .pointer none | .nilIface | .nilFunc | .func (.method _) _ _ => false
  | _ => true

/-- A value that is no nil. -/
def nck (x : Value) (q : Prop) : Prop := nilOk x = true ∧ q

/-- An empty heap: what runs over it touches none. -/
def noHp : Hp := fun _ => none

def rdv (o : Option Value) (k : Value → Prop) : Prop := ∃ v, o = some v ∧ k v

def rd (P : Program) (s : Sem Value) (h : Hp) (k : Value → Prop) : Prop := rdv (rrun P s h) k

def isNum (P : Program) (t : TypeId) : Bool :=
  match P.underlying t with
  | some (.int _) | some (.float _) | some (.complex _) => true
  | _ => false

def bop (op : BinOp) (t : TypeId) (x y : Operand) (a b : Value) : Sem Value := do eqGuard op t x y a b; binOp op t a b

def pck (c a b : Value) : Sem Value := do pure (if ← asBool c then a else b)

def amap {α β : Type} (f : α → β) (a : Array α) : Array β := (a.toList.map f).toArray

theorem amap_eq {α β : Type} (f : α → β) (a : Array α) : amap f a = a.map f := by
  apply Array.toList_inj.1
  simp [amap]

def evs (env : Env) (a : Array Operand) : Array Value := amap (ev env) a

theorem evs_eq (env : Env) (a : Array Operand) : evs env a = a.map (ev env) := amap_eq _ _

def evp (env : Env) (a : Array (Nat × Operand)) : Array (Nat × Value) := amap (fun (i, x) => (i, ev env x)) a

theorem evp_eq (env : Env) (a : Array (Nat × Operand)) : evp env a = a.map fun (i, x) => (i, ev env x) := amap_eq _ _

/-- Operations that neither read nor write memory. -/
def pureSem (P : Program) (env : Env) (o : Oper) : Option (Sem Value) :=
  match o.op with
  | .pick c a b => some (pck (ev env c) (ev env a) (ev env b))
  | .build t parts => some (Instr.build t (evp env parts))
  | .binOp op xType x y _ => some (bop op xType x y (ev env x) (ev env y))
  | .unOp op _ x => some (Op.unary op (ev env x))
  | .convert src dst x => if isNum P dst then some (convert src dst (ev env x)) else none
  | .makeInterface xType x => some (Instr.makeInterface xType (ev env x))
  | .makeFunc fn first captured => some (Instr.makeFunc fn (evs env first) (evs env captured))
  | .slice t x lo hi mx => some (Instr.sliceAt t (ev env x) (lo.map (ev env)) (hi.map (ev env)) (mx.map (ev env)))
  | .fieldAddr s x f => some (Instr.fieldAt s (ev env x) f)
  | .field xType x f => some (Instr.field xType (ev env x) f)
  | .indexAddr t x ix => some (Instr.indexAt t (ev env x) (ev env ix))
  | .index xType x ix => some (Instr.index xType (ev env x) (ev env ix))
  | .extract t ix => some (Instr.extract (ev env t) ix)
  | .typeAssert x xType asserted ok => some (Instr.typeAssert (ev env x) xType asserted ok)
  | _ => none

/-- Operations that read memory and write none. -/
def readSem (env : Env) (o : Oper) : Option (Sem Value) :=
  match o.op with
  | .load t a => some (Instr.loadAt t (ev env a))
  | .lookup xType x ix ok => some (Instr.lookup xType (ev env x) (ev env ix) ok)
  | .call { callee := .builtin .len, args, argTypes } => some (Builtin.len_ argTypes o.type (evs env args))
  | .call { callee := .builtin .cap, args, argTypes } => some (Builtin.cap_ argTypes o.type (evs env args))
  | .call { callee := .builtin .min, args, argTypes } => some (Builtin.min_ argTypes o.type (evs env args))
  | .call { callee := .builtin .max, args, argTypes } => some (Builtin.max_ argTypes o.type (evs env args))
  | .call { callee := .builtin .complex, args, argTypes } => some (Builtin.complex_ argTypes o.type (evs env args))
  | .call { callee := .builtin .real, args, argTypes } => some (Builtin.real_ argTypes o.type (evs env args))
  | .call { callee := .builtin .imag, args, argTypes } => some (Builtin.imag_ argTypes o.type (evs env args))
  | _ => none

def otherExec (P : Program) (env : Env) (o : Oper) (h : Hp) (k : Value → Hp → Prop) : Prop :=
  match o.op with
  | .move x | .assign x => k (ev env x) h
  | .nilCheck x => nck (ev env x) (k (ev env x) h)
  | .call { callee := .value (.func f), args, .. } => Ok P f (evs env args) h k
  | .call { callee := .value x, args, .. } => callV P (ev env x) (evs env args) h k
  | .call { callee := .builtin .append, args, argTypes } => arun P (Builtin.append_ argTypes o.type (evs env args)) h k
  | .call { callee := .builtin .copy, args, argTypes } => arun P (Builtin.copy_ argTypes o.type (evs env args)) h k
  | .call { callee := .builtin .delete, args, argTypes } => arun P (Builtin.delete_ argTypes o.type (evs env args)) h k
  | .call { callee := .builtin .clear, args, argTypes } => arun P (Builtin.clear_ argTypes o.type (evs env args)) h k
  | .alloc elem => arun P (Instr.alloc elem true (.tuple #[])) h k
  | .box elem x => arun P (Instr.box elem (ev env x)) h k
  | .buildSlice t len parts => arun P (Instr.buildSlice t len (evp env parts)) h k
  | .store t a x => arun P (Instr.storeAt t (ev env a) (ev env x)) h fun _ h => k undef h
  | .convert src dst x => arun P (convert src dst (ev env x)) h k
  | .makeMap t r => arun P (Instr.makeMap t (r.map (ev env))) h k
  | .makeSlice t l c => arun P (Instr.makeSlice t (ev env l) (ev env c)) h k
  | .mapUpdate t m k' x | .insert t m k' x => arun P (Instr.mapUpdate t (ev env m) (ev env k') (ev env x)) h fun _ h => k undef h
  | .mapEntry t m k' => arun P (Instr.mapEntry t (ev env m) (ev env k')) h k
  | .entryStore t m s x => arun P (Instr.entryStore t (ev env m) (ev env s) (ev env x)) h fun _ h => k undef h
  | .range xType x => arun P (Instr.range xType (ev env x)) h k
  | .next it isString => arun P (Instr.next (ev env it) isString o.type) h k
  | .entry it => arun P (Instr.entry (ev env it)) h k
  | .panic _ => False
  | .defer _ => False
  | _ => arun P (execOp (ev env) o) h (dnext P k)

def dexec (P : Program) (env : Env) (o : Oper) (h : Hp) (k : Value → Hp → Prop) : Prop :=
  match pureSem P env o with
  | some s => rd P s noHp fun v => k v h
  | none =>
    match readSem env o with
    | some s => rd P s h fun v => k v h
    | none => otherExec P env o h k

/-- An operation under a guard. -/
def gd (c : Bool) (ex : Hp → (Value → Hp → Prop) → Prop) (h : Hp) (k : Value → Hp → Prop) : Prop := if c then ex h k else k undef h

theorem gd_true (ex : Hp → (Value → Hp → Prop) → Prop) (h : Hp) (k : Value → Hp → Prop) : gd true ex h k = ex h k := by unfold gd; simp
theorem gd_false (ex : Hp → (Value → Hp → Prop) → Prop) (h : Hp) (k : Value → Hp → Prop) : gd false ex h k = k undef h := by unfold gd; simp

def yb : Value → Option Bool
  | .bool b => some b
  | _ => none

def yieldedE (ops : Array Oper) (env : Env) (j : Nat) : Option Bool :=
  match (ops[j]?).bind (·.dst) with
  | some d => yb (env d)
  | none => none

def gop (P : Program) (ops : Array Oper) (env : Env) (o : Oper) (h : Hp) (k : Value → Hp → Prop) : Prop :=
  match o.guard with
  | none => dexec P env o h k
  | some (j, want) => gd (yieldedE ops env j == some want) (dexec P env o) h k

def dOp (P : Program) (n : Nat) (ops : Array Oper) (i : Nat) (env : Env) (h : Hp) (K : Env → Hp → Prop) : Prop :=
  match ops[i]? with
  | none => K env h
  | some o => gop P ops env o h fun v h' => K (put n env o.dst v) h'

def dops (P : Program) (n : Nat) (ops : Array Oper) : List Nat → Env → Hp → (Env → Hp → Prop) → Prop
  | [], env, h, K => K env h
  | i :: rest, env, h, K => dOp P n ops i env h fun env' h' => dops P n ops rest env' h' K

/-! ### Soundness of one operation -/

structure Fits (n : Nat) (a : Act) (env : Env) : Prop where
  size : a.tmps.size = n
  get : ∀ t, a.tmps.getD t undef = env t

theorem Fits.eval {n : Nat} {a : Act} {env : Env} (F : Fits n a env) (x : Operand) : a.eval x = ev env x := by
  cases x with
  | tmp t => exact F.get t
  | _ => rfl

theorem Fits.evalf {n : Nat} {a : Act} {env : Env} (F : Fits n a env) : a.eval = ev env := funext F.eval

theorem Fits.put {n : Nat} {a : Act} {env : Env} (F : Fits n a env) (dst : Option Tmp) (v : Value) : Fits n (a.put dst v) (put n env dst v) := by
  cases dst with
  | none => exact F
  | some d =>
    refine ⟨by simp [Act.put, F.size], fun t => ?_⟩
    simp only [Act.put, Ytpeoholnlokdcaa.put]
    by_cases hd : d < n
    · rw [if_pos hd]
      by_cases ht : t = d
      · subst ht
        have : t < a.tmps.size := by rw [F.size]; exact hd
        simp [Env.set, Array.getD_eq_getD_getElem?, this]
      · have := F.get t
        simp only [Array.getD_eq_getD_getElem?] at this ⊢
        rw [Array.getElem?_setIfInBounds_ne (Ne.symm ht), this]
        simp [Env.set, ht]
    · rw [if_neg hd]
      have : a.tmps.setIfInBounds d v = a.tmps := by
        unfold Array.setIfInBounds; rw [dif_neg (by rw [F.size]; exact hd)]
      rw [this]; exact F.get t

theorem Fits.yielded {n : Nat} {a : Act} {env : Env} (F : Fits n a env) (ops : Array Oper) (j : Nat) : yielded ops a.tmps j = yieldedE ops env j := by
  unfold Go.yielded yieldedE
  cases hd : (ops[j]?).bind (·.dst) with
  | none => rfl
  | some d =>
    have h := F.get d
    simp only [Array.getD_eq_getD_getElem?] at h
    simp only [Option.bind_some]
    cases ht : a.tmps[d]? with
    | none => rw [ht] at h; simp at h; rw [← h]; rfl
    | some v => rw [ht] at h; simp at h; rw [← h]; cases v <;> rfl

def progOk (P : Program) : Bool :=
  P.follows .mixedOrders && P.funcs.all fun fn => fn.body.isNone || fn.name != "runtime.NumGoroutine"

theorem callFunc_run {P : Program} (hP : progOk P = true) {f : FuncId} {fn : Func} {c : Code} (hf : P.funcs[f]? = some fn) (hb : fn.body = some c) (args : Array Value) (w : World) :
    (callFunc f args).run P w = .ok (.enter f args) w := by
  simp only [progOk, Bool.and_eq_true, Array.all_eq_true_iff_forall_mem] at hP
  have h := hP.2 fn (Array.mem_of_getElem? hf)
  simp only [hb, Option.isNone_some, Bool.false_or] at h
  have hn : (fn.name == "runtime.NumGoroutine") = false := by simpa using h
  unfold callFunc
  show Sem.run P (Sem.program fun p => _) w = _
  simp only [Sem.run, Sem.bind, bind, hf, hn, hb, Option.isNone_some, Bool.false_eq_true, if_false, pure]

/-- What one operation of the machine comes to. -/
def Wpo (P : Program) (o : Oper) (a : Act) (w : World) (k : Value → World → Prop) : Prop :=
  match (execOp a.eval o).run P w with
  | .ok (.value v) w' => k v w'
  | .ok .skip w' => k undef w'
  | .ok (.enter f args) w' => Calls P f args w' fun e w'' => ∃ v, e = .returned v ∧ k v w''
  | .ok (.round l f tmps asg bd) w' => RoundIn Fence.wide 0 P l f tmps asg bd w' fun e w'' => ∃ v, e = .returned v ∧ k v w''
  | _ => False

/-- No fence but the round that the frame is of. -/
def Fw (ro : Option Nat) : Fence := { Fence.wide with round := ro }

theorem Fw.calls {ro : Option Nat} {n : Nat} {P : Program} {f : FuncId} {args : Array Value} {w : World} {R : Ending → World → Prop} (h : Calls P f args w R) : CallsIn (Fw ro) n P f args w R :=
  (callsIn_wide (n := n)).2 h

theorem Fw.round {ro : Option Nat} {n m : Nat} {P : Program} {l : Nat} {f : FuncId} {tmps : Array Value} {asg bd : Code} {w : World} {R : Ending → World → Prop} (h : RoundIn Fence.wide m P l f tmps asg bd w R) : RoundIn (Fw ro) n P l f tmps asg bd w R :=
  ⟨trivial, fun c cs _ => h.2 c cs (room_wide _)⟩

theorem Wpo.wpIn {P : Program} {ro : Option Nat} {n : Nat} {o : Oper} {a : Act} {w : World} {next : Act → World → Prop} {Q : Exit → Act → World → Prop} (hd : ∀ c, o.op ≠ .defer c) (h : Wpo P o a w fun v w' => next (a.put o.dst v) w') :
    o.wpIn (Fw ro) n P a w next Q := by
  refine ⟨fun _ _ => trivial, ?_⟩
  have hs : o.semAt (Fw ro).round a.eval = execOp a.eval o := by
    unfold Oper.semAt
    split
    · rename_i c _ hc; exact absurd hc (hd _)
    · rfl
  rw [hs]
  unfold Wpo at h
  generalize (execOp a.eval o).run P w = r at *
  cases r with
  | halt x w' => exact h.elim
  | ok x w' =>
    cases x <;> simp only at h <;> simp only [Oper.uponIn]
    case value v => exact h
    case skip => exact h
    case enter f args => exact ⟨(fun e => by cases e), (Fw.calls h).mono fun e w'' ⟨v, he, hk⟩ => by subst he; exact hk⟩
    case round l f tmps asg bd => exact ⟨(fun e => by cases e), (Fw.round h).mono fun e w'' ⟨v, he, hk⟩ => by subst he; exact hk⟩
    all_goals exact h.elim

theorem value_run {P : Program} {s : Sem Value} {w w' : World} {v : Value} (h : s.run P w = .ok v w') : Sem.run P (do pure (Next.value (← s))) w = .ok (.value v) w' := by
  show Sem.run P (s.bind fun v => Sem.pure (Next.value v)) w = _
  rw [Sem.run_bind', h]; rfl

theorem skip_run {P : Program} {s : Sem Unit} {w w' : World} {v : Unit} (h : s.run P w = .ok v w') : Sem.run P (do s; pure Next.skip) w = .ok .skip w' := by
  show Sem.run P (s.bind fun _ => Sem.pure Next.skip) w = _
  rw [Sem.run_bind', h]; rfl

section
variable {P : Program} {o : Oper} {a : Act} {w : World} {env : Env} {h : Hp} {k : Value → Hp → Prop}

def Does (P : Program) (o : Oper) (a : Act) (h : Hp) (w : World) (k : Value → Hp → Prop) : Prop :=
  Wpo P o a w fun v w' => ∃ h', View h' w' ∧ Keep h w h' w' ∧ k v h'

theorem Does.read {s : Sem Value} {h0 : Hp} (V : View h w) (V0 : View h0 w) (he : execOp a.eval o = do pure (Next.value (← s))) (A : rd P s h0 fun v => k v h) : Does P o a h w k := by
  obtain ⟨v, hv, hk⟩ := A
  unfold Does Wpo
  rw [he, value_run (rrun_sound s V0 hv)]
  exact ⟨h, V, Keep.refl _ _, hk⟩

theorem Does.value {s : Sem Value} (V : View h w) (he : execOp a.eval o = do pure (Next.value (← s))) (A : arun P s h k) : Does P o a h w k := by
  obtain ⟨v, w', h', hr, V', K, hk⟩ := arun_sound s V A
  unfold Does Wpo
  rw [he, value_run hr]
  exact ⟨h', V', K, hk⟩

theorem Does.unit {s : Sem Unit} (V : View h w) (he : execOp a.eval o = do s; pure Next.skip) (A : arun P s h fun _ h => k undef h) : Does P o a h w k := by
  obtain ⟨v, w', h', hr, V', K, hk⟩ := arun_sound s V A
  unfold Does Wpo
  rw [he, skip_run hr]
  exact ⟨h', V', K, hk⟩

theorem Does.is {v : Value} (V : View h w) (he : execOp a.eval o = pure (Next.value v)) (A : k v h) : Does P o a h w k := by
  unfold Does Wpo
  rw [he]
  exact ⟨h, V, Keep.refl _ _, A⟩

theorem Does.next (V : View h w) (A : arun P (execOp a.eval o) h (dnext P k)) : Does P o a h w k := by
  obtain ⟨x, w', h', hr, V', K, hk⟩ := arun_sound _ V A
  unfold Does Wpo
  rw [hr]
  cases x <;> simp only [dnext] at hk
  case value v => exact ⟨h', V', K, hk⟩
  case skip => exact ⟨h', V', K, hk⟩
  case enter f args =>
    refine (hk.2 w' V').mono ?_
    rintro e w'' ⟨v, h'', he, V2, K2, hk2⟩
    exact ⟨v, he, h'', V2, K.trans K2, hk2⟩

theorem Does.static (hP : progOk P = true) {f : FuncId} {args : Array Operand} {argTypes : Array TypeId} (V : View h w)
    (ho : o.op = .call { callee := .value (.func f), args, argTypes }) (A : Ok P f (args.map a.eval) h k) : Does P o a h w k := by
  obtain ⟨⟨fn, c, hf, hb⟩, A⟩ := A
  have he : (execOp a.eval o).run P w = .ok (.enter f (args.map a.eval)) w := by
    have : execOp a.eval o = callFunc f (#[] ++ args.map a.eval ++ #[]) := by
      unfold execOp
      simp only [ho]
      rfl
    rw [this, callFunc_run hP hf hb]
    simp
  unfold Does Wpo
  rw [he]
  refine (A w V).mono ?_
  rintro e w'' ⟨v, h'', he, V2, K2, hk2⟩
  exact ⟨v, he, h'', V2, K2, hk2⟩

theorem Does.callv (hP : progOk P = true) {x : Operand} {args : Array Operand} {argTypes : Array TypeId} (V : View h w)
    (ho : o.op = .call { callee := .value x, args, argTypes }) (A : callV P (a.eval x) (args.map a.eval) h k) : Does P o a h w k := by
  unfold callV at A
  split at A
  · rename_i f first captured hv
    obtain ⟨⟨fn, c, hf, hb⟩, A⟩ := A
    have he : (execOp a.eval o).run P w = .ok (.enter f (first ++ args.map a.eval ++ captured)) w := by
      have : execOp a.eval o = callFunc f (first ++ args.map a.eval ++ captured) := by
        unfold execOp
        simp only [ho, resolve, hv]
        rfl
      rw [this, callFunc_run hP hf hb]
    unfold Does Wpo
    rw [he]
    refine (A w V).mono ?_
    rintro e w'' ⟨v, h'', he, V2, K2, hk2⟩
    exact ⟨v, he, h'', V2, K2, hk2⟩
  · rename_i l first captured hv
    obtain ⟨f, tmps, asg, bd, hy, hr⟩ := A w V
    have he : (execOp a.eval o).run P w = .ok (.round l f tmps asg bd) w := by
      have : execOp a.eval o = Instr.yield l (first ++ args.map a.eval) := by
        unfold execOp
        simp only [ho, resolve, hv]
        rfl
      rw [this, hy]
    unfold Does Wpo
    rw [he]
    refine hr.mono ?_
    rintro e w'' ⟨v, h'', he, V2, K2, hk2⟩
    exact ⟨v, he, h'', V2, K2, hk2⟩
  · exact A.elim

theorem dexec_nodefer (D : dexec P env o h k) : ∀ c, o.op ≠ .defer c := by
  intro c hc
  unfold dexec at D
  have h1 : pureSem P env o = none := by unfold pureSem; rw [hc]
  have h2 : readSem env o = none := by unfold readSem; rw [hc]
  rw [h1, h2] at D
  unfold otherExec at D
  rw [hc] at D
  exact D

theorem View.no (w : World) : View noHp w := fun _ _ e => by cases e

theorem dexec_sound {n : Nat} (hP : progOk P = true) (F : Fits n a env) (V : View h w) (D : dexec P env o h k) : Does P o a h w k := by
  have hF := F.evalf
  unfold dexec at D
  cases hp : pureSem P env o with
  | some s =>
    simp only [hp] at D
    refine Does.read V (View.no w) ?_ D
    unfold pureSem at hp
    unfold execOp
    rw [hF]
    cases ho : o.op <;> simp only [ho] at hp ⊢ <;> first
      | cases hp; done
      | (simp only [Option.some.injEq] at hp; subst hp; rfl)
      | (simp only [Option.some.injEq] at hp; subst hp; simp only [pck, bind_assoc, pure_bind]; done)
      | (simp only [Option.some.injEq] at hp; subst hp; simp only [evs_eq, evp_eq]; first | done | rfl)
      | (split at hp <;> first | cases hp; done | (simp only [Option.some.injEq] at hp; subst hp; rfl))
  | none =>
    simp only [hp] at D
    cases hr : readSem env o with
    | some s =>
      simp only [hr] at D
      refine Does.read V V ?_ D
      unfold readSem at hr
      unfold execOp
      rw [hF]
      split at hr <;> rename_i ho <;> simp only [ho] <;> first
        | cases hr; done
        | (simp only [Option.some.injEq] at hr; subst hr; rfl)
        | (simp only [Option.some.injEq] at hr; subst hr; simp only [evs_eq]; first | done | rfl)
    | none =>
      simp only [hr] at D
      unfold otherExec at D
      simp only [evs_eq, evp_eq] at D
      rw [← hF] at D
      split at D <;> rename_i ho
      all_goals first
        | exact D.elim
        | exact Does.static hP V ho D
        | exact Does.callv hP V ho D
        | exact Does.next V D
        | (refine Does.value V ?_ D; unfold execOp; simp only [ho]; try rfl)
        | (refine Does.unit V ?_ D; unfold execOp; simp only [ho]; try rfl)
        | (refine Does.is V ?_ D; unfold execOp; simp only [ho]; try rfl)
        | skip
      · obtain ⟨hn, hk⟩ := D
        refine Does.is V ?_ hk
        unfold execOp
        simp only [ho]
        cases hv : a.eval ‹Operand› <;> rw [hv] at hn <;> first
          | rfl
          | (rename_i fn first captured; cases fn <;> first | (simp [nilOk] at hn; done) | rfl)
          | (rename_i x; cases x <;> first | (simp [nilOk] at hn; done) | rfl)
          | simp [nilOk] at hn
end

end Go.Proofs.Ytpeoholnlokdcaa

/- Regions: in the text's order, and in any order. -/
namespace Go.Proofs.Ytpeoholnlokdcaa
open Go

def preds (ops : Array Oper) (j : Nat) : List Nat :=
  match ops[j]? with
  | some o => (o.after.toList.filter fun e => Region.binds .any e).map (·.on)
  | none => []

def reach (ops : Array Oper) : Nat → List Nat → List Nat
  | 0, _ => []
  | k + 1, S => S ++ (match S with | [] => [] | _ => reach ops k (S.flatMap (preds ops)).eraseDups)

/-- i comes ahead of j by the region's edges. -/
def bef (ops : Array Oper) (i j : Nat) : Bool := (reach ops ops.size (preds ops j)).contains i

def regionGood (ops : Array Oper) : Bool :=
  Region.noSelect ops &&
  (List.range ops.size).all fun j => (List.range ops.size).all fun i =>
    i == j || bef ops i j || bef ops j i || (match ops[i]?, ops[j]? with | some x, some y => x.apart ops y | _, _ => true)

def isRd (P : Program) (o : Oper) : Bool :=
  match o.op with
  | .move _ | .assign _ | .nilCheck _ => true
  | _ => (pureSem P (fun _ => undef) o).isSome || (readSem (fun _ => undef) o).isSome

def isRdI (P : Program) (ops : Array Oper) (i : Nat) : Bool :=
  match ops[i]? with
  | some o => isRd P o
  | none => false

def rval (P : Program) (env : Env) (o : Oper) (h : Hp) : Option Value :=
  match o.op with
  | .move x | .assign x => some (ev env x)
  | .nilCheck x => if nilOk (ev env x) then some (ev env x) else none
  | _ =>
    match pureSem P env o with
    | some s => rrun P s noHp
    | none =>
      match readSem env o with
      | some s => rrun P s h
      | none => none

/-- The operation would still yield v. -/
def gchk (P : Program) (ops : Array Oper) (env : Env) (o : Oper) (v : Value) (h : Hp) : Prop :=
  match o.guard with
  | none => rval P env o h = some v
  | some (j, want) => (yieldedE ops env j == some want) = true → rval P env o h = some v

abbrev Pend := List (Nat × (Hp → Prop))

def updP (P : Program) (ops : Array Oper) (pend : Pend) (j : Nat) : Pend :=
  match isRdI P ops j with
  | true => pend
  | false => pend.filter fun p => !bef ops p.1 j

def dAnyP (P : Program) (n : Nat) (ops : Array Oper) : Nat → Pend → Array Bool → Env → Hp → (Env → Hp → Prop) → Prop
  | 0, _, listed, env, h, K => Region.ready .any ops listed = [] ∧ K env h
  | fuel + 1, pend, listed, env, h, K =>
    (Region.ready .any ops listed = [] → K env h) ∧
    ∀ j ∈ Region.ready .any ops listed, dOp P n ops j env h fun env' h' =>
      (∀ p ∈ updP P ops pend j, p.2 h') ∧ dAnyP P n ops fuel (updP P ops pend j) (listed.setIfInBounds j true) env' h' K

def dchk : Pend → Hp → Prop
  | [], _ => True
  | p :: rest, h => p.2 h ∧ dchk rest h

def dall : List Nat → (Nat → Prop) → Prop
  | [], _ => True
  | [j], f => f j
  | j :: rest, f => f j ∧ dall rest f

def isHeapRd (env : Env) (o : Oper) : Bool := (readSem env o).isSome

def dreg (P : Program) (n : Nat) (ops : Array Oper) : Nat → Pend → Array Bool → Env → Hp → (Env → Hp → Prop) → Prop
  | 0, _, listed, env, h, K =>
    match Region.ready .any ops listed with
    | [] => K env h
    | _ => False
  | fuel + 1, pend, listed, env, h, K =>
    match (Region.ready .any ops listed).find? (isRdI P ops) with
    | some i =>
      (match ops[i]? with
      | some o => gop P ops env o h fun v h' =>
          dreg P n ops fuel (match isHeapRd env o with | true => (i, gchk P ops env o v) :: pend | false => pend) (listed.setIfInBounds i true) (put n env o.dst v) h' K
      | none => False)
    | none =>
      match Region.ready .any ops listed with
      | [] => K env h
      | rs => dall rs fun j => dOp P n ops j env h fun env' h' =>
          dchk (updP P ops pend j) h' ∧ dreg P n ops fuel (updP P ops pend j) (listed.setIfInBounds j true) env' h' K

/-! ### Congruence -/

theorem ev_put {n : Nat} {env : Env} {dst : Option Tmp} {v : Value} {x : Operand} (h : ∀ d, dst = some d → x ≠ .tmp d) : ev (put n env dst v) x = ev env x := by
  cases dst with
  | none => rfl
  | some d =>
    cases x with
    | tmp t =>
      have hne : t ≠ d := fun e => h d rfl (e ▸ rfl)
      simp only [ev, put]
      split
      · simp [Env.set, hne]
      · rfl
    | _ => rfl

theorem put_comm (n : Nat) (env : Env) {x y : Option Tmp} (v u : Value) (h : ∀ d, x = some d → y ≠ some d) :
    put n (put n env x v) y u = put n (put n env y u) x v := by
  cases x with
  | none => rfl
  | some d =>
    cases y with
    | none => rfl
    | some e =>
      have hne : d ≠ e := fun he => h d rfl (he ▸ rfl)
      funext t
      simp only [put]
      by_cases h1 : d < n <;> by_cases h2 : e < n <;> simp only [h1, h2, if_true, if_false] <;> simp only [Env.set]
      by_cases ht : t = e
      · subst ht; simp [Ne.symm hne]
      · simp [ht]

theorem dexec_congr {P : Program} {env env' : Env} {o : Oper} (hs : ∀ cs b, o.op ≠ .select cs b) (h : ∀ x ∈ o.op.operands, ev env x = ev env' x) (hp : Hp) (k : Value → Hp → Prop) :
    dexec P env o hp k = dexec P env' o hp k := by
  have hx := execOp_congr o hs h
  have hmap : ∀ xs : Array Operand, (∀ x ∈ xs, x ∈ o.op.operands) → evs env xs = evs env' xs := fun xs hm => by
    rw [evs_eq, evs_eq]; exact Array.map_congr_left fun x hx => h x (hm x hx)
  have pairs : ∀ ps : Array (Nat × Operand), (∀ x ∈ ps.map (·.2), ev env x = ev env' x) →
      evp env ps = evp env' ps := fun ps hp => by
    rw [evp_eq, evp_eq]
    exact Array.map_congr_left fun p hm => by
      obtain ⟨i, x⟩ := p
      simp only [hp x (Array.mem_map.2 ⟨(i, x), hm, rfl⟩)]
  obtain ⟨dst, op, type, pos, after, guard⟩ := o
  cases op <;> simp only [Op.operands] at h hmap <;> simp only [dexec, pureSem, readSem, otherExec]
  case call c =>
    obtain ⟨callee, args, argTypes⟩ := c
    simp only [Call.operands] at hmap
    have hargs : evs env args = evs env' args := hmap args (fun x hx => by simp [hx])
    cases callee with
    | builtin b => cases b <;> simp only [hargs, hx]
    | value f =>
      have hf : ev env f = ev env' f := h f (by simp [Call.operands])
      cases f <;> simp only [hargs, hf]
    | invoke r m => simp only [hx]
  case build t ps => rw [pairs ps fun x hx => h x (by simpa using hx)]
  case buildSlice t n ps => rw [pairs ps fun x hx => h x (by simpa using hx)]
  case makeFunc fn first captured =>
    rw [hmap first (fun x hx => by simp [hx]), hmap captured (fun x hx => by simp [hx])]
  case makeMap t r => cases r <;> simp_all
  case slice t x lo hi mx => cases lo <;> cases hi <;> cases mx <;> simp_all
  all_goals (first | rfl | (simp_all; done) | (simp only [hx]; done))

theorem yieldedE_put {n : Nat} {ops : Array Oper} {env : Env} {dst : Option Tmp} {v : Value} {g : Nat} (h : ∀ d t, dst = some d → (ops[g]?).bind (·.dst) = some t → d ≠ t) :
    yieldedE ops (put n env dst v) g = yieldedE ops env g := by
  unfold yieldedE
  cases ht : (ops[g]?).bind (·.dst) with
  | none => rfl
  | some t =>
    have : put n env dst v t = env t := ev_put (x := .tmp t) (fun d hd e => h d t hd ht (by cases e; rfl))
    simp only [this]

theorem looks_op {ops : Array Oper} {o : Oper} {x : Operand} {d : Tmp} (hx : x ∈ o.op.operands) (he : x = .tmp d) : d ∈ o.looksAt ops := by
  subst he
  exact List.mem_append_left _ (List.mem_filterMap.2 ⟨.tmp d, by simpa using hx, rfl⟩)

theorem looks_guard {ops : Array Oper} {o : Oper} {g : Nat} {want : Bool} {t : Tmp} (hg : o.guard = some (g, want)) (ht : (ops[g]?).bind (·.dst) = some t) : t ∈ o.looksAt ops := by
  unfold Oper.looksAt
  rw [hg]
  exact List.mem_append_right _ (by simp [ht])

theorem gop_put {P : Program} {n : Nat} {ops : Array Oper} {o : Oper} (hs : ∀ cs b, o.op ≠ .select cs b) {env : Env} {dst : Option Tmp} {v : Value} (h : ∀ d, dst = some d → d ∉ o.looksAt ops)
    (hp : Hp) (k : Value → Hp → Prop) : gop P ops (put n env dst v) o hp k = gop P ops env o hp k := by
  have he : ∀ hp k, dexec P (put n env dst v) o hp k = dexec P env o hp k := fun hp k =>
    dexec_congr hs (fun x hx => ev_put fun d hd e => h d hd (looks_op hx e)) hp k
  unfold gop
  cases hg : o.guard with
  | none => exact he _ _
  | some gw =>
    obtain ⟨g, want⟩ := gw
    simp only
    rw [yieldedE_put (fun d t hd ht e => h d hd (by subst e; exact looks_guard hg ht))]
    unfold gd
    rw [he]

theorem dexec_mono {P : Program} {env : Env} {o : Oper} {h : Hp} {k k' : Value → Hp → Prop} (q : ∀ v h, k v h → k' v h) (D : dexec P env o h k) : dexec P env o h k' := by
  unfold dexec at *
  cases hp : pureSem P env o with
  | some s => simp only [hp] at D ⊢; obtain ⟨v, hv, hk⟩ := D; exact ⟨v, hv, q _ _ hk⟩
  | none =>
    simp only [hp] at D ⊢
    cases hr : readSem env o with
    | some s => simp only [hr] at D ⊢; obtain ⟨v, hv, hk⟩ := D; exact ⟨v, hv, q _ _ hk⟩
    | none =>
      simp only [hr] at D ⊢
      unfold otherExec at *
      split <;> rename_i ho <;> simp only [ho] at D
      all_goals first
        | exact q _ _ D
        | exact ⟨D.1, q _ _ D.2⟩
        | exact Ok.mono D q
        | exact callV.mono D q
        | exact arun_mono _ q D
        | exact arun_mono _ (fun _ h x => q _ h x) D
        | skip
      refine arun_mono _ (fun x h hx => ?_) D
      cases x <;> simp only [dnext] at hx ⊢ <;> first | exact q _ _ hx | exact Ok.mono hx q | exact hx.elim

theorem gop_mono {P : Program} {ops : Array Oper} {env : Env} {o : Oper} {h : Hp} {k k' : Value → Hp → Prop} (q : ∀ v h, k v h → k' v h) (D : gop P ops env o h k) : gop P ops env o h k' := by
  unfold gop gd at *
  split
  · rename_i hg; simp only [hg] at D; exact dexec_mono q D
  · rename_i j want hg
    simp only [hg] at D
    split
    · rename_i hc; simp only [hc, if_true] at D; exact dexec_mono q D
    · rename_i hc; simp only [hc] at D; exact q _ _ D

theorem dOp_mono {P : Program} {n : Nat} {ops : Array Oper} {i : Nat} {env : Env} {h : Hp} {K K' : Env → Hp → Prop} (q : ∀ e h, K e h → K' e h) (D : dOp P n ops i env h K) : dOp P n ops i env h K' := by
  unfold dOp at *
  split
  · rename_i ho; simp only [ho] at D; exact q _ _ D
  · rename_i o ho; simp only [ho] at D; exact gop_mono (fun v h hk => q _ _ hk) D

theorem pureSem_isSome (P : Program) (env env' : Env) (o : Oper) : (pureSem P env o).isSome = (pureSem P env' o).isSome := by
  unfold pureSem
  cases o.op <;> simp only [] <;> first | rfl | (split <;> rfl)

theorem readSem_isSome (env env' : Env) (o : Oper) : (readSem env o).isSome = (readSem env' o).isSome := by
  unfold readSem
  split <;> rfl

theorem dexec_rd {P : Program} {env : Env} {o : Oper} {h : Hp} {k : Value → Hp → Prop} (hr : isRd P o = true) (D : dexec P env o h k) : ∃ v, rval P env o h = some v ∧ k v h := by
  have special : ∀ x, (o.op = .move x ∨ o.op = .assign x ∨ o.op = .nilCheck x) → pureSem P env o = none ∧ readSem env o = none := by
    intro x hx
    rcases hx with hx | hx | hx <;> simp [pureSem, readSem, hx]
  unfold dexec at D
  cases hp : pureSem P env o with
  | some s =>
    simp only [hp] at D
    obtain ⟨v, hv, hk⟩ := D
    refine ⟨v, ?_, hk⟩
    unfold rval
    split <;> rename_i ho
    · have := (special _ (.inl ho)).1; rw [hp] at this; cases this
    · have := (special _ (.inr (.inl ho))).1; rw [hp] at this; cases this
    · have := (special _ (.inr (.inr ho))).1; rw [hp] at this; cases this
    · simp only [hp]; exact hv
  | none =>
    simp only [hp] at D
    cases hs : readSem env o with
    | some s =>
      simp only [hs] at D
      obtain ⟨v, hv, hk⟩ := D
      refine ⟨v, ?_, hk⟩
      unfold rval
      split <;> rename_i ho
      · have := (special _ (.inl ho)).2; rw [hs] at this; cases this
      · have := (special _ (.inr (.inl ho))).2; rw [hs] at this; cases this
      · have := (special _ (.inr (.inr ho))).2; rw [hs] at this; cases this
      · simp only [hp, hs]; exact hv
    | none =>
      simp only [hs] at D
      unfold isRd at hr
      unfold otherExec at D
      split at hr <;> rename_i ho
      · simp only [ho] at D; exact ⟨_, by simp [rval, ho], D⟩
      · simp only [ho] at D; exact ⟨_, by simp [rval, ho], D⟩
      · simp only [ho] at D; exact ⟨_, by simp [rval, ho, D.1], D.2⟩
      · rw [pureSem_isSome P _ env, readSem_isSome _ env, hp, hs] at hr; simp at hr

theorem dexec_of_rval {P : Program} {env : Env} {o : Oper} {h : Hp} {k : Value → Hp → Prop} {v : Value} (hv : rval P env o h = some v) (hk : k v h) : dexec P env o h k := by
  unfold rval at hv
  split at hv <;> rename_i ho
  · cases hv; simp only [dexec, pureSem, readSem, otherExec, ho]; exact hk
  · cases hv; simp only [dexec, pureSem, readSem, otherExec, ho]; exact hk
  · split at hv
    · rename_i hn; cases hv; simp only [dexec, pureSem, readSem, otherExec, ho]; exact ⟨hn, hk⟩
    · cases hv
  · unfold dexec
    cases hp : pureSem P env o with
    | some s => simp only [hp] at hv ⊢; exact ⟨v, hv, hk⟩
    | none =>
      simp only [hp] at hv ⊢
      cases hs : readSem env o with
      | some s => simp only [hs] at hv ⊢; exact ⟨v, hv, hk⟩
      | none => simp [hs] at hv

/-- What a reader under its guard yields. -/
def gval (P : Program) (ops : Array Oper) (env : Env) (o : Oper) (h : Hp) : Option Value :=
  match o.guard with
  | none => rval P env o h
  | some (j, want) => if yieldedE ops env j == some want then rval P env o h else some undef

theorem gop_rd {P : Program} {ops : Array Oper} {env : Env} {o : Oper} {h : Hp} {k : Value → Hp → Prop} (hr : isRd P o = true) (D : gop P ops env o h k) : ∃ v, gval P ops env o h = some v ∧ k v h := by
  unfold gop gd at D
  unfold gval
  cases hg : o.guard with
  | none => simp only [hg] at D ⊢; exact dexec_rd hr D
  | some gw =>
    obtain ⟨j, want⟩ := gw
    simp only [hg] at D ⊢
    cases hc : (yieldedE ops env j == some want) with
    | true => simp only [hc, if_true] at D ⊢; exact dexec_rd hr D
    | false => simp only [hc] at D ⊢; exact ⟨undef, rfl, D⟩

theorem gop_of_gval {P : Program} {ops : Array Oper} {env : Env} {o : Oper} {h : Hp} {k : Value → Hp → Prop} {v : Value} (hv : gval P ops env o h = some v) (hk : k v h) : gop P ops env o h k := by
  unfold gval at hv
  unfold gop gd
  cases hg : o.guard with
  | none => simp only [hg] at hv ⊢; exact dexec_of_rval hv hk
  | some gw =>
    obtain ⟨j, want⟩ := gw
    simp only [hg] at hv ⊢
    cases hc : (yieldedE ops env j == some want) with
    | true => simp only [hc, if_true] at hv ⊢; exact dexec_of_rval hv hk
    | false => simp only [hc] at hv ⊢; cases hv; exact hk

theorem gval_put {P : Program} {n : Nat} {ops : Array Oper} {o : Oper} (hr : isRd P o = true) (hs : ∀ cs b, o.op ≠ .select cs b) {env : Env} {dst : Option Tmp} {v : Value} (h : ∀ d, dst = some d → d ∉ o.looksAt ops)
    (hp : Hp) : gval P ops (put n env dst v) o hp = gval P ops env o hp := by
  have key : ∀ u, gval P ops (put n env dst v) o hp = some u ↔ gval P ops env o hp = some u := by
    intro u
    constructor
    · intro hu
      have := gop_of_gval (k := fun v _ => v = u) hu rfl
      rw [gop_put hs h] at this
      obtain ⟨v, hv, rfl⟩ := gop_rd hr this
      exact hv
    · intro hu
      have := gop_of_gval (k := fun v _ => v = u) hu rfl
      rw [← gop_put (n := n) (dst := dst) (v := v) hs h] at this
      obtain ⟨v, hv, rfl⟩ := gop_rd hr this
      exact hv
  cases h1 : gval P ops (put n env dst v) o hp with
  | some u => exact ((key u).1 h1).symm
  | none =>
    cases h2 : gval P ops env o hp with
    | none => rfl
    | some u => rw [(key u).2 h2] at h1; cases h1

theorem gchk_gval {P : Program} {ops : Array Oper} {env : Env} {o : Oper} {h h' : Hp} {v : Value} (hv : gval P ops env o h = some v) : gchk P ops env o v h' → gval P ops env o h' = some v := by
  unfold gval at hv
  unfold gval gchk
  cases hg : o.guard with
  | none => simp only [hg] at hv ⊢; exact id
  | some gw =>
    obtain ⟨j, want⟩ := gw
    simp only [hg] at hv ⊢
    cases hc : (yieldedE ops env j == some want) with
    | true => simp
    | false => simp only [hc] at hv; simp; simpa using hv

end Go.Proofs.Ytpeoholnlokdcaa

/- Regions in any order, and code: soundness. -/
namespace Go.Proofs.Ytpeoholnlokdcaa
open Go

def Down (ops : Array Oper) (listed : Array Bool) : Prop := ∀ j, listed.getD j false = true → ∀ e ∈ preds ops j, listed.getD e false = true

theorem ready_preds {ops : Array Oper} {listed : Array Bool} {j : Nat} (hj : j ∈ Region.ready .any ops listed) : ∀ e ∈ preds ops j, listed.getD e false = true := by
  obtain ⟨_, o, ho, hall⟩ := mem_ready.1 hj
  intro e he
  unfold preds at he
  simp only [ho, List.mem_map, List.mem_filter, Array.mem_toList_iff] at he
  obtain ⟨x, ⟨hx, hb⟩, rfl⟩ := he
  exact hall x hx hb

theorem Down.set {ops : Array Oper} {listed : Array Bool} {j : Nat} (hd : Down ops listed) (hj : j ∈ Region.ready .any ops listed) : Down ops (listed.setIfInBounds j true) := by
  intro i hi e he
  by_cases hij : i = j
  · subst hij; exact getD_set_true (ready_preds hj e he)
  · rw [getD_set_ne false (Ne.symm hij)] at hi
    exact getD_set_true (hd i hi e he)

theorem reach_listed {ops : Array Oper} {listed : Array Bool} (hd : Down ops listed) : ∀ k S, (∀ x ∈ S, listed.getD x false = true) → ∀ x ∈ reach ops k S, listed.getD x false = true := by
  intro k
  induction k with
  | zero => intro S _ x hx; simp [reach] at hx
  | succ k ih =>
    intro S hS x hx
    simp only [reach, List.mem_append] at hx
    rcases hx with hx | hx
    · exact hS x hx
    · split at hx
      · cases hx
      · refine ih _ (fun y hy => ?_) x hx
        rw [List.mem_eraseDups, List.mem_flatMap] at hy
        obtain ⟨z, hz, hy⟩ := hy
        exact hd z (hS z hz) y hy

theorem not_bef {ops : Array Oper} {listed : Array Bool} {i j : Nat} (hd : Down ops listed) (hi : i ∈ Region.ready .any ops listed) (hj : j ∈ Region.ready .any ops listed) : bef ops i j = false := by
  cases h : bef ops i j with
  | false => rfl
  | true =>
    unfold bef at h
    have h1 := reach_listed hd _ _ (ready_preds hj) i (by simpa using h)
    obtain ⟨h0, o, ho, _⟩ := mem_ready.1 hi
    rcases Nat.lt_or_ge i listed.size with h' | h'
    · simp [h'] at h0 h1; rw [h0] at h1; cases h1
    · simp [Array.getElem?_eq_none h'] at h1

theorem apart_of_good {ops : Array Oper} (hg : regionGood ops = true) {i j : Nat} {oi oj : Oper} (hi : ops[i]? = some oi) (hj : ops[j]? = some oj) (hne : i ≠ j)
    (h1 : bef ops i j = false) (h2 : bef ops j i = false) : oi.apart ops oj = true := by
  simp only [regionGood, Bool.and_eq_true, List.all_eq_true, List.mem_range] at hg
  have := hg.2 j (Array.getElem?_eq_some_iff.1 hj).1 i (Array.getElem?_eq_some_iff.1 hi).1
  simpa [hi, hj, h1, h2, hne] using this

theorem mem_updP {P : Program} {ops : Array Oper} {pend : Pend} {j : Nat} {p : Nat × (Hp → Prop)} : p ∈ updP P ops pend j ↔ p ∈ pend ∧ (isRdI P ops j = false → bef ops p.1 j = false) := by
  unfold updP
  cases h : isRdI P ops j <;> simp

theorem dAnyP_mono {P : Program} {n : Nat} {ops : Array Oper} {K : Env → Hp → Prop} : ∀ (fuel : Nat) (p1 p2 : Pend) (listed : Array Bool) (env : Env) (h : Hp), (∀ p ∈ p1, p ∈ p2 ∨ ∀ h, p.2 h) →
    dAnyP P n ops fuel p2 listed env h K → dAnyP P n ops fuel p1 listed env h K := by
  intro fuel
  induction fuel with
  | zero => intro p1 p2 listed env h _ D; exact D
  | succ fuel ih =>
    intro p1 p2 listed env h hp D
    refine ⟨D.1, fun j hj => dOp_mono (fun env' h' hk => ⟨fun p hpp => ?_, ih _ _ _ _ _ (fun p hpp => ?_) hk.2⟩) (D.2 j hj)⟩
    · obtain ⟨hm, hb⟩ := mem_updP.1 hpp
      rcases hp p hm with h2 | h2
      · exact hk.1 p (mem_updP.2 ⟨h2, hb⟩)
      · exact h2 _
    · obtain ⟨hm, hb⟩ := mem_updP.1 hpp
      rcases hp p hm with h2 | h2
      · exact .inl (mem_updP.2 ⟨h2, hb⟩)
      · exact .inr h2

theorem dAnyP_first {P : Program} {n : Nat} {ops : Array Oper} {K : Env → Hp → Prop} (hg : regionGood ops = true) {i : Nat} {oi : Oper} (hi : ops[i]? = some oi) (hrd : isRd P oi = true) {v : Value} {R : Hp → Prop} :
    ∀ (fuel : Nat) (pend : Pend) (listed : Array Bool) (env : Env) (h : Hp), Down ops listed → i ∈ Region.ready .any ops listed → (∀ p ∈ pend, p.2 h) → (∀ h', R h' → gval P ops env oi h' = some v) → R h →
      dAnyP P n ops fuel ((i, R) :: pend) (listed.setIfInBounds i true) (put n env oi.dst v) h K → dAnyP P n ops (fuel + 1) pend listed env h K := by
  have hsel : ∀ (j : Nat) (o : Oper), ops[j]? = some o → ∀ cs b, o.op ≠ .select cs b := by
    intro j o ho cs b
    simp only [regionGood, Bool.and_eq_true] at hg
    exact Region.noSelect_spec hg.1 j o cs b ho
  have hri : isRdI P ops i = true := by simp [isRdI, hi, hrd]
  have self : ∀ (fuel : Nat) (pend : Pend) (listed : Array Bool) (env : Env) (h : Hp), (∀ p ∈ pend, p.2 h) → (∀ h', R h' → gval P ops env oi h' = some v) → R h →
      dAnyP P n ops fuel ((i, R) :: pend) (listed.setIfInBounds i true) (put n env oi.dst v) h K →
      dOp P n ops i env h fun env' h' => (∀ p ∈ updP P ops pend i, p.2 h') ∧ dAnyP P n ops fuel (updP P ops pend i) (listed.setIfInBounds i true) env' h' K := by
    intro fuel pend listed env h hpend hval hR H
    unfold dOp
    simp only [hi]
    refine gop_of_gval (hval h hR) ⟨fun p hp => hpend p (mem_updP.1 hp).1, ?_⟩
    exact dAnyP_mono _ _ _ _ _ _ (fun p hp => .inl (List.mem_cons_of_mem _ (mem_updP.1 hp).1)) H
  intro fuel
  induction fuel with
  | zero =>
    intro pend listed env h hd hr hpend hval hR H
    refine ⟨fun h0 => (by rw [h0] at hr; cases hr), fun j hj => ?_⟩
    by_cases hji : j = i
    · subst hji; exact self _ _ _ _ _ hpend hval hR H
    · have := ready_mono hj hji
      rw [H.1] at this
      cases this
  | succ fuel ih =>
    intro pend listed env h hd hr hpend hval hR H
    refine ⟨fun h0 => (by rw [h0] at hr; cases hr), fun j hj => ?_⟩
    by_cases hji : j = i
    · subst hji; exact self _ _ _ _ _ hpend hval hR H
    · have h1 := H.2 j (ready_mono hj hji)
      obtain ⟨_, oj, hoj, _⟩ := mem_ready.1 hj
      have hij : bef ops i j = false := not_bef hd hr hj
      have hap := apart_of_good hg hi hoj (Ne.symm hji) hij (not_bef hd hj hr)
      obtain ⟨a1, a2, a3⟩ := Oper.apart_spec hap
      unfold dOp at h1 ⊢
      simp only [hoj] at h1 ⊢
      rw [gop_put (hsel j oj hoj) a1] at h1
      refine gop_mono (fun u h' hk => ?_) h1
      obtain ⟨hch, hk⟩ := hk
      have himem : (i, R) ∈ updP P ops ((i, R) :: pend) j := mem_updP.2 ⟨List.mem_cons_self, fun _ => hij⟩
      have hpend' : ∀ p ∈ updP P ops pend j, p.2 h' := fun p hp => hch p (mem_updP.2 ⟨List.mem_cons_of_mem _ (mem_updP.1 hp).1, (mem_updP.1 hp).2⟩)
      refine ⟨hpend', ih (updP P ops pend j) _ _ _ (hd.set hj) (ready_mono hr (Ne.symm hji)) hpend' (fun h'' hR' => ?_) (hch _ himem) ?_⟩
      · rw [gval_put hrd (hsel i oi hi) a3]; exact hval h'' hR'
      · rw [Array.setIfInBounds_comm _ _ hji, ← put_comm n env v u a2]
        refine dAnyP_mono _ _ _ _ _ _ (fun p hp => ?_) hk
        rcases List.mem_cons.1 hp with rfl | hp
        · exact .inl himem
        · exact .inl (mem_updP.2 ⟨List.mem_cons_of_mem _ (mem_updP.1 hp).1, (mem_updP.1 hp).2⟩)

theorem dall_mem {f : Nat → Prop} : ∀ {rs : List Nat}, dall rs f → ∀ j ∈ rs, f j
  | [], _, j, hj => by cases hj
  | [i], h, j, hj => by rw [List.mem_singleton] at hj; subst hj; exact h
  | i :: k :: rest, h, j, hj => by
    rcases List.mem_cons.1 hj with rfl | hj
    · exact h.1
    · exact dall_mem h.2 j hj

theorem dchk_mem {h : Hp} : ∀ {pend : Pend}, dchk pend h → ∀ p ∈ pend, p.2 h
  | [], _, p, hp => by cases hp
  | q :: rest, hc, p, hp => by
    rcases List.mem_cons.1 hp with rfl | hp
    · exact hc.1
    · exact dchk_mem hc.2 p hp

theorem gchk_of_gval {P : Program} {ops : Array Oper} {env : Env} {o : Oper} {h : Hp} {v : Value} (hv : gval P ops env o h = some v) : gchk P ops env o v h := by
  unfold gval at hv
  unfold gchk
  cases hg : o.guard with
  | none => simp only [hg] at hv ⊢; exact hv
  | some gw =>
    obtain ⟨j, want⟩ := gw
    simp only [hg] at hv ⊢
    intro hc
    simpa only [hc, if_true] using hv

theorem gval_still {P : Program} {ops : Array Oper} {env : Env} {o : Oper} {h h' : Hp} {v : Value} (hn : isHeapRd env o = false) (hv : gval P ops env o h = some v) : gval P ops env o h' = some v := by
  have key : ∀ u, rval P env o h = some u → rval P env o h' = some u := by
    intro u hu
    unfold rval at hu ⊢
    split at hu <;> rename_i ho
    · exact hu
    · exact hu
    · exact hu
    · cases hp : pureSem P env o with
      | some s => simp only [hp] at hu ⊢; exact hu
      | none =>
        cases hs : readSem env o with
        | some s => simp [isHeapRd, hs] at hn
        | none => simp [hp, hs] at hu
  unfold gval at hv ⊢
  split
  · rename_i hg; simp only [hg] at hv; exact key _ hv
  · rename_i j want hg
    simp only [hg] at hv
    split
    · rename_i hc; simp only [hc, if_true] at hv; exact key _ hv
    · rename_i hc; simp only [hc] at hv; exact hv

theorem dreg_any {P : Program} {n : Nat} {ops : Array Oper} {K : Env → Hp → Prop} (hg : regionGood ops = true) : ∀ (fuel : Nat) (pend : Pend) (listed : Array Bool) (env : Env) (h : Hp),
    dreg P n ops fuel pend listed env h K → (∀ p ∈ pend, p.2 h) → Down ops listed → dAnyP P n ops fuel pend listed env h K := by
  intro fuel
  induction fuel with
  | zero =>
    intro pend listed env h D _ _
    simp only [dreg] at D
    split at D
    · rename_i hnil; exact ⟨hnil, D⟩
    · exact D.elim
  | succ fuel ih =>
    intro pend listed env h D hpend hd
    simp only [dreg] at D
    split at D
    · rename_i i hfind
      have hir := List.mem_of_find?_eq_some hfind
      have hird := List.find?_some hfind
      obtain ⟨_, oi, hoi, _⟩ := mem_ready.1 hir
      simp only [hoi] at D
      have hrd : isRd P oi = true := by simpa [isRdI, hoi] using hird
      obtain ⟨v, hv, D⟩ := gop_rd hrd D
      cases hh : isHeapRd env oi with
      | true =>
        simp only [hh] at D
        refine dAnyP_first hg hoi hrd fuel pend listed env h hd hir hpend (R := gchk P ops env oi v) (fun h' hc => gchk_gval hv hc) (gchk_of_gval hv) ?_
        refine ih _ _ _ _ D (fun p hp => ?_) (hd.set hir)
        rcases List.mem_cons.1 hp with rfl | hp
        · exact gchk_of_gval hv
        · exact hpend p hp
      | false =>
        simp only [hh] at D
        refine dAnyP_first hg hoi hrd fuel pend listed env h hd hir hpend (R := fun _ => True) (fun h' _ => gval_still hh hv) trivial ?_
        refine dAnyP_mono _ _ pend _ _ _ (fun p hp => ?_) (ih _ _ _ _ D hpend (hd.set hir))
        rcases List.mem_cons.1 hp with rfl | hp
        · exact .inr fun _ => trivial
        · exact .inl hp
    · split at D
      · rename_i hnil
        exact ⟨fun _ => D, by rw [hnil]; simp⟩
      · rename_i rs hne
        refine ⟨fun h0 => absurd h0 hne, fun j hj => dOp_mono (fun env' h' hk => ?_) (dall_mem D j hj)⟩
        have hc := dchk_mem hk.1
        exact ⟨hc, ih _ _ _ _ hk.2 hc (hd.set hj)⟩

/-! ### Code -/

abbrev Post := Exit → Env → Hp → Prop
abbrev Den := Post → Env → Hp → Prop

def thenK (B : Den) (Q : Post) : Post := fun e env h =>
  match e with
  | .normal => B Q env h
  | e => Q e env h

def sq (A B : Den) : Den := fun Q env h => A (thenK B Q) env h

def cnd (x : Operand) (A B : Den) : Den := fun Q env h => ∃ b, ev env x = .bool b ∧ (match b with | true => A Q env h | false => B Q env h)

def inBlk (id : Nat) (Q : Post) : Post := fun e env h =>
  match e with
  | .exit i => if i = id then Q .normal env h else Q (.exit i) env h
  | e => Q e env h

def blk (id : Nat) (A : Den) : Den := fun Q env h => A (inBlk id Q) env h

def roundK (I : Nat → Env → Hp → Prop) (n : Nat) (Q : Post) : Post := fun e env h =>
  match e with
  | .normal => ∃ m, m < n ∧ I m env h
  | e => Q e env h

def lp (A : Den) : Den := fun Q env h => ∃ I : Nat → Env → Hp → Prop, (∃ n, I n env h) ∧ ∀ n env h, I n env h → A (roundK I n Q) env h

def jumpK (I : Nat → Env → Hp → Prop) (Q : Post) : Post := fun e env h =>
  match e with
  | .goto l => I l env h
  | e => Q e env h

def scp (A : Den) (lab : Nat → Option Den) : Den := fun Q env h => ∃ I : Nat → Nat → Env → Hp → Prop,
  A (jumpK (fun l env h => ∃ m, I m l env h) Q) env h ∧
  ∀ n l env h, I n l env h → ∃ d, lab l = some d ∧ d (jumpK (fun l env h => ∃ m, m < n ∧ I m l env h) Q) env h

def ex (e : Exit) : Den := fun Q env h => Q e env h

def bad : Den := fun _ _ _ => False

def rgn (P : Program) (n : Nat) (ops : Array Oper) (draw : Bool) : Den := fun Q env h =>
  match draw with
  | true => (match regionGood ops with
    | true => dreg P n ops ops.size [] (Array.replicate ops.size false) env h (Q .normal)
    | false => False)
  | false => dops P n ops (List.range ops.size) env h (Q .normal)

/-! ### Loops over functions -/
/-- The array of a frame's temporaries. -/
def tmpsOf (n : Nat) (env : Env) : Array Value := Array.ofFn fun i : Fin n => env i.1

/-- A loop's record. -/
def recOf (n : Nat) (env : Env) (ps : Array Tmp) (ac bc : Code) (st : LoopState) (pend : Option Code) (fn D : Nat) : Obj :=
  .loop { state := st, pending := pend, fn := fn, tmps := tmpsOf n env, params := ps, assign := ac, body := bc, defers := D }

def Hp.rem (h : Hp) (l : Nat) : Hp := fun b => if b = l then none else h b

def rfn (P : Program) (n : Nat) (g : Operand) (ps : Array Tmp) (ac bc : Code) : Den := fun Q env h =>
  ∃ gf first lb, ev env g = .func (.func gf) first lb ∧ ∀ l fn D, h l = none → (∀ t, n ≤ t → env t = undef) →
    Ok P gf (first ++ #[.func (.yield l) #[] #[]] ++ lb) (h.upd l (recOf n env ps ac bc .ready none fn D)) fun _ h2 =>
      (h2 l = some (recOf n env ps ac bc .ready none fn D) ∧ Q .normal env (h2.rem l)) ∨
      (h2 l = some (recOf n env ps ac bc .done (some .ret) fn D) ∧ Q .ret env (h2.rem l)) ∨
      (∃ i, h2 l = some (recOf n env ps ac bc .done (some (.exit i)) fn D) ∧ Q (.exit i) env (h2.rem l))

def envPs (n : Nat) (env : Env) : List (Tmp × Value) → Env
  | [] => env
  | (t, v) :: rest => envPs n (put n env (some t) v) rest

def den (P : Program) (n : Nat) : Code → Den × (Nat → Option Den)
  | .skip => (ex .normal, fun _ => none)
  | .region _ ops draw => (rgn P n ops draw, fun _ => none)
  | .seq a b =>
    (sq (den P n a).1 (den P n b).1,
     fun l => match (den P n a).2 l with
      | some d => some (sq d (den P n b).1)
      | none => (den P n b).2 l)
  | .cond c x y => (cnd c (den P n x).1 (den P n y).1, fun _ => none)
  | .block id c => (blk id (den P n c).1, fun _ => none)
  | .loop c => (lp (den P n c).1, fun _ => none)
  | .rangeFunc g ps a b => (rfn P n g ps a b, fun _ => none)
  | .exit id => (ex (.exit id), fun _ => none)
  | .scope c => (scp (den P n c).1 (den P n c).2, fun _ => none)
  | .label l' => (ex .normal, fun l => if l' == l then some (ex .normal) else none)
  | .goto l => (ex (.goto l), fun _ => none)
  | .ret => (ex .ret, fun _ => none)
  | .refuse _ => (bad, fun _ => none)

end Go.Proofs.Ytpeoholnlokdcaa

/- Code and calls: the formulas are sound for the machine. -/
namespace Go.Proofs.Ytpeoholnlokdcaa
open Go
set_option linter.unusedSimpArgs false
set_option linter.unusedVariables false

/-- What a frame holds beside its temporaries: marks of loops over functions, whose blocks nobody else knows. -/
structure Mk (s : Nat) (ds : List Deferred) (h : Hp) (w : World) : Prop where
  marks : ∃ Ds : List Nat, ds = Ds.map (fun D => ({ target := .collected D, args := #[] } : Deferred)) ∧ Ds.Nodup ∧ ∀ D ∈ Ds, s ≤ D ∧ h D = none ∧ w.heap[D]? = some (.deferred (some []))

theorem Mk.keep {s : Nat} {ds : List Deferred} {h h' : Hp} {w w' : World} (M : Mk s ds h w) (K : Keep h w h' w') : Mk s ds h' w' := by
  obtain ⟨Ds, e, nd, H⟩ := M
  refine ⟨Ds, e, nd, fun D hD => ?_⟩
  obtain ⟨h1, h2, h3⟩ := H D hD
  have hlt := (Array.getElem?_eq_some_iff.1 h3).1
  exact ⟨h1, K.dom D hlt h2, (K.old D hlt h2).trans h3⟩

theorem Mk.start {s : Nat} {h : Hp} {w : World} : Mk s [] h w := ⟨[], rfl, .nil, by simp⟩

/-- Code without a loop over a function. -/
def noRF : Code → Bool
  | .seq a b | .cond _ a b => noRF a && noRF b
  | .block _ c | .loop c | .scope c => noRF c
  | .rangeFunc .. => false
  | _ => true

def Lift (n : Nat) (h0 : Hp) (w0 : World) (K : Env → Hp → Prop) : Act → World → Prop := fun a w =>
  ∃ env h, Fits n a env ∧ Mk w0.heap.size a.defers h w ∧ View h w ∧ Keep h0 w0 h w ∧ K env h

def LiftQ (n : Nat) (h0 : Hp) (w0 : World) (Q : Post) : Exit → Act → World → Prop := fun e => Lift n h0 w0 (Q e)

theorem put_defers (a : Act) (dst : Option Tmp) (v : Value) : (a.put dst v).defers = a.defers := by cases dst <;> rfl

theorem dOp_sound {P : Program} {n N : Nat} {ro : Option Nat} (hP : progOk P = true) {ops : Array Oper} {i : Nat} {a : Act} {env : Env} {h h0 : Hp} {w w0 : World} {K : Env → Hp → Prop} {Q : Exit → Act → World → Prop}
    (F : Fits n a env) (M : Mk w0.heap.size a.defers h w) (V : View h w) (K0 : Keep h0 w0 h w) (D : dOp P n ops i env h K) : wpOpIn (Fw ro) N P ops Q i (Lift n h0 w0 K) a w := by
  unfold dOp at D
  unfold wpOpIn
  cases ho : ops[i]? with
  | none => simp only [ho] at D ⊢; exact ⟨env, h, F, M, V, K0, D⟩
  | some o =>
    simp only [ho] at D ⊢
    have run : dexec P env o h (fun v h' => K (put n env o.dst v) h') → o.wpIn (Fw ro) N P a w (Lift n h0 w0 K) Q := by
      intro D
      refine Wpo.wpIn (dexec_nodefer D) ?_
      have := dexec_sound hP F V D
      unfold Does Wpo at this
      unfold Wpo
      generalize (execOp a.eval o).run P w = r at this ⊢
      cases r with
      | halt x w' => exact this.elim
      | ok x w' =>
        cases x <;> simp only at this ⊢
        case value v =>
          obtain ⟨h', V', K', hk⟩ := this
          exact ⟨_, h', F.put _ _, by rw [put_defers]; exact M.keep K', V', K0.trans K', hk⟩
        case skip =>
          obtain ⟨h', V', K', hk⟩ := this
          exact ⟨_, h', F.put _ _, by rw [put_defers]; exact M.keep K', V', K0.trans K', hk⟩
        case enter f args =>
          refine this.mono ?_
          rintro e w'' ⟨v, he, h', V', K', hk⟩
          exact ⟨v, he, _, h', F.put _ _, by rw [put_defers]; exact M.keep K', V', K0.trans K', hk⟩
        case round l f tmps asg bd =>
          refine this.mono ?_
          rintro e w'' ⟨v, he, h', V', K', hk⟩
          exact ⟨v, he, _, h', F.put _ _, by rw [put_defers]; exact M.keep K', V', K0.trans K', hk⟩
        all_goals exact this.elim
    unfold gop gd at D
    cases hgd : o.guard with
    | none =>
      simp only [hgd] at D
      have hw : Region.wanted o (yielded ops a.tmps) = true := by simp [Region.wanted, hgd]
      rw [if_pos hw]
      exact run D
    | some gw =>
      obtain ⟨j, want⟩ := gw
      simp only [hgd] at D
      have hw : Region.wanted o (yielded ops a.tmps) = (yieldedE ops env j == some want) := by
        simp only [Region.wanted, hgd]; rw [F.yielded]
      rw [hw]
      cases hc : (yieldedE ops env j == some want) with
      | true => rw [if_pos rfl]; rw [hc, if_pos rfl] at D; exact run D
      | false =>
        rw [if_neg (by simp)]
        rw [hc, if_neg (by simp)] at D
        exact ⟨fun _ _ => trivial, _, h, F.put _ _, by rw [put_defers]; exact M, V, K0, D⟩

theorem dops_sound {P : Program} {n N : Nat} {ro : Option Nat} (hP : progOk P = true) {ops : Array Oper} {h0 : Hp} {w0 : World} {Q : Post} : ∀ (l : List Nat) {a : Act} {env : Env} {h : Hp} {w : World},
    Fits n a env → Mk w0.heap.size a.defers h w → View h w → Keep h0 w0 h w → dops P n ops l env h (Q .normal) → wpOpsIn (Fw ro) N P ops (LiftQ n h0 w0 Q) l a w := by
  intro l
  induction l with
  | nil => intro a env h w F M V K0 D; exact ⟨env, h, F, M, V, K0, D⟩
  | cons i rest ih =>
    intro a env h w F M V K0 D
    rw [wpOpsIn_cons]
    refine wpOpIn_mono (fun a' w' hk => ?_) (dOp_sound hP F M V K0 D)
    obtain ⟨env', h', F', M', V', K', D'⟩ := hk
    exact ih F' M' V' K' D'

theorem dAnyP_sound {P : Program} {n N : Nat} {ro : Option Nat} (hP : progOk P = true) {ops : Array Oper} {h0 : Hp} {w0 : World} {Q : Post} : ∀ (fuel : Nat) (pend : Pend) (listed : Array Bool) {a : Act} {env : Env} {h : Hp} {w : World},
    Fits n a env → Mk w0.heap.size a.defers h w → View h w → Keep h0 w0 h w → dAnyP P n ops fuel pend listed env h (Q .normal) → wpAnyIn (Fw ro) N P .any ops (LiftQ n h0 w0 Q) fuel listed a w := by
  intro fuel
  induction fuel with
  | zero => intro pend listed a env h w F M V K0 D; exact ⟨D.1, env, h, F, M, V, K0, D.2⟩
  | succ fuel ih =>
    intro pend listed a env h w F M V K0 D
    refine ⟨fun h0 => ⟨env, h, F, M, V, K0, D.1 h0⟩, fun i hi => ?_⟩
    refine wpOpIn_mono (fun a' w' hk => ?_) (dOp_sound hP F M V K0 (D.2 i hi))
    obtain ⟨env', h', F', M', V', K', D'⟩ := hk
    exact ih _ _ F' M' V' K' D'.2

def Snd (P : Program) (n : Nat) (nr : Bool) (D : Den) (c : Code) : Prop :=
  ∀ (ro : Option Nat), (ro = none ∨ nr = true) → ∀ (N : Nat) (Q : Post) (env : Env) (h : Hp) (a : Act) (w : World) (h0 : Hp) (w0 : World), Fits n a env → Mk w0.heap.size a.defers h w → View h w → Keep h0 w0 h w → D Q env h → c.wpIn (Fw ro) N P (LiftQ n h0 w0 Q) a w

theorem getD_all_false (m j : Nat) (d : Bool) (h : (Array.replicate m false).getD j d = true) : d = true := by
  rcases Nat.lt_or_ge j m with h' | h'
  · simp [h'] at h
  · simpa [Array.getElem?_eq_none, h'] using h

theorem rgn_sound {P : Program} {n : Nat} {nr : Bool} (hP : progOk P = true) (id : Nat) (ops : Array Oper) (draw : Bool) : Snd P n nr (rgn P n ops draw) (.region id ops draw) := by
  intro ro hro N Q env h a w h0 w0 F M V K0 D
  unfold rgn at D
  cases draw with
  | false => exact wpIn_region (dops_sound hP _ F M V K0 D)
  | true =>
    simp only at D
    split at D
    · rename_i hg
      have hm : P.follows .mixedOrders = true := by
        unfold progOk at hP
        rw [Bool.and_eq_true] at hP
        exact hP.1
      refine wpIn_region_any hm ?_
      refine dAnyP_sound hP _ [] _ F (w := { w with drawn := w.drawn + 1 }) ⟨M.1⟩ (fun b o e => V b o e) ⟨K0.os, K0.tape, K0.output, K0.size, K0.old, K0.dom, Nat.le_trans K0.drawn (Nat.le_succ _)⟩ ?_
      exact dreg_any hg _ _ _ _ _ D (fun p hp => by cases hp) (fun j hj => absurd (getD_all_false _ _ _ hj) (by simp))
    · exact D.elim

theorem sq_sound {P : Program} {n : Nat} {nr : Bool} {A B : Den} {a b : Code} (ha : Snd P n nr A a) (hb : Snd P n nr B b) : Snd P n nr (sq A B) (.seq a b) := by
  intro ro hro N Q env h ac w h0 w0 F M V K0 D
  refine wpIn_seq (wpIn_mono (ha _ hro _ _ _ _ _ _ h0 w0 F M V K0 D) ?_)
  rintro e a' w' ⟨env', h', F', M', V', K', hq⟩
  cases e with
  | normal => exact hb _ hro _ _ _ _ _ _ _ _ F' M' V' K' hq
  | exit i => exact ⟨env', h', F', M', V', K', hq⟩
  | goto i => exact ⟨env', h', F', M', V', K', hq⟩
  | ret => exact ⟨env', h', F', M', V', K', hq⟩
  | panic i => exact ⟨env', h', F', M', V', K', hq⟩
  | outgrown => exact ⟨env', h', F', M', V', K', hq⟩

theorem wpIn_loop_ghost {P : Program} {F : Fence} {N : Nat} {Q : Exit → Act → World → Prop} {a : Act} {w : World} {c : Code} (I : Nat → Act → World → Prop) (n₀ : Nat) (h₀ : I n₀ a w)
    (round : ∀ n a w, I n a w → c.wpIn F N P (Exit.then (fun a' w' => ∃ n', n' < n ∧ I n' a' w') Q) a w) : (Code.loop c).wpIn F N P Q a w := by
  refine wpIn_loop (fun a w => ∃ n, I n a w) (fun a w => leastOf (fun n => I n a w)) ⟨n₀, h₀⟩ ?_
  intro a w hI
  refine wpIn_mono (round _ a w (leastOf_spec hI).1) ?_
  intro e a' w' hq
  cases e with
  | normal =>
    obtain ⟨n', hlt, hI'⟩ := hq
    exact show (∃ n, I n a' w') ∧ leastOf (fun n => I n a' w') < leastOf (fun n => I n a w) from ⟨⟨n', hI'⟩, Nat.lt_of_le_of_lt ((leastOf_spec ⟨n', hI'⟩).2 n' hI') hlt⟩
  | exit id => exact hq
  | goto l => exact hq
  | ret => exact hq
  | panic ch => exact hq
  | outgrown => exact hq

theorem lp_sound {P : Program} {n : Nat} {nr : Bool} {A : Den} {c : Code} (ha : Snd P n nr A c) : Snd P n nr (lp A) (.loop c) := by
  intro ro hro N Q env h ac w h0 w0 F M V K0 D
  obtain ⟨I, ⟨m, hm⟩, round⟩ := D
  refine wpIn_loop_ghost (fun k => Lift n h0 w0 (I k)) m ⟨env, h, F, M, V, K0, hm⟩ ?_
  rintro k a' w' ⟨env', h', F', M', V', K', hI⟩
  refine wpIn_mono (ha _ hro _ _ _ _ _ _ _ _ F' M' V' K' (round k env' h' hI)) ?_
  rintro e a2 w2 ⟨env2, h2, F2, M2, V2, K2, hq⟩
  cases e with
  | normal =>
    obtain ⟨j, hj, hI2⟩ := hq
    exact ⟨j, hj, env2, h2, F2, M2, V2, K2, hI2⟩
  | exit i => exact ⟨env2, h2, F2, M2, V2, K2, hq⟩
  | goto i => exact ⟨env2, h2, F2, M2, V2, K2, hq⟩
  | ret => exact ⟨env2, h2, F2, M2, V2, K2, hq⟩
  | panic i => exact ⟨env2, h2, F2, M2, V2, K2, hq⟩
  | outgrown => exact ⟨env2, h2, F2, M2, V2, K2, hq⟩

theorem blk_sound {P : Program} {n : Nat} {nr : Bool} {A : Den} {c : Code} (id : Nat) (ha : Snd P n nr A c) : Snd P n nr (blk id A) (.block id c) := by
  intro ro hro N Q env h ac w h0 w0 F M V K0 D
  refine wpIn_block (wpIn_mono (ha _ hro _ _ _ _ _ _ h0 w0 F M V K0 D) ?_)
  rintro e a' w' ⟨env', h', F', M', V', K', hq⟩
  cases e with
  | exit i =>
    simp only [inBlk] at hq
    simp only [Exit.inBlock]
    by_cases hi : i = id
    · simp only [hi, if_true] at hq ⊢; exact ⟨env', h', F', M', V', K', hq⟩
    · simp only [hi, if_false] at hq ⊢; exact ⟨env', h', F', M', V', K', hq⟩
  | normal => exact ⟨env', h', F', M', V', K', hq⟩
  | goto i => exact ⟨env', h', F', M', V', K', hq⟩
  | ret => exact ⟨env', h', F', M', V', K', hq⟩
  | panic i => exact ⟨env', h', F', M', V', K', hq⟩
  | outgrown => exact ⟨env', h', F', M', V', K', hq⟩

theorem cnd_sound {P : Program} {n : Nat} {nr : Bool} {A B : Den} {x y : Code} (c : Operand) (ha : Snd P n nr A x) (hb : Snd P n nr B y) : Snd P n nr (cnd c A B) (.cond c x y) := by
  intro ro hro N Q env h ac w h0 w0 F M V K0 D
  obtain ⟨b, hb', D⟩ := D
  refine wpIn_cond (t := b) (by rw [F.eval]; exact hb') ?_
  cases b with
  | true => exact ha _ hro _ _ _ _ _ _ _ _ F M V K0 D
  | false => exact hb _ hro _ _ _ _ _ _ _ _ F M V K0 D

theorem stepR_scope {P : Program} {b : Frame} {a : Act} {k : List Item} {cs : List Frame} {w : World} {c : Code} : step P (lone (b.atR a (.code (.scope c) :: k)) cs w) = .next (lone (b.atR a (.code c :: .inScope c :: k)) cs w) :=
  step_lone_go (by simp [stepG, stepG.exec, Frame.atR])
theorem stepR_inScope {P : Program} {b : Frame} {a : Act} {k : List Item} {cs : List Frame} {w : World} {c : Code} : step P (lone (b.atR a (.inScope c :: k)) cs w) = .next (lone (b.atR a k) cs w) :=
  step_lone_go (by simp [stepG, stepG.exec, Frame.atR])

theorem scp_sound {P : Program} {n : Nat} {nr : Bool} {A : Den} {lab : Nat → Option Den} {c : Code} (ha : Snd P n nr A c)
    (hl : ∀ l d, lab l = some d → ∃ rest, findLabel c l = some rest ∧ Snd P n nr d rest) : Snd P n nr (scp A lab) (.scope c) := by
  intro ro hr2 N Q env h ac w h0 w0 F M V K0 D
  obtain ⟨I, first, pass⟩ := D
  intro b k cs hro hb hr
  have key : ∀ m l rest, findLabel c l = some rest → ∀ a w, Lift n h0 w0 (I m l) a w →
      ∃ e a' w', LiftQ n h0 w0 Q e a' w' ∧ ArrivesIn (Machine.fenced P (Fw ro)) P (lone (b.atR a (.code rest :: .inScope c :: k)) cs w) b k cs e a' w' := by
    intro m
    induction m using Nat.strongRecOn with
    | _ m ih =>
      rintro l rest hf a w ⟨env', h', F', M', V', K', hI⟩
      obtain ⟨d, hld, hdp⟩ := pass m l env' h' hI
      obtain ⟨rest', hf', hs⟩ := hl l d hld
      rw [hf] at hf'
      cases hf'
      obtain ⟨e, a₁, w₁, hq, harr⟩ := hs _ hr2 N _ _ _ _ _ _ _ F' M' V' K' hdp b (.inScope c :: k) cs hro hb hr
      obtain ⟨env2, h2, F2, M2, V2, K2, hq⟩ := hq
      cases e with
      | normal => exact ⟨.normal, a₁, w₁, ⟨env2, h2, F2, M2, V2, K2, hq⟩, StepsIn.trans harr (.one (fenced_calm hb hr rfl) stepR_inScope)⟩
      | exit id =>
        have hx : exitTo id (.inScope c :: k) = exitTo id k := by simp [exitTo]
        exact ⟨.exit id, a₁, w₁, ⟨env2, h2, F2, M2, V2, K2, hq⟩, fun k' hk => harr.1 k' (by rw [hx]; exact hk), fun hr' hk => harr.2 hr' (by rw [hx]; exact hk)⟩
      | goto l' =>
        obtain ⟨j, hj, hI'⟩ := hq
        obtain ⟨d', hld', _⟩ := pass j l' env2 h2 hI'
        obtain ⟨rest2, hf2, _⟩ := hl l' d' hld'
        have hg : gotoIn l' (.inScope c :: k) = some (.code rest2 :: .inScope c :: k) := by simp [gotoIn, hf2]
        obtain ⟨e₂, a₂, w₂, hq₂, harr₂⟩ := ih j hj l' rest2 hf2 a₁ w₁ ⟨env2, h2, F2, M2, V2, K2, hI'⟩
        exact ⟨e₂, a₂, w₂, hq₂, .of_steps (harr.1 _ hg) harr₂⟩
      | ret => exact ⟨_, a₁, w₁, ⟨env2, h2, F2, M2, V2, K2, hq⟩, harr⟩
      | panic ch => exact ⟨_, a₁, w₁, ⟨env2, h2, F2, M2, V2, K2, hq⟩, harr⟩
      | outgrown => exact ⟨_, a₁, w₁, ⟨env2, h2, F2, M2, V2, K2, hq⟩, harr⟩
  have s0 : StepsIn (Machine.fenced P (Fw ro)) P (lone (b.atR ac (.code (.scope c) :: k)) cs w) (lone (b.atR ac (.code c :: .inScope c :: k)) cs w) := .one (fenced_calm hb hr rfl) stepR_scope
  obtain ⟨e, a₁, w₁, hq, harr⟩ := ha _ hr2 N _ _ _ _ _ _ _ F M V K0 first b (.inScope c :: k) cs hro hb hr
  obtain ⟨env2, h2, F2, M2, V2, K2, hq⟩ := hq
  cases e with
  | normal => exact ⟨.normal, a₁, w₁, ⟨env2, h2, F2, M2, V2, K2, hq⟩, s0.trans (StepsIn.trans harr (.one (fenced_calm hb hr rfl) stepR_inScope))⟩
  | exit id =>
    have hx : exitTo id (.inScope c :: k) = exitTo id k := by simp [exitTo]
    exact ⟨.exit id, a₁, w₁, ⟨env2, h2, F2, M2, V2, K2, hq⟩, .of_steps s0 ⟨fun k' hk => harr.1 k' (by rw [hx]; exact hk), fun hr' hk => harr.2 hr' (by rw [hx]; exact hk)⟩⟩
  | goto l' =>
    obtain ⟨j, hI'⟩ := hq
    obtain ⟨d', hld', _⟩ := pass j l' env2 h2 hI'
    obtain ⟨rest2, hf2, _⟩ := hl l' d' hld'
    have hg : gotoIn l' (.inScope c :: k) = some (.code rest2 :: .inScope c :: k) := by simp [gotoIn, hf2]
    obtain ⟨e₂, a₂, w₂, hq₂, harr₂⟩ := key j l' rest2 hf2 a₁ w₁ ⟨env2, h2, F2, M2, V2, K2, hI'⟩
    exact ⟨e₂, a₂, w₂, hq₂, .of_steps (s0.trans (harr.1 _ hg)) harr₂⟩
  | ret => exact ⟨_, a₁, w₁, ⟨env2, h2, F2, M2, V2, K2, hq⟩, .of_steps s0 harr⟩
  | panic ch => exact ⟨_, a₁, w₁, ⟨env2, h2, F2, M2, V2, K2, hq⟩, .of_steps s0 harr⟩
  | outgrown => exact ⟨_, a₁, w₁, ⟨env2, h2, F2, M2, V2, K2, hq⟩, .of_steps s0 harr⟩

/-! ### Loops over functions -/
theorem Fits.tmps {n : Nat} {a : Act} {env : Env} (F : Fits n a env) : a.tmps = tmpsOf n env := by
  refine Array.ext (by simp [tmpsOf, F.size]) fun i h1 h2 => ?_
  have := F.get i
  rw [Array.getD_eq_getD_getElem?, Array.getElem?_eq_getElem h1] at this
  simpa [tmpsOf] using this

theorem Fits.out {n : Nat} {a : Act} {env : Env} (F : Fits n a env) : ∀ t, n ≤ t → env t = undef := fun t ht => by
  have := F.get t
  rw [Array.getD_eq_getD_getElem?, Array.getElem?_eq_none (by rw [F.size]; exact ht)] at this
  simpa using this.symm

theorem Fits.ofEnv {n : Nat} {env : Env} (hu : ∀ t, n ≤ t → env t = undef) (ds : List Deferred) : Fits n { tmps := tmpsOf n env, defers := ds } env := by
  refine ⟨by simp [tmpsOf], fun t => ?_⟩
  rw [Array.getD_eq_getD_getElem?]
  by_cases h : t < n
  · simp [tmpsOf, h]
  · simp [tmpsOf, h, hu t (by omega)]

theorem View.rem {h : Hp} {w : World} (V : View h w) (l : Nat) : View (h.rem l) w := fun b o e => V b o (by unfold Hp.rem at e; split at e <;> first | cases e | exact e)

theorem View.remSet {h : Hp} {w : World} (V : View h w) (l : Nat) (o' : Obj) : View (h.rem l) { w with heap := w.heap.setIfInBounds l o' } := fun b o e => by
  unfold Hp.rem at e
  split at e
  · cases e
  · rename_i hb
    show (w.heap.setIfInBounds l o')[b]? = some o
    rw [Array.getElem?_setIfInBounds_ne (Ne.symm hb)]; exact V b o e

/-- The statement's end: the record is let go. -/
theorem loop_end {h h2 : Hp} {w w1 w2 : World} {l : Nat} {o o' : Obj} (hls : l < w1.heap.size) (hlw : w.heap.size ≤ l) (hw1 : ∀ b, b < w.heap.size → w1.heap[b]? = w.heap[b]?) (hs1 : w.heap.size ≤ w1.heap.size) (hos : w1.os = w.os) (ht : w1.tape = w.tape) (hou : w1.output = w.output) (hdr : w.drawn ≤ w1.drawn)
    (V2 : View h2 w2) (K2 : Keep (h.upd l o) w1 h2 w2) :
    View (h2.rem l) { w2 with heap := w2.heap.setIfInBounds l o' } ∧ Keep h w (h2.rem l) { w2 with heap := w2.heap.setIfInBounds l o' } := by
  refine ⟨V2.remSet l o', K2.os.trans hos, K2.tape.trans ht, K2.output.trans hou, ?_, fun b hb hn => ?_, fun b hb hn => ?_, Nat.le_trans hdr K2.drawn⟩
  · have := K2.size
    simp; omega
  · have hbl : b ≠ l := by omega
    show (w2.heap.setIfInBounds l o')[b]? = _
    rw [Array.getElem?_setIfInBounds_ne (Ne.symm hbl), K2.old b (by omega) (by unfold Hp.upd; rw [if_neg hbl]; exact hn), hw1 b hb]
  · have hbl : b ≠ l := by omega
    unfold Hp.rem
    rw [if_neg hbl]
    exact K2.dom b (by omega) (by unfold Hp.upd; rw [if_neg hbl]; exact hn)

theorem run_endLoop {P : Program} {w : World} {l : Nat} {r : Loop} (h : w.heap[l]? = some (.loop r)) (hs : (r.state == .busy) = false) : (Instr.endLoop l).run P w = .ok r.pending { w with heap := w.heap.setIfInBounds l (.loop { r with state := .exhausted }) } := by
  have hg : (Instr.getLoop l).run P w = .ok r w := by
    unfold Instr.getLoop
    show Sem.run P ((getObj l).bind _) w = _
    rw [Sem.run_bind']
    have : (getObj l).run P w = .ok (.loop r) w := by unfold getObj; simp only [Sem.run, h]
    rw [this]; rfl
  unfold Instr.endLoop
  show Sem.run P ((Instr.getLoop l).bind _) w = _
  rw [Sem.run_bind', hg]
  simp only [Result.andThen, hs, Bool.false_eq_true, if_false]
  show Sem.run P ((setObj l _).bind _) w = _
  rw [Sem.run_bind']
  have : ∀ o, (setObj l o).run P w = .ok () { w with heap := w.heap.setIfInBounds l o } := by intro o; unfold setObj; simp only [Sem.run, h]
  rw [this]; rfl

theorem rfn_sound {P : Program} {n : Nat} {nr : Bool} (hnr : nr = false) (hP : progOk P = true) (g : Operand) (ps : Array Tmp) (ac bc : Code) : Snd P n nr (rfn P n g ps ac bc) (.rangeFunc g ps ac bc) := by
  intro ro hro N Q env h a w h0 w0 F M V K0 D
  obtain rfl : ro = none := by rcases hro with e | e
                               · exact e
                               · rw [hnr] at e; cases e
  obtain ⟨gf, first, lb, hg, D⟩ := D
  have hg' : a.eval g = .func (.func gf) first lb := by rw [F.eval]; exact hg
  refine wpIn_rangeFunc fun fn _ => ?_
  -- the world behind the entering
  obtain ⟨l, mark, D0, w1, he, hl, hlw, hsz, hls, hrec, hw1, hos, ht, hou, hdr, hmk⟩ : ∃ (l : Nat) (mark : List Deferred) (D0 : Nat) (w1 : World),
      (Instr.enterLoop fn a.tmps ps ac bc (Fw none).round).run P w = .ok (l, mark) w1 ∧ h l = none ∧ w.heap.size ≤ l ∧ w.heap.size ≤ w1.heap.size ∧ l < w1.heap.size ∧ w1.heap[l]? = some (recOf n env ps ac bc .ready none fn D0) ∧
      (∀ b, b < w.heap.size → w1.heap[b]? = w.heap[b]?) ∧ w1.os = w.os ∧ w1.tape = w.tape ∧ w1.output = w.output ∧ w.drawn ≤ w1.drawn ∧
      (mark = [{ target := .collected D0, args := #[] }] ∧ w.heap.size ≤ D0 ∧ D0 < w1.heap.size ∧ D0 ≠ l ∧ w1.heap[D0]? = some (.deferred (some []))) := by
    have hnone : ∀ b, w.heap.size ≤ b → h b = none := fun b hb => by
      cases hh : h b with
      | none => rfl
      | some o => have := V.lt hh; omega
    refine ⟨w.heap.size + 1, [{ target := .collected w.heap.size, args := #[] }], w.heap.size, { w with heap := (w.heap.push (.deferred (some []))).push (recOf n env ps ac bc .ready none fn w.heap.size) }, ?_, hnone _ (by omega), by omega, by simp; omega, by simp, by rw [Array.getElem?_push, if_pos (by simp)], fun b hb => ?_, rfl, rfl, rfl, Nat.le_refl _, ⟨rfl, Nat.le_refl _, by simp; omega, by omega, ?_⟩⟩
    · rw [F.tmps]
      have hnew : ∀ (o : Obj) (w : World), (newObj o).run P w = .ok w.heap.size { w with heap := w.heap.push o } := fun _ _ => rfl
      unfold Instr.enterLoop recOf
      simp only [Fw, Sem.run_bind, hnew, Result.andThen]
      show Result.ok _ _ = _
      simp
    · simp only [Array.getElem?_push, Array.size_push]
      rw [if_neg (by omega), if_neg (by omega)]
    · simp [Array.getElem?_push]
  obtain ⟨⟨fnb, cb, hf, hb⟩, A⟩ := D l fn D0 hl F.out
  have V1 : View (h.upd l (recOf n env ps ac bc .ready none fn D0)) w1 := fun b o e => by
    unfold Hp.upd at e
    split at e
    · rename_i e2; subst e2; cases e; exact hrec
    · rw [hw1 b (V.lt e)]; exact V b o e
  refine ⟨l, mark, w1, { target := .fn (.func gf) lb, args := first ++ #[.func (.yield l) #[] #[]] }, w1, gf, first ++ #[.func (.yield l) #[] #[]] ++ lb, w1, he, ?_, fun _ _ => trivial, ?_, (fun e => by cases e), ?_⟩
  · show Sem.run P (Deferred.ofValue (a.eval g) _) w1 = _
    have hm : Array.map a.eval (rangeCall g l).args = #[.func (.yield l) #[] #[]] := by simp [rangeCall]; rfl
    rw [hg', hm]
    rfl
  · show (callFunc gf (first ++ #[.func (.yield l) #[] #[]] ++ lb)).run P w1 = _
    exact callFunc_run hP hf hb _ _
  · refine (Fw.calls (A w1 V1)).mono ?_
    rintro e w2 ⟨v, h2, rfl, V2, K2, hq⟩
    have fin : ∀ (r : Loop), h2 l = some (.loop r) → (r.state == .busy) = false → ∀ (e : Exit), Q e env (h2.rem l) →
        ∃ w4, (Instr.endLoop l).run P w2 = .ok r.pending w4 ∧ LiftQ n h0 w0 Q e { a with defers := mark ++ a.defers } w4 := by
      intro r hr hst e hq
      refine ⟨_, run_endLoop (V2 _ _ hr) hst, ?_⟩
      obtain ⟨V4, K4⟩ := loop_end (h := h) (o' := .loop { r with state := .exhausted }) hls hlw hw1 hsz hos ht hou hdr V2 K2
      have M4 := M.keep K4
      refine ⟨env, h2.rem l, ⟨F.size, F.get⟩, ?_, V4, K0.trans K4, hq⟩
      obtain ⟨rfl, q1, q2, q3, q4⟩ := hmk
      obtain ⟨Ds, e, nd, H⟩ := M
      refine ⟨D0 :: Ds, by simp [e], List.nodup_cons.2 ⟨fun hm => ?_, nd⟩, fun D hD => ?_⟩
      · have := (Array.getElem?_eq_some_iff.1 (H D0 hm).2.2).1; omega
      · rcases List.mem_cons.1 hD with rfl | hD
        · have hno : (h.upd l (recOf n env ps ac bc .ready none fn D)) D = none := by
            unfold Hp.upd; rw [if_neg q3]
            cases hh : h D with
            | none => rfl
            | some o => have := V.lt hh; omega
          refine ⟨Nat.le_trans K0.size q1, by unfold Hp.rem; rw [if_neg q3]; exact K2.dom D q2 hno, ?_⟩
          show (w2.heap.setIfInBounds l _)[D]? = _
          rw [Array.getElem?_setIfInBounds_ne (Ne.symm q3), K2.old D q2 hno, q4]
        · obtain ⟨h1, h2', h3⟩ := H D hD
          have hlt := (Array.getElem?_eq_some_iff.1 h3).1
          exact ⟨h1, K4.dom D hlt h2', (K4.old D hlt h2').trans h3⟩
    rcases hq with ⟨hr, hq⟩ | ⟨hr, hq⟩ | ⟨i, hr, hq⟩
    · obtain ⟨w4, hend, hL⟩ := fin _ hr rfl .normal hq
      exact ⟨_, w4, hend, hL⟩
    · obtain ⟨w4, hend, hL⟩ := fin _ hr rfl .ret hq
      exact ⟨_, w4, hend, wpIn_ret hL⟩
    · obtain ⟨w4, hend, hL⟩ := fin _ hr rfl (.exit i) hq
      exact ⟨_, w4, hend, wpIn_exit hL⟩

theorem den_sound {P : Program} {n : Nat} {nr : Bool} (hP : progOk P = true) (c : Code) (hnr : nr = true → noRF c = true) :
    Snd P n nr (den P n c).1 c ∧ ∀ l d, (den P n c).2 l = some d → ∃ rest, findLabel c l = some rest ∧ Snd P n nr d rest := by
  induction c with
  | skip => exact ⟨fun ro _ N Q env h a w h0 w0 F M V K0 D => wpIn_skip ⟨env, h, F, M, V, K0, D⟩, fun l d e => by cases e⟩
  | region id ops draw => exact ⟨rgn_sound hP id ops draw, fun l d e => by cases e⟩
  | seq x y ihx ihy =>
    replace ihx := ihx (fun e => by have := hnr e; simp only [noRF, Bool.and_eq_true] at this; exact this.1)
    replace ihy := ihy (fun e => by have := hnr e; simp only [noRF, Bool.and_eq_true] at this; exact this.2)
    refine ⟨sq_sound ihx.1 ihy.1, fun l d e => ?_⟩
    simp only [den] at e
    cases hx : (den P n x).2 l with
    | some d' =>
      simp only [hx, Option.some.injEq] at e
      subst e
      obtain ⟨rest, hf, hs⟩ := ihx.2 l d' hx
      exact ⟨.seq rest y, by simp [findLabel, hf], sq_sound hs ihy.1⟩
    | none =>
      simp only [hx] at e
      obtain ⟨rest, hf, hs⟩ := ihy.2 l d e
      have hn : findLabel x l = none := by
        clear e hf hs ihy ihx hnr
        induction x with
        | seq p q ihp ihq =>
          simp only [den] at hx
          cases hp : (den P n p).2 l with
          | some d' => simp [hp] at hx
          | none => simp only [hp] at hx; simp [findLabel, ihp hp, ihq hx]
        | label l' =>
          simp only [den] at hx
          split at hx
          · cases hx
          · rename_i hne; simp only [findLabel, if_neg hne]
        | _ => rfl
      exact ⟨rest, by simp [findLabel, hn, hf], hs⟩
  | cond o x y ihx ihy =>
    replace ihx := ihx (fun e => by have := hnr e; simp only [noRF, Bool.and_eq_true] at this; exact this.1)
    replace ihy := ihy (fun e => by have := hnr e; simp only [noRF, Bool.and_eq_true] at this; exact this.2)
    exact ⟨cnd_sound o ihx.1 ihy.1, fun l d e => by cases e⟩
  | block id x ih => exact ⟨blk_sound id (ih hnr).1, fun l d e => by cases e⟩
  | loop x ih => exact ⟨lp_sound (ih hnr).1, fun l d e => by cases e⟩
  | rangeFunc f ps x y _ _ => exact ⟨rfn_sound (by cases nr with | false => rfl | true => exact absurd (hnr rfl) (by simp [noRF])) hP f ps x y, fun l d e => by cases e⟩
  | exit id => exact ⟨fun ro _ N Q env h a w h0 w0 F M V K0 D => wpIn_exit ⟨env, h, F, M, V, K0, D⟩, fun l d e => by cases e⟩
  | scope x ih => exact ⟨scp_sound (ih hnr).1 (ih hnr).2, fun l d e => by cases e⟩
  | label l' =>
    refine ⟨fun ro _ N Q env h a w h0 w0 F M V K0 D => wpIn_label ⟨env, h, F, M, V, K0, D⟩, fun l d e => ?_⟩
    simp only [den] at e
    split at e
    · rename_i hl
      cases e
      exact ⟨.skip, by simp only [findLabel, if_pos hl], fun ro _ N Q env h a w h0 w0 F M V K0 D => wpIn_skip ⟨env, h, F, M, V, K0, D⟩⟩
    · cases e
  | goto l => exact ⟨fun ro _ N Q env h a w h0 w0 F M V K0 D => wpIn_goto ⟨env, h, F, M, V, K0, D⟩, fun l d e => by cases e⟩
  | ret => exact ⟨fun ro _ N Q env h a w h0 w0 F M V K0 D => wpIn_ret ⟨env, h, F, M, V, K0, D⟩, fun l d e => by cases e⟩
  | refuse s => exact ⟨fun ro _ N Q env h a w h0 w0 F M V K0 D => D.elim, fun l d e => by cases e⟩

/-! ### Calls -/

def resv (P : Program) (env : Env) (h : Hp) : List ResultVar → Option (List Value)
  | [] => some []
  | .tmp t :: rest => (resv P env h rest).map (env t :: ·)
  | .cell a t :: rest =>
    match env a with
    | .pointer (some ad) =>
      (match rrun P (loadVar t ad) h with
      | some v => (resv P env h rest).map (v :: ·)
      | none => none)
    | _ => none

def retv : List Value → Value
  | [v] => v
  | vs => .tuple vs.toArray

def fin (P : Program) (rs : List ResultVar) (Q : Value → Hp → Prop) : Post := fun e env h =>
  match e with
  | .normal | .ret => ∃ vs, resv P env h rs = some vs ∧ ∃ h', (∀ b o, h' b = some o → h b = some o) ∧ Q (retv vs) h'
  | _ => False

def env0 (args : Array Value) : Env := fun t => args.getD t undef

def resOne (tmps : Array Value) : ResultVar → Sem Value
  | .tmp t => pure (tmps.getD t undef)
  | .cell ad t => do loadVar t (← asAddr (tmps.getD ad undef))

theorem resv_run {P : Program} {n : Nat} {a : Act} {env : Env} {h : Hp} {w : World} (F : Fits n a env) (V : View h w) : ∀ (rs : List ResultVar) (vs : List Value), resv P env h rs = some vs →
    Sem.run P (rs.mapM (resOne a.tmps)) w = .ok vs w := by
  intro rs
  induction rs with
  | nil => intro vs e; cases e; rfl
  | cons r rest ih =>
    intro vs e
    rw [List.mapM_cons]
    cases r with
    | tmp t =>
      simp only [resv] at e
      cases hr : resv P env h rest with
      | none => simp [hr] at e
      | some us =>
        simp only [hr, Option.map_some, Option.some.injEq] at e
        subst e
        have := ih us hr
        simp only [resOne, Sem.run_bind, F.get t]
        show Result.andThen (Result.ok (env t) w) _ = _
        simp only [Result.andThen, this]
        rfl
    | cell ad t =>
      simp only [resv] at e
      split at e
      · rename_i ad' hp
        split at e
        · rename_i v hv
          cases hr : resv P env h rest with
          | none => simp [hr] at e
          | some us =>
            simp only [hr, Option.map_some, Option.some.injEq] at e
            subst e
            have := ih us hr
            have h2 := rrun_sound _ V hv
            simp only [resOne, Sem.run_bind, F.get ad, hp]
            show Result.andThen (Result.andThen (Result.ok ad' w) _) _ = _
            simp only [Result.andThen, h2, this]
            rfl
        · cases e
      · cases e

theorem results_run {P : Program} {n : Nat} {a : Act} {env : Env} {h : Hp} {w : World} {fn : Func} {vs : List Value} (F : Fits n a env) (V : View h w) (e : resv P env h fn.results.toList = some vs) :
    (results fn a.tmps).run P w = .ok (retv vs) w := by
  have := resv_run F V _ _ e
  have hres : results fn a.tmps = (do let vs ← fn.results.mapM (resOne a.tmps); pure (if h : vs.size = 1 then vs[0] else .tuple vs)) := rfl
  rw [hres, Array.mapM_eq_mapM_toList]
  simp only [Sem.run_bind, Sem.run_map]
  rw [this]
  simp only [Result.andThen]
  show Result.ok _ w = _
  congr 1
  cases vs with
  | nil => rfl
  | cons v rest => cases rest <;> rfl

theorem ok_of_den {P : Program} (hP : progOk P = true) {f : FuncId} {fn : Func} {c : Code} {args : Array Value} {h : Hp} {Q : Value → Hp → Prop} (hf : P.funcs[f]? = some fn) (hb : fn.body = some c)
    (hn : args.size ≤ fn.ntmps) (D : (den P fn.ntmps c).1 (fin P fn.results.toList Q) (env0 args) h) : Ok P f args h Q := by
  refine ⟨⟨fn, c, hf, hb⟩, fun w V => (callsIn_wide (n := 0)).1 (callsIn_of_wp_marks hf hb trivial ?_)⟩
  have F : Fits fn.ntmps ⟨args ++ Array.replicate (fn.ntmps - args.size) undef, []⟩ (env0 args) := by
    refine ⟨by simp; omega, fun t => ?_⟩
    unfold env0
    simp only [Array.getD_eq_getD_getElem?]
    rcases Nat.lt_or_ge t args.size with ht | ht
    · rw [Array.getElem?_append_left ht]
    · rw [Array.getElem?_append_right ht, Array.getElem?_eq_none ht]
      simp only [Array.getElem?_replicate, Option.getD_none]
      split <;> rfl
  refine wpIn_mono ((den_sound (nr := false) hP c (fun e => by cases e)).1 none (.inl rfl) 0 _ _ _ _ _ h w F Mk.start V (Keep.refl _ _) D) ?_
  have out : ∀ (a' : Act) (w' : World) (env' : Env) (h' : Hp), Fits fn.ntmps a' env' → Mk w.heap.size a'.defers h' w' → View h' w' → Keep h w h' w' → (∃ vs, resv P env' h' fn.results.toList = some vs ∧ ∃ h'', (∀ b o, h'' b = some o → h' b = some o) ∧ Q (retv vs) h'') →
      LeavesInM Fence.wide 0 P fn a'.tmps (fun e w' => ∃ v h', e = .returned v ∧ View h' w' ∧ Keep h w h' w' ∧ Q v h') a'.defers .returning w' := by
    rintro a' w' env' h' F' ⟨Ds, hds, nd, H⟩ V' K' ⟨vs, hvs, h'', hl, hQ⟩
    rw [hds]
    have go : ∀ (Ds : List Nat) (w' : World), Ds.Nodup → (∀ D ∈ Ds, w.heap.size ≤ D ∧ h' D = none ∧ w'.heap[D]? = some (.deferred (some []))) → View h' w' → Keep h w h' w' →
        LeavesInM Fence.wide 0 P fn a'.tmps (fun e w' => ∃ v h', e = .returned v ∧ View h' w' ∧ Keep h w h' w' ∧ Q v h') (Ds.map (fun D => ({ target := .collected D, args := #[] } : Deferred))) .returning w' := by
      intro Ds
      induction Ds with
      | nil => intro w' _ _ V' K'; exact ⟨_, results_run F' V' hvs, _, h'', rfl, V'.less hl, K'.less hl, hQ⟩
      | cons D0 Ds ih =>
        intro w' nd H V' K'
        obtain ⟨q1, q2, q3⟩ := H D0 (by simp)
        rw [List.nodup_cons] at nd
        have hlt := (Array.getElem?_eq_some_iff.1 q3).1
        refine ⟨by simp, .inl ⟨D0, { w' with heap := w'.heap.setIfInBounds D0 (.deferred none) }, rfl, ?_, ?_⟩⟩
        · unfold Instr.takeDeferred
          show Sem.run P ((getObj D0).bind _) w' = _
          rw [Sem.run_bind']
          have : (getObj D0).run P w' = .ok (.deferred (some [])) w' := by unfold getObj; simp only [Sem.run, q3]
          rw [this]
          show Sem.run P ((setObj D0 _).bind _) w' = _
          rw [Sem.run_bind']
          have : ∀ o, (setObj D0 o).run P w' = .ok () { w' with heap := w'.heap.setIfInBounds D0 o } := by intro o; unfold setObj; simp only [Sem.run, q3]
          rw [this]; rfl
        · refine ih _ nd.2 (fun D hD => ?_) (fun b o e => ?_) ⟨K'.os, K'.tape, K'.output, by simp; exact K'.size, fun b hb hn => ?_, K'.dom, K'.drawn⟩
          · obtain ⟨p1, p2, p3⟩ := H D (by simp [hD])
            refine ⟨p1, p2, ?_⟩
            show (w'.heap.setIfInBounds D0 _)[D]? = _
            rw [Array.getElem?_setIfInBounds_ne (by rintro rfl; exact nd.1 hD)]; exact p3
          · show (w'.heap.setIfInBounds D0 _)[b]? = _
            rw [Array.getElem?_setIfInBounds_ne (by rintro rfl; rw [q2] at e; cases e)]; exact V' b o e
          · show (w'.heap.setIfInBounds D0 _)[b]? = _
            rw [Array.getElem?_setIfInBounds_ne (by omega)]; exact K'.old b hb hn
    exact go Ds w' nd H V' K'
  rintro e a' w' ⟨env', h', F', M', V', K', hq⟩
  cases e with
  | normal => exact out a' w' env' h' F' M' V' K' hq
  | ret => exact out a' w' env' h' F' M' V' K' hq
  | exit i => exact hq.elim
  | goto i => exact hq.elim
  | panic i => exact hq.elim
  | outgrown => exact hq.elim

/-! ### A round, as the iterator sees it -/
theorem Fits.envPs {n : Nat} : ∀ (l : List (Tmp × Value)) {a : Act} {env : Env}, Fits n a env → Fits n { tmps := l.foldl (fun t (p : Tmp × Value) => t.setIfInBounds p.1 p.2) a.tmps, defers := a.defers } (envPs n env l)
  | [], a, env, F => F
  | (t, v) :: rest, a, env, F => Fits.envPs rest (a := { tmps := a.tmps.setIfInBounds t v, defers := a.defers }) (F.put (some t) v)

theorem run_setObj {P : Program} {w : World} {l : Nat} {r : Loop} {o : Obj} (h : w.heap[l]? = some (.loop r)) : (setObj l o).run P w = .ok () { w with heap := w.heap.setIfInBounds l o } := by
  unfold setObj; simp only [Sem.run, h]
theorem run_getLoop {P : Program} {w : World} {l : Nat} {r : Loop} (h : w.heap[l]? = some (.loop r)) : (Instr.getLoop l).run P w = .ok r w := by
  unfold Instr.getLoop
  show Sem.run P ((getObj l).bind _) w = _
  rw [Sem.run_bind']
  have : (getObj l).run P w = .ok (.loop r) w := by unfold getObj; simp only [Sem.run, h]
  rw [this]; rfl

theorem yok_of {P : Program} {n : Nat} (hP : progOk P = true) {env : Env} {ps : Array Tmp} {ac bc : Code} {fn D l : Nat} {g : Hp} {args : Array Value} {k : Value → Hp → Prop} (na : noRF ac = true) (nb : noRF bc = true)
    (hl : g l = some (recOf n env ps ac bc .ready none fn D)) (hu : ∀ t, n ≤ t → env t = undef) (hs : args.size = ps.size)
    (H : (den P n ac).1 (fun e env1 h1 => e = .normal ∧ h1 l = some (recOf n env ps ac bc .ready none fn D) ∧ (den P n bc).1 (fun e2 _ h2 => h2 l = some (recOf n env ps ac bc .busy none fn D) ∧ match e2 with
        | .normal => k (.bool true) (h2.upd l (recOf n env ps ac bc .ready none fn D))
        | .ret => k (.bool false) (h2.upd l (recOf n env ps ac bc .done (some .ret) fn D))
        | .exit i => k (.bool false) (h2.upd l (recOf n env ps ac bc .done (some (.exit i)) fn D))
        | _ => False) env1 (h1.upd l (recOf n env ps ac bc .busy none fn D))) (envPs n env (ps.zip args).toList) g) : YOk P l args g k := by
  intro w V
  have hw : w.heap[l]? = some (.loop { state := .ready, pending := none, fn := fn, tmps := tmpsOf n env, params := ps, assign := ac, body := bc, defers := D }) := V _ _ hl
  refine ⟨fn, (ps.zip args).foldl (fun tmps (t, a) => tmps.setIfInBounds t a) (tmpsOf n env), ac, bc, ?_, roundIn_of_wpIn trivial ?_⟩
  · unfold Instr.yield
    show Sem.run P ((Instr.getLoop l).bind _) w = _
    rw [Sem.run_bind', run_getLoop hw]
    simp only [Result.andThen, hs, ne_eq, not_true_eq_false, if_false]
    rfl
  have F0 : Fits n { tmps := (ps.zip args).foldl (fun tmps (t, a) => tmps.setIfInBounds t a) (tmpsOf n env), defers := [] } (envPs n env (ps.zip args).toList) := by
    have := Fits.envPs (ps.zip args).toList (Fits.ofEnv hu [])
    rw [← Array.foldl_toList]
    exact this
  show Code.wpIn (Fw (some l)) 0 P ac _ _ w
  refine wpIn_mono ((den_sound (nr := true) hP ac (fun _ => na)).1 (some l) (.inr rfl) 0 _ _ _ _ w g w F0 Mk.start V (Keep.refl _ _) H) ?_
  rintro e a1 w1 ⟨env1, h1, F1, M1, V1, K1, rfl, hl1, H1⟩
  have hw1 : w1.heap[l]? = some (.loop { state := .ready, pending := none, fn := fn, tmps := tmpsOf n env, params := ps, assign := ac, body := bc, defers := D }) := V1 _ _ hl1
  obtain ⟨V2, K2⟩ := V1.modify (w' := { w1 with heap := w1.heap.setIfInBounds l (recOf n env ps ac bc .busy none fn D) }) (o' := recOf n env ps ac bc .busy none fn D) hl1 rfl rfl rfl (by simp) (by simp [V1.lt hl1]) (fun i hi => by simp [Array.getElem?_setIfInBounds_ne (Ne.symm hi)]) (Nat.le_refl _)
  refine ⟨{ w1 with heap := w1.heap.setIfInBounds l (recOf n env ps ac bc .busy none fn D) }, ?_, ?_⟩
  · unfold Instr.beginRound
    show Sem.run P ((Instr.getLoop l).bind _) w1 = _
    rw [Sem.run_bind', run_getLoop hw1]
    simp only [Result.andThen]
    show Sem.run P ((setObj l _).bind _) w1 = _
    rw [Sem.run_bind', run_setObj hw1]; rfl
  have K12 := K1.trans K2
  show Code.wpIn (Fw (some l)) 0 P bc _ _ _
  refine wpIn_mono ((den_sound (nr := true) hP bc (fun _ => nb)).1 (some l) (.inr rfl) 0 _ _ _ _ _ g w F1 (M1.keep K2) V2 K12 H1) ?_
  rintro e a3 w3 ⟨env3, h3, F3, M3, V3, K3, hl3, H3⟩
  have hw3 : w3.heap[l]? = some (.loop { state := .busy, pending := none, fn := fn, tmps := tmpsOf n env, params := ps, assign := ac, body := bc, defers := D }) := V3 _ _ hl3
  have fin : ∀ (jump : Option Code) (b : Bool), k (.bool b) (h3.upd l (recOf n env ps ac bc (if jump.isNone then .ready else .done) jump fn D)) → b = jump.isNone →
      ∃ v w', (Instr.endRound l jump).run P w3 = .ok v w' ∧ ∃ v' h', Ending.returned v = .returned v' ∧ View h' w' ∧ Keep g w h' w' ∧ k v' h' := by
    intro jump b hk hb
    obtain ⟨V4, K4⟩ := V3.modify (w' := { w3 with heap := w3.heap.setIfInBounds l (recOf n env ps ac bc (if jump.isNone then .ready else .done) jump fn D) }) (o' := recOf n env ps ac bc (if jump.isNone then .ready else .done) jump fn D) hl3 rfl rfl rfl (by simp) (by simp [V3.lt hl3]) (fun i hi => by simp [Array.getElem?_setIfInBounds_ne (Ne.symm hi)]) (Nat.le_refl _)
    refine ⟨.bool jump.isNone, { w3 with heap := w3.heap.setIfInBounds l (recOf n env ps ac bc (if jump.isNone then .ready else .done) jump fn D) }, ?_, _, _, rfl, V4, K3.trans K4, by subst hb; exact hk⟩
    unfold Instr.endRound
    show Sem.run P ((Instr.getLoop l).bind _) w3 = _
    rw [Sem.run_bind', run_getLoop hw3]
    simp only [Result.andThen]
    show Sem.run P ((setObj l _).bind _) w3 = _
    rw [Sem.run_bind', run_setObj hw3]; rfl
  cases e with
  | normal => exact fin none true H3 rfl
  | ret => exact fin (some .ret) false H3 rfl
  | exit i => exact fin (some (.exit i)) false H3 rfl
  | goto i => exact H3.elim
  | panic i => exact H3.elim
  | outgrown => exact H3.elim

end Go.Proofs.Ytpeoholnlokdcaa

/- Words for the printed formulas; monotony. -/
namespace Go.Proofs.Ytpeoholnlokdcaa
open Go

def rg (r : Env → Hp → (Env → Hp → Prop) → Prop) : Den := fun Q env h => r env h (Q .normal)

def subCode : List Nat → Code → Code
  | [], c => c
  | 0 :: p, .seq a _ => subCode p a
  | _ :: p, .seq _ b => subCode p b
  | 0 :: p, .cond _ a _ => subCode p a
  | _ :: p, .cond _ _ b => subCode p b
  | _ :: p, .block _ c => subCode p c
  | _ :: p, .loop c => subCode p c
  | _ :: p, .scope c => subCode p c
  | 0 :: p, .rangeFunc _ _ a _ => subCode p a
  | _ :: p, .rangeFunc _ _ _ b => subCode p b
  | _, _ => .skip

def MonoD (D : Den) : Prop := ∀ (Q Q' : Post), (∀ e env h, Q e env h → Q' e env h) → ∀ env h, D Q env h → D Q' env h

/-- What is asked at a round's end. -/
def rndK (l : Nat) (n : Nat) (env0 : Env) (ps : Array Tmp) (ac bc : Code) (fn D : Nat) (k : Value → Hp → Prop) : Post := fun e _ h =>
  h l = some (recOf n env0 ps ac bc .busy none fn D) ∧ match e with
  | .normal => k (.bool true) (h.upd l (recOf n env0 ps ac bc .ready none fn D))
  | .ret => k (.bool false) (h.upd l (recOf n env0 ps ac bc .done (some .ret) fn D))
  | .exit i => k (.bool false) (h.upd l (recOf n env0 ps ac bc .done (some (.exit i)) fn D))
  | _ => False

/-- The loop's left sides set, the body run. -/
def rnd (l : Nat) (ready busy : Obj) (A B : Den) : Den := fun Q env h => A (fun e env1 h1 => e = .normal ∧ h1 l = some ready ∧ B Q env1 (h1.upd l busy)) env h

theorem yok_rnd {P : Program} {n : Nat} (hP : progOk P = true) {env : Env} {ps : Array Tmp} {ac bc : Code} {A B : Den} {fn D l : Nat} {g : Hp} {args : Array Value} {k : Value → Hp → Prop} (na : noRF ac = true) (nb : noRF bc = true) (hA : (den P n ac).1 = A) (hB : (den P n bc).1 = B)
    (hl : g l = some (recOf n env ps ac bc .ready none fn D)) (hu : ∀ t, n ≤ t → env t = undef) (hs : args.size = ps.size)
    (H : rnd l (recOf n env ps ac bc .ready none fn D) (recOf n env ps ac bc .busy none fn D) A B (rndK l n env ps ac bc fn D k) (envPs n env (ps.zip args).toList) g) : YOk P l args g k := by
  refine yok_of hP na nb hl hu hs ?_
  rw [hA, hB]
  exact H

theorem dops_mono {P : Program} {n : Nat} {ops : Array Oper} {K K' : Env → Hp → Prop} (q : ∀ env h, K env h → K' env h) : ∀ (l : List Nat) (env : Env) (h : Hp), dops P n ops l env h K → dops P n ops l env h K'
  | [], _, _, D => q _ _ D
  | _ :: rest, _, _, D => dOp_mono (fun _ _ hk => dops_mono q rest _ _ hk) D

theorem dall_mono {f g : Nat → Prop} (q : ∀ j, f j → g j) : ∀ rs : List Nat, dall rs f → dall rs g
  | [], _ => trivial
  | [_], h => q _ h
  | _ :: k :: rest, h => ⟨q _ h.1, dall_mono q (k :: rest) h.2⟩

theorem dreg_mono {P : Program} {n : Nat} {ops : Array Oper} {K K' : Env → Hp → Prop} (q : ∀ env h, K env h → K' env h) : ∀ (fuel : Nat) (pend : Pend) (listed : Array Bool) (env : Env) (h : Hp),
    dreg P n ops fuel pend listed env h K → dreg P n ops fuel pend listed env h K' := by
  intro fuel
  induction fuel with
  | zero =>
    intro pend listed env h D
    simp only [dreg] at D ⊢
    split
    · rename_i hr; simp only [hr] at D; exact q _ _ D
    · rename_i hr; split at D
      · rename_i hr2; exact absurd hr2 hr
      · exact D
  | succ fuel ih =>
    intro pend listed env h D
    simp only [dreg] at D ⊢
    split
    · rename_i i hf
      simp only [hf] at D
      split
      · rename_i o ho; simp only [ho] at D; exact gop_mono (fun v h hk => ih _ _ _ _ hk) D
      · rename_i ho; simp only [ho] at D
    · rename_i hf
      simp only [hf] at D
      split
      · rename_i hr; simp only [hr] at D; exact q _ _ D
      · rename_i rs hr
        split at D
        · rename_i hr2; exact absurd hr2 hr
        · exact dall_mono (fun j hj => dOp_mono (fun _ _ hk => ⟨hk.1, ih _ _ _ _ hk.2⟩) hj) _ D

theorem sq_mono {A B : Den} (ha : MonoD A) (hb : MonoD B) : MonoD (sq A B) := fun Q Q' q env h D =>
  ha _ _ (fun e env h hq => by cases e <;> first | exact hb _ _ q _ _ hq | exact q _ _ _ hq) _ _ D

theorem den_mono (P : Program) (n : Nat) (c : Code) : MonoD (den P n c).1 ∧ ∀ l d, (den P n c).2 l = some d → MonoD d := by
  induction c with
  | skip => exact ⟨fun Q Q' q env h D => q _ _ _ D, fun l d e => by cases e⟩
  | region id ops draw =>
    refine ⟨fun Q Q' q env h D => ?_, fun l d e => by cases e⟩
    show rgn P n ops draw Q' env h
    have D : rgn P n ops draw Q env h := D
    unfold rgn at D ⊢
    cases draw with
    | false => exact dops_mono (q .normal) _ _ _ D
    | true =>
      simp only at D ⊢
      split
      · rename_i hg; simp only [hg] at D; exact dreg_mono (q .normal) _ _ _ _ _ D
      · rename_i hg; simp only [hg] at D
  | seq x y ihx ihy =>
    refine ⟨sq_mono ihx.1 ihy.1, fun l d e => ?_⟩
    simp only [den] at e
    cases hx : (den P n x).2 l with
    | some d' => simp only [hx, Option.some.injEq] at e; subst e; exact sq_mono (ihx.2 l d' hx) ihy.1
    | none => simp only [hx] at e; exact ihy.2 l d e
  | cond o x y ihx ihy =>
    refine ⟨fun Q Q' q env h D => ?_, fun l d e => by cases e⟩
    obtain ⟨b, hb, D⟩ := D
    refine ⟨b, hb, ?_⟩
    cases b with
    | true => exact ihx.1 _ _ q _ _ D
    | false => exact ihy.1 _ _ q _ _ D
  | block id x ih =>
    refine ⟨fun Q Q' q env h D => ih.1 _ _ (fun e env h hq => ?_) _ _ D, fun l d e => by cases e⟩
    cases e with
    | exit i =>
      simp only [inBlk] at hq ⊢
      split
      · rename_i hi; simp only [hi, if_true] at hq; exact q _ _ _ hq
      · rename_i hi; simp only [hi, if_false] at hq; exact q _ _ _ hq
    | _ => exact q _ _ _ hq
  | loop x ih =>
    refine ⟨fun Q Q' q env h D => ?_, fun l d e => by cases e⟩
    obtain ⟨I, h0, hr⟩ := D
    refine ⟨I, h0, fun k env h hI => ih.1 _ _ (fun e env h hq => ?_) _ _ (hr k env h hI)⟩
    cases e <;> first | exact hq | exact q _ _ _ hq
  | rangeFunc f ps x y _ _ =>
    refine ⟨fun Q Q' q env h D => ?_, fun l d e => by cases e⟩
    obtain ⟨gf, first, lb, he, H⟩ := D
    refine ⟨gf, first, lb, he, fun l fn D hl hu => (H l fn D hl hu).mono fun v h2 hq => ?_⟩
    rcases hq with ⟨e, q'⟩ | ⟨e, q'⟩ | ⟨i, e, q'⟩
    · exact .inl ⟨e, q _ _ _ q'⟩
    · exact .inr (.inl ⟨e, q _ _ _ q'⟩)
    · exact .inr (.inr ⟨i, e, q _ _ _ q'⟩)
  | exit id => exact ⟨fun Q Q' q env h D => q _ _ _ D, fun l d e => by cases e⟩
  | scope x ih =>
    refine ⟨fun Q Q' q env h D => ?_, fun l d e => by cases e⟩
    obtain ⟨I, h0, hr⟩ := D
    refine ⟨I, ih.1 _ _ (fun e env h hq => ?_) _ _ h0, fun k l env h hI => ?_⟩
    · cases e <;> first | exact hq | exact q _ _ _ hq
    · obtain ⟨d, hd, D⟩ := hr k l env h hI
      refine ⟨d, hd, ih.2 l d hd _ _ (fun e env h hq => ?_) _ _ D⟩
      cases e <;> first | exact hq | exact q _ _ _ hq
  | label l' =>
    refine ⟨fun Q Q' q env h D => q _ _ _ D, fun l d e => ?_⟩
    simp only [den] at e
    split at e
    · cases e; exact fun Q Q' q env h D => q _ _ _ D
    · cases e
  | goto l => exact ⟨fun Q Q' q env h D => q _ _ _ D, fun l d e => by cases e⟩
  | ret => exact ⟨fun Q Q' q env h D => q _ _ _ D, fun l d e => by cases e⟩
  | refuse s => exact ⟨fun Q Q' q env h D => D.elim, fun l d e => by cases e⟩

/-- A scope with one label, to which it jumps back: what holds at the label. -/
theorem scp_one {P : Program} {n l : Nat} {code : Code} {A at0 : Den} {r : Env → Hp → (Env → Hp → Prop) → Prop} {Q : Post} {env : Env} {h : Hp} (hlab : (den P n code).2 l = some at0) (hA : A = sq (rg r) at0)
    (Inv : Nat → Env → Hp → Prop) (h0 : ∀ K : Env → Hp → Prop, (∀ m env h, Inv m env h → K env h) → r env h K)
    (step : ∀ m env h, Inv m env h → at0 (jumpK (fun l' env h => l' = l ∧ ∃ k, k < m ∧ Inv k env h) Q) env h) : scp A (den P n code).2 Q env h := by
  refine ⟨fun m l' env h => l' = l ∧ Inv m env h, ?_, ?_⟩
  · subst hA
    refine h0 _ fun m env h hI => (den_mono P n code).2 l at0 hlab _ _ (fun e env h hq => ?_) _ _ (step m env h hI)
    cases e with
    | goto l' => obtain ⟨e, k, _, hk⟩ := hq; exact ⟨k, e, hk⟩
    | _ => exact hq
  · rintro m l' env h ⟨rfl, hI⟩
    refine ⟨at0, hlab, (den_mono P n code).2 _ at0 hlab _ _ (fun e env h hq => ?_) _ _ (step m env h hI)⟩
    cases e with
    | goto l' => obtain ⟨e, k, hk, hI⟩ := hq; exact ⟨k, hk, e, hI⟩
    | _ => exact hq

end Go.Proofs.Ytpeoholnlokdcaa
