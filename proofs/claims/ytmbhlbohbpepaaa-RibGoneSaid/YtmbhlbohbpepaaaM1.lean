/- A partial heap, what a piece of the model's semantics does to it whatever the tape answers, and that the model's run does the same to every world that has this heap. -/
import Derived.WalkKit
import Derived.KernelRfl
import Derived.Deep.LoopGhost
import Derived.Below
namespace Go.Proofs.Ytmbhlbohbpepaaa
open Go

abbrev Hp := Nat → Option Obj

def Hp.upd (h : Hp) (b : Nat) (o : Obj) : Hp := fun i => if i = b then some o else h i

def View (h : Hp) (w : World) : Prop := ∀ b o, h b = some o → w.heap[b]? = some o

def Hp.cell? (h : Hp) (a : Addr) : Option Value :=
  match h a.block with
  | some (.cells c _ _) => if a.spot.isSome then none else c[a.off]?
  | _ => none

def Hp.frozen? (h : Hp) (a : Addr) : Bool :=
  match h a.block with
  | some (.cells _ _ (lo, hi)) => lo ≤ a.off && a.off < hi
  | _ => false

def Hp.setCell (h : Hp) (a : Addr) (v : Value) : Hp :=
  match h a.block with
  | some (.cells c e fr) => h.upd a.block (.cells (if a.spot.isSome then c else c.setIfInBounds a.off v) e fr)
  | _ => h

def Hp.freeze (h : Hp) (a : Addr) (n : Nat) : Hp :=
  if n = 0 then h else
  match h a.block with
  | some (.cells c e (lo, hi)) => h.upd a.block (.cells c e (if lo == hi then (a.off, a.off + n) else (min lo a.off, max hi (a.off + n))))
  | _ => h

def oneCell : Value → Bool
  | .agg _ | .tuple _ => false
  | _ => true

def shapeOf : Obj → Option (TypeId × Nat)
  | .cells c e _ => some (e, c.size)
  | _ => none

def isRow : Obj → Bool
  | .cells .. => true
  | _ => false

/-- What a piece of semantics does to a partial heap, whatever the tape answers. -/
def arun (P : Program) {α : Type} : Sem α → Hp → (α → Hp → Prop) → Prop
  | .pure a, h, Q => Q a h
  | .load _ a k, h, Q => ∃ v, h.cell? a = some v ∧ arun P (k v) h Q
  | .store _ a v k, h, Q => oneCell v = true ∧ (∃ u, h.cell? a = some u) ∧ h.frozen? a = false ∧ arun P k (h.setCell a v) Q
  | .new o k, h, Q => ∀ b, h b = none → arun P (k b) (h.upd b o) Q
  | .shape r k, h, Q => ∃ o, h r = some o ∧ arun P (k (shapeOf o)) h Q
  | .freeze a n k, h, Q => (n = 0 ∨ ∃ o, h a.block = some o) ∧ arun P k (h.freeze a n) Q
  | .frozen a k, h, Q => (∃ o, h a.block = some o) ∧ arun P (k (h.frozen? a)) h Q
  | .getObj r k, h, Q => ∃ o, h r = some o ∧ isRow o = false ∧ arun P (k o) h Q
  | .setObj r o k, h, Q => (∃ o', h r = some o' ∧ isRow o' = false) ∧ arun P k (h.upd r o) Q
  | .choose q k, h, Q => if q.forced then arun P (k 0) h Q else ∀ t, arun P (k (q.cut t)) h Q
  | .sys _ _, _, _ => False
  | .program k, h, Q => arun P (k P) h Q
  | .mark _ k, h, Q => arun P k h Q
  | .halt _, _, _ => False

/-- What a piece that only reads comes to. -/
def rrun (P : Program) {α : Type} : Sem α → Hp → Option α
  | .pure a, _ => some a
  | .load _ a k, h => match h.cell? a with | some v => rrun P (k v) h | none => none
  | .shape r k, h => match h r with | some o => rrun P (k (shapeOf o)) h | none => none
  | .frozen a k, h => match h a.block with | some _ => rrun P (k (h.frozen? a)) h | none => none
  | .getObj r k, h => match h r with | some o => (match isRow o with | true => none | false => rrun P (k o) h) | none => none
  | .choose q k, h => if q.forced then rrun P (k 0) h else none
  | .program k, h => rrun P (k P) h
  | .mark _ k, h => rrun P k h
  | _, _ => none

structure Keep (h : Hp) (w : World) (h' : Hp) (w' : World) : Prop where
  os : w'.os = w.os
  tape : w'.tape = w.tape
  output : w'.output = w.output
  size : w.heap.size ≤ w'.heap.size
  old : ∀ b, b < w.heap.size → h b = none → w'.heap[b]? = w.heap[b]?
  dom : ∀ b, b < w.heap.size → h b = none → h' b = none

theorem Keep.refl (h : Hp) (w : World) : Keep h w h w := ⟨rfl, rfl, rfl, Nat.le_refl _, fun _ _ _ => rfl, fun _ _ e => e⟩

theorem Keep.trans {h h1 h2 : Hp} {w w1 w2 : World} (a : Keep h w h1 w1) (b : Keep h1 w1 h2 w2) : Keep h w h2 w2 where
  os := b.os.trans a.os
  tape := b.tape.trans a.tape
  output := b.output.trans a.output
  size := Nat.le_trans a.size b.size
  old := fun i hi hn => (b.old i (Nat.lt_of_lt_of_le hi a.size) (a.dom i hi hn)).trans (a.old i hi hn)
  dom := fun i hi hn => b.dom i (Nat.lt_of_lt_of_le hi a.size) (a.dom i hi hn)

theorem Keep.less {h h1 h2 : Hp} {w w1 : World} (a : Keep h w h1 w1) (hl : ∀ b o, h2 b = some o → h1 b = some o) : Keep h w h2 w1 where
  os := a.os
  tape := a.tape
  output := a.output
  size := a.size
  old := a.old
  dom := fun i hi hn => by
    have := a.dom i hi hn
    cases h' : h2 i with
    | none => rfl
    | some o => rw [hl i o h'] at this; cases this

theorem View.less {h1 h2 : Hp} {w : World} (v : View h1 w) (hl : ∀ b o, h2 b = some o → h1 b = some o) : View h2 w := fun b o e => v b o (hl b o e)

theorem View.cell {h : Hp} {w : World} (V : View h w) {a : Addr} {v : Value} (e : h.cell? a = some v) : w.cell? a = some v := by
  unfold Hp.cell? at e
  unfold World.cell?
  cases hb : h a.block with
  | none => simp [hb] at e
  | some o => rw [V _ _ hb]; cases o <;> simp_all

theorem View.frozen {h : Hp} {w : World} (V : View h w) {a : Addr} {o : Obj} (e : h a.block = some o) : w.frozen? a = h.frozen? a := by
  unfold Hp.frozen? World.frozen?
  rw [V _ _ e, e]
  cases o <;> rfl

theorem View.frozen_of_cell {h : Hp} {w : World} (V : View h w) {a : Addr} {v : Value} (e : h.cell? a = some v) : w.frozen? a = h.frozen? a := by
  cases hb : h a.block with
  | none => simp [Hp.cell?, hb] at e
  | some o => exact V.frozen hb

theorem View.lt {h : Hp} {w : World} (V : View h w) {b : Nat} {o : Obj} (e : h b = some o) : b < w.heap.size :=
  (Array.getElem?_eq_some_iff.1 (V b o e)).1

theorem View.modify {h : Hp} {w w' : World} (V : View h w) {b : Nat} {o o' : Obj} (e : h b = some o)
    (hos : w'.os = w.os) (ht : w'.tape = w.tape) (ho : w'.output = w.output) (hs : w'.heap.size = w.heap.size)
    (hb : w'.heap[b]? = some o') (hne : ∀ i, i ≠ b → w'.heap[i]? = w.heap[i]?) :
    View (h.upd b o') w' ∧ Keep h w (h.upd b o') w' := by
  constructor
  · intro i u hu
    unfold Hp.upd at hu
    by_cases hi : i = b
    · subst hi; simp at hu; subst hu; exact hb
    · simp [hi] at hu; rw [hne i hi]; exact V i u hu
  · refine ⟨hos, ht, ho, by omega, fun i hi hn => ?_, fun i hi hn => ?_⟩
    · by_cases hib : i = b
      · subst hib; rw [e] at hn; cases hn
      · exact hne i hib
    · by_cases hib : i = b
      · subst hib; rw [e] at hn; cases hn
      · simp [Hp.upd, hib, hn]

theorem View.setCell {h : Hp} {w : World} (V : View h w) {a : Addr} {u : Value} (v : Value) (e : h.cell? a = some u) :
    View (h.setCell a v) (w.setCell a v) ∧ Keep h w (h.setCell a v) (w.setCell a v) := by
  unfold Hp.cell? at e
  unfold Hp.setCell
  cases hb : h a.block with
  | none => simp [hb] at e
  | some o =>
    cases o with
    | cells c el fr =>
      have hw := V _ _ hb
      refine V.modify hb rfl rfl rfl (by simp [World.setCell]) ?_ fun i hi => ?_
      · simp only [World.setCell, Array.getElem?_modify, if_true, hw, Option.map_some]
      · simp only [World.setCell, Array.getElem?_modify]; rw [if_neg (fun e => hi e.symm)]
    | _ => simp [hb] at e

theorem View.freeze {h : Hp} {w : World} (V : View h w) {a : Addr} {n : Nat} (e : n = 0 ∨ ∃ o, h a.block = some o) :
    View (h.freeze a n) (w.freeze a n) ∧ Keep h w (h.freeze a n) (w.freeze a n) := by
  unfold Hp.freeze World.freeze
  by_cases hn : n = 0
  · simp only [hn, if_true]; exact ⟨V, Keep.refl _ _⟩
  · simp only [hn, if_false]
    obtain ⟨o, hb⟩ := e.resolve_left hn
    have hw := V _ _ hb
    cases o with
    | cells c el fr =>
      obtain ⟨lo, hi⟩ := fr
      simp only [hb]
      refine V.modify hb rfl rfl rfl (by simp) ?_ fun i hi => ?_
      · simp only [Array.getElem?_modify, if_true, hw, Option.map_some]
      · simp only [Array.getElem?_modify]; rw [if_neg (fun e => hi e.symm)]
    | _ =>
      simp only [hb]
      constructor
      · intro i u hu
        rw [← V i u hu]
        simp only [Array.getElem?_modify]
        split
        · rename_i hi; subst hi; rw [hw]; rfl
        · rfl
      · refine ⟨rfl, rfl, rfl, by simp, fun i hi hn => ?_, fun i hi hn => hn⟩
        simp only [Array.getElem?_modify]
        split
        · rename_i hi; subst hi; rw [hw]; rfl
        · rfl

theorem View.new {h : Hp} {w : World} (V : View h w) (o : Obj) :
    h w.heap.size = none ∧ View (h.upd w.heap.size o) { w with heap := w.heap.push o } ∧ Keep h w (h.upd w.heap.size o) { w with heap := w.heap.push o } := by
  have hn : h w.heap.size = none := by
    cases hb : h w.heap.size with
    | none => rfl
    | some o => have := V.lt hb; omega
  refine ⟨hn, fun i u hu => ?_, ⟨rfl, rfl, rfl, by simp, fun i hi _ => ?_, fun i hi hn => ?_⟩⟩
  · unfold Hp.upd at hu
    by_cases hi : i = w.heap.size
    · subst hi; simp at hu; subst hu; simp
    · simp [hi] at hu
      have := V i u hu
      have hlt := V.lt hu
      simp [Array.getElem?_push, hi, this]
  · simp [Array.getElem?_push]; omega
  · have : i ≠ w.heap.size := by omega
    simp [Hp.upd, this, hn]

theorem run_store_one {P : Program} {α : Type} {m : Mode} {a : Addr} {v : Value} {k : Sem α} {w : World} (h : oneCell v = true) :
    Sem.run P (.store m a v k) w = (match w.cell? a with
    | some _ => if w.frozen? a then .halt (.unsupported (.unsafePointer "a write to bytes that a string shares")) w else k.run P (w.setCell a v)
    | none => match w.farStore P a v (m == .atomic) with
      | .ok (w, _) => k.run P w
      | .error h => .halt h w) := by
  cases v <;> first | rfl | (simp [oneCell] at h)

theorem arun_sound {P : Program} {α : Type} (s : Sem α) : ∀ {h : Hp} {w : World} {Q : α → Hp → Prop}, View h w → arun P s h Q →
    ∃ a w' h', s.run P w = .ok a w' ∧ View h' w' ∧ Keep h w h' w' ∧ Q a h' := by
  induction s with
  | pure a => intro h w Q V A; exact ⟨a, w, h, rfl, V, Keep.refl _ _, A⟩
  | load m a k ih =>
    intro h w Q V A
    obtain ⟨v, hv, A⟩ := A
    obtain ⟨x, w', h', r, V', K, q⟩ := ih v V A
    exact ⟨x, w', h', by simp only [Sem.run, V.cell hv]; exact r, V', K, q⟩
  | store m a v k ih =>
    intro h w Q V A
    obtain ⟨ho, ⟨u, hu⟩, hf, A⟩ := A
    obtain ⟨V1, K1⟩ := V.setCell v hu
    obtain ⟨x, w', h', r, V', K, q⟩ := ih V1 A
    refine ⟨x, w', h', ?_, V', K1.trans K, q⟩
    rw [run_store_one ho, V.cell hu]
    simp only [V.frozen_of_cell hu, hf, Bool.false_eq_true, if_false]
    exact r
  | new o k ih =>
    intro h w Q V A
    obtain ⟨hn, V1, K1⟩ := V.new o
    obtain ⟨x, w', h', r, V', K, q⟩ := ih _ V1 (A _ hn)
    exact ⟨x, w', h', by simp only [Sem.run]; exact r, V', K1.trans K, q⟩
  | shape r k ih =>
    intro h w Q V A
    obtain ⟨o, ho, A⟩ := A
    obtain ⟨x, w', h', r', V', K, q⟩ := ih _ V A
    have : w.shape? r = shapeOf o := by unfold World.shape?; rw [V _ _ ho]; cases o <;> rfl
    exact ⟨x, w', h', by simp only [Sem.run, this]; exact r', V', K, q⟩
  | freeze a n k ih =>
    intro h w Q V A
    obtain ⟨V1, K1⟩ := V.freeze A.1
    obtain ⟨x, w', h', r, V', K, q⟩ := ih V1 A.2
    exact ⟨x, w', h', by simp only [Sem.run]; exact r, V', K1.trans K, q⟩
  | frozen a k ih =>
    intro h w Q V A
    obtain ⟨⟨o, ho⟩, A⟩ := A
    obtain ⟨x, w', h', r, V', K, q⟩ := ih _ V A
    exact ⟨x, w', h', by simp only [Sem.run, V.frozen ho]; exact r, V', K, q⟩
  | getObj r k ih =>
    intro h w Q V A
    obtain ⟨o, ho, hr, A⟩ := A
    obtain ⟨x, w', h', r', V', K, q⟩ := ih _ V A
    refine ⟨x, w', h', ?_, V', K, q⟩
    simp only [Sem.run, V _ _ ho]
    cases o <;> first | exact r' | simp [isRow] at hr
  | setObj r o k ih =>
    intro h w Q V A
    obtain ⟨⟨o', ho, hr⟩, A⟩ := A
    have hlt := V.lt ho
    obtain ⟨V1, K1⟩ := V.modify (w' := { w with heap := w.heap.setIfInBounds r o }) (o' := o) ho rfl rfl rfl (by simp) (by simp [hlt]) (fun i hi => by
      simp [Array.getElem?_setIfInBounds_ne (Ne.symm hi)])
    obtain ⟨x, w', h', r', V', K, q⟩ := ih V1 A
    refine ⟨x, w', h', ?_, V', K1.trans K, q⟩
    simp only [Sem.run, V _ _ ho]
    cases o' <;> first | exact r' | simp [isRow] at hr
  | choose q k ih =>
    intro h w Q V A
    unfold arun at A
    by_cases hq : q.forced = true
    · simp only [hq, if_true] at A
      obtain ⟨x, w', h', r, V', K, q'⟩ := ih _ V A
      exact ⟨x, w', h', by simp only [Sem.run, hq, if_true]; exact r, V', K, q'⟩
    · simp only [hq, Bool.false_eq_true, if_false] at A
      obtain ⟨x, w', h', r, V', K, q'⟩ := ih _ (w := { w with drawn := w.drawn + 1 }) (fun b o e => V b o e) (A (w.tape w.drawn q))
      refine ⟨x, w', h', ?_, V', ⟨K.os, K.tape, K.output, K.size, K.old, K.dom⟩, q'⟩
      simp only [Sem.run, hq, Bool.false_eq_true, if_false]; exact r
  | sys c k ih => intro h w Q V A; exact A.elim
  | program k ih =>
    intro h w Q V A
    obtain ⟨x, w', h', r, V', K, q⟩ := ih P V A
    exact ⟨x, w', h', by simp only [Sem.run]; exact r, V', K, q⟩
  | mark m k ih =>
    intro h w Q V A
    obtain ⟨x, w', h', r, V', K, q⟩ := ih V A
    exact ⟨x, w', h', by simp only [Sem.run]; exact r, V', K, q⟩
  | halt x => intro h w Q V A; exact A.elim

theorem rrun_sound {P : Program} {α : Type} (s : Sem α) : ∀ {h : Hp} {w : World} {a : α}, View h w → rrun P s h = some a → s.run P w = .ok a w := by
  induction s with
  | pure a => intro h w b V A; simp only [rrun, Option.some.injEq] at A; subst A; rfl
  | load m a k ih =>
    intro h w b V A
    simp only [rrun] at A
    cases hc : h.cell? a with
    | none => simp [hc] at A
    | some v => simp only [hc] at A; simp only [Sem.run, V.cell hc]; exact ih v V A
  | shape r k ih =>
    intro h w b V A
    simp only [rrun] at A
    cases ho : h r with
    | none => simp [ho] at A
    | some o =>
      simp only [ho] at A
      have : w.shape? r = shapeOf o := by unfold World.shape?; rw [V _ _ ho]; cases o <;> rfl
      simp only [Sem.run, this]; exact ih _ V A
  | frozen a k ih =>
    intro h w b V A
    simp only [rrun] at A
    cases ho : h a.block with
    | none => simp [ho] at A
    | some o => simp only [ho] at A; simp only [Sem.run, V.frozen ho]; exact ih _ V A
  | getObj r k ih =>
    intro h w b V A
    simp only [rrun] at A
    cases ho : h r with
    | none => simp [ho] at A
    | some o =>
      simp only [ho] at A
      cases hr : isRow o with
      | true => simp [hr] at A
      | false =>
        simp only [hr] at A
        simp only [Sem.run, V _ _ ho]
        cases o <;> first | exact ih _ V A | simp [isRow] at hr
  | choose q k ih =>
    intro h w b V A
    simp only [rrun] at A
    by_cases hq : q.forced = true
    · simp only [hq, if_true] at A; simp only [Sem.run, hq, if_true]; exact ih _ V A
    · simp [hq] at A
  | program k ih => intro h w b V A; simp only [rrun] at A; simp only [Sem.run]; exact ih P V A
  | mark m k ih => intro h w b V A; simp only [rrun] at A; simp only [Sem.run]; exact ih V A
  | _ => intro h w b V A; simp [rrun] at A

theorem arun_of_rrun {P : Program} {α : Type} (s : Sem α) : ∀ {h : Hp} {Q : α → Hp → Prop} {a : α}, rrun P s h = some a → Q a h → arun P s h Q := by
  induction s with
  | pure a => intro h Q b A q; simp only [rrun, Option.some.injEq] at A; subst A; exact q
  | load m a k ih =>
    intro h Q b A q
    simp only [rrun] at A
    cases hc : h.cell? a with
    | none => simp [hc] at A
    | some v => simp only [hc] at A; exact ⟨v, hc, ih v A q⟩
  | shape r k ih =>
    intro h Q b A q
    simp only [rrun] at A
    cases ho : h r with
    | none => simp [ho] at A
    | some o => simp only [ho] at A; exact ⟨o, ho, ih _ A q⟩
  | frozen a k ih =>
    intro h Q b A q
    simp only [rrun] at A
    cases ho : h a.block with
    | none => simp [ho] at A
    | some o => simp only [ho] at A; exact ⟨⟨o, ho⟩, ih _ A q⟩
  | getObj r k ih =>
    intro h Q b A q
    simp only [rrun] at A
    cases ho : h r with
    | none => simp [ho] at A
    | some o =>
      simp only [ho] at A
      cases hr : isRow o with
      | true => simp [hr] at A
      | false => simp only [hr] at A; exact ⟨o, ho, hr, ih _ A q⟩
  | choose q k ih =>
    intro h Q b A q'
    simp only [rrun] at A
    by_cases hq : q.forced = true
    · simp only [hq, if_true] at A; unfold arun; simp only [hq, if_true]; exact ih _ A q'
    · simp [hq] at A
  | program k ih => intro h Q b A q; simp only [rrun] at A; exact ih P A q
  | mark m k ih => intro h Q b A q; simp only [rrun] at A; exact ih A q
  | _ => intro h Q b A q; simp [rrun] at A

theorem arun_mono {P : Program} {α : Type} (s : Sem α) : ∀ {h : Hp} {Q Q' : α → Hp → Prop}, (∀ a h, Q a h → Q' a h) → arun P s h Q → arun P s h Q' := by
  induction s with
  | pure a => intro h Q Q' q A; exact q _ _ A
  | load m a k ih => intro h Q Q' q A; obtain ⟨v, hv, A⟩ := A; exact ⟨v, hv, ih _ q A⟩
  | store m a v k ih => intro h Q Q' q A; exact ⟨A.1, A.2.1, A.2.2.1, ih q A.2.2.2⟩
  | new o k ih => intro h Q Q' q A b hb; exact ih _ q (A b hb)
  | shape r k ih => intro h Q Q' q A; obtain ⟨o, ho, A⟩ := A; exact ⟨o, ho, ih _ q A⟩
  | freeze a n k ih => intro h Q Q' q A; exact ⟨A.1, ih q A.2⟩
  | frozen a k ih => intro h Q Q' q A; exact ⟨A.1, ih _ q A.2⟩
  | getObj r k ih => intro h Q Q' q A; obtain ⟨o, ho, hr, A⟩ := A; exact ⟨o, ho, hr, ih _ q A⟩
  | setObj r o k ih => intro h Q Q' q A; exact ⟨A.1, ih q A.2⟩
  | choose q' k ih =>
    intro h Q Q' q A
    unfold arun at A ⊢
    by_cases hq : q'.forced = true
    · simp only [hq, if_true] at A ⊢; exact ih _ q A
    · simp only [hq, Bool.false_eq_true, if_false] at A ⊢; exact fun t => ih _ q (A t)
  | sys c k ih => intro h Q Q' q A; exact A.elim
  | program k ih => intro h Q Q' q A; exact ih _ q A
  | mark m k ih => intro h Q Q' q A; exact ih q A
  | halt x => intro h Q Q' q A; exact A.elim

theorem arun_bind {P : Program} {α β : Type} (s : Sem α) (f : α → Sem β) : ∀ {h : Hp} {Q : β → Hp → Prop}, arun P s h (fun a h' => arun P (f a) h' Q) → arun P (s.bind f) h Q := by
  induction s with
  | pure a => intro h Q A; exact A
  | load m a k ih => intro h Q A; obtain ⟨v, hv, A⟩ := A; exact ⟨v, hv, ih _ A⟩
  | store m a v k ih => intro h Q A; exact ⟨A.1, A.2.1, A.2.2.1, ih A.2.2.2⟩
  | new o k ih => intro h Q A b hb; exact ih _ (A b hb)
  | shape r k ih => intro h Q A; obtain ⟨o, ho, A⟩ := A; exact ⟨o, ho, ih _ A⟩
  | freeze a n k ih => intro h Q A; exact ⟨A.1, ih A.2⟩
  | frozen a k ih => intro h Q A; exact ⟨A.1, ih _ A.2⟩
  | getObj r k ih => intro h Q A; obtain ⟨o, ho, hr, A⟩ := A; exact ⟨o, ho, hr, ih _ A⟩
  | setObj r o k ih => intro h Q A; exact ⟨A.1, ih A.2⟩
  | choose q' k ih =>
    intro h Q A
    simp only [Sem.bind]
    unfold arun at A ⊢
    by_cases hq : q'.forced = true
    · simp only [hq, if_true] at A ⊢; exact ih _ A
    · simp only [hq, Bool.false_eq_true, if_false] at A ⊢; exact fun t => ih _ (A t)
  | sys c k ih => intro h Q A; exact A.elim
  | program k ih => intro h Q A; exact ih _ A
  | mark m k ih => intro h Q A; exact ih A
  | halt x => intro h Q A; exact A.elim

theorem rrun_bind {P : Program} {α β : Type} (s : Sem α) (f : α → Sem β) : ∀ {h : Hp} {a : α}, rrun P s h = some a → rrun P (s.bind f) h = rrun P (f a) h := by
  induction s with
  | pure a => intro h b A; simp only [rrun, Option.some.injEq] at A; subst A; rfl
  | load m a k ih =>
    intro h b A
    simp only [rrun] at A
    cases hc : h.cell? a with
    | none => simp [hc] at A
    | some v => simp only [hc] at A; simp only [Sem.bind, rrun, hc]; exact ih v A
  | shape r k ih =>
    intro h b A
    simp only [rrun] at A
    cases ho : h r with
    | none => simp [ho] at A
    | some o => simp only [ho] at A; simp only [Sem.bind, rrun, ho]; exact ih _ A
  | frozen a k ih =>
    intro h b A
    simp only [rrun] at A
    cases ho : h a.block with
    | none => simp [ho] at A
    | some o => simp only [ho] at A; simp only [Sem.bind, rrun, ho]; exact ih _ A
  | getObj r k ih =>
    intro h b A
    simp only [rrun] at A
    cases ho : h r with
    | none => simp [ho] at A
    | some o =>
      simp only [ho] at A
      cases hr : isRow o with
      | true => simp [hr] at A
      | false => simp only [hr] at A; simp only [Sem.bind, rrun, ho, hr]; exact ih _ A
  | choose q k ih =>
    intro h b A
    simp only [rrun] at A
    by_cases hq : q.forced = true
    · simp only [hq, if_true] at A; simp only [Sem.bind, rrun, hq, if_true]; exact ih _ A
    · simp [hq] at A
  | program k ih => intro h b A; simp only [rrun] at A; simp only [Sem.bind, rrun]; exact ih P A
  | mark m k ih => intro h b A; simp only [rrun] at A; simp only [Sem.bind, rrun]; exact ih A
  | _ => intro h b A; simp [rrun] at A

end Go.Proofs.Ytmbhlbohbpepaaa
