/- DUAL: the numbers of letters; what is told of a prefix. -/
import Derived.Test.YtpeoholnlokdcaaRows
import Derived.Test.YtpeoholnlokdcaaZ7

set_option linter.unusedSimpArgs false
set_option linter.unusedVariables false

namespace Go.Proofs.Ytpeoholnlokdcaa
open Go
set_option linter.unusedSimpArgs false
set_option linter.unusedVariables false
set_option maxRecDepth 20000

/-! ### Numbers -/
def lastL (f : Int → Nat) (out : List Lt) : Int → Nat := out.foldl (fun f l k => if k = l.to then l.seq else f k) f
theorem lastL_snoc {f : Int → Nat} {out : List Lt} {l : Lt} (k : Int) : lastL f (out ++ [l]) k = if k = l.to then l.seq else lastL f out k := by unfold lastL; rw [List.foldl_append]; rfl
structure NumI (f : Int → Nat) (s : DS) : Prop where
  ok : ∀ i l, s.out[i]? = some l → l.seq = inc32 (lastL f (s.out.take i) l.to)
  se : ∀ k l, getM s.lk k = some l → l.sent = lastL f s.out k
  up : ∀ l ∈ s.out, (getM s.lk l.to).isSome
theorem num_send {f : Int → Nat} {s : DS} {k code : Int} {ack : Nat} {p : PK} {w : Wy} (N : NumI f s) : NumI f (sendS s k code ack p w) := by
  unfold sendS
  split
  · rename_i l hk
    refine ⟨fun i x hx => ?_, fun j x hx => ?_, fun x hx => ?_⟩
    · simp only at hx ⊢
      rw [List.getElem?_append] at hx
      split at hx
      · rename_i hi
        rw [List.take_append_of_le_length (by omega)]
        exact N.ok i x hx
      · rename_i hi
        have : i - s.out.length = 0 := by
          cases h : i - s.out.length with
          | zero => rfl
          | succ m => rw [h] at hx; simp at hx
        rw [this] at hx
        simp at hx
        subst hx
        have hi2 : i = s.out.length := by omega
        rw [hi2, List.take_left]
        simp only
        rw [← N.se k l hk]
    · simp only at hx ⊢
      rw [lastL_snoc]
      simp only [getM_setM] at hx
      split at hx
      · rename_i e; cases hx; rw [if_pos e]
      · rename_i e; rw [if_neg e]; exact N.se j x hx
    · simp only at hx ⊢
      simp only [getM_setM]
      split
      · rfl
      · rename_i ne
        rcases List.mem_append.1 hx with m | m
        · exact N.up x m
        · simp at m; subst m; exact absurd rfl ne
  · exact N
theorem num_setK {f : Int → Nat} {s : DS} {p : PK} {y : Kn} (N : NumI f s) : NumI f (setK s p y) := ⟨N.ok, N.se, N.up⟩
theorem num_ask {f : Int → Nat} {s : DS} {k code : Int} {p : PK} {w : Wy} (N : NumI f s) : NumI f (askS p w code s k) := by
  unfold askS
  split
  · split
    · exact num_setK (num_send N)
    · exact N
  · exact num_send N
theorem num_asks {f : Int → Nat} {p : PK} {w : Wy} {code : Int} : ∀ {V : List Int} {s : DS}, NumI f s → NumI f (V.foldl (askS p w code) s)
  | [], _, N => N
  | k :: V, s, N => by rw [List.foldl_cons]; exact num_asks (num_ask N)
theorem num_least {f : Int → Nat} {s : DS} {p : PK} {code now : Int} (N : NumI f s) : NumI f (leastS s p code now) := by
  unfold leastS
  split
  · split
    · exact num_setK N
    · split
      · exact num_setK N
      · exact N
  · exact N
theorem num_settle {f : Int → Nat} {s : DS} {p : PK} (N : NumI f s) : NumI f (settleS s p) := by
  unfold settleS
  split
  · split
    · exact N
    · exact num_least (num_asks (num_setK N))
  · exact N
theorem num_fold {f : Int → Nat} {one : DS → PK → DS} (h : ∀ s p, NumI f s → NumI f (one s p)) : ∀ {V : List PK} {s : DS}, NumI f s → NumI f (V.foldl one s)
  | [], _, N => N
  | k :: V, s, N => by rw [List.foldl_cons]; exact num_fold h (h _ _ N)
theorem num_start {f : Int → Nat} {s : DS} (ho : s.out = []) (h : ∀ k l, getM s.lk k = some l → l.sent = f k) : NumI f s :=
  ⟨fun i l e => by rw [ho] at e; simp at e, fun k l e => by rw [ho]; exact h k l e, fun l e => by rw [ho] at e; cases e⟩
theorem num_addS {f : Int → Nat} {s : DS} {p : PK} (N : NumI f s) : NumI f (addS s p) := by
  unfold addS
  split
  · exact N
  · split
    · exact num_setK N
    · exact N

/-- Behind a call: letters are numbered, from the numbers ahead of it. -/
def from18 (s : DS) (o : Op18) (f : Int → Nat) : Int → Nat := if o.kd = 0 ∧ upOk s o.k o.v = true then fun k => if k = o.k then 0 else f k else f
theorem num_does {f : Int → Nat} {s : DS} {o : Op18} (ul : Uniq s.lk) (ho : s.out = []) (h : ∀ k l, getM s.lk k = some l → l.sent = f k) : NumI (from18 s o f) (does18 s o) := by
  have N := num_start ho h
  unfold does18 from18
  by_cases c0 : o.kd = 0
  · rw [if_pos c0]
    unfold upX
    by_cases c : upOk s o.k o.v = true
    · rw [if_pos ⟨c0, c⟩, if_pos c]
      refine num_fold (fun s p N => ?_) (num_start ho fun k l e => ?_)
      · unfold upOne
        split
        · split
          · exact num_send N
          · exact N
        · exact N
      · simp only [getM_setM] at e
        by_cases q : k = o.k
        · rw [if_pos q] at e ⊢; cases e; rfl
        · rw [if_neg q] at e ⊢; exact h k l e
    · rw [if_neg (fun q => c q.2), if_neg c]; exact N
  rw [if_neg c0, if_neg (fun q => c0 q.1)]
  split
  · unfold downX
    split
    · refine num_fold (fun s p N => ?_) (num_start ho fun k l e => ?_)
      · unfold downOne
        split
        · exact num_settle (num_setK N)
        · exact N
      · rw [getM_delM ul] at e
        split at e
        · cases e
        · exact h k l e
    · exact N
  · split
    · unfold ownS
      split
      · split
        · exact num_settle (num_setK (num_addS N))
        · exact N
      · exact N
    · split
      · unfold dropS
        split
        · split
          · exact N
          · exact num_settle (num_setK N)
        · exact N
      · split
        · unfold hearS
          split
          · have N1 : NumI f (gotS s o.k o.l.seq) := by
              refine num_start (by rw [got_px.2.2.1]; exact ho) fun k l e => ?_
              unfold gotS at e
              split at e
              · rename_i g hg
                simp only [getM_setM] at e
                split at e
                · rename_i q; cases e; subst q; exact h _ g hg
                · exact h k l e
              · exact h k l e
            have N2 : NumI f (repS (gotS s o.k o.l.seq) o.k o.l.p o.l.v o.l.tg) := by
              unfold repS
              split
              · split
                · exact num_setK (num_addS N1)
                · exact num_addS N1
              · split
                · exact num_setK N1
                · exact N1
            have N3 : NumI f (replyS (repS (gotS s o.k o.l.seq) o.k o.l.p o.l.v o.l.tg) o.k o.l) := by
              unfold replyS
              split
              · exact num_send N2
              · exact N2
            unfold endS
            split
            · refine num_settle ?_
              split
              · exact num_setK N3
              · exact N3
            · exact N3
          · exact N
        · split
          · refine num_fold (fun s p N => ?_) N
            unfold againOne
            split
            · exact num_asks N
            · exact N
          · exact N

/-! ### What is told of a prefix -/
theorem hasT0 {d : Int} : hasT 0 d = false := hasT00
structure FeI (dom : Int) (L : List Op18) (s : DS) : Prop where
  d : s.dom = dom
  own : ∀ p y w, getM s.px p = some y → y.own = some w → hasT w.tg dom = false ∧ reachV w.v = true ∧ w.nx = 0 ∧ w.tg < 2 ^ 16
  rep : ∀ p y k r, getM s.px p = some y → getM y.rep k = some r → hasT r.tg dom = false ∧ r.tg < 2 ^ 16 ∧ ∃ o ∈ L, o.kd = 4 ∧ o.k = k ∧ o.p = p ∧ o.v = r.v ∧ o.tg = r.tg
  ur : ∀ p y, getM s.px p = some y → Uniq y.rep
theorem FeI.more {dom : Int} {L L' : List Op18} {s : DS} (I : FeI dom L s) (h : ∀ o ∈ L, o ∈ L') : FeI dom L' s :=
  ⟨I.d, I.own, fun p y k r h1 h2 => by obtain ⟨a, b, o, c, d⟩ := I.rep p y k r h1 h2; exact ⟨a, b, o, h o c, d⟩, I.ur⟩
theorem FeI.lk {dom : Int} {L : List Op18} {s t : DS} (I : FeI dom L s) (h : t.px = s.px) (hd : t.dom = s.dom) : FeI dom L t :=
  ⟨hd.trans I.d, fun p y w h1 => I.own p y w (by rw [← h]; exact h1), fun p y k r h1 => I.rep p y k r (by rw [← h]; exact h1), fun p y h1 => I.ur p y (by rw [← h]; exact h1)⟩
theorem FeI.setK {dom : Int} {L : List Op18} {s : DS} {p : PK} {y : Kn} (I : FeI dom L s) (h1 : ∀ w, y.own = some w → hasT w.tg dom = false ∧ reachV w.v = true ∧ w.nx = 0 ∧ w.tg < 2 ^ 16)
    (h2 : ∀ k r, getM y.rep k = some r → hasT r.tg dom = false ∧ r.tg < 2 ^ 16 ∧ ∃ o ∈ L, o.kd = 4 ∧ o.k = k ∧ o.p = p ∧ o.v = r.v ∧ o.tg = r.tg) (h3 : Uniq y.rep) : FeI dom L (setK s p y) := by
  refine ⟨I.d, fun q z w hz => ?_, fun q z k r hz => ?_, fun q z hz => ?_⟩
  all_goals
    unfold Ytpeoholnlokdcaa.setK at hz
    simp only [getM_setM] at hz
    split at hz
  · cases hz; exact h1 w
  · exact I.own q z w hz
  · rename_i e; cases hz; subst e; exact h2 k r
  · exact I.rep q z k r hz
  · cases hz; exact h3
  · exact I.ur q z hz
theorem FeI.setK' {dom : Int} {L : List Op18} {s : DS} {p : PK} {y z : Kn} (I : FeI dom L s) (hz : getM s.px p = some z) (h1 : y.own = z.own) (h2 : y.rep = z.rep) : FeI dom L (Ytpeoholnlokdcaa.setK s p y) :=
  I.setK (fun w e => I.own p z w hz (by rw [← h1]; exact e)) (fun k r e => I.rep p z k r hz (by rw [← h2]; exact e)) (by rw [h2]; exact I.ur p z hz)
theorem FeI.send {dom : Int} {L : List Op18} {s : DS} {k code : Int} {ack : Nat} {p : PK} {w : Wy} (I : FeI dom L s) : FeI dom L (sendS s k code ack p w) := I.lk sendS_px (same_send (s := s)).dom
theorem FeI.ask {dom : Int} {L : List Op18} {s : DS} {k code : Int} {p : PK} {w : Wy} (I : FeI dom L s) : FeI dom L (askS p w code s k) := by
  unfold askS
  split
  · split
    · rename_i y hy
      exact I.send.setK' (z := y) (by rw [sendS_px]; exact hy) rfl rfl
    · exact I
  · exact I.send
theorem FeI.asks {dom : Int} {L : List Op18} {p : PK} {w : Wy} {code : Int} : ∀ {V : List Int} {s : DS}, FeI dom L s → FeI dom L (V.foldl (askS p w code) s)
  | [], _, I => I
  | k :: V, s, I => by rw [List.foldl_cons]; exact FeI.asks I.ask
theorem FeI.least {dom : Int} {L : List Op18} {s : DS} {p : PK} {code now : Int} (I : FeI dom L s) : FeI dom L (leastS s p code now) := by
  unfold leastS
  split
  · rename_i y hy
    split
    · exact I.setK' hy rfl rfl
    · split
      · exact I.setK' hy rfl rfl
      · exact I
  · exact I
theorem FeI.settle {dom : Int} {L : List Op18} {s : DS} {p : PK} (I : FeI dom L s) : FeI dom L (settleS s p) := by
  unfold settleS
  split
  · rename_i y hy
    split
    · exact I
    · exact (FeI.asks (I.setK' (y := { y with told := wayS s.lk y }) (z := y) hy rfl rfl)).least
  · exact I
theorem FeI.fold {dom : Int} {L : List Op18} {one : DS → PK → DS} (h : ∀ s p, FeI dom L s → FeI dom L (one s p)) : ∀ {V : List PK} {s : DS}, FeI dom L s → FeI dom L (V.foldl one s)
  | [], _, N => N
  | k :: V, s, N => by rw [List.foldl_cons]; exact FeI.fold h (h _ _ N)
theorem FeI.add {dom : Int} {L : List Op18} {s : DS} {p : PK} (I : FeI dom L s) : FeI dom L (addS s p) := by
  unfold addS
  split
  · exact I
  · split
    · exact I.setK (fun w e => by cases e) (fun k r e => by simp [kn0, getM_nil] at e) (by simp [kn0, Uniq])
    · exact I
theorem closeK_own {y : Kn} {k : Int} : (closeK y k).own = y.own ∧ (closeK y k).rep = y.rep := by unfold closeK; split <;> exact ⟨rfl, rfl⟩
theorem FeI.del {dom : Int} {L : List Op18} {s : DS} {p : PK} {y : Kn} {k : Int} (I : FeI dom L s) (hy : getM s.px p = some y) {y1 : Kn} (h1 : y1.own = y.own) (h2 : y1.rep = delM k y.rep) : FeI dom L (Ytpeoholnlokdcaa.setK s p y1) := by
  refine I.setK (fun w e => I.own p y w hy (by rw [← h1]; exact e)) (fun j r e => ?_) (by rw [h2]; exact (I.ur p y hy).del)
  rw [h2, getM_delM (I.ur p y hy)] at e
  split at e
  · cases e
  · exact I.rep p y j r hy e
theorem fe_does {dom : Int} {L : List Op18} {s : DS} {o : Op18} (go : o.Good) (I : FeI dom L s) : FeI dom (L ++ [o]) (outS (does18 s o)) := by
  have I' := I.more (L' := L ++ [o]) (fun x hx => by simp [hx])
  refine FeI.lk (s := does18 s o) ?_ rfl rfl
  unfold does18
  split
  · unfold upX
    split
    · refine FeI.fold (fun s p I => ?_) (I'.lk rfl rfl)
      unfold upOne
      split
      · split
        · exact I.send
        · exact I
      · exact I
    · exact I'
  · split
    · unfold downX
      split
      · refine FeI.fold (fun s p I => ?_) (I'.lk rfl rfl)
        unfold downOne
        split
        · rename_i y hy
          exact (I.del (k := o.k) (y1 := closeK { y with rep := delM o.k y.rep } o.k) hy closeK_own.1 closeK_own.2).settle
        · exact I
      · exact I'
    · split
      · unfold ownS
        split
        · rename_i he
          split
          · rename_i y hy
            refine (I'.add.setK (y := { y with own := some ⟨o.v, o.tg, 0⟩ }) (fun w e => ?_) (fun k r e => I'.add.rep _ y k r hy e) (I'.add.ur _ y hy)).settle
            simp only [Option.some.injEq] at e
            subst e
            unfold ownErr at he
            split at he
            · cases he
            · rename_i h1
              split at he
              · cases he
              · rename_i h2
                rw [I.d] at h2
                refine ⟨by simpa using h2, ?_, rfl, go.tg⟩
                cases hr : reachV o.v with
                | true => rfl
                | false => exact absurd (.inr hr) h1
          · exact I'
        · exact I'
      · split
        · unfold dropS
          split
          · rename_i y hy
            split
            · exact I'
            · exact (I'.setK (y := { y with own := none }) (fun w e => by cases e) (fun k r e => I'.rep _ y k r hy e) (I'.ur _ y hy)).settle
          · exact I'
        · split
          · rename_i hk
            unfold hearS
            split
            · have I1 : FeI dom (L ++ [o]) (gotS s o.k o.l.seq) := I'.lk got_px.1 got_px.2.2.2
              have I2 : FeI dom (L ++ [o]) (repS (gotS s o.k o.l.seq) o.k o.l.p o.l.v o.l.tg) := by
                unfold repS
                split
                · rename_i hf
                  split
                  · rename_i y hy
                    refine I1.add.setK (fun w e => I1.add.own _ y w hy e) (fun k r e => ?_) (I1.add.ur _ y hy).set
                    rw [getM_setM] at e
                    split at e
                    · rename_i q
                      cases e
                      unfold repFine at hf
                      rw [got_px.2.2.2, I.d] at hf
                      simp at hf
                      exact ⟨hf.2, go.tg, o, by simp, hk, q.symm, rfl, rfl, rfl⟩
                    · exact I1.add.rep _ y k r hy e
                  · exact I1.add
                · split
                  · rename_i y hy
                    exact I1.del hy rfl rfl
                  · exact I1
              have I3 : FeI dom (L ++ [o]) (replyS (repS (gotS s o.k o.l.seq) o.k o.l.p o.l.v o.l.tg) o.k o.l) := by
                unfold replyS
                split
                · exact I2.send
                · exact I2
              unfold endS
              split
              · rename_i y hy
                refine FeI.settle ?_
                split
                · exact I3.setK' hy closeK_own.1 closeK_own.2
                · exact I3
              · exact I3
            · exact I'
          · split
            · refine FeI.fold (fun s p I => ?_) I'
              unfold againOne
              split
              · exact I.asks
              · exact I
            · exact I'

theorem takeW_from {acc : Option Wy} {c w : Wy} (h : takeW acc c = some w) : acc = some w ∨ (c = w ∧ reachV c.v = true) := by
  unfold takeW at h
  cases hr : reachV c.v with
  | false => rw [hr] at h; simp at h; exact .inl h
  | true =>
    rw [hr] at h
    cases acc with
    | none => simp at h; exact .inr ⟨h, rfl⟩
    | some b =>
      simp only [Bool.true_and] at h
      split at h
      · exact .inr ⟨by simpa using h, rfl⟩
      · exact .inl h
theorem bstep_from {m : List (Int × Ln)} {y : Kn} {below : Int} {k : Int} {acc : Option Wy} {w : Wy} (h : bstep m y below acc k = some w) : acc = some w ∨ ∃ l r, getM y.rep k = some r ∧ ofV r.v < below ∧ w = candW l r k ∧ reachV w.v = true := by
  unfold bstep at h
  split at h
  · rename_i l r h1 h2
    split at h
    · exact .inl h
    · rename_i h3
      rcases takeW_from h with e | ⟨e, e2⟩
      · exact .inl e
      · subst e
        exact .inr ⟨l, r, h2, by omega, rfl, e2⟩
  · exact .inl h
theorem best_from {m : List (Int × Ln)} {y : Kn} {below : Int} {w : Wy} : ∀ {V : List Int} {acc : Option Wy}, V.foldl (bstep m y below) acc = some w → acc = some w ∨ ∃ k l r, getM y.rep k = some r ∧ ofV r.v < below ∧ w = candW l r k ∧ reachV w.v = true
  | [], acc, h => .inl h
  | k :: V, acc, h => by
    rw [List.foldl_cons] at h
    rcases best_from h with q | q
    · rcases bstep_from q with e | ⟨l, r, e⟩
      · exact .inl e
      · exact .inr ⟨k, l, r, e⟩
    · exact .inr q
/-- Each route that is taken. -/
theorem fe_all {dom : Int} {L : List Op18} {s : DS} (I : FeI dom L s) : ∀ r ∈ allR s (pfx s.px), hasT r.tg dom = false ∧ r.tg < 2 ^ 16 ∧ r.m < 4294967295 ∧ (r.nx = 0 ∨ ∃ o ∈ L, o.kd = 4 ∧ o.k = r.nx ∧ o.p = (r.a, r.l) ∧ ofV o.v < leastOf s (r.a, r.l) ∧ o.tg = r.tg) := by
  intro r hr
  unfold allR at hr
  obtain ⟨p, _, hp⟩ := List.mem_flatMap.1 hr
  unfold allOne at hp
  cases hy : getM s.px p with
  | none => rw [hy] at hp; cases hp
  | some y =>
    rw [hy] at hp
    simp only at hp
    cases hb : bestS s.lk y y.least with
    | none => rw [hb] at hp; cases hp
    | some w =>
      rw [hb] at hp
      simp at hp
      subst hp
      have bd := ofV_bounds (v := w.v)
      have hl : leastOf s p = y.least := by unfold leastOf; rw [hy]
      rcases best_from hb with e | ⟨k, l, r, e1, e2, e3, e4⟩
      · obtain ⟨h1, h2, h3, h4⟩ := I.own p y w hy e
        have := bd.2.2 h2
        exact ⟨h1, h4, by show ofV w.v < 4294967295; omega, .inl h3⟩
      · obtain ⟨h1, h2, o, ho, h3, h4, h5, h6, h7⟩ := I.rep p y k r hy e1
        have := bd.2.2 e4
        subst e3
        refine ⟨h1, h2, by show ofV (candW l r k).v < 4294967295; omega, .inr ⟨o, ho, h3, h4, h5, ?_, h7⟩⟩
        rw [h6]
        show ofV r.v < leastOf s p
        rw [hl]; exact e2
end Go.Proofs.Ytpeoholnlokdcaa

/- DualAnswers: a query that is newer than all that was heard of a neighbour is answered at once, by a reply of its number. -/
namespace Go.Proofs.Ytpeoholnlokdcaa
open Go
set_option linter.unusedSimpArgs false
set_option linter.unusedVariables false
set_option maxRecDepth 20000

/-- A DUAL that no older heap knows. -/
structure Fresh (h0 g : Hp) (L : RM) (x : DPt) (s : DS) : Prop where
  live : Live g L x s
  le : Le h0 g
  n : ∀ r y, L r = some y → h0 y = none
theorem Fresh.next {h0 g g' : Hp} {L L' : RM} {x : DPt} {s s' : DS} {l : List Lt} {w : Value} (F : Fresh h0 g L x s) (T : TQ g L x s' l w g' L') (A : Live g' L' x s') : Fresh h0 g' L' x s' := ⟨A, (T.leN F.le F.n).1, (T.leN F.le F.n).2⟩
theorem Fresh.le' {h0 g g' : Hp} {L : RM} {x : DPt} {s : DS} (F : Fresh h0 g L x s) (l : Le g g') : Fresh h0 g' L x s := ⟨F.live.le' l, F.le.trans l, F.n⟩

def AnInv (h0 : Hp) (x : DPt) (lv : Value) (l : List Op18) (k : Int) (b9 : Nat) (n : Nat) (env : Env) (g : Hp) : Prop :=
  ∃ (i : Nat) (L : RM) (s : DS), i + n = l.length ∧ Fresh h0 g L x s ∧ env 2 = lv ∧ env 3 = .int .i64 k ∧ env 9 = .pointer (some ⟨b9, 0, none⟩) ∧ env 12 = ptrV x.p ∧ env 13 = .int .i64 (i : Nat)
def AnIn1 (g0 : Hp) (w : Value) (X : List Lt) (k : Int) (b9 : Nat) (n : Nat) (env : Env) (g : Hp) : Prop :=
  ∃ j : Nat, j + n = X.length ∧ g = g0 ∧ env 3 = .int .i64 k ∧ env 9 = .pointer (some ⟨b9, 0, none⟩) ∧ env 14 = w ∧ env 16 = .int .i64 (if j = 0 then 0 else 1) ∧ env 17 = .int .i64 (j : Nat)

set_option maxHeartbeats 4000000 in
theorem DualAnswers_walk {h : Hp} {dom most k : Int} {lv : Value} {l : List Op18} {q : Lt} (A : ArgSl h 12 Op18.enc Op18.Good lv l) (hp : q.p.1 < 2 ^ 32) (ht : q.tg < 2 ^ 16) :
    Ok Try.prog F_octroilaw18_DualAnswers #[.int .i64 dom, .int .i64 most, lv, .int .i64 k, q.val] h (fun v g => v = .bool true ∧ Le h g) := by
  refine octroilaw18_DualAnswers_ok (by simp) ?_
  unfold octroilaw18_DualAnswers_D
  obtain ⟨ap, acap, hlv⟩ := A.shape
  simp (disch := omega) [octroilaw18_DualAnswers_r0]
  intro b9 hb9
  have lb : Le h (h.upd b9 (.cells q.cells T_letter)) := .new hb9
  have f9 : (h.upd b9 (.cells q.cells T_letter)) b9 = some (.cells q.cells T_letter (0, 0)) := upd_same
  show octroilaw18_DualAnswers_r1 _ (h.upd b9 (.cells q.cells T_letter)) _
  generalize h.upd b9 (.cells q.cells T_letter) = h0 at *
  simp (disch := omega) [octroilaw18_DualAnswers_r1]
  refine awake18 (fun h2 l2 => ?_)
  simp (disch := omega) [octroilaw18_DualAnswers_r2]
  refine dnewM (fun L3 x h3 l3 n3 A3 => ?_)
  have F3 : Fresh h0 h3 L3 x (new18 dom most) := ⟨.new A3, l2.trans l3, fun r y e => none_of_le l2 (n3 r y e)⟩
  by_cases g1 : 120 < (l.length : Int)
  · simp (disch := omega) [octroilaw18_DualAnswers_r3, octroilaw18_DualAnswers_r4, hlv, g1]
    exact .to _ (.refl _) ⟨rfl, lb.trans F3.le⟩
  simp (disch := omega) [octroilaw18_DualAnswers_r3, octroilaw18_DualAnswers_r5, hlv, g1]
  refine ⟨AnInv h0 x lv l k b9, ⟨l.length, 0, L3, _, by omega, F3, by simp [hlv], by simp, by simp, by simp, by simp⟩, ?_⟩
  clear F3 A3 n3 l3 l2
  rintro n env g ⟨i, L, s, hin, F, e2, e3, e9, e12, e13⟩
  unfold octroilaw18_DualAnswers_L0
  by_cases hm : n = 0
  · have : i = l.length := by omega
    subst this
    simp (disch := omega) [octroilaw18_DualAnswers_r6, e2, e13, hlv]
    have f9g := F.le _ _ f9
    have o9 : ∀ r, L r ≠ some b9 := fun r e => by rw [F.n r b9 e] at f9; cases f9
    simp (disch := omega) [octroilaw18_DualAnswers_r9, e9, f9g]
    generalize hq2 : ({ q with code := 2 } : Lt) = q2
    have hc2 : q2.code = 2 := by rw [← hq2]
    have eq1 : q2.p = q.p ∧ q2.seq = q.seq := by rw [← hq2]; exact ⟨rfl, rfl⟩
    have ht2 : q2.tg < 2 ^ 16 := by rw [← hq2]; exact ht
    show octroilaw18_DualAnswers_r10 _ (g.upd b9 (.cells ({ q with code := 2 } : Lt).cells T_letter (0, 0))) _
    rw [hq2]
    have A5 : DualAt (g.upd b9 (.cells q2.cells T_letter (0, 0))) L x s := F.live.at_.putL o9 _
    have f95 : (g.upd b9 (.cells q2.cells T_letter (0, 0))) b9 = some (.cells q2.cells T_letter (0, 0)) := upd_same
    have l5 : Le h (g.upd b9 (.cells q2.cells T_letter (0, 0))) := fun y o e => by rw [upd_ne (ne_new e hb9)]; exact F.le _ _ (lb _ _ e)
    generalize g.upd b9 (.cells q2.cells T_letter (0, 0)) = g5 at *
    have hlk := F.live.lkl
    simp (disch := omega) [octroilaw18_DualAnswers_r10, e3, e9, e12, f95]
    refine dhearM (l := q2) A5 F.live.ok.out (by omega) (by rw [eq1.1]; exact hp) ht2 (fun w g6 L6 T => ?_)
    have n0 : ∀ r y, L r = some y → h y = none := fun r y e => none_of_le lb (F.n r y e)
    have l6 := (T.leN l5 n0).1
    obtain ⟨wp, wcap, hw⟩ := T.sl.shape'
    have f96 := T.fr.keep _ _ f95 o9
    cases ok : hearOk s k q2 with
    | false =>
      have he := hear_err.2 ok
      have hX : (hearS s k q2).out = [] := by rw [hear_none ok]; exact F.live.ok.out
      rw [hX] at hw
      rcases he with he | he
      · simp (disch := omega) [octroilaw18_DualAnswers_r11, octroilaw18_DualAnswers_r12, he, hw]
        exact .to _ (.refl _) ⟨rfl, l6⟩
      · simp (disch := omega) [octroilaw18_DualAnswers_r11, octroilaw18_DualAnswers_r12, he, hw]
        exact .to _ (.refl _) ⟨rfl, l6⟩
    | true =>
      have he : hearErr s k q2 ≠ 1 ∧ hearErr s k q2 ≠ 5 := by
        constructor <;> intro q3
        · have := hear_err.1 (.inl q3); rw [ok] at this; cases this
        · have := hear_err.1 (.inr q3); rw [ok] at this; cases this
      obtain ⟨rest, rn, rw_, hX, hrest⟩ := hear_out F.live.ok.out ok
      rw [if_pos hc2] at hX
      have S6 := T.sl
      have hXl : (hearS s k q2).out.length ≤ 1000000 := by
        unfold hearS
        rw [ok, if_pos rfl]
        unfold endS
        have h0 : (repS (gotS s k q2.seq) k q2.p q2.v q2.tg).out = [] := by rw [repS_lk.2, got_px.2.2.1, F.live.ok.out]
        have h1 : (repS (gotS s k q2.seq) k q2.p q2.v q2.tg).lk.length ≤ 1000 := by
          rw [repS_lk.1]
          unfold gotS
          split
          · rename_i f hf; simp only [setM_length, hf]; simp; omega
          · omega
        generalize repS (gotS s k q2.seq) k q2.p q2.v q2.tg = s1 at *
        have h2 : (replyS s1 k q2).out.length ≤ 1 ∧ (replyS s1 k q2).lk.length = s1.lk.length := by
          unfold replyS
          rw [if_pos hc2]
          have := sendS_out (s := s1) (k := k) (code := 3) (ack := q2.seq) (p := q2.p) (w := toldOf s1 q2.p)
          rw [h0] at this
          exact ⟨by simpa using this, sendS_len⟩
        generalize replyS s1 k q2 = s2 at *
        split
        · refine Nat.le_trans settleS_out ?_
          split
          · show s2.out.length + s2.lk.length ≤ 1000000; omega
          · omega
        · omega
      rw [hX] at S6 hw hXl
      generalize hXX : ([⟨k, 3, rn, q2.seq, q2.p, rw_.v, rw_.tg⟩] ++ rest : List Lt) = X at *
      simp (disch := omega) [octroilaw18_DualAnswers_r11, he.1, he.2]
      simp (disch := omega) [octroilaw18_DualAnswers_r13, octroilaw18_DualAnswers_r14]
      have hXpos : 0 < X.length := by rw [← hXX]; simp
      refine ⟨AnIn1 g6 w X k b9, ⟨X.length, 0, by omega, rfl, by simp [e3], by simp [e9], by simp, by simp, by simp⟩, ?_⟩
      clear e2 e3 e9 e12 e13
      rintro n2 env2 g7 ⟨j, hjn, rfl, e3, e9, e14, e16, e17⟩
      unfold octroilaw18_DualAnswers_L1
      by_cases hm2 : n2 = 0
      · have : j = X.length := by omega
        subst this
        rw [if_neg (by omega)] at e16
        simp (disch := omega) [octroilaw18_DualAnswers_r15, octroilaw18_DualAnswers_r21, e14, e16, e17, hw]
        exact .to _ (.refl _) ⟨rfl, l6⟩
      · obtain ⟨y, hy⟩ : ∃ y, X[j]? = some y := ⟨_, List.getElem?_eq_getElem (by omega)⟩
        have hj' : j < X.length := by omega
        obtain ⟨bb, cap, c, ew, hbb, t0, t1, t2, t3, t4, t5, t6, t7, t8, t9⟩ := lt_at S6 hy
        by_cases hj0 : j = 0
        · subst hj0
          have ey : y = ⟨k, 3, rn, q2.seq, q2.p, rw_.v, rw_.tg⟩ := by rw [← hXX] at hy; simpa using hy.symm
          subst ey
          rw [if_pos rfl] at e16
          simp at t0 t1 t3 t4 t5
          simp (disch := omega) [octroilaw18_DualAnswers_r15, e14, e17, ew, hXpos]
          simp (disch := omega) [octroilaw18_DualAnswers_r16, e14, e17, ew, hXpos, hbb, t1]
          simp (disch := omega) [octroilaw18_DualAnswers_r17, octroilaw18_DualAnswers_r18, e3, e9, e14, e16, e17, ew, hXpos, hbb, t0, t3, t4, t5, f96, wrap_i64]
          simp (disch := omega) [octroilaw18_DualAnswers_r20, e17, wrap_i64]
          exact ⟨n2 - 1, by omega, 1, by omega, rfl, by simp [e3], by simp [e9], by simp [e14, ew], by simp, by simp⟩
        · rw [if_neg hj0] at e16
          have hmem : y ∈ rest := by
            rw [← hXX] at hy
            cases j with
            | zero => exact absurd rfl hj0
            | succ j => exact List.mem_of_getElem? (by simpa using hy)
          have hc := (hrest y hmem).1
          have hc3 : ¬ y.code = 3 := by omega
          simp (disch := omega) [octroilaw18_DualAnswers_r15, e14, e17, ew, hj']
          simp (disch := omega) [octroilaw18_DualAnswers_r16, e14, e17, ew, hj', hbb, t1, hc3]
          simp (disch := omega) [octroilaw18_DualAnswers_r20, e17, wrap_i64]
          exact ⟨n2 - 1, by omega, j + 1, by omega, rfl, by simp [e3], by simp [e9], by simp [e14, ew], by simp [e16], by simp⟩
  · obtain ⟨o, ho⟩ : ∃ o, l[i]? = some o := ⟨_, List.getElem?_eq_getElem (by omega)⟩
    obtain ⟨og, ob, oo, ocap, c, E, fr, rfl, hob, c0, c1, c2, c3, c4, c5, c6, c7, c8, c9, c10, c11⟩ := op18_at A ho
    have hi' : i < l.length := by omega
    have hob' := F.le _ _ (lb _ _ hob)
    simp (disch := omega) [octroilaw18_DualAnswers_r6, e2, e13, hi']
    simp (disch := omega) [octroilaw18_DualAnswers_r7, e2, e12, e13, hi', hob', c0, c1, c2, c3, c4, c5, c6, c7, c8, c9, c10, c11]
    refine dopM F.live og (fun w g5 L5 T A5 => ?_)
    simp (disch := omega) [octroilaw18_DualAnswers_r8, e13, wrap_i64]
    exact ⟨n - 1, by omega, i + 1, L5, _, by omega, F.next T A5, by simp [e2], by simp [e3], by simp [e9], by simp [e12], by simp⟩
end Go.Proofs.Ytpeoholnlokdcaa

/- DualNumbers: the letters to a neighbour have numbers one behind the other, from 1 on behind each coming up; none is sent to one that is not up. -/
namespace Go.Proofs.Ytpeoholnlokdcaa
open Go
set_option linter.unusedSimpArgs false
set_option linter.unusedVariables false
set_option maxRecDepth 20000

/-! ### How many -/
theorem hear_len {s : DS} {k : Int} {l : Lt} (ho : s.out = []) : (hearS s k l).out.length ≤ 1 + s.lk.length := by
  unfold hearS
  split
  · have h0 : (repS (gotS s k l.seq) k l.p l.v l.tg).out = [] := by rw [repS_lk.2, got_px.2.2.1, ho]
    have h1 : (repS (gotS s k l.seq) k l.p l.v l.tg).lk.length = s.lk.length := by
      rw [repS_lk.1]
      unfold gotS
      split
      · rename_i f hf; simp only [setM_length, hf]; rfl
      · rfl
    generalize repS (gotS s k l.seq) k l.p l.v l.tg = s1 at *
    have h2 : (replyS s1 k l).out.length ≤ 1 ∧ (replyS s1 k l).lk.length = s1.lk.length := by
      unfold replyS
      split
      · have := sendS_out (s := s1) (k := k) (code := 3) (ack := l.seq) (p := l.p) (w := toldOf s1 l.p)
        rw [h0] at this
        exact ⟨by simpa using this, sendS_len⟩
      · rw [h0]; exact ⟨by simp, rfl⟩
    generalize replyS s1 k l = s2 at *
    unfold endS
    split
    · refine Nat.le_trans settleS_out ?_
      split
      · show s2.out.length + s2.lk.length ≤ _; omega
      · omega
    · omega
  · rw [ho]; simp
theorem again_len : ∀ {V : List PK} {s : DS}, OpnIn s → (∀ p y, getM s.px p = some y → Uniq y.opn) → (V.foldl againOne s).out.length ≤ s.out.length + V.length * s.lk.length
  | [], s, _, _ => by simp
  | p :: V, s, o, u => by
    rw [List.foldl_cons, List.length_cons, Nat.add_mul]
    have S := same_againOne (p := p) o
    have hu : ∀ q z, getM (againOne s p).px q = some z → Uniq z.opn := by
      unfold againOne
      split
      · exact uo_asks u
      · exact u
    have h1 := again_len (V := V) (S.oi o) hu
    have h2 : (againOne s p).lk.length = s.lk.length := againOne_ok.len s p
    have h3 : (againOne s p).out.length ≤ s.out.length + s.lk.length := by
      unfold againOne
      split
      · rename_i y hy
        have := asks_out (p := p) (w := y.told) (code := 2) (V := srtI (y.opn.map (·.1))) (s := s)
        rw [srtI_length, List.length_map] at this
        have := len_of_sub (u p y hy) (o p y hy)
        omega
      · omega
    rw [h2] at h1
    omega
theorem does_len {h : Hp} {L : RM} {x : DPt} {s : DS} {o : Op18} (A : Live h L x s) : (does18 s o).out.length ≤ 100000 := by
  have hl := A.lkl
  have hp := A.ok.pl
  have ho := A.ok.out
  have hp' : s.px.length ≤ 64 := by omega
  unfold does18
  split
  · unfold upX
    split
    · rename_i c
      have := upOne_ok.outs (upOne_out (k := o.k)) (V := pfx s.px) (s := { s with lk := setM o.k ⟨o.v, 0, 0⟩ s.lk })
      have h2 : (setM o.k (⟨o.v, 0, 0⟩ : Ln) s.lk).length ≤ 33 := by rw [setM_length]; split <;> omega
      have h3 : (pfx s.px).length * (({ s with lk := setM o.k ⟨o.v, 0, 0⟩ s.lk } : DS).lk.length + 1) ≤ 64 * 34 := Nat.mul_le_mul (by rw [pfx_length]; exact hp') (by show (setM o.k (⟨o.v, 0, 0⟩ : Ln) s.lk).length + 1 ≤ 34; omega)
      have e0 : ({ s with lk := setM o.k ⟨o.v, 0, 0⟩ s.lk } : DS).out.length = 0 := by show s.out.length = 0; rw [ho]; rfl
      rw [e0] at this
      unfold upS
      omega
    · rw [ho]; simp
  · split
    · unfold downX
      split
      · have := downOne_ok.outs (downOne_out (k := o.k)) (V := pfx s.px) (s := { s with lk := delM o.k s.lk })
        have h2 : (delM o.k s.lk).length ≤ 32 := by rw [delM_length]; split <;> omega
        have h3 : (pfx s.px).length * (({ s with lk := delM o.k s.lk } : DS).lk.length + 1) ≤ 64 * 33 := Nat.mul_le_mul (by rw [pfx_length]; exact hp') (by show (delM o.k s.lk).length + 1 ≤ 33; omega)
        have e0 : ({ s with lk := delM o.k s.lk } : DS).out.length = 0 := by show s.out.length = 0; rw [ho]; rfl
        rw [e0] at this
        unfold downS
        omega
      · rw [ho]; simp
    · split
      · unfold ownS
        split
        · split
          · rename_i y hy
            refine Nat.le_trans settleS_out ?_
            show (addS s o.p).out.length + (addS s o.p).lk.length ≤ 100000
            rw [addS_dom.2.2, addS_dom.2.1, ho]; simp; omega
          · rw [ho]; simp
        · rw [ho]; simp
      · split
        · unfold dropS
          split
          · split
            · rw [ho]; simp
            · refine Nat.le_trans settleS_out ?_
              show s.out.length + s.lk.length ≤ 100000
              rw [ho]; simp; omega
          · rw [ho]; simp
        · split
          · have := hear_len (k := o.k) (l := o.l) ho; omega
          · split
            · have := again_len (V := pfx s.px) A.ok.oi A.uo
              have h3 : (pfx s.px).length * s.lk.length ≤ 64 * 32 := Nat.mul_le_mul (by rw [pfx_length]; exact hp') hl
              unfold againS
              simp only [ho, List.length_nil] at this
              omega
            · rw [ho]; simp
/-- Which links there are behind a call. -/
theorem does_lk {s : DS} {o : Op18} (ul : Uniq s.lk) (oi : OpnIn s) {k : Int} (h : (getM (does18 s o).lk k).isSome) : ((getM s.lk k).isSome ∧ ¬ (o.kd = 1 ∧ k = o.k)) ∨ (o.kd = 0 ∧ upOk s o.k o.v = true ∧ k = o.k) := by
  unfold does18 at h
  split at h
  · rename_i c
    unfold upX at h
    split at h
    · rename_i c2
      have S : Same { s with lk := setM o.k ⟨o.v, 0, 0⟩ s.lk } (upS s o.k o.v) := same_ups
      rw [S.lk] at h
      rcases setM_isSome h with q | q
      · exact .inr ⟨c, c2, q⟩
      · exact .inl ⟨q, fun z => by omega⟩
    · exact .inl ⟨h, fun z => by omega⟩
  · split at h
    · rename_i c
      unfold downX at h
      split at h
      · have hlk : ∀ j, (getM (downS s o.k).lk j).isSome = (getM (delM o.k s.lk) j).isSome := fun j => downOne_ok.lks j
        rw [hlk] at h
        refine .inl ⟨delM_isSome h, fun z => ?_⟩
        rw [getM_delM ul, if_pos z.2] at h; cases h
      · rename_i c2
        exact .inl ⟨h, fun z => c2 (by rw [← z.2]; exact h)⟩
    · rename_i c0 c1
      refine .inl ⟨?_, fun z => c1 z.1⟩
      split at h
      · unfold ownS at h
        split at h
        · split at h
          · rw [settleS_lk] at h
            rw [show (setK (addS s o.p) o.p _).lk = (addS s o.p).lk from rfl, addS_dom.2.1] at h
            exact h
          · exact h
        · exact h
      · split at h
        · unfold dropS at h
          split at h
          · split at h
            · exact h
            · rw [settleS_lk] at h; exact h
          · exact h
        · split at h
          · unfold hearS at h
            split at h
            · rw [end_same.lk, reply_same.lk, repS_lk.1, got_lk] at h; exact h
            · exact h
          · by_cases c5 : o.kd = 5
            · rw [if_pos c5] at h
              unfold againS at h
              rw [(same_agains oi).lk] at h; exact h
            · rw [if_neg c5] at h; exact h

theorem ms_b {h : Hp} {k : Value → Hp → Prop} : arun Try.prog (Instr.makeSlice 57 (.int .i64 33) (.int .i64 33)) h k = nw h (.cells (Array.replicate 33 (.bool false)) 4) fun b h => k (.slice (some ⟨b, 0, none⟩) 33 33) h := by kernel_rfl
theorem ms_u {h : Hp} {k : Value → Hp → Prop} : arun Try.prog (Instr.makeSlice 58 (.int .i64 33) (.int .i64 33)) h k = nw h (.cells (Array.replicate 33 (.int .u32 0)) 33) fun b h => k (.slice (some ⟨b, 0, none⟩) 33 33) h := by kernel_rfl

/-- What the two lists say of the links: up, and numbers. -/
structure NuL (t : DS) (f : Int → Nat) (bc uc : Array Value) : Prop where
  b : bc.size = 33
  u : uc.size = 33
  up : ∀ k, (getM t.lk k).isSome → bc[k.toNat]? = some (.bool true) ∧ uc[k.toNat]? = some (.int .u32 (f k : Nat))

structure NuE (x : DPt) (lv : Value) (bb ub : Nat) (env : Env) : Prop where
  e1 : env 1 = lv
  e6 : env 6 = ptrV x.p
  e7 : env 7 = .slice (some ⟨bb, 0, none⟩) 33 33
  e8 : env 8 = .slice (some ⟨ub, 0, none⟩) 33 33
structure NuH (h0 g : Hp) (L : RM) (x : DPt) (s : DS) (bb ub : Nat) (bc uc : Array Value) : Prop where
  live : Live g L x s
  le : Le h0 g
  n : ∀ r y, L r = some y → h0 y = none ∧ y ≠ bb ∧ y ≠ ub
  fb : g bb = some (.cells bc 4 (0, 0))
  fu : g ub = some (.cells uc 33 (0, 0))
  nbu : bb ≠ ub
  hb : h0 bb = none
  hu : h0 ub = none

def NuInv (h0 : Hp) (x : DPt) (lv : Value) (l : List Op18) (bb ub : Nat) (n : Nat) (env : Env) (g : Hp) : Prop :=
  ∃ (i : Nat) (L : RM) (s : DS) (bc uc : Array Value) (f : Int → Nat), i + n = l.length ∧ NuH h0 g L x s bb ub bc uc ∧ NuL s f bc uc ∧ (∀ k l, getM s.lk k = some l → l.sent = f k) ∧ NuE x lv bb ub env ∧ env 9 = .int .i64 (i : Nat)
def NuIn0 (h0 : Hp) (L : RM) (x : DPt) (s : DS) (lv w : Value) (X : List Lt) (f : Int → Nat) (bb ub : Nat) (bc : Array Value) (i : Nat) (n : Nat) (env : Env) (g : Hp) : Prop :=
  ∃ (j : Nat) (uc : Array Value), j + n = X.length ∧ NuH h0 g L x s bb ub bc uc ∧ NuL s (lastL f (X.take j)) bc uc ∧ SlAt g T_letter 10 Lt.enc w X ∧ (∀ b, blkOf w = some b → b ≠ bb ∧ b ≠ ub) ∧ NuE x lv bb ub env ∧ env 9 = .int .i64 (i : Nat) ∧ env 10 = w ∧ env 13 = .int .i64 (j : Nat)

theorem NuH.putB {h0 g : Hp} {L : RM} {x : DPt} {s : DS} {bb ub : Nat} {bc uc bc' : Array Value} (H : NuH h0 g L x s bb ub bc uc) : NuH h0 (g.upd bb (.cells bc' 4 (0, 0))) L x s bb ub bc' uc :=
  ⟨⟨H.live.at_.putL (fun r e => (H.n r bb e).2.1 rfl) _, H.live.ok⟩, fun y o e => by rw [upd_ne (ne_new e H.hb)]; exact H.le _ _ e, H.n, upd_same, by rw [upd_ne H.nbu.symm]; exact H.fu, H.nbu, H.hb, H.hu⟩
theorem NuH.putU {h0 g : Hp} {L : RM} {x : DPt} {s : DS} {bb ub : Nat} {bc uc uc' : Array Value} (H : NuH h0 g L x s bb ub bc uc) : NuH h0 (g.upd ub (.cells uc' 33 (0, 0))) L x s bb ub bc uc' :=
  ⟨⟨H.live.at_.putL (fun r e => (H.n r ub e).2.2 rfl) _, H.live.ok⟩, fun y o e => by rw [upd_ne (ne_new e H.hu)]; exact H.le _ _ e, H.n, by rw [upd_ne H.nbu]; exact H.fb, upd_same, H.nbu, H.hb, H.hu⟩
theorem set_get {c : Array Value} {i j : Nat} {v : Value} : (c.setIfInBounds i v)[j]? = if j = i then (if i < c.size then some v else none) else c[j]? := by
  by_cases e : j = i
  · subst e
    rw [if_pos rfl]
    by_cases h : j < c.size
    · simp [h]
    · simp [h]
  · rw [if_neg e, Array.getElem?_setIfInBounds_ne (Ne.symm e)]
end Go.Proofs.Ytpeoholnlokdcaa

/- DualNumbers: the walk. -/
namespace Go.Proofs.Ytpeoholnlokdcaa
open Go
set_option linter.unusedSimpArgs false
set_option linter.unusedVariables false
set_option maxRecDepth 20000

section
variable {h0 : Hp} {x : DPt} {lv w : Value} {l : List Op18} {bb ub : Nat}
abbrev nuRest (Q : Value → Hp → Prop) (n : Nat) (h0 : Hp) (x : DPt) (lv : Value) (l : List Op18) (bb ub : Nat) : Post :=
  inBlk 1 (thenK (rg octroilaw18_DualNumbers_r23) (roundK (NuInv h0 x lv l bb ub) n (inBlk 0 (thenK (sq (rg octroilaw18_DualNumbers_r24) (ex .ret)) (fin Try.prog [.tmp 4] Q)))))

set_option maxHeartbeats 4000000 in
/-- The letters of a call. -/
theorem nuInner {Q : Value → Hp → Prop} {L : RM} {t : DS} {X : List Lt} {f : Int → Nat} {bc uc : Array Value} {i n : Nat} {env : Env} {g : Hp} (hX : X.length ≤ 100000) (hn : n ≠ 0) (hin : i + n = l.length)
    (hok : ∀ j y, X[j]? = some y → y.seq = inc32 (lastL f (X.take j) y.to)) (hup : ∀ y ∈ X, (getM t.lk y.to).isSome) (hse : ∀ k l, getM t.lk k = some l → l.sent = lastL f X k) (hil : i < 1000)
    (H : NuH h0 g L x t bb ub bc uc) (N : NuL t f bc uc) (S : SlAt g T_letter 10 Lt.enc w X) (nw : ∀ b, blkOf w = some b → b ≠ bb ∧ b ≠ ub) (E : NuE x lv bb ub env) (e9 : env 9 = .int .i64 (i : Nat)) (e10 : env 10 = w) :
    (sq (rg octroilaw18_DualNumbers_r16) (blk 2 (lp octroilaw18_DualNumbers_L0))) (nuRest Q n h0 x lv l bb ub) env g := by
  obtain ⟨sp, cap, hw⟩ := S.shape'
  simp (disch := omega) [octroilaw18_DualNumbers_r16]
  refine ⟨NuIn0 h0 L x t lv w X f bb ub bc i, ⟨X.length, 0, uc, by omega, H, N, S, nw, ⟨by simp [E.e1], by simp [E.e6], by simp [E.e7], by simp [E.e8]⟩, by simp [e9], by simp [e10], by simp⟩, ?_⟩
  clear H N E e9 e10 S
  rintro n2 env g ⟨j, uc, hjn, H, N, S, nw, ⟨e1, e6, e7, e8⟩, e9, e10, e13⟩
  unfold octroilaw18_DualNumbers_L0
  by_cases hm : n2 = 0
  · have : j = X.length := by omega
    subst this
    rw [List.take_of_length_le (Nat.le_refl _)] at N
    simp (disch := omega) [octroilaw18_DualNumbers_r17, e10, e13, hw]
    simp (disch := omega) [octroilaw18_DualNumbers_r23, e9, wrap_i64]
    exact ⟨n - 1, by omega, i + 1, L, t, bc, uc, lastL f X, by omega, H, N, hse, ⟨by simp [e1], by simp [e6], by simp [e7], by simp [e8]⟩, by simp⟩
  · obtain ⟨y, hy⟩ : ∃ y, X[j]? = some y := ⟨_, List.getElem?_eq_getElem (by omega)⟩
    have hj' : j < X.length := by omega
    obtain ⟨lb, lcap, c, ew, hlb, t0, t1, t2, t3, t4, t5, t6, t7, t8, t9⟩ := lt_at S hy
    have hyu := hup y (List.mem_of_getElem? hy)
    obtain ⟨k1, k2⟩ := H.live.ok.ks y.to hyu
    obtain ⟨gb, gu⟩ := N.up y.to hyu
    have hseq := hok j y hy
    subst ew
    have nlb := nw lb rfl
    have fb := H.fb
    have fu := H.fu
    have hto : ((y.to.toNat : Nat) : Int) = y.to := by omega
    generalize hkn : y.to.toNat = kn at *
    rw [← hto] at t0
    have hk33 : kn < 33 := by omega
    have hkc : (kn : Int) < 33 := by omega
    have k1' : ¬ (kn : Int) < 1 := by omega
    have k2' : ¬ (32 : Int) < (kn : Int) := by omega
    simp (disch := omega) [octroilaw18_DualNumbers_r17, e10, e13, hj']
    simp (disch := omega) [octroilaw18_DualNumbers_r18, e10, e13, hj', hlb, t0]
    have hq : (y.seq : Int) = ((inc32 (lastL f (X.take j) y.to) : Nat) : Int) := by rw [hseq]
    simp (disch := omega) [octroilaw18_DualNumbers_r19, e7, e8, e10, e13, hj', hlb, fb, fu, gb, gu, t2, inc_wrap, hk33, hkc, k1', k2', hq]
    simp (disch := omega) [octroilaw18_DualNumbers_r21, e7, e8, e10, e13, hj', hlb, fu, gu, t2, hk33, hkc]
    simp (disch := omega) [octroilaw18_DualNumbers_r22, e13, wrap_i64]
    have H' := H.putU (uc' := uc.setIfInBounds kn (.int .u32 (y.seq : Nat)))
    refine ⟨n2 - 1, by omega, j + 1, uc.setIfInBounds kn (.int .u32 (y.seq : Nat)), by omega, H', ⟨N.b, by simp [N.u], fun k hk => ?_⟩, S.keep (fun z ob e e2 => by
      cases e; rw [upd_ne nlb.2]; exact e2), nw, ⟨by simp [e1], by simp [e6], by simp [e7], by simp [e8]⟩, by simp [e9], by simp [e10], by simp⟩
    obtain ⟨q1, q2⟩ := N.up k hk
    refine ⟨q1, ?_⟩
    rw [take_snoc hy, lastL_snoc, set_get]
    obtain ⟨r1, r2⟩ := H.live.ok.ks k hk
    by_cases c1 : k = y.to
    · rw [if_pos c1, if_pos (by rw [c1]; exact hkn), if_pos (by rw [N.u]; exact hk33)]
    · rw [if_neg c1, if_neg (by omega)]; exact q2

set_option maxHeartbeats 8000000 in
theorem DualNumbers_walk {h : Hp} {dom : Int} (A : ArgSl h 12 Op18.enc Op18.Good lv l) :
    Ok Try.prog F_octroilaw18_DualNumbers #[.int .i64 dom, lv] h (fun v g => v = .bool true ∧ Le h g) := by
  refine octroilaw18_DualNumbers_ok (by simp) ?_
  unfold octroilaw18_DualNumbers_D
  obtain ⟨ap, acap, hlv⟩ := A.shape
  simp (disch := omega) [octroilaw18_DualNumbers_r0, octroilaw18_DualNumbers_r1]
  refine awake18 (fun h2 l2 => ?_)
  simp (disch := omega) [octroilaw18_DualNumbers_r2]
  refine dnewM (fun L3 x h3 l3 n3 A3 => ?_)
  by_cases g1 : 120 < (l.length : Int)
  · simp (disch := omega) [octroilaw18_DualNumbers_r3, octroilaw18_DualNumbers_r4, hlv, g1]
    exact .to _ (.refl _) ⟨rfl, l2.trans l3⟩
  simp (disch := omega) [octroilaw18_DualNumbers_r3, octroilaw18_DualNumbers_r5, hlv, g1, ms_b]
  intro bb hbb
  simp (disch := omega) [octroilaw18_DualNumbers_r6, ms_u]
  intro ub hub
  obtain ⟨nub, hub'⟩ := upd_none hub
  have hle : Le h h3 := l2.trans l3
  have hbb0 : h bb = none := none_of_le hle hbb
  have hub0 : h ub = none := none_of_le hle hub'
  have A4 := (Live.new A3 : Live h3 L3 x (new18 dom 64))
  have lb := (Le.new (o := .cells (Array.replicate 33 (.bool false)) 4) hbb).trans (Le.new (o := .cells (Array.replicate 33 (.int .u32 0)) 33) hub)
  have H0 : NuH h ((h3.upd bb (.cells (Array.replicate 33 (.bool false)) 4)).upd ub (.cells (Array.replicate 33 (.int .u32 0)) 33)) L3 x (new18 dom 64) bb ub (Array.replicate 33 (.bool false)) (Array.replicate 33 (.int .u32 0)) :=
    ⟨A4.le' lb, hle.trans lb, fun r y e => ⟨none_of_le l2 (n3 r y e), (by rintro rfl; exact A3.out_ hbb r e), (by rintro rfl; exact A3.out_ hub' r e)⟩, by rw [upd_ne (Ne.symm nub)]; exact upd_same, upd_same, Ne.symm nub, hbb0, hub0⟩
  simp (disch := omega) [octroilaw18_DualNumbers_r7]
  refine ⟨NuInv h x lv l bb ub, ⟨l.length, 0, L3, new18 dom 64, _, _, fun _ => 0, by omega, H0, ⟨by simp, by simp, fun k e => by simp [new18, getM_nil] at e⟩, fun k l e => by simp [new18, getM_nil] at e, ⟨by simp [hlv], by simp, by simp, by simp⟩, by simp⟩, ?_⟩
  clear H0 A4 A3 n3 l3 l2 lb hbb hub hub' hle
  rintro n env g ⟨i, L, s, bc, uc, f, hin, H, N, hf, ⟨e1, e6, e7, e8⟩, e9⟩
  unfold octroilaw18_DualNumbers_L1
  by_cases hm : n = 0
  · have : i = l.length := by omega
    subst this
    simp (disch := omega) [octroilaw18_DualNumbers_r8, octroilaw18_DualNumbers_r24, e1, e9, hlv]
    exact .to _ (.refl _) ⟨rfl, H.le⟩
  · obtain ⟨o, ho⟩ : ∃ o, l[i]? = some o := ⟨_, List.getElem?_eq_getElem (by omega)⟩
    obtain ⟨og, ob, oo, ocap, c, E, fr, rfl, hob, c0, c1, c2, c3, c4, c5, c6, c7, c8, c9, c10, c11⟩ := op18_at A ho
    have hi' : i < l.length := by omega
    have hob' := H.le _ _ hob
    simp (disch := omega) [octroilaw18_DualNumbers_r8, e1, e9, hi']
    simp (disch := omega) [octroilaw18_DualNumbers_r9, e1, e6, e9, hi', hob', c0, c1, c2, c3, c4, c5, c6, c7, c8, c9, c10, c11]
    refine dopM H.live og (fun w g5 L5 T A5 => ?_)
    have hob5 := T.fr.keep _ _ hob' (fun r q => by rw [(H.n r ob q).1] at hob; cases hob)
    have fb5 := T.fr.keep _ _ H.fb (fun r q => (H.n r bb q).2.1 rfl)
    have fu5 := T.fr.keep _ _ H.fu (fun r q => (H.n r ub q).2.2 rfl)
    have nw : ∀ b, blkOf w = some b → b ≠ bb ∧ b ≠ ub := fun b e => by
      rcases T.nw b e with ⟨r, q⟩ | q
      · exact (H.n r b q).2
      · exact ⟨(by rintro rfl; rw [H.fb] at q; cases q), (by rintro rfl; rw [H.fu] at q; cases q)⟩
    have H5 : NuH h g5 L5 x (outS (does18 s o)) bb ub bc uc := by
      refine ⟨A5, (T.leN H.le (fun r y e => (H.n r y e).1)).1, fun r y e => ?_, fb5, fu5, H.nbu, H.hb, H.hu⟩
      rcases T.fr.new r y e with ⟨r', q⟩ | q
      · exact H.n r' y q
      · exact ⟨none_of_le H.le q, (by rintro rfl; rw [H.fb] at q; cases q), (by rintro rfl; rw [H.fu] at q; cases q)⟩
    have NI := num_does (o := o) H.live.at_.ul H.live.ok.out hf
    have hXl := does_len (o := o) H.live
    have lk := fun k => does_lk (o := o) (k := k) H.live.at_.ul H.live.ok.oi
    have S5 := T.sl
    have hks := A5.ok.ks
    generalize hX : (does18 s o).out = X at *
    have h0 : (outS (does18 s o)).lk = (does18 s o).lk := rfl
    have hok := NI.ok
    rw [hX] at hok
    have hup : ∀ y ∈ X, (getM (outS (does18 s o)).lk y.to).isSome := fun y hy => NI.up y (by rw [hX]; exact hy)
    have hse : ∀ k l, getM (outS (does18 s o)).lk k = some l → l.sent = lastL (from18 s o f) X k := fun k l e => by rw [← hX]; exact NI.se k l e
    have hil : i < 1000 := by omega
    -- the letters
    have go : ∀ (env2 : Env) (g6 : Hp) (bc' uc' : Array Value), NuH h g6 L5 x (outS (does18 s o)) bb ub bc' uc' → SlAt g6 T_letter 10 Lt.enc w X → NuL (outS (does18 s o)) (from18 s o f) bc' uc' → NuE x (.slice (some ⟨ob, oo, none⟩) l.length ocap) bb ub env2 → env2 9 = .int .i64 (i : Nat) → env2 10 = w →
        (sq (rg octroilaw18_DualNumbers_r16) (blk 2 (lp octroilaw18_DualNumbers_L0))) (nuRest (fun v g => v = .bool true ∧ Le h g) n h x (.slice (some ⟨ob, oo, none⟩) l.length ocap) l bb ub) env2 g6 :=
      fun env2 g6 bc' uc' H6 S6 N6 E6 e9 e10 => nuInner hXl hm hin hok hup hse hil H6 N6 S6 nw E6 e9 e10
    simp (disch := omega) [octroilaw18_DualNumbers_r10, e1, e9, hi', hob5, c1]
    by_cases d0 : o.kd = 0
    · have hE : err18 s o = upErr s o.k o.v := by unfold err18; rw [if_pos d0]
      have hd1 : ¬ o.kd = 1 := by omega
      unfold upErr at hE
      by_cases d1 : upOk s o.k o.v = true
      · rw [if_pos d1] at hE
        have hF : from18 s o f = fun k => if k = o.k then 0 else f k := by unfold from18; rw [if_pos ⟨d0, d1⟩]
        have d2 := d1
        unfold upOk at d2
        simp only [Bool.and_eq_true, decide_eq_true_eq] at d2
        have hko : 1 ≤ o.k ∧ o.k ≤ 32 := ⟨d2.1.1.1, d2.1.1.2⟩
        have hko0 : 0 ≤ o.k := by omega
        have hko3 : o.k < 33 := by omega
        have hkn3 : o.k.toNat < 33 := by omega
        have gb : ∃ v, bc[o.k.toNat]? = some v := ⟨_, Array.getElem?_eq_getElem (by rw [N.b]; exact hkn3)⟩
        have gu : ∃ v, uc[o.k.toNat]? = some v := ⟨_, Array.getElem?_eq_getElem (by rw [N.u]; exact hkn3)⟩
        obtain ⟨vb, gb⟩ := gb
        obtain ⟨vu, gu⟩ := gu
        simp (disch := omega) [octroilaw18_DualNumbers_r11, e1, e9, hi', hob5, c0, d0, hE]
        simp (disch := omega) [octroilaw18_DualNumbers_r12, e7, hko0, hko3, fb5, gb]
        have nbu' : ¬ ub = bb := Ne.symm H.nbu
        simp (disch := omega) [octroilaw18_DualNumbers_r13, e8, hko0, hko3, fu5, gu, nbu']
        have hob6 : ((g5.upd bb (.cells (bc.setIfInBounds o.k.toNat (.bool true)) 4 (0, 0))).upd ub (.cells (uc.setIfInBounds o.k.toNat (.int .u32 0)) 33 (0, 0))) ob = some (.cells c E fr) := by
          rw [upd_ne (ne_new hob H.hu), upd_ne (ne_new hob H.hb)]; exact hob5
        have H6 := (H5.putB (bc' := bc.setIfInBounds o.k.toNat (.bool true))).putU (uc' := uc.setIfInBounds o.k.toNat (.int .u32 0))
        have S6 : SlAt ((g5.upd bb (.cells (bc.setIfInBounds o.k.toNat (.bool true)) 4 (0, 0))).upd ub (.cells (uc.setIfInBounds o.k.toNat (.int .u32 0)) 33 (0, 0))) T_letter 10 Lt.enc w X := S5.keep fun z ob e e2 => by
          rw [upd_ne (nw z e).2, upd_ne (nw z e).1]; exact e2
        generalize (g5.upd bb (.cells (bc.setIfInBounds o.k.toNat (.bool true)) 4 (0, 0))).upd ub (.cells (uc.setIfInBounds o.k.toNat (.int .u32 0)) 33 (0, 0)) = g6 at *
        simp (disch := omega) [octroilaw18_DualNumbers_r14, e1, e9, hi', hob6, c0, d0]
        refine go _ g6 _ _ H6 S6 ⟨by simp [N.b], by simp [N.u], fun k hk => ?_⟩ ⟨by simp [e1], by simp [e6], by simp [e7], by simp [e8]⟩ ?_ ?_
        · obtain ⟨r1, r2⟩ := hks k hk
          rw [hF, set_get, set_get]
          by_cases c1 : k = o.k
          · simp only [c1, if_true]
            rw [if_pos (by rw [N.b]; exact hkn3), if_pos (by rw [N.u]; exact hkn3)]
            exact ⟨rfl, rfl⟩
          · rw [if_neg (by omega), if_neg (by omega)]
            simp only [if_neg c1]
            rcases lk k hk with q | q
            · exact N.up k q.1
            · exact absurd q.2.2 c1
        · simp [e9]
        · simp
      · rw [if_neg d1] at hE
        have hF : from18 s o f = f := by unfold from18; rw [if_neg (fun q => d1 q.2)]
        simp (disch := omega) [octroilaw18_DualNumbers_r11, e1, e9, hi', hob5, c0, d0, hE]
        simp (disch := omega) [octroilaw18_DualNumbers_r14, e1, e9, hi', hob5, c0, d0]
        refine go _ g5 _ _ H5 S5 ⟨N.b, N.u, fun k hk => ?_⟩ ⟨by simp [e1], by simp [e6], by simp [e7], by simp [e8]⟩ ?_ ?_
        · rw [hF]
          rcases lk k hk with q | q
          · exact N.up k q.1
          · exact absurd q.2.1 d1
        · simp [e9]
        · simp
    · have hF : from18 s o f = f := by unfold from18; rw [if_neg (fun q => d0 q.1)]
      have NL : NuL (outS (does18 s o)) (from18 s o f) bc uc := ⟨N.b, N.u, fun k hk => by
        rw [hF]
        rcases lk k hk with q | q
        · exact N.up k q.1
        · exact absurd q.1 d0⟩
      simp (disch := omega) [octroilaw18_DualNumbers_r11, e1, e9, hi', hob5, c0, d0]
      by_cases d1 : o.kd = 1
      · by_cases d2 : o.k < 1
        · have d2' : ¬ 1 ≤ o.k := by omega
          simp (disch := omega) [octroilaw18_DualNumbers_r14, e1, e9, hi', hob5, c0, d1, d2, d2']
          refine go _ g5 _ _ H5 S5 NL ⟨by simp [e1], by simp [e6], by simp [e7], by simp [e8]⟩ ?_ ?_ <;> simp [e9]
        by_cases d3 : 32 < o.k
        · have d2' : 1 ≤ o.k := by omega
          have d3' : ¬ o.k ≤ 32 := by omega
          simp (disch := omega) [octroilaw18_DualNumbers_r14, e1, e9, hi', hob5, c0, d1, d2, d2', d3, d3']
          refine go _ g5 _ _ H5 S5 NL ⟨by simp [e1], by simp [e6], by simp [e7], by simp [e8]⟩ ?_ ?_ <;> simp [e9]
        have d2' : 1 ≤ o.k := by omega
        have d3' : o.k ≤ 32 := by omega
        have hko0 : 0 ≤ o.k := by omega
        have hko3 : o.k < 33 := by omega
        have hkn3 : o.k.toNat < 33 := by omega
        have gb : ∃ v, bc[o.k.toNat]? = some v := ⟨_, Array.getElem?_eq_getElem (by rw [N.b]; exact hkn3)⟩
        obtain ⟨vb, gb⟩ := gb
        simp (disch := omega) [octroilaw18_DualNumbers_r14, e1, e9, hi', hob5, c0, d1, d2, d2', d3, d3']
        simp (disch := omega) [octroilaw18_DualNumbers_r15, e7, hko0, hko3, fb5, gb]
        have H6 := H5.putB (bc' := bc.setIfInBounds o.k.toNat (.bool false))
        have S6 : SlAt (g5.upd bb (.cells (bc.setIfInBounds o.k.toNat (.bool false)) 4 (0, 0))) T_letter 10 Lt.enc w X := S5.keep fun z ob e e2 => by
          rw [upd_ne (nw z e).1]; exact e2
        refine go _ _ _ _ H6 S6 ⟨by simp [N.b], N.u, fun k hk => ?_⟩ ⟨by simp [e1], by simp [e6], by simp [e7], by simp [e8]⟩ ?_ ?_
        · obtain ⟨r1, r2⟩ := hks k hk
          rcases lk k hk with q | q
          · have c1 : k ≠ o.k := fun z => q.2 ⟨d1, z⟩
            rw [set_get, if_neg (by omega), hF]
            exact N.up k q.1
          · exact absurd q.1 d0
        · simp [e9]
        · simp
      · simp (disch := omega) [octroilaw18_DualNumbers_r14, e1, e9, hi', hob5, c0, d1]
        refine go _ g5 _ _ H5 S5 NL ⟨by simp [e1], by simp [e6], by simp [e7], by simp [e8]⟩ ?_ ?_ <;> simp [e9]
end
end Go.Proofs.Ytpeoholnlokdcaa

/- DualWaits: the walk. -/
namespace Go.Proofs.Ytpeoholnlokdcaa
open Go
set_option linter.unusedSimpArgs false
set_option linter.unusedVariables false
set_option maxRecDepth 20000

def WaInv (h0 : Hp) (x : DPt) (lv : Value) (l : List Op18) (b5 : Nat) (n : Nat) (env : Env) (g : Hp) : Prop :=
  ∃ (i : Nat) (L : RM) (s : DS), i + n = l.length ∧ Fresh h0 g L x s ∧ env 1 = lv ∧ env 5 = .pointer (some ⟨b5, 0, none⟩) ∧ env 8 = ptrV x.p ∧ env 9 = .int .i64 (i : Nat)
def WaIn (g0 : Hp) (x : DPt) (lv w : Value) (X : List Lt) (b5 i : Nat) (n : Nat) (env : Env) (g : Hp) : Prop :=
  ∃ j : Nat, j + n = X.length ∧ g = g0 ∧ env 1 = lv ∧ env 5 = .pointer (some ⟨b5, 0, none⟩) ∧ env 8 = ptrV x.p ∧ env 9 = .int .i64 (i : Nat) ∧ env 12 = w ∧ env 17 = .int .i64 (j : Nat)

abbrev waRest (h h0 : Hp) (x : DPt) (lv : Value) (l : List Op18) (b5 n : Nat) : Post :=
  roundK (WaInv h0 x lv l b5) n (inBlk 0 (thenK (sq (rg octroilaw18_DualWaits_r20) (ex .ret)) (fin Try.prog [.tmp 6] (fun v g => v = .bool true ∧ Le h g))))

set_option maxHeartbeats 4000000 in
theorem DualWaits_walk {h : Hp} {dom : Int} {lv : Value} {l : List Op18} {p : PK} (A : ArgSl h 12 Op18.enc Op18.Good lv l) :
    Ok Try.prog F_octroilaw18_DualWaits #[.int .i64 dom, lv, .agg #[.int .u32 (p.1 : Nat), .int .i64 p.2]] h (fun v g => v = .bool true ∧ Le h g) := by
  refine octroilaw18_DualWaits_ok (by simp) ?_
  unfold octroilaw18_DualWaits_D
  obtain ⟨ap, acap, hlv⟩ := A.shape
  simp (disch := omega) [octroilaw18_DualWaits_r0]
  intro b5 hb5
  have lb : Le h (h.upd b5 (.cells #[.int .u32 (p.1 : Nat), .int .i64 p.2] 35)) := .new hb5
  have f5 : (h.upd b5 (.cells #[.int .u32 (p.1 : Nat), .int .i64 p.2] 35)) b5 = some (.cells #[.int .u32 (p.1 : Nat), .int .i64 p.2] 35 (0, 0)) := upd_same
  show octroilaw18_DualWaits_r1 _ (h.upd b5 (.cells #[.int .u32 (p.1 : Nat), .int .i64 p.2] 35)) _
  generalize h.upd b5 (.cells #[.int .u32 (p.1 : Nat), .int .i64 p.2] 35) = h0 at *
  simp (disch := omega) [octroilaw18_DualWaits_r1]
  refine awake18 (fun h2 l2 => ?_)
  simp (disch := omega) [octroilaw18_DualWaits_r2]
  refine dnewM (fun L3 x h3 l3 n3 A3 => ?_)
  have F3 : Fresh h0 h3 L3 x (new18 dom 64) := ⟨.new A3, l2.trans l3, fun r y e => none_of_le l2 (n3 r y e)⟩
  by_cases g1 : 120 < (l.length : Int)
  · simp (disch := omega) [octroilaw18_DualWaits_r3, octroilaw18_DualWaits_r4, hlv, g1]
    exact .to _ (.refl _) ⟨rfl, lb.trans F3.le⟩
  simp (disch := omega) [octroilaw18_DualWaits_r3, octroilaw18_DualWaits_r5, hlv, g1]
  refine ⟨WaInv h0 x lv l b5, ⟨l.length, 0, L3, _, by omega, F3, by simp [hlv], by simp, by simp, by simp⟩, ?_⟩
  clear F3 A3 n3 l3 l2
  rintro n env g ⟨i, L, s, hin, F, e1, e5, e8, e9⟩
  unfold octroilaw18_DualWaits_L1
  by_cases hm : n = 0
  · have : i = l.length := by omega
    subst this
    simp (disch := omega) [octroilaw18_DualWaits_r6, octroilaw18_DualWaits_r20, e1, e9, hlv]
    exact .to _ (.refl _) ⟨rfl, lb.trans F.le⟩
  · obtain ⟨o, ho⟩ : ∃ o, l[i]? = some o := ⟨_, List.getElem?_eq_getElem (by omega)⟩
    obtain ⟨og, ob, oo, ocap, c, E, fr, rfl, hob, c0, c1, c2, c3, c4, c5, c6, c7, c8, c9, c10, c11⟩ := op18_at A ho
    have hi' : i < l.length := by omega
    have hob' := F.le _ _ (lb _ _ hob)
    have f5g := F.le _ _ f5
    simp (disch := omega) [octroilaw18_DualWaits_r6, e1, e9, hi']
    simp (disch := omega) [octroilaw18_DualWaits_r7, e5, e8, f5g]
    refine dleastM (p := p) F.live.at_ (fun g1 l1 => ?_)
    have F1 := F.le' l1
    have hob1 := l1 _ _ hob'
    simp (disch := omega) [octroilaw18_DualWaits_r8, e1, e8, e9, hi', hob1, c0, c1, c2, c3, c4, c5, c6, c7, c8, c9, c10, c11]
    refine dopM F1.live og (fun w g5 L5 T A5 => ?_)
    have F5 := F1.next T A5
    have f55 := F5.le _ _ f5
    have hob5 := F5.le _ _ (lb _ _ hob)
    simp (disch := omega) [octroilaw18_DualWaits_r9, e5, e8, f55]
    refine dleastM (p := p) F5.live.at_ (fun g6 l6 => ?_)
    have F6 := F5.le' l6
    have f56 := l6 _ _ f55
    have hob6 := l6 _ _ hob5
    have S6 := T.sl.le' l6
    obtain ⟨wp, wcap, hw⟩ := S6.shape'
    have W := fun (hq : quietOf s p = false) (c : calm o) => waits_does (p := p) F.live.ok.out hq c
    have hXl := does_len (o := o) F.live
    generalize hX : (does18 s o).out = X at *
    have eq1 : quietOf (outS (does18 s o)) p = quietOf (does18 s o) p := rfl
    have eq2 : leastOf (outS (does18 s o)) p = leastOf (does18 s o) p := rfl
    have fin : ∀ env2 : Env, env2 1 = .slice (some ⟨ob, oo, none⟩) l.length ocap → env2 5 = .pointer (some ⟨b5, 0, none⟩) → env2 8 = ptrV x.p → env2 9 = .int .i64 (i : Nat) →
        rg octroilaw18_DualWaits_r19 (waRest h h0 x (.slice (some ⟨ob, oo, none⟩) l.length ocap) l b5 n) env2 g6 := by
      intro env2 e1 e5 e8 e9
      simp (disch := omega) [octroilaw18_DualWaits_r19, e9, wrap_i64]
      exact ⟨n - 1, by omega, i + 1, L5, _, by omega, F6, by simp [e1], by simp [e5], by simp [e8], by simp⟩
    have inner : ∀ env2 : Env, (∀ y ∈ X, y.p = p → y.code = 3) → env2 1 = .slice (some ⟨ob, oo, none⟩) l.length ocap → env2 5 = .pointer (some ⟨b5, 0, none⟩) → env2 8 = ptrV x.p → env2 9 = .int .i64 (i : Nat) → env2 12 = w →
        sq (rg octroilaw18_DualWaits_r14) (blk 2 (lp octroilaw18_DualWaits_L0)) (inBlk 1 (thenK (rg octroilaw18_DualWaits_r19) (waRest h h0 x (.slice (some ⟨ob, oo, none⟩) l.length ocap) l b5 n))) env2 g6 := by
      intro env2 hc e1 e5 e8 e9 e12
      simp (disch := omega) [octroilaw18_DualWaits_r14]
      refine ⟨WaIn g6 x (.slice (some ⟨ob, oo, none⟩) l.length ocap) w X b5 i, ⟨X.length, 0, by omega, rfl, by simp [e1], by simp [e5], by simp [e8], by simp [e9], by simp [e12], by simp⟩, ?_⟩
      clear e1 e5 e8 e9 e12
      rintro n2 env3 g7 ⟨j, hjn, rfl, e1, e5, e8, e9, e12, e17⟩
      unfold octroilaw18_DualWaits_L0
      by_cases hm2 : n2 = 0
      · have : j = X.length := by omega
        subst this
        simp (disch := omega) [octroilaw18_DualWaits_r15, e12, e17, hw]
        exact fin _ (by simp [e1]) (by simp [e5]) (by simp [e8]) (by simp [e9])
      · obtain ⟨y, hy⟩ : ∃ y, X[j]? = some y := ⟨_, List.getElem?_eq_getElem (by omega)⟩
        have hj' : j < X.length := by omega
        obtain ⟨bb, cap, c, ew, hbb, t0, t1, t2, t3, t4, t5, t6, t7, t8, t9⟩ := lt_at S6 hy
        simp (disch := omega) [octroilaw18_DualWaits_r15, e12, e17, ew, hj']
        by_cases q : y.p = p
        · have q3 := hc y (List.mem_of_getElem? hy) q
          simp (disch := omega) [octroilaw18_DualWaits_r16, e5, e12, e17, ew, hj', hbb, t1, t4, t5, f56, q, q3]
          simp (disch := omega) [octroilaw18_DualWaits_r18, e17, wrap_i64]
          exact ⟨n2 - 1, by omega, j + 1, by omega, rfl, by simp [e1], by simp [e5], by simp [e8], by simp [e9], by simp [e12, ew], by simp⟩
        · by_cases q1 : (y.p.1 : Int) = (p.1 : Int)
          · have q2 : ¬ y.p.2 = p.2 := fun z => q (Prod.ext (by omega) z)
            simp (disch := omega) [octroilaw18_DualWaits_r16, e5, e12, e17, ew, hj', hbb, t1, t4, t5, f56, q1, q2]
            simp (disch := omega) [octroilaw18_DualWaits_r18, e17, wrap_i64]
            exact ⟨n2 - 1, by omega, j + 1, by omega, rfl, by simp [e1], by simp [e5], by simp [e8], by simp [e9], by simp [e12, ew], by simp⟩
          · simp (disch := omega) [octroilaw18_DualWaits_r16, e5, e12, e17, ew, hj', hbb, t1, t4, t5, f56, q1]
            simp (disch := omega) [octroilaw18_DualWaits_r18, e17, wrap_i64]
            exact ⟨n2 - 1, by omega, j + 1, by omega, rfl, by simp [e1], by simp [e5], by simp [e8], by simp [e9], by simp [e12, ew], by simp⟩
    have key : ∀ (env2 : Env) (cb : Bool), (cb = true → calm o) → env2 16 = .bool cb → env2 10 = .int .i64 (leastOf s p) → env2 11 = .bool (quietOf s p) → env2 14 = .int .i64 (leastOf (outS (does18 s o)) p) → env2 15 = .bool (quietOf (outS (does18 s o)) p) →
        env2 1 = .slice (some ⟨ob, oo, none⟩) l.length ocap → env2 5 = .pointer (some ⟨b5, 0, none⟩) → env2 8 = ptrV x.p → env2 9 = .int .i64 (i : Nat) → env2 12 = w →
        sq (sq (rg octroilaw18_DualWaits_r11) (cnd (.tmp 99) (ex (.exit 1)) (ex .normal))) (sq (sq (rg octroilaw18_DualWaits_r12) (cnd (.tmp 105) (sq (rg octroilaw18_DualWaits_r13) (ex .ret)) (ex .normal))) (sq (rg octroilaw18_DualWaits_r14) (blk 2 (lp octroilaw18_DualWaits_L0))))
          (inBlk 1 (thenK (rg octroilaw18_DualWaits_r19) (waRest h h0 x (.slice (some ⟨ob, oo, none⟩) l.length ocap) l b5 n))) env2 g6 := by
      intro env2 cb hcb e16 e10 e11 e14 e15 e1 e5 e8 e9 e12
      rw [eq1] at e15
      rw [eq2] at e14
      cases hq : quietOf s p with
      | true =>
        rw [hq] at e11
        simp (disch := omega) [octroilaw18_DualWaits_r11, e11]
        exact fin _ (by simp [e1]) (by simp [e5]) (by simp [e8]) (by simp [e9])
      | false =>
        rw [hq] at e11
        cases cb with
        | false =>
          simp (disch := omega) [octroilaw18_DualWaits_r11, e11, e16]
          exact fin _ (by simp [e1]) (by simp [e5]) (by simp [e8]) (by simp [e9])
        | true =>
          have W1 := W hq (hcb rfl)
          rw [W1.q] at e15
          rw [W1.l] at e14
          simp (disch := omega) [octroilaw18_DualWaits_r11, octroilaw18_DualWaits_r12, e10, e11, e14, e15, e16]
          exact inner _ (fun y hy => by rw [← hX] at hy; exact W1.o y hy) (by simp [e1]) (by simp [e5]) (by simp [e8]) (by simp [e9]) (by simp [e12])
    have kk : ∀ z : Int, decide ((z : Int) = z) = true := fun z => by simp
    by_cases k2 : o.kd = 2
    · simp (disch := omega) [octroilaw18_DualWaits_r10, e1, e9, hi', hob6, c0, k2]
      refine key _ true (fun _ => .inl k2) ?_ ?_ ?_ ?_ ?_ ?_ ?_ ?_ ?_ ?_ <;> simp [e1, e5, e8, e9]
    by_cases k3 : o.kd = 3
    · simp (disch := omega) [octroilaw18_DualWaits_r10, e1, e9, hi', hob6, c0, k3]
      refine key _ true (fun _ => .inr (.inl k3)) ?_ ?_ ?_ ?_ ?_ ?_ ?_ ?_ ?_ ?_ <;> simp [e1, e5, e8, e9]
    by_cases k4 : o.kd = 4
    · by_cases k5 : o.code = 3
      · simp (disch := omega) [octroilaw18_DualWaits_r10, e1, e9, hi', hob6, c0, c3, k4, k5]
        refine key _ false (fun q => by cases q) ?_ ?_ ?_ ?_ ?_ ?_ ?_ ?_ ?_ ?_ <;> simp [e1, e5, e8, e9]
      · simp (disch := omega) [octroilaw18_DualWaits_r10, e1, e9, hi', hob6, c0, c3, k4, k5]
        refine key _ true (fun _ => .inr (.inr ⟨k4, k5⟩)) ?_ ?_ ?_ ?_ ?_ ?_ ?_ ?_ ?_ ?_ <;> simp [e1, e5, e8, e9]
    · simp (disch := omega) [octroilaw18_DualWaits_r10, e1, e9, hi', hob6, c0, k2, k3, k4]
      refine key _ false (fun q => by cases q) ?_ ?_ ?_ ?_ ?_ ?_ ?_ ?_ ?_ ?_ <;> simp [e1, e5, e8, e9]
end Go.Proofs.Ytpeoholnlokdcaa

/- DualFeasible: the walk. -/
namespace Go.Proofs.Ytpeoholnlokdcaa
open Go
set_option linter.unusedSimpArgs false
set_option linter.unusedVariables false
set_option maxRecDepth 20000

structure FsE (x : DPt) (lv : Value) (dom : Int) (i : Nat) (env : Env) : Prop where
  e0 : env 0 = .int .i64 dom
  e1 : env 1 = lv
  e6 : env 6 = ptrV x.p
  e7 : env 7 = .int .i64 (i : Nat)
def FsInv (h : Hp) (x : DPt) (lv : Value) (dom : Int) (l : List Op18) (n : Nat) (env : Env) (g : Hp) : Prop :=
  ∃ (i : Nat) (L : RM) (s : DS), i + n = l.length ∧ Fresh h g L x s ∧ FeI dom (l.take i) s ∧ FsE x lv dom i env
def FsIn (h : Hp) (L : RM) (s : DS) (x : DPt) (lv w : Value) (dom : Int) (X : List Rt) (i : Nat) (n : Nat) (env : Env) (g : Hp) : Prop :=
  ∃ j : Nat, j + n = X.length ∧ Fresh h g L x s ∧ SlAt g 49 7 Rt.enc w X ∧ FsE x lv dom i env ∧ env 8 = w ∧ env 9 = .int .i64 (j : Nat)
/-- Is the c-th call a letter that a route is of? -/
def hitF (r : Rt) (n : Int) (o : Op18) : Bool := decide (o.kd = 4) && (decide (o.k = r.nx) && (decide (o.p = (r.a, r.l)) && (decide (ofV o.v < n) && decide (o.tg = r.tg))))
def FsI2 (h : Hp) (L : RM) (s : DS) (x : DPt) (lv w : Value) (dom : Int) (l : List Op18) (X : List Rt) (r : Rt) (i j : Nat) (n : Nat) (env : Env) (g : Hp) : Prop :=
  ∃ c : Nat, c + n = i + 1 ∧ Fresh h g L x s ∧ SlAt g 49 7 Rt.enc w X ∧ FsE x lv dom i env ∧ env 8 = w ∧ env 9 = .int .i64 (j : Nat) ∧ env 10 = .int .i64 (leastOf s (r.a, r.l)) ∧ env 13 = .int .i64 (c : Nat) ∧
    env 12 = .bool (decide (r.nx = 0) || (l.take c).any (hitF r (leastOf s (r.a, r.l))))

abbrev fsRest (h : Hp) (x : DPt) (lv : Value) (dom : Int) (l : List Op18) (n : Nat) : Post :=
  roundK (FsInv h x lv dom l) n (inBlk 0 (thenK (sq (rg octroilaw18_DualFeasible_r24) (ex .ret)) (fin Try.prog [.tmp 4] (fun v g => v = .bool true ∧ Le h g))))

set_option maxHeartbeats 4000000 in
theorem DualFeasible_walk {h : Hp} {dom : Int} {lv : Value} {l : List Op18} (A : ArgSl h 12 Op18.enc Op18.Good lv l) :
    Ok Try.prog F_octroilaw18_DualFeasible #[.int .i64 dom, lv] h (fun v g => v = .bool true ∧ Le h g) := by
  refine octroilaw18_DualFeasible_ok (by simp) ?_
  unfold octroilaw18_DualFeasible_D
  obtain ⟨ap, acap, hlv⟩ := A.shape
  simp (disch := omega) [octroilaw18_DualFeasible_r0, octroilaw18_DualFeasible_r1]
  refine awake18 (fun h2 l2 => ?_)
  simp (disch := omega) [octroilaw18_DualFeasible_r2]
  refine dnewM (fun L3 x h3 l3 n3 A3 => ?_)
  have F3 : Fresh h h3 L3 x (new18 dom 64) := ⟨.new A3, l2.trans l3, fun r y e => none_of_le l2 (n3 r y e)⟩
  by_cases g1 : 120 < (l.length : Int)
  · simp (disch := omega) [octroilaw18_DualFeasible_r3, octroilaw18_DualFeasible_r4, hlv, g1]
    exact .to _ (.refl _) ⟨rfl, F3.le⟩
  simp (disch := omega) [octroilaw18_DualFeasible_r3, octroilaw18_DualFeasible_r5, hlv, g1]
  have I0 : FeI dom [] (new18 dom 64) := ⟨rfl, fun p y w e => by simp [new18, getM_nil] at e, fun p y k r e => by simp [new18, getM_nil] at e, fun p y e => by simp [new18, getM_nil] at e⟩
  refine ⟨FsInv h x lv dom l, ⟨l.length, 0, L3, _, by omega, F3, I0, ⟨by simp, by simp [hlv], by simp, by simp⟩⟩, ?_⟩
  clear F3 A3 n3 l3 l2 I0
  rintro n env g ⟨i, L, s, hin, F, I, ⟨e0, e1, e6, e7⟩⟩
  unfold octroilaw18_DualFeasible_L2
  by_cases hm : n = 0
  · have : i = l.length := by omega
    subst this
    simp (disch := omega) [octroilaw18_DualFeasible_r6, octroilaw18_DualFeasible_r24, e1, e7, hlv]
    exact .to _ (.refl _) ⟨rfl, F.le⟩
  · obtain ⟨o, ho⟩ : ∃ o, l[i]? = some o := ⟨_, List.getElem?_eq_getElem (by omega)⟩
    obtain ⟨og, ob, oo, ocap, c, E, fr, rfl, hob, c0, c1, c2, c3, c4, c5, c6, c7, c8, c9, c10, c11⟩ := op18_at A ho
    have hi' : i < l.length := by omega
    have hob' := F.le _ _ hob
    simp (disch := omega) [octroilaw18_DualFeasible_r6, e1, e7, hi']
    simp (disch := omega) [octroilaw18_DualFeasible_r7, e1, e6, e7, hi', hob', c0, c1, c2, c3, c4, c5, c6, c7, c8, c9, c10, c11]
    refine dopM F.live og (fun w0 g5 L5 T A5 => ?_)
    have F5 := F.next T A5
    have I5 : FeI dom (l.take (i + 1)) (outS (does18 s o)) := by rw [take_snoc ho]; exact fe_does og I
    generalize outS (does18 s o) = s5 at *
    clear T A5 F I
    have hlk := F5.live.lkl
    have hpl := F5.live.ok.pl
    simp (disch := omega) [octroilaw18_DualFeasible_r8, e6]
    refine dallM F5.live.at_ (by omega) (by omega) (fun w g6 l6 S6 _ => ?_)
    have F6 := F5.le' l6
    have AL := fe_all I5
    have hXl := allR_length (s := s5) (ks := pfx s5.px)
    rw [pfx_length] at hXl
    generalize allR s5 (pfx s5.px) = X at *
    simp (disch := omega) [octroilaw18_DualFeasible_r9]
    refine ⟨FsIn h L5 s5 x (.slice (some ⟨ob, oo, none⟩) l.length ocap) w dom X i, ⟨X.length, 0, by omega, F6, S6, ⟨by simp [e0], by simp [e1], by simp [e6], by simp [e7]⟩, by simp, by simp⟩, ?_⟩
    clear F6 S6 F5 e0 e1 e6 e7 l6 hob'
    rintro n2 env g ⟨j, hjn, F, S, ⟨e0, e1, e6, e7⟩, e8, e9⟩
    obtain ⟨wp, wcap, hw⟩ := S.shape'
    unfold octroilaw18_DualFeasible_L1
    by_cases hm2 : n2 = 0
    · have : j = X.length := by omega
      subst this
      simp (disch := omega) [octroilaw18_DualFeasible_r10, e8, e9, hw]
      simp (disch := omega) [octroilaw18_DualFeasible_r23, e7, wrap_i64]
      exact ⟨n - 1, by omega, i + 1, L5, s5, by omega, F, I5, ⟨by simp [e0], by simp [e1], by simp [e6], by simp⟩⟩
    · obtain ⟨r, hr⟩ : ∃ r, X[j]? = some r := ⟨_, List.getElem?_eq_getElem (by omega)⟩
      have hj' : j < X.length := by omega
      obtain ⟨rb, rcap, rc, ew, hrb, t0, t1, t2, t3, t4, t5, t6⟩ := rt_at S hr
      obtain ⟨a1, a2, a3, a4⟩ := AL r (List.mem_of_getElem? hr)
      simp (disch := omega) [octroilaw18_DualFeasible_r10, e8, e9, ew, hj']
      simp (disch := omega) [octroilaw18_DualFeasible_r11, e6, e8, e9, ew, hj', hrb, t0, t1]
      refine dleastM (p := (r.a, r.l)) F.live.at_ (fun g7 l7 => ?_)
      have F7 := F.le' l7
      have S7 := S.le' l7
      have hrb7 := l7 _ _ hrb
      simp (disch := omega) [octroilaw18_DualFeasible_r12, e0, e8, e9, ew, hj', hrb7, t6]
      refine thas_spec a2 ?_
      rw [a1]
      have a3' : ¬ 4294967295 ≤ r.m := by omega
      simp (disch := omega) [e8, e9, ew, hj', hrb7, t4, a3']
      simp (disch := omega) [octroilaw18_DualFeasible_r14, e8, e9, ew, hj', hrb7, t5]
      simp (disch := omega) [octroilaw18_DualFeasible_r15]
      generalize hlv2 : (Value.slice (some ⟨ob, oo, none⟩) l.length ocap) = lv2 at *
      generalize hw2 : (Value.slice (some ⟨rb, 0, none⟩) X.length rcap) = w2 at *
      subst ew
      refine ⟨FsI2 h L5 s5 x lv2 w dom l X r i j, ⟨i + 1, 0, by omega, F7, S7, ⟨by simp [e0], by simp [e1], by simp [e6], by simp [e7]⟩, by simp [e8], by simp [e9], by simp, by simp, by simp⟩, ?_⟩
      clear F7 S7 e0 e1 e6 e7 e8 e9 l7 hrb7 F S hrb
      rintro n3 env g ⟨d, hdn, F, S, ⟨e0, e1, e6, e7⟩, e8, e9, e10, e13, e12⟩
      unfold octroilaw18_DualFeasible_L0
      -- behind the round: it was found
      have out : ∀ env2 : Env, env2 12 = .bool true → FsE x lv2 dom i env2 → env2 8 = w → env2 9 = .int .i64 (j : Nat) →
          sq (rg octroilaw18_DualFeasible_r20) (cnd (.tmp 145) (sq (rg octroilaw18_DualFeasible_r21) (ex .ret)) (ex .normal)) (inBlk 3 (thenK (rg octroilaw18_DualFeasible_r22) (roundK (FsIn h L5 s5 x lv2 w dom X i) n2 (inBlk 2 (inBlk 1 (thenK (rg octroilaw18_DualFeasible_r23) (fsRest h x lv2 dom l n))))))) env2 g := by
        rintro env2 e12 ⟨e0, e1, e6, e7⟩ e8 e9
        simp (disch := omega) [octroilaw18_DualFeasible_r20, e12]
        simp (disch := omega) [octroilaw18_DualFeasible_r22, e9, wrap_i64]
        exact ⟨n2 - 1, by omega, j + 1, by omega, F, S, ⟨by simp [e0], by simp [e1], by simp [e6], by simp [e7]⟩, by simp [e8], by simp⟩
      cases hf : (decide (r.nx = 0) || (l.take d).any (hitF r (leastOf s5 (r.a, r.l)))) with
      | true =>
        rw [hf] at e12
        by_cases hd : (d : Int) ≤ (i : Int)
        · simp (disch := omega) [octroilaw18_DualFeasible_r16, e7, e12, e13, hd]
          exact out _ (by simp [e12]) ⟨by simp [e0], by simp [e1], by simp [e6], by simp [e7]⟩ (by simp [e8]) (by simp [e9])
        · simp (disch := omega) [octroilaw18_DualFeasible_r16, e7, e12, e13, hd]
          exact out _ (by simp [e12]) ⟨by simp [e0], by simp [e1], by simp [e6], by simp [e7]⟩ (by simp [e8]) (by simp [e9])
      | false =>
        rw [hf] at e12
        by_cases hd : (d : Int) ≤ (i : Int)
        · obtain ⟨q, hq⟩ : ∃ q, l[d]? = some q := ⟨_, List.getElem?_eq_getElem (by omega)⟩
          have hd' : d < l.length := by omega
          subst hlv2
          obtain ⟨qg, ob2, oo2, ocap2, qc, E2, fr2, hqe, hqb, q0, q1, q2, q3, q4, q5, q6, q7, q8, q9, q10, q11⟩ := op18_at A hq
          simp only [Value.slice.injEq, Option.some.injEq, Addr.mk.injEq] at hqe
          obtain ⟨⟨rfl, rfl, _⟩, _, rfl⟩ := hqe
          have hqb' := F.le _ _ hqb
          obtain ⟨rb, rcap, rc, ew, hrb, t0, t1, t2, t3, t4, t5, t6⟩ := rt_at S hr
          simp (disch := omega) [octroilaw18_DualFeasible_r16, e7, e12, e13, hd]
          simp (disch := omega) [octroilaw18_DualFeasible_r17, e1, e13, hd', hqb', q0, q1, q2, q3, q4, q5, q6, q7, q8, q9, q10, q11]
          intro b14 hb14
          refine (stA_of upd_same (by rfl) (by rfl)).mpr ?_
          have l8 : Le g ((g.upd b14 (.cells #[.int .i64 0, .int .i64 0, .int .i64 0, .int .i64 0, .int .u32 0, .int .u32 0, .int .u32 0, .int .i64 0, .int .i64 0, .int .i64 0, .int .i64 0, .int .u16 0] 55)).upd b14 (.cells (Op18.cells q) 55)) := fun y o e => by
            rw [upd_ne (ne_new e hb14), upd_ne (ne_new e hb14)]; exact e
          have f14 : ((g.upd b14 (.cells #[.int .i64 0, .int .i64 0, .int .i64 0, .int .i64 0, .int .u32 0, .int .u32 0, .int .u32 0, .int .i64 0, .int .i64 0, .int .i64 0, .int .i64 0, .int .u16 0] 55)).upd b14 (.cells (Op18.cells q) 55)) b14 = some (.cells (Op18.cells q) 55 (0, 0)) := upd_same
          show rg octroilaw18_DualFeasible_r18 _ _ ((g.upd b14 (.cells #[.int .i64 0, .int .i64 0, .int .i64 0, .int .i64 0, .int .u32 0, .int .u32 0, .int .u32 0, .int .i64 0, .int .i64 0, .int .i64 0, .int .i64 0, .int .u16 0] 55)).upd b14 (.cells (Op18.cells q) 55))
          have F8 := F.le' l8
          have S8 := S.le' l8
          have hrb8 := l8 _ _ hrb
          generalize (g.upd b14 (.cells #[.int .i64 0, .int .i64 0, .int .i64 0, .int .i64 0, .int .u32 0, .int .u32 0, .int .u32 0, .int .i64 0, .int .i64 0, .int .i64 0, .int .i64 0, .int .u16 0] 55)).upd b14 (.cells (Op18.cells q) 55) = g8 at *
          have nxt : ∀ (env2 : Env) (g9 : Hp), Le g8 g9 → env2 12 = .bool (hitF r (leastOf s5 (r.a, r.l)) q) → FsE x (.slice (some ⟨ob, oo, none⟩) l.length ocap) dom i env2 → env2 8 = w → env2 9 = .int .i64 (j : Nat) → env2 10 = .int .i64 (leastOf s5 (r.a, r.l)) → env2 13 = .int .i64 (d : Nat) →
              rg octroilaw18_DualFeasible_r19 (roundK (FsI2 h L5 s5 x (.slice (some ⟨ob, oo, none⟩) l.length ocap) w dom l X r i j) n3 (inBlk 4 (thenK (sq (rg octroilaw18_DualFeasible_r20) (cnd (.tmp 145) (sq (rg octroilaw18_DualFeasible_r21) (ex .ret)) (ex .normal))) (inBlk 3 (thenK (rg octroilaw18_DualFeasible_r22) (roundK (FsIn h L5 s5 x (.slice (some ⟨ob, oo, none⟩) l.length ocap) w dom X i) n2 (inBlk 2 (inBlk 1 (thenK (rg octroilaw18_DualFeasible_r23) (fsRest h x (.slice (some ⟨ob, oo, none⟩) l.length ocap) dom l n)))))))))) env2 g9 := by
            rintro env2 g9 l9 e12 ⟨e0, e1, e6, e7⟩ e8 e9 e10 e13
            simp (disch := omega) [octroilaw18_DualFeasible_r19, e13, wrap_i64]
            refine ⟨n3 - 1, by omega, d + 1, by omega, F8.le' l9, S8.le' l9, ⟨by simp [e0], by simp [e1], by simp [e6], by simp [e7]⟩, by simp [e8], by simp [e9], by simp [e10], by simp, ?_⟩
            rw [take_snoc hq, List.any_append, ← Bool.or_assoc, hf]
            simp [e12]
          subst ew
          clear F S
          by_cases k4 : q.kd = 4
          rotate_left
          · have hh : hitF r (leastOf s5 (r.a, r.l)) q = false := by unfold hitF; simp [k4]
            rw [hh] at nxt
            simp (disch := omega) [octroilaw18_DualFeasible_r18, e8, e9, hj', hrb8, f14, t0, t1, t5, t6, k4]
            refine nxt _ _ (.refl _) ?_ ⟨?_, ?_, ?_, ?_⟩ ?_ ?_ ?_ ?_ <;> simp [e0, e1, e6, e7, e8, e9, e10, e13]
          by_cases kk : q.k = r.nx
          rotate_left
          · have hh : hitF r (leastOf s5 (r.a, r.l)) q = false := by unfold hitF; simp [kk]
            rw [hh] at nxt
            simp (disch := omega) [octroilaw18_DualFeasible_r18, e8, e9, hj', hrb8, f14, t0, t1, t5, t6, k4, kk]
            refine nxt _ _ (.refl _) ?_ ⟨?_, ?_, ?_, ?_⟩ ?_ ?_ ?_ ?_ <;> simp [e0, e1, e6, e7, e8, e9, e10, e13]
          by_cases pa : (q.pa : Int) = (r.a : Int)
          rotate_left
          · have hh : hitF r (leastOf s5 (r.a, r.l)) q = false := by unfold hitF; simp [k4]; omega
            rw [hh] at nxt
            simp (disch := omega) [octroilaw18_DualFeasible_r18, e8, e9, hj', hrb8, f14, t0, t1, t5, t6, k4, kk, pa]
            refine nxt _ _ (.refl _) ?_ ⟨?_, ?_, ?_, ?_⟩ ?_ ?_ ?_ ?_ <;> simp [e0, e1, e6, e7, e8, e9, e10, e13]
          by_cases pl : q.pl = r.l
          rotate_left
          · have hh : hitF r (leastOf s5 (r.a, r.l)) q = false := by unfold hitF; simp [pl]
            rw [hh] at nxt
            simp (disch := omega) [octroilaw18_DualFeasible_r18, e8, e9, hj', hrb8, f14, t0, t1, t5, t6, k4, kk, pa, pl]
            refine nxt _ _ (.refl _) ?_ ⟨?_, ?_, ?_, ?_⟩ ?_ ?_ ?_ ?_ <;> simp [e0, e1, e6, e7, e8, e9, e10, e13]
          have pa' : q.pa = r.a := by omega
          have hh : hitF r (leastOf s5 (r.a, r.l)) q = (decide (ofV q.v < leastOf s5 (r.a, r.l)) && decide (q.tg = r.tg)) := by unfold hitF; simp [k4, kk, pa', pl]
          rw [hh] at nxt
          simp (disch := omega) [octroilaw18_DualFeasible_r18, e8, e9, e10, hj', hrb8, f14, t0, t1, t5, t6, k4, kk, pa, pl]
          refine ofVM (v := q.v) (fun g9 l9 => ?_)
          have hrb9 := l9 _ _ hrb8
          have f149 := l9 _ _ f14
          by_cases lt : ofV q.v < leastOf s5 (r.a, r.l)
          · by_cases tg : (q.tg : Int) = (r.tg : Int)
            · have tg' : q.tg = r.tg := by omega
              rw [decide_eq_true lt, decide_eq_true tg'] at nxt
              simp (disch := omega) [e8, e9, e10, hj', hrb9, f149, t0, t1, t5, t6, lt, tg]
              refine nxt _ _ l9 ?_ ⟨?_, ?_, ?_, ?_⟩ ?_ ?_ ?_ ?_ <;> simp [e0, e1, e6, e7, e8, e9, e10, e13]
            · have tg' : ¬ q.tg = r.tg := by omega
              rw [decide_eq_true lt, decide_eq_false tg'] at nxt
              simp (disch := omega) [e8, e9, e10, hj', hrb9, f149, t0, t1, t5, t6, lt, tg]
              refine nxt _ _ l9 ?_ ⟨?_, ?_, ?_, ?_⟩ ?_ ?_ ?_ ?_ <;> simp [e0, e1, e6, e7, e8, e9, e10, e13]
          · rw [decide_eq_false lt] at nxt
            simp (disch := omega) [e8, e9, e10, hj', hrb9, f149, t0, t1, t5, t6, lt]
            refine nxt _ _ l9 ?_ ⟨?_, ?_, ?_, ?_⟩ ?_ ?_ ?_ ?_ <;> simp [e0, e1, e6, e7, e8, e9, e10, e13]
        · exfalso
          have : d = i + 1 := by omega
          subst this
          simp only [Bool.or_eq_false_iff, decide_eq_false_iff_not] at hf
          rcases a4 with a4 | ⟨o', h1, h2, h3, h4, h5, h6⟩
          · exact hf.1 a4
          · have := hf.2
            rw [List.any_eq_false] at this
            refine this o' h1 ?_
            unfold hitF
            simp [h2, h3, h4, h5, h6]
end Go.Proofs.Ytpeoholnlokdcaa

/- DualFeasible: a way by a neighbour is one that it has told, by less than the least: the row. No condition. -/
namespace Go.Proofs.Ytpeoholnlokdcaa.DualFeasible_row
open Go Go.ChangeShapes Go.WideShapes Go.RowKit
theorem own_knob : ownKnob Try.prog.godebug = none := by kernel_rfl
theorem laid_out : laidOutB Try.prog = true := by kernel_rfl
set_option maxRecDepth 100000 in
theorem lifted (os : Os) (started : os.Started) (H : Type) (enc : TypeId × Value → H) :
    ReturnsInHanded {} Try.checked os 7 .any (Rows.dualFeasibleSpec.pre6 enc Try.prog Try.f7 Rows.dualFeasibleRow.domain false) (Rows.dualFeasibleSpec.post enc Try.prog Try.f7 false true false false) := by
  refine returnsInHanded_of_change_sized (C := Try.checked) own_knob started (by kernel_rfl) Try.func7
    (ChangeSpec.witness6 (enc := enc) (C := Try.checked) false ⟨#[], #[.int .i64 0, .slice none 0 0], []⟩ 8 (by kernel_rfl) (by kernel_rfl) (by kernel_rfl) (by kernel_rfl)) ?_
  intro W base args ds gs before hval hW hcnd hsz _
  have hW' := hW
  obtain ⟨p, q, hA, hV, rfl, hfz, hnd⟩ := hW
  obtain ⟨rfl, rfl⟩ := trodVars_none hV
  have hA' : DataW.TrodAll enc Try.prog W 0 (fun _ => true) true Try.f7.params.toList args.toList ds p := hA
  have hval' : ∀ (j : Nat) t v, Try.f7.params[j]? = some t → args[j]? = some v → Value.okWide Try.prog W .any base t v := hval
  rw [Try.params7] at hA' hval'
  obtain ⟨v0, vs0, d0, ds0, p0, q0, hargs, rfl, rfl, h0, r0⟩ := trodAll_cons hA'
  obtain ⟨v1, vs1, d1, ds1, p1, q1, rfl, rfl, rfl, h1, r1⟩ := trodAll_cons r0
  obtain ⟨rfl, rfl, rfl⟩ := trodAll_nil r1
  obtain rfl : args = #[v0, v1] := by cases args; simp_all
  obtain ⟨n0, rfl, rfl, rfl, w0⟩ := open_int Try.underlying3 (hval' 0 _ v0 rfl rfl) h0
  obtain ⟨xs1, A1⟩ := open_argSl (ks := Op18Ks) (sz := 12) 6 Try.underlying52 (by kernel_rfl) (by kernel_rfl) (by decide) dec_Op18 (hval' 1 _ v1 rfl rfl) h1
  refine (below_of (DualFeasible_walk A1)).mono fun e W' ⟨he, bel⟩ => ?_
  subst he
  exact ⟨_, rfl, _, _, _, [], _, [], hW', trodAll_mk1 (shut_bool (by kernel_rfl) _), trodAll_below laid_out bel (by kernel_rfl) hA, rfl, bel.frame _, fun h => by cases h⟩
theorem over : Rows.dualFeasibleRow.holds Try.pinned (OpenSpec.ofChange Rows.dualFeasibleSpec) :=
  OpenClaim.holds_of_wide 7 Try.f7 rfl rfl rfl rfl rfl rfl rfl ⟨rfl, rfl, rfl, rfl, rfl⟩ rfl rfl rfl rfl rfl (by kernel_rfl) Try.func7 (by kernel_rfl)
    (of_decide_eq_true (by kernel_rfl)) (by unfold Func.isWrapper; first | (rw [if_pos (by decide +kernel)]; kernel_rfl) | (rw [if_neg (by decide +kernel)]; exact ⟨rfl, rfl⟩))
    (fun os started H enc _ => lifted os started H enc)
end Go.Proofs.Ytpeoholnlokdcaa.DualFeasible_row
namespace Go.Proofs.Ytpeoholnlokdcaa
theorem dualFeasible_holds : Rows.DualFeasibleSaid := DualFeasible_row.over
#print axioms dualFeasible_holds
end Go.Proofs.Ytpeoholnlokdcaa
