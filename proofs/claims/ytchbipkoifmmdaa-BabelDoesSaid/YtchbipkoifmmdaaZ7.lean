/- The frame of a call: what it need not know stays. -/
import Derived.Shelf.SlSortCmp.WholeK
import Derived.Shelf.Small.Bits
import Derived.Test.YtchbipkoifmmdaaChecked
import Derived.Test.YtchbipkoifmmdaaZ6

set_option linter.unusedSimpArgs false
set_option linter.unusedVariables false

namespace Go.Proofs.Ytchbipkoifmmdaa
open Go

/-- A heap laid over what the smaller one did not know. -/
def Hp.over (h' h g : Hp) : Hp := fun b => match h b, g b with
  | none, some o => some o
  | _, _ => h' b

theorem over_view {h h' g : Hp} {w w' : World} (l : Le h g) (Vg : View g w) (V' : View h' w') (K : Keep h w h' w') : View (h'.over h g) w' ∧ Keep g w (h'.over h g) w' := by
  constructor
  · intro b o e
    unfold Hp.over at e
    split at e
    · rename_i o2 h1 h2
      cases e
      rw [K.old b (Vg.lt h2) h1]; exact Vg b o h2
    · exact V' b o e
  · refine ⟨K.os, K.tape, K.output, K.size, fun b hb hn => ?_, fun b hb hn => ?_, K.drawn⟩
    · refine K.old b hb ?_
      cases hh : h b with
      | none => rfl
      | some o => rw [l b o hh] at hn; cases hn
    · have h0 : h b = none := by
        cases hh : h b with
        | none => rfl
        | some o => rw [l b o hh] at hn; cases hn
      unfold Hp.over
      simp only [h0, hn]
      exact K.dom b hb h0

theorem Ok.frame {P : Program} {f : FuncId} {args : Array Value} {h g : Hp} {Q : Value → Hp → Prop} (a : Ok P f args h Q) (l : Le h g) : Ok P f args g fun v g' => ∃ h', Q v h' ∧ g' = h'.over h g ∧ ∀ b o, g b = some o → h b = none → h' b = none :=
  ⟨a.1, fun w V => (a.2 w (fun b o e => V b o (l b o e))).mono fun _ w' ⟨v, h', e, V', K, q⟩ => by
    obtain ⟨V2, K2⟩ := over_view l V V' K
    exact ⟨v, _, e, V2, K2, h', q, rfl, fun b o hg hn => K.dom b (V.lt hg) hn⟩⟩

theorem YOk.frame {P : Program} {y : Nat} {args : Array Value} {h g : Hp} {Q : Value → Hp → Prop} (a : YOk P y args h Q) (l : Le h g) : YOk P y args g fun v g' => ∃ h', Q v h' ∧ g' = h'.over h g ∧ ∀ b o, g b = some o → h b = none → h' b = none := fun w V => by
  obtain ⟨f, tmps, asg, bd, e, r⟩ := a w (fun b o e => V b o (l b o e))
  refine ⟨f, tmps, asg, bd, e, r.mono fun _ w' ⟨v, h', e, V', K, q⟩ => ?_⟩
  obtain ⟨V2, K2⟩ := over_view l V V' K
  exact ⟨v, _, e, V2, K2, h', q, rfl, fun b o hg hn => K.dom b (V.lt hg) hn⟩

theorem over_out {h' h g : Hp} {b : Nat} (hb : h b = none) {o : Obj} (hg : g b = some o) : (h'.over h g) b = some o := by unfold Hp.over; simp only [hb, hg]
theorem over_in {h' h g : Hp} {b : Nat} {o : Obj} (hb : h b = some o) : (h'.over h g) b = h' b := by unfold Hp.over; simp only [hb]
theorem over_new {h' h g : Hp} {b : Nat} (hg : g b = none) : (h'.over h g) b = h' b := by unfold Hp.over; simp only [hg]; split <;> simp_all

theorem rem_same {h : Hp} {l : Nat} : (h.rem l) l = none := by unfold Hp.rem; simp
theorem rem_ne {h : Hp} {l b : Nat} (n : b ≠ l) : (h.rem l) b = h b := by unfold Hp.rem; rw [if_neg n]
theorem rem_upd {h : Hp} {l : Nat} {o : Obj} (hl : h l = none) : (h.upd l o).rem l = h := by
  funext b
  by_cases e : b = l
  · subst e; rw [rem_same, hl]
  · rw [rem_ne e, upd_ne e]
theorem upd_rem {h : Hp} {l : Nat} {o : Obj} : (h.rem l).upd l o = h.upd l o := by
  funext b
  by_cases e : b = l
  · subst e; rw [upd_same, upd_same]
  · rw [upd_ne e, upd_ne e, rem_ne e]
theorem rem_le {h : Hp} {l : Nat} : Le (h.rem l) h := fun b o e => by unfold Hp.rem at e; split at e <;> first | cases e | exact e
end Go.Proofs.Ytchbipkoifmmdaa

/- A look into a map, the value alone; what stays in a map. -/
namespace Go.Proofs.Ytchbipkoifmmdaa
open Go
theorem fm_congr {α β : Type} {f g : α → Option β} : ∀ {l : List α}, (∀ x ∈ l, f x = g x) → l.filterMap f = l.filterMap g
  | [], _ => rfl
  | x :: xs, h => by rw [List.filterMap_cons, List.filterMap_cons, h x (by simp), fm_congr (fun y hy => h y (by simp [hy]))]

theorem take_snoc {α : Type} {l : List α} {i : Nat} {x : α} (hx : l[i]? = some x) : l.take (i + 1) = l.take i ++ [x] := by rw [List.take_add_one, hx]; rfl
theorem drop_cons {α : Type} {l : List α} {i : Nat} {x : α} (hx : l[i]? = some x) : l.drop i = x :: l.drop (i + 1) := by
  obtain ⟨h1, h2⟩ := List.getElem?_eq_some_iff.1 hx
  rw [List.drop_eq_getElem_cons h1, h2]

section
variable {P : Program} {h : Hp} {α β : Type} [DecidableEq α] {kenc : α → Value} {venc : β → Value}

theorem rr_lookup1 {t kt et : TypeId} {r : Nat} {a : α} {m : List (α × β)} {z : Value} (hu : P.underlying t = some (.map kt et)) (M : MapAt h r kenc venc m) (hck : ∀ e, rrun P (Instr.checkKey e 10000 kt (kenc a)) h = some ())
    (hfk : ∀ es : List MapEntry, Ents kenc venc es m → rrun P (Instr.findKey kt (kenc a) es) h = some ((findM a m 0).map fun x => (x.1, venc x.2))) (hz : (P.info? et).bind (·.zero) = some z) :
    rrun P (Instr.lookup t (.map (some r)) (kenc a) false) h = some (match getM m a with | some v => venc v | none => z) := by
  obtain ⟨es, clock, hr, hE⟩ := M
  unfold Instr.lookup
  rw [rrun_bnd, rr_underlying, hu, Option.bind_some]
  simp only []
  have hg : rrun P (getObj r) h = some (.map es clock) := by
    unfold getObj
    simp only [rrun, hr, isRow]
  simp only [rrun_bnd, hg, Option.bind_some, rrun_pure, hck, hfk _ hE]
  unfold getM
  cases findM a m 0 with
  | none =>
    have e : ∀ (s : Sem Value) (f : Value → Value), rrun P (f <$> s) h = (rrun P s h).map f := by
      intro s f
      have : f <$> s = s >>= fun x => pure (f x) := by simp
      rw [this, rrun_bnd]
      cases rrun P s h <;> rfl
    simp [rrun_bnd, rrun_pure, e, rr_zeroValue hz]
  | some x => simp [rrun_bnd, rrun_pure]

theorem getM_isSome {a : α} {m : List (α × β)} : (getM m a).isSome = decide (a ∈ m.map (·.1)) := by
  cases h : getM m a with
  | none => simp [getM_none.1 h]
  | some v => simp only [Option.isSome_some]; symm; rw [decide_eq_true_eq]; exact List.mem_map_of_mem (getM_mem h)

theorem setM_mem {a : α} {v : β} {m : List (α × β)} {e : α × β} (he : e ∈ setM a v m) : e = (a, v) ∨ (e ∈ m) := by
  induction m with
  | nil => simp [setM] at he; exact .inl he
  | cons y ys ih =>
    simp only [setM] at he
    split at he
    · rcases List.mem_cons.1 he with q | q
      · exact .inl q
      · exact .inr (List.mem_cons_of_mem _ q)
    · rcases List.mem_cons.1 he with q | q
      · exact .inr (by rw [q]; exact List.mem_cons_self)
      · rcases ih q with q | q
        · exact .inl q
        · exact .inr (List.mem_cons_of_mem _ q)
theorem setM_mem_ne {a : α} {v : β} : ∀ {m : List (α × β)}, Uniq m → ∀ {e : α × β}, e ∈ setM a v m → e = (a, v) ∨ (e ∈ m ∧ e.1 ≠ a)
  | [], _, e, he => by simp [setM] at he; exact .inl he
  | y :: ys, u, e, he => by
    have u' := u
    unfold Uniq at u
    rw [List.map_cons, List.nodup_cons] at u
    simp only [setM] at he
    split at he
    · rename_i q0
      rcases List.mem_cons.1 he with q | q
      · exact .inl q
      · exact .inr ⟨List.mem_cons_of_mem _ q, fun q2 => u.1 (by rw [← q0, ← q2]; exact List.mem_map_of_mem q)⟩
    · rename_i q0
      rcases List.mem_cons.1 he with q | q
      · exact .inr ⟨by rw [q]; exact List.mem_cons_self, by rw [q]; exact fun q2 => q0 q2.symm⟩
      · rcases setM_mem_ne u.2 q with q | q
        · exact .inl q
        · exact .inr ⟨List.mem_cons_of_mem _ q.1, q.2⟩
end
end Go.Proofs.Ytchbipkoifmmdaa

/- Writing into one of a slice. -/
namespace Go.Proofs.Ytchbipkoifmmdaa
open Go
set_option linter.unusedSimpArgs false
set_option linter.unusedVariables false

theorem stN_at {b : Nat} {E : TypeId} {k : Hp → Prop} : ∀ (vals : List Value) (o : Nat) (c : Array Value) (h : Hp), h b = some (.cells c E (0, 0)) → o + vals.length ≤ c.size → vals.all oneCell = true →
    ∃ c' : Array Value, c'.size = c.size ∧ (∀ j, j < vals.length → c'[o + j]? = vals[j]?) ∧ (∀ j, j < o ∨ o + vals.length ≤ j → c'[j]? = c[j]?) ∧ (k (h.upd b (.cells c' E (0, 0))) → stN h b o vals k)
  | [], o, c, h, hb, hs, _ => ⟨c, rfl, fun j hj => by simp at hj, fun j _ => rfl, fun q => by rw [upd_self hb] at q; exact q⟩
  | v :: vals, o, c, h, hb, hs, ho => by
    simp only [List.all_cons, Bool.and_eq_true] at ho
    simp only [List.length_cons] at hs
    have hlt : o < c.size := by omega
    obtain ⟨c', h1, h2, h3, h4⟩ := stN_at (k := k) vals (o + 1) (c.setIfInBounds o v) (h.upd b (.cells (c.setIfInBounds o v) E (0, 0))) upd_same (by simp; omega) ho.2
    refine ⟨c', by rw [h1]; simp, fun j hj => ?_, fun j hj => ?_, fun q => ?_⟩
    · cases j with
      | zero =>
        rw [h3 (o + 0) (by omega)]
        simp [hlt]
      | succ j =>
        have := h2 j (by simpa using hj)
        rw [show o + (j + 1) = o + 1 + j by omega, this]
        simp
    · simp only [List.length_cons] at hj
      rw [h3 j (by omega), Array.getElem?_setIfInBounds_ne (by omega)]
    · rw [stN_cons]
      have hc : h.cell? ⟨b, o, none⟩ = some c[o] := by unfold Hp.cell?; simp [hb, hlt]
      have hf : h.frozen? ⟨b, o, none⟩ = false := by unfold Hp.frozen?; simp [hb]
      have hset : h.setCell ⟨b, o, none⟩ v = h.upd b (.cells (c.setIfInBounds o v) E (0, 0)) := by rw [setCell_def, hb]
      rw [hc, hf, stw_ok, hset]
      refine ⟨ho.1, h4 ?_⟩
      have e : (h.upd b (.cells (c.setIfInBounds o v) E (0, 0))).upd b (.cells c' E (0, 0)) = h.upd b (.cells c' E (0, 0)) := by
        funext i; rw [upd_get, upd_get, upd_get]; split <;> simp
      rw [e]; exact q

/-- A part of one of a slice is written. -/
theorem SlAt.setPart {α : Type} {h : Hp} {E sz : Nat} {enc : α → List Value} {b cap n o : Nat} {xs : List α} {i : Nat} {x y : α} {vals : List Value} {k : Hp → Prop} (S : SlAt h E sz enc (.slice (some ⟨b, 0, none⟩) n cap) xs) (j : Nat) (ho : o = i * sz + j) (hn : n = xs.length) (hx : xs[i]? = some x) (hlen : (enc x).length = sz)
    (hone : vals.all oneCell = true) (hj : j + vals.length ≤ sz) (hy : enc y = (enc x).take j ++ (vals ++ (enc x).drop (j + vals.length)))
    (hk : ∀ h', (∀ x o, h x = some o → x ≠ b → h' x = some o) → SlAt h' E sz enc (.slice (some ⟨b, 0, none⟩) n cap) (xs.set i y) → k h') : stN h b o vals k := by
  subst hn ho
  have hi : i < xs.length := by rw [List.getElem?_eq_some_iff] at hx; exact hx.1
  rcases S with ⟨e, _⟩ | ⟨b', cap', c, e, hb, h1, h2, h3⟩
  · cases e
  · cases e
    have hs0 : i * sz + sz ≤ c.size := by
      have : (i + 1) * sz ≤ cap * sz := Nat.mul_le_mul_right sz (by omega)
      rw [Nat.add_mul] at this; omega
    obtain ⟨c', k1, k2, k3, k4⟩ := stN_at (k := k) vals (i * sz + j) c h hb (by omega) hone
    refine k4 (hk _ (fun x o e n => by rw [upd_ne n]; exact e) (.inr ⟨b, cap, c', by rw [List.length_set], upd_same, by rw [List.length_set]; exact h1, by rw [k1]; exact h2, fun j' x' hx' m hm => ?_⟩))
    rw [List.getElem?_set] at hx'
    split at hx'
    · rename_i e
      subst e
      cases hx'
      have h3' := h3 i x hx m hm
      rw [Nat.zero_add] at h3' ⊢
      rw [hy]
      have hl : ((enc x).take j).length = j := by rw [List.length_take]; omega
      by_cases q : m < j
      · rw [k3 _ (by omega), h3', List.getElem?_append_left (by omega), List.getElem?_take, if_pos q]
      · rw [List.getElem?_append_right (by omega), hl]
        by_cases q2 : m < j + vals.length
        · rw [List.getElem?_append_left (by omega), show i * sz + m = i * sz + j + (m - j) by omega, k2 _ (by omega)]
        · rw [List.getElem?_append_right (by omega), List.getElem?_drop, k3 _ (by omega), h3']
          congr 1; omega
    · rename_i e
      have := h3 j' x' hx' m hm
      rw [k3 (0 + j' * sz + m) ?_]
      · exact this
      · rw [Nat.zero_add]
        rcases Nat.lt_or_gt_of_ne e with q | q
        · right
          have : (i + 1) * sz ≤ j' * sz := Nat.mul_le_mul_right sz (by omega)
          rw [Nat.add_mul] at this; omega
        · left
          have : (j' + 1) * sz ≤ i * sz := Nat.mul_le_mul_right sz (by omega)
          rw [Nat.add_mul] at this; omega

/-- One of a slice is written. -/
theorem SlAt.setOne {α : Type} {h : Hp} {E sz : Nat} {enc : α → List Value} {b cap n : Nat} {xs : List α} {i : Nat} {x y : α} {vals : List Value} {k : Hp → Prop} (S : SlAt h E sz enc (.slice (some ⟨b, 0, none⟩) n cap) xs) (hn : n = xs.length) (hx : xs[i]? = some x) (hlen : (enc x).length = sz)
    (hone : vals.all oneCell = true) (hv : vals.length = sz) (hy : enc y = vals)
    (hk : ∀ h', (∀ x o, h x = some o → x ≠ b → h' x = some o) → SlAt h' E sz enc (.slice (some ⟨b, 0, none⟩) n cap) (xs.set i y) → k h') : stN h b (i * sz) vals k := by
  refine SlAt.setPart (j := 0) S rfl hn hx hlen hone (by omega) ?_ hk
  rw [hy]
  have : (enc x).drop (0 + vals.length) = [] := List.drop_of_length_le (by omega)
  rw [this]; simp

/-- The first of a key is the one that is written anew. -/
theorem findM_set {α β : Type} [DecidableEq α] {a : α} {v w : β} : ∀ {m : List (α × β)} {i j : Nat}, findM a m i = some (i + j, v) → m.set j (a, w) = setM a w m
  | [], i, j, h => by cases h
  | x :: xs, i, j, h => by
    simp only [findM, setM] at *
    by_cases q : a = x.1
    · rw [if_pos q] at h ⊢
      simp at h
      rw [h.1]; rfl
    · rw [if_neg q] at h ⊢
      have hle := (findM_some h).1
      obtain ⟨j', rfl⟩ : ∃ j', j = j' + 1 := ⟨j - 1, by omega⟩
      rw [List.set_cons_succ, findM_set (i := i + 1) (j := j') (by rw [h]; congr 2; omega)]
theorem getM_findM {α β : Type} [DecidableEq α] {a : α} {m : List (α × β)} {i : Nat} {v : β} (h : findM a m 0 = some (i, v)) : getM m a = some v := by unfold getM; rw [h]; rfl
theorem findM_getM {α β : Type} [DecidableEq α] {a : α} {m : List (α × β)} {v : β} (h : getM m a = some v) : ∃ i, findM a m 0 = some (i, v) ∧ m[i]? = some (a, v) := by
  unfold getM at h
  cases hf : findM a m 0 with
  | none => rw [hf] at h; cases h
  | some y =>
    rw [hf] at h
    obtain ⟨i, z⟩ := y
    simp at h
    subst h
    exact ⟨i, rfl, by have := (findM_some hf).2; simpa using this⟩
/-- The first of a key, told by what is ahead of it. -/
theorem findM_first {α β : Type} [DecidableEq α] {a : α} {v : β} : ∀ {m : List (α × β)} {i j : Nat}, m[j]? = some (a, v) → (∀ e ∈ m.take j, e.1 ≠ a) → findM a m i = some (i + j, v)
  | [], i, j, h, _ => by simp at h
  | x :: xs, i, 0, h, _ => by
    simp at h; subst h; simp [findM]
  | x :: xs, i, j + 1, h, hn => by
    have hx : x.1 ≠ a := hn x (by simp)
    simp only [findM]
    rw [if_neg (Ne.symm hx), findM_first (i := i + 1) (j := j) (by simpa using h) (fun e he => hn e (by simp [he]))]
    congr 2; omega

theorem getM_perm {α β : Type} [DecidableEq α] {m m' : List (α × β)} (u : Uniq m) (p : m.Perm m') (a : α) : getM m a = getM m' a := by
  have u' : Uniq m' := by unfold Uniq at *; exact (p.map _).nodup_iff.1 u
  cases h : getM m a with
  | some v => exact (getM_of_mem u' (p.mem_iff.1 (getM_mem h))).symm
  | none =>
    cases h' : getM m' a with
    | none => rfl
    | some v => rw [getM_of_mem u (p.mem_iff.2 (getM_mem h'))] at h; cases h
theorem perm_of_getM {α β : Type} [DecidableEq α] [DecidableEq β] {m m' : List (α × β)} (u : Uniq m) (u' : Uniq m') (h : ∀ a, getM m a = getM m' a) : m.Perm m' := by
  have nd : ∀ {l : List (α × β)}, Uniq l → l.Nodup := fun {l} ul => by unfold Uniq at ul; exact List.Pairwise.of_map (·.1) (fun a b hab he => hab (by rw [he])) ul
  refine (List.perm_ext_iff_of_nodup (nd u) (nd u')).2 fun e => ?_
  constructor
  · intro he; have := getM_of_mem (a := e.1) (v := e.2) u he; rw [h] at this; exact getM_mem this
  · intro he; have := getM_of_mem (a := e.1) (v := e.2) u' he; rw [← h] at this; exact getM_mem this
end Go.Proofs.Ytchbipkoifmmdaa

/- The builtin clear: of a map; of a slice. -/
namespace Go.Proofs.Ytchbipkoifmmdaa
open Go
set_option linter.unusedSimpArgs false
set_option linter.unusedVariables false

@[simp] theorem ldN_10 {h : Hp} {b o : Nat} : ldN h b o 10 = (h.cell? ⟨b, o, none⟩).bind fun a0 => (h.cell? ⟨b, o + 1, none⟩).bind fun a1 => (h.cell? ⟨b, o + 2, none⟩).bind fun a2 => (h.cell? ⟨b, o + 3, none⟩).bind fun a3 => (h.cell? ⟨b, o + 4, none⟩).bind fun a4 => (h.cell? ⟨b, o + 5, none⟩).bind fun a5 => (h.cell? ⟨b, o + 6, none⟩).bind fun a6 => (h.cell? ⟨b, o + 7, none⟩).bind fun a7 => (h.cell? ⟨b, o + 8, none⟩).bind fun a8 => (h.cell? ⟨b, o + 9, none⟩).bind fun a9 => some [a0, a1, a2, a3, a4, a5, a6, a7, a8, a9] := by
  simp only [ldN_succ, ldN_0, Nat.add_assoc, Option.map_some, Nat.reduceAdd]
  simp [Function.comp_def, Option.map_bind]
@[simp] theorem ldN_11 {h : Hp} {b o : Nat} : ldN h b o 11 = (h.cell? ⟨b, o, none⟩).bind fun a0 => (h.cell? ⟨b, o + 1, none⟩).bind fun a1 => (h.cell? ⟨b, o + 2, none⟩).bind fun a2 => (h.cell? ⟨b, o + 3, none⟩).bind fun a3 => (h.cell? ⟨b, o + 4, none⟩).bind fun a4 => (h.cell? ⟨b, o + 5, none⟩).bind fun a5 => (h.cell? ⟨b, o + 6, none⟩).bind fun a6 => (h.cell? ⟨b, o + 7, none⟩).bind fun a7 => (h.cell? ⟨b, o + 8, none⟩).bind fun a8 => (h.cell? ⟨b, o + 9, none⟩).bind fun a9 => (h.cell? ⟨b, o + 10, none⟩).bind fun a10 => some [a0, a1, a2, a3, a4, a5, a6, a7, a8, a9, a10] := by
  simp only [ldN_succ, ldN_0, Nat.add_assoc, Option.map_some, Nat.reduceAdd]
  simp [Function.comp_def, Option.map_bind]
@[simp] theorem ldN_12 {h : Hp} {b o : Nat} : ldN h b o 12 = (h.cell? ⟨b, o, none⟩).bind fun a0 => (h.cell? ⟨b, o + 1, none⟩).bind fun a1 => (h.cell? ⟨b, o + 2, none⟩).bind fun a2 => (h.cell? ⟨b, o + 3, none⟩).bind fun a3 => (h.cell? ⟨b, o + 4, none⟩).bind fun a4 => (h.cell? ⟨b, o + 5, none⟩).bind fun a5 => (h.cell? ⟨b, o + 6, none⟩).bind fun a6 => (h.cell? ⟨b, o + 7, none⟩).bind fun a7 => (h.cell? ⟨b, o + 8, none⟩).bind fun a8 => (h.cell? ⟨b, o + 9, none⟩).bind fun a9 => (h.cell? ⟨b, o + 10, none⟩).bind fun a10 => (h.cell? ⟨b, o + 11, none⟩).bind fun a11 => some [a0, a1, a2, a3, a4, a5, a6, a7, a8, a9, a10, a11] := by
  simp only [ldN_succ, ldN_0, Nat.add_assoc, Option.map_some, Nat.reduceAdd]
  simp [Function.comp_def, Option.map_bind]
@[simp] theorem ldN_13 {h : Hp} {b o : Nat} : ldN h b o 13 = (h.cell? ⟨b, o, none⟩).bind fun a0 => (h.cell? ⟨b, o + 1, none⟩).bind fun a1 => (h.cell? ⟨b, o + 2, none⟩).bind fun a2 => (h.cell? ⟨b, o + 3, none⟩).bind fun a3 => (h.cell? ⟨b, o + 4, none⟩).bind fun a4 => (h.cell? ⟨b, o + 5, none⟩).bind fun a5 => (h.cell? ⟨b, o + 6, none⟩).bind fun a6 => (h.cell? ⟨b, o + 7, none⟩).bind fun a7 => (h.cell? ⟨b, o + 8, none⟩).bind fun a8 => (h.cell? ⟨b, o + 9, none⟩).bind fun a9 => (h.cell? ⟨b, o + 10, none⟩).bind fun a10 => (h.cell? ⟨b, o + 11, none⟩).bind fun a11 => (h.cell? ⟨b, o + 12, none⟩).bind fun a12 => some [a0, a1, a2, a3, a4, a5, a6, a7, a8, a9, a10, a11, a12] := by
  simp only [ldN_succ, ldN_0, Nat.add_assoc, Option.map_some, Nat.reduceAdd]
  simp [Function.comp_def, Option.map_bind]
@[simp] theorem ldN_14 {h : Hp} {b o : Nat} : ldN h b o 14 = (h.cell? ⟨b, o, none⟩).bind fun a0 => (h.cell? ⟨b, o + 1, none⟩).bind fun a1 => (h.cell? ⟨b, o + 2, none⟩).bind fun a2 => (h.cell? ⟨b, o + 3, none⟩).bind fun a3 => (h.cell? ⟨b, o + 4, none⟩).bind fun a4 => (h.cell? ⟨b, o + 5, none⟩).bind fun a5 => (h.cell? ⟨b, o + 6, none⟩).bind fun a6 => (h.cell? ⟨b, o + 7, none⟩).bind fun a7 => (h.cell? ⟨b, o + 8, none⟩).bind fun a8 => (h.cell? ⟨b, o + 9, none⟩).bind fun a9 => (h.cell? ⟨b, o + 10, none⟩).bind fun a10 => (h.cell? ⟨b, o + 11, none⟩).bind fun a11 => (h.cell? ⟨b, o + 12, none⟩).bind fun a12 => (h.cell? ⟨b, o + 13, none⟩).bind fun a13 => some [a0, a1, a2, a3, a4, a5, a6, a7, a8, a9, a10, a11, a12, a13] := by
  simp only [ldN_succ, ldN_0, Nat.add_assoc, Option.map_some, Nat.reduceAdd]
  simp [Function.comp_def, Option.map_bind]
@[simp] theorem ldN_15 {h : Hp} {b o : Nat} : ldN h b o 15 = (h.cell? ⟨b, o, none⟩).bind fun a0 => (h.cell? ⟨b, o + 1, none⟩).bind fun a1 => (h.cell? ⟨b, o + 2, none⟩).bind fun a2 => (h.cell? ⟨b, o + 3, none⟩).bind fun a3 => (h.cell? ⟨b, o + 4, none⟩).bind fun a4 => (h.cell? ⟨b, o + 5, none⟩).bind fun a5 => (h.cell? ⟨b, o + 6, none⟩).bind fun a6 => (h.cell? ⟨b, o + 7, none⟩).bind fun a7 => (h.cell? ⟨b, o + 8, none⟩).bind fun a8 => (h.cell? ⟨b, o + 9, none⟩).bind fun a9 => (h.cell? ⟨b, o + 10, none⟩).bind fun a10 => (h.cell? ⟨b, o + 11, none⟩).bind fun a11 => (h.cell? ⟨b, o + 12, none⟩).bind fun a12 => (h.cell? ⟨b, o + 13, none⟩).bind fun a13 => (h.cell? ⟨b, o + 14, none⟩).bind fun a14 => some [a0, a1, a2, a3, a4, a5, a6, a7, a8, a9, a10, a11, a12, a13, a14] := by
  simp only [ldN_succ, ldN_0, Nat.add_assoc, Option.map_some, Nat.reduceAdd]
  simp [Function.comp_def, Option.map_bind]
@[simp] theorem ldN_16 {h : Hp} {b o : Nat} : ldN h b o 16 = (h.cell? ⟨b, o, none⟩).bind fun a0 => (h.cell? ⟨b, o + 1, none⟩).bind fun a1 => (h.cell? ⟨b, o + 2, none⟩).bind fun a2 => (h.cell? ⟨b, o + 3, none⟩).bind fun a3 => (h.cell? ⟨b, o + 4, none⟩).bind fun a4 => (h.cell? ⟨b, o + 5, none⟩).bind fun a5 => (h.cell? ⟨b, o + 6, none⟩).bind fun a6 => (h.cell? ⟨b, o + 7, none⟩).bind fun a7 => (h.cell? ⟨b, o + 8, none⟩).bind fun a8 => (h.cell? ⟨b, o + 9, none⟩).bind fun a9 => (h.cell? ⟨b, o + 10, none⟩).bind fun a10 => (h.cell? ⟨b, o + 11, none⟩).bind fun a11 => (h.cell? ⟨b, o + 12, none⟩).bind fun a12 => (h.cell? ⟨b, o + 13, none⟩).bind fun a13 => (h.cell? ⟨b, o + 14, none⟩).bind fun a14 => (h.cell? ⟨b, o + 15, none⟩).bind fun a15 => some [a0, a1, a2, a3, a4, a5, a6, a7, a8, a9, a10, a11, a12, a13, a14, a15] := by
  simp only [ldN_succ, ldN_0, Nat.add_assoc, Option.map_some, Nat.reduceAdd]
  simp [Function.comp_def, Option.map_bind]

section
variable {P : Program} {h : Hp} {α β : Type} {kenc : α → Value} {venc : β → Value}
theorem arun_clearMap {t kt et R : TypeId} {ts : Array TypeId} {r : Nat} {m : List (α × β)} {K : Value → Hp → Prop} (ht : ts[0]? = some t) (hu : P.underlying t = some (.map kt et)) (M : MapB h r kenc venc m)
    (hK : ∀ o, MapB (h.upd r o) r kenc venc ([] : List (α × β)) → K (.tuple #[]) (h.upd r o)) : arun P (Builtin.clear_ ts R #[.map (some r)]) h K := by
  obtain ⟨es, clock, hr, hE, hB⟩ := M
  unfold Builtin.clear_
  rw [ht]
  simp only [List.getElem?_toArray, List.getElem?_cons_zero]
  rw [arun_bnd_rr (a := .map kt et) (by rw [rr_underlying, hu])]
  rw [arun_bnd_rr (a := .map es clock) (rr_getObj hr)]
  simp only []
  exact ⟨⟨_, hr, rfl⟩, hK _ ⟨#[], clock, upd_same, .nil, by simp [BornOk]⟩⟩

/-- The end of a slice is cleared: what is ahead of it stays. -/
theorem arun_clearSl {t E R sz : Nat} {ts : Array TypeId} {b k n cap : Nat} {E' : TypeId} {c : Array Value} {z : Value} {K : Value → Hp → Prop} (ht : ts[0]? = some t) (hu : P.underlying t = some (.slice E)) (hz : (P.info? E).bind (·.zero) = some z)
    (hzs : z.cells.size = sz) (hz1 : z.cells.toList.all oneCell = true) (hb : h b = some (.cells c E' (0, 0))) (hc : k + (n + 1) * sz ≤ c.size)
    (hK : ∀ c' : Array Value, c'.size = c.size → (∀ j, j < k → c'[j]? = c[j]?) → K (.tuple #[]) (h.upd b (.cells c' E' (0, 0)))) :
    arun P (Builtin.clear_ ts R #[.slice (some ⟨b, k, none⟩) (n + 1) cap]) h K := by
  have hzc : ∀ n, (Builtin.zeroCells z.cells n).size = n * sz := by intro n; simp [Builtin.zeroCells, hzs]
  unfold Builtin.clear_
  rw [ht]
  simp only [List.getElem?_toArray, List.getElem?_cons_zero]
  rw [arun_bnd_rr (a := .slice E) (by rw [rr_underlying, hu])]
  simp only [bind_assoc, pure_bind]
  refine arun_bind _ _ (arun_of_rrun _ (rr_zeroValue hz) ?_)
  refine arun_bind _ _ (arun_storeCells _ 0 h _ ?_)
  have hl : (Builtin.zeroCells z.cells (n + 1)).toList.length = (n + 1) * sz := by rw [Array.length_toList, hzc]
  have ho : (Builtin.zeroCells z.cells (n + 1)).toList.all oneCell = true := by
    rw [List.all_eq_true] at hz1 ⊢
    intro v hv
    simp only [Builtin.zeroCells] at hv
    rw [Array.toList_map, List.mem_map] at hv
    obtain ⟨i, hi, rfl⟩ := hv
    have hi' : i < (n + 1) * z.cells.size := by simpa using hi
    have hpos : 0 < z.cells.size := Nat.pos_of_ne_zero fun q => by rw [q] at hi'; simp at hi'
    have hlt := Nat.mod_lt i hpos
    rw [getElem!_pos z.cells _ hlt]
    exact hz1 _ (Array.getElem_mem_toList hlt)
  obtain ⟨c', k1, k2, k3, k4⟩ := stN_at (k := fun h' => arun P (pure (Value.tuple #[]) : Sem Value) h' K) (Builtin.zeroCells z.cells (n + 1)).toList (k + 0) c h hb (by rw [hl]; omega) ho
  exact k4 (hK c' k1 (fun j hj => k3 j (.inl (by omega))))
end
end Go.Proofs.Ytchbipkoifmmdaa

/- Numbers of prefixes. -/
namespace Go.Proofs.Ytchbipkoifmmdaa
open Go
set_option linter.unusedSimpArgs false

/-! ### Bits -/
def msk (n : Nat) : Nat := 2 ^ 32 - 2 ^ (32 - n)

def maskI (n : Int) : Int := IntKind.u32.wrap (4294967295 * 2 ^ (32 - max 0 (min n 32)).toNat)

theorem maskI_nat {n : Nat} (h : n ≤ 32) : maskI (n : Int) = (msk n : Nat) := by
  have : ∀ k : Fin 33, maskI ((k.1 : Nat) : Int) = (msk k.1 : Nat) := by decide
  exact this ⟨n, by omega⟩

theorem bits_and_u32 {a b : Nat} (ha : a < 2 ^ 32) (hb : b < 2 ^ 32) : bits_and .u32 (a : Int) (b : Int) = ((a &&& b : Nat) : Int) := by
  have h : (BitVec.ofInt 32 (a : Int) &&& BitVec.ofInt 32 (b : Int)).toNat = a &&& b := by
    simp [BitVec.ofInt_natCast, BitVec.toNat_and, Nat.mod_eq_of_lt ha, Nat.mod_eq_of_lt hb]
  show IntKind.u32.wrap ((BitVec.ofInt 32 (a : Int) &&& BitVec.ofInt 32 (b : Int)).toNat : Nat) = _
  rw [h, wrap_u32]
  · omega
  · have := Nat.and_le_left (n := a) (m := b); omega

theorem bits_xor_u32 {a b : Nat} (ha : a < 2 ^ 32) (hb : b < 2 ^ 32) : bits_xor .u32 (a : Int) (b : Int) = ((a ^^^ b : Nat) : Int) := by
  have h : (BitVec.ofInt 32 (a : Int) ^^^ BitVec.ofInt 32 (b : Int)).toNat = a ^^^ b := by
    simp [BitVec.ofInt_natCast, BitVec.toNat_xor, Nat.mod_eq_of_lt ha, Nat.mod_eq_of_lt hb]
  show IntKind.u32.wrap ((BitVec.ofInt 32 (a : Int) ^^^ BitVec.ofInt 32 (b : Int)).toNat : Nat) = _
  rw [h, wrap_u32]
  · omega
  · have := Nat.xor_lt_two_pow ha hb; omega

theorem bits_or_u32 {a b : Nat} (ha : a < 2 ^ 32) (hb : b < 2 ^ 32) : bits_or .u32 (a : Int) (b : Int) = ((a ||| b : Nat) : Int) := by
  have h : (BitVec.ofInt 32 (a : Int) ||| BitVec.ofInt 32 (b : Int)).toNat = a ||| b := by
    simp [BitVec.ofInt_natCast, BitVec.toNat_or, Nat.mod_eq_of_lt ha, Nat.mod_eq_of_lt hb]
  show IntKind.u32.wrap ((BitVec.ofInt 32 (a : Int) ||| BitVec.ofInt 32 (b : Int)).toNat : Nat) = _
  rw [h, wrap_u32]
  · omega
  · have := Nat.or_lt_two_pow ha hb; omega

theorem msk_lt (n : Nat) : msk n < 2 ^ 32 := by
  unfold msk
  have : 0 < 2 ^ (32 - n) := Nat.two_pow_pos _
  omega

theorem and_low (a k : Nat) : a &&& (2 ^ k - 1) = a % 2 ^ k := Nat.and_two_pow_sub_one_eq_mod a k

theorem msk_test {n i : Nat} (h : n ≤ 32) : (msk n).testBit i = (decide (32 - n ≤ i) && decide (i < 32)) := by
  have key : ∀ k : Fin 33, ∀ j : Fin 32, (msk k.1).testBit j.1 = (decide (32 - k.1 ≤ j.1) && decide (j.1 < 32)) := by decide
  rcases Nat.lt_or_ge i 32 with hi | hi
  · exact key ⟨n, by omega⟩ ⟨i, hi⟩
  · have h2 : (msk n).testBit i = false := Nat.testBit_lt_two_pow (Nat.lt_of_lt_of_le (msk_lt n) (Nat.pow_le_pow_right (by omega) hi))
    rw [h2]
    have : decide (i < 32) = false := by simp; omega
    rw [this, Bool.and_false]

theorem and_msk {a n : Nat} (ha : a < 2 ^ 32) (h : n ≤ 32) : a &&& msk n = a / 2 ^ (32 - n) * 2 ^ (32 - n) := by
  apply Nat.eq_of_testBit_eq
  intro i
  rw [Nat.testBit_and, msk_test h, Nat.testBit_mul_two_pow, Nat.testBit_div_two_pow]
  by_cases h1 : 32 - n ≤ i
  · rw [Nat.sub_add_cancel h1]
    by_cases h2 : i < 32
    · simp [h1, h2]
    · have : a.testBit i = false := Nat.testBit_lt_two_pow (Nat.lt_of_lt_of_le ha (Nat.pow_le_pow_right (by omega) (by omega)))
      simp [this]
  · simp [h1]

theorem bits_andNot_msk {a n : Nat} (ha : a < 2 ^ 32) (h : n ≤ 32) : bits_andNot .u32 (a : Int) (msk n : Nat) = ((a % 2 ^ (32 - n) : Nat) : Int) := by
  have e : (BitVec.ofInt 32 (a : Int) &&& ~~~(BitVec.ofInt 32 ((msk n : Nat) : Int))).toNat = a % 2 ^ (32 - n) := by
    have h1 : 2 ^ 32 - 1 - msk n = 2 ^ (32 - n) - 1 := by
      have : ∀ k : Fin 33, 2 ^ 32 - 1 - msk k.1 = 2 ^ (32 - k.1) - 1 := by decide
      exact this ⟨n, by omega⟩
    rw [BitVec.toNat_and, BitVec.toNat_not, BitVec.ofInt_natCast, BitVec.ofInt_natCast, BitVec.toNat_ofNat, BitVec.toNat_ofNat, Nat.mod_eq_of_lt ha, Nat.mod_eq_of_lt (msk_lt n), h1, and_low]
  show IntKind.u32.wrap ((BitVec.ofInt 32 (a : Int) &&& ~~~(BitVec.ofInt 32 ((msk n : Nat) : Int))).toNat : Nat) = _
  rw [e, wrap_u32]
  · omega
  · have := Nat.mod_le a (2 ^ (32 - n)); omega

/-- May, in plain words. -/
def mayB (a : Nat) (n : Int) : Bool := decide (0 ≤ n) && decide (n ≤ 32) && (a % 2 ^ (32 - n.toNat) == 0)

theorem cast_mod (a k : Nat) : ((a % 2 ^ k : Nat) : Int) = (a : Int) % 2 ^ k := by simp

theorem mayB_eq {a m : Nat} (h : m ≤ 32) : mayB a (m : Int) = decide ((a : Int) % 2 ^ (32 - m) = 0) := by
  rw [← cast_mod]
  have h0 : decide ((m : Int) ≤ 32) = true := by simp; omega
  unfold mayB
  rw [h0, Int.toNat_natCast]
  generalize a % 2 ^ (32 - m) = r
  rw [Bool.eq_iff_iff]
  simp

/-- Has, in plain words, of a prefix that may be. -/
def hasB (p : Nat × Nat) (x : Nat) : Bool := x / 2 ^ (32 - p.2) == p.1 / 2 ^ (32 - p.2)

theorem xor_zero {x y : Nat} : x ^^^ y = 0 ↔ x = y := by
  constructor
  · intro h
    apply Nat.eq_of_testBit_eq
    intro i
    have := congrArg (fun z => z.testBit i) h
    simp only [Nat.testBit_xor, Nat.zero_testBit] at this
    cases h1 : x.testBit i <;> cases h2 : y.testBit i <;> simp_all
  · rintro rfl; exact Nat.xor_self _

theorem xor_div (x y k : Nat) : (x ^^^ y) / 2 ^ k = x / 2 ^ k ^^^ y / 2 ^ k := by
  apply Nat.eq_of_testBit_eq
  intro i
  simp only [Nat.testBit_xor, Nat.testBit_div_two_pow]

theorem hasB_eq {a m x : Nat} (ha : a < 2 ^ 32) (hx : x < 2 ^ 32) (h : m ≤ 32) : hasB (a, m) x = decide ((((x ^^^ a) &&& msk m : Nat) : Int) = 0) := by
  rw [and_msk (Nat.xor_lt_two_pow hx ha) h, xor_div]
  unfold hasB
  rw [Bool.eq_iff_iff]
  simp only [beq_iff_eq, decide_eq_true_eq, Int.natCast_eq_zero, Nat.mul_eq_zero, xor_zero]
  have : 2 ^ (32 - m) ≠ 0 := Nat.ne_of_gt (Nat.two_pow_pos _)
  omega

theorem mayB_le {a : Nat} {n : Int} (h : mayB a n = true) : 0 ≤ n ∧ n ≤ 32 := by
  simp [mayB] at h; omega

theorem fdiv_pow (a k : Nat) : ((a : Nat) : Int).fdiv (2 ^ k) = ((a / 2 ^ k : Nat) : Int) := by
  rw [Int.fdiv_eq_ediv_of_nonneg _ (Int.le_of_lt (Int.pow_pos (by omega)))]
  simp

theorem cast_eq (q a : Nat) : decide (q = a) = decide ((q : Int) = (a : Int)) := by
  rw [Bool.eq_iff_iff]; simp only [decide_eq_true_eq]; omega

theorem msk_step {i : Nat} (h : i < 32) : msk (i + 1) = msk i + 2 ^ 31 / 2 ^ i ∧ msk (i + 1) < 2 ^ 32 ∧ 2 ^ 31 / 2 ^ i < 2 ^ 32 ∧ 2 ^ 31 / 2 ^ (i + 1) = 2 ^ 31 / 2 ^ i / 2 := by
  have key : ∀ k : Fin 32, msk (k.1 + 1) = msk k.1 + 2 ^ 31 / 2 ^ k.1 ∧ msk (k.1 + 1) < 2 ^ 32 ∧ 2 ^ 31 / 2 ^ k.1 < 2 ^ 32 ∧ 2 ^ 31 / 2 ^ (k.1 + 1) = 2 ^ 31 / 2 ^ k.1 / 2 := by decide
  exact key ⟨i, h⟩

end Go.Proofs.Ytchbipkoifmmdaa

/- prefix.Less. -/
namespace Go.Proofs.Ytchbipkoifmmdaa
open Go
set_option linter.unusedSimpArgs false

theorem less_spec {a b : Nat} {n m : Int} {h : Hp} {Q : Value → Hp → Prop} (hQ : Q (.bool (decide (a < b) || (decide (a = b) && decide (n < m)))) h) :
    Ok Try.prog F_prefix_Less #[.agg #[.int .u32 a, .int .i64 n], .agg #[.int .u32 b, .int .i64 m]] h Q := by
  refine prefix_Less_ok (by simp) ?_
  unfold prefix_Less_D
  simp (disch := omega) [prefix_Less_r0]
  intro b1 hb1 b2 hb2
  obtain ⟨n12, hb2'⟩ := upd_none hb2
  have l : Le h ((h.upd b1 (.cells #[.int .u32 a, .int .i64 n] 24)).upd b2 (.cells #[.int .u32 b, .int .i64 m] 24)) := (Le.new hb1).upd hb2
  by_cases e' : a = b
  · subst e'
    simp (disch := omega) [prefix_Less_r1, prefix_Less_r3, Ne.symm n12]
    refine .to h l ?_
    simpa using hQ
  · have e : ¬ (a : Int) = b := by omega
    simp (disch := omega) [prefix_Less_r1, prefix_Less_r2, e, Ne.symm n12]
    refine .to h l ?_
    simpa [e'] using hQ

end Go.Proofs.Ytchbipkoifmmdaa

/- slices.SortFunc at structs: the kit's contract, turned to partial heaps. -/
namespace Go.Proofs.Ytchbipkoifmmdaa
open Go
open Go.Sort (SWO PermIn SortedIn)
open Go.Shelf (Ren)
set_option linter.unusedSimpArgs false
set_option linter.unusedVariables false

/-- What a call from nowhere leaves: all that was, and more. -/
theorem Keep.grown {W w' : World} {h' : Hp} (K : Keep noHp W h' w') : ∃ q os', w' = Go.Sort.grow (W.drewN q) os' := by
  refine ⟨w'.drawn - W.drawn, w'.heap.extract W.heap.size w'.heap.size, ?_⟩
  obtain ⟨k1, k2, k3, k4, k5, _, k7⟩ := K
  unfold Go.Sort.grow World.drewN
  cases w' with
  | mk heap tape drawn os output =>
    simp only at k1 k2 k3 k4 k5 k7 ⊢
    subst k1 k2 k3
    congr 1
    · refine Array.ext_getElem? fun i => ?_
      rw [Array.getElem?_append]
      split
      · rename_i hi; exact k5 i hi rfl
      · rename_i hi
        rw [Array.getElem?_extract]
        split
        · congr 1; omega
        · rw [Array.getElem?_eq_none (by omega)]
    · omega

theorem sw_heap {α : Type} [Inhabited α] {enc : α → List Value} {k b n : Nat} {w : World} {d : Array α} {os : Array Obj} {i : Nat} (hi : i < w.heap.size) :
    (sortWorldK enc k w b 0 n d os).heap[i]? = if b = i then (w.heap[i]?).map (Go.Sort.onCells (Go.Sort.putCells id 0 (Go.Sort.flatK enc k d))) else w.heap[i]? := by
  unfold sortWorldK Go.Sort.grow Go.Sort.putRowK Go.Sort.putRow Go.Sort.mapBlock Go.Sort.ahead
  simp only []
  rw [Array.getElem?_append_left (by simpa using hi), Array.getElem?_modify]

theorem enc_flat {α : Type} [Inhabited α] {enc : α → List Value} {k : Nat} {c : Array Value} {d : Array α} (hk : ∀ x, (enc x).length = k) (hl : d.size * k ≤ c.size) : Enc (Go.Sort.putCells id 0 (Go.Sort.flatK enc k d) c) 0 k enc d.toList := by
  intro i x hx j hj
  have hi : i < d.size := by have := (List.getElem?_eq_some_iff.1 hx).1; simpa using this
  have hlt : i * k + j < d.size * k := by
    have : (i + 1) * k ≤ d.size * k := Nat.mul_le_mul_right _ hi
    rw [Nat.add_mul] at this; omega
  unfold Go.Sort.putCells
  rw [Array.getElem?_mapIdx, Nat.zero_add, Array.getElem?_eq_getElem (by omega), Option.map_some, if_pos ⟨by omega, by rw [Go.Sort.size_flatK]; omega⟩, Nat.sub_zero]
  rw [Go.Sort.get_flatK _ _ _ _ hlt]
  have e1 : (i * k + j) / k = i := (Go.Sort.blk_iff k i _ (by omega)).1 ⟨by omega, by omega⟩
  have e2 : (i * k + j) % k = j := by rw [Nat.mod_eq_sub_div_mul, e1]; omega
  rw [e1, e2]
  have hx' : d[i]! = x := by
    rw [getElem!_pos d i hi]
    have := (List.getElem?_eq_some_iff.1 hx).2
    simpa using this
  rw [hx']
  have hlj : j < (enc x).length := by rw [hk]; exact hj
  rw [List.getElem?_eq_getElem hlj, id, getElem!_pos _ j hlj]

theorem holds_of {α : Type} [Inhabited α] {enc : α → List Value} {k b E : Nat} {c : Array Value} {d : List α} {w : World} (hk : ∀ x, (enc x).length = k) (hb : w.heap[b]? = some (.cells c E (0, 0))) (hl : d.length * k ≤ c.size) (henc : Enc c 0 k enc d) :
    Go.Sort.HoldsK enc k w b 0 d.toArray := by
  intro t ht
  rw [Go.Sort.size_flatK] at ht
  have ht' : t < d.length * k := by simpa using ht
  have k0 : 0 < k := by rcases Nat.eq_zero_or_pos k with h | h
                        · subst h; simp at ht'
                        · exact h
  have hi : t / k < d.length := by rw [Nat.div_lt_iff_lt_mul k0]; exact ht'
  have hj : t % k < k := Nat.mod_lt _ k0
  have e : t / k * k + t % k = t := by rw [Nat.mul_comm]; exact Nat.div_add_mod t k
  constructor
  · rw [Go.Sort.get_flatK _ _ _ _ ht]
    have := henc (t / k) (d[t / k]'hi) (List.getElem?_eq_getElem hi) (t % k) hj
    have hlj : t % k < (enc (d[t / k]'hi)).length := by rw [hk]; exact hj
    rw [Nat.zero_add, e, List.getElem?_eq_getElem hlj] at this
    unfold World.cell?
    simp only [hb]
    rw [Nat.zero_add]
    simp only [Option.isSome_none, Bool.false_eq_true, if_false]
    rw [this]
    have e9 : (d.toArray)[t / k]! = d[t / k]'hi := by rw [getElem!_pos _ _ (by simpa using hi)]; simp
    rw [e9, id, getElem!_pos (enc (d[t / k]'hi)) _ hlj]
  · unfold World.frozen?
    simp only [hb]
    simp

theorem ok_sortFunc {P : Program} {ρ : Ren} {α : Type} [Inhabited α] (L : SlLaysF0.n6 P ρ) {k : Nat} (aE : ∀ w, (isAgg (ρ.t 24)).run P w = .ok true w) (zE : ∀ w, (Go.sizeOf (ρ.t 24)).run P w = .ok k w)
    {enc : α → List Value} (hk : ∀ x, (enc x).length = k) (h1 : ∀ x, ∀ v ∈ enc x, v.oneCell' = true) {cf : α → α → Int} (hO : SWO (ltOf cf)) {g : Nat} {cb : Array Value}
    (eg : ∀ args w, (callFunc g args).run P w = .ok (.enter g args) w)
    (hcmp : ∀ x y, Ok P g (#[.agg (enc x).toArray, .agg (enc y).toArray] ++ cb) noHp (fun v _ => v = .int .i64 (cf x y)))
    (f6 : ∃ fn c, P.funcs[ρ.f 6]? = some fn ∧ fn.body = some c)
    {E : Nat} {h : Hp} {b cap : Nat} {c : Array Value} {d : List α} (hb : h b = some (.cells c E (0, 0))) (hl : d.length * k ≤ c.size) (henc : Enc c 0 k enc d) (hsz : d.length < 4611686018427387904) {Q : Value → Hp → Prop}
    (hQ : ∀ (d' : List α) (c' : Array Value), d'.Perm d → List.Pairwise (fun x y => ltOf cf y x = false) d' → c'.size = c.size → Enc c' 0 k enc d' → Q (.tuple #[]) (h.upd b (.cells c' E (0, 0)))) :
    Ok P (ρ.f 6) #[.slice (some ⟨b, 0, none⟩) d.length cap, .func (.func g) #[] cb] h Q := by
  refine ⟨f6, fun w V => ?_⟩
  have hbw := V b _ hb
  have hblk : b < w.heap.size := (Array.getElem?_eq_some_iff.1 hbw).1
  have hC : CmpLays P g cb enc k cf b 0 d.toArray.size w := fun m os dk hs x y =>
    ((hcmp x y).2 _ (fun b o e => by cases e)).mono fun e w' ⟨v, h', he, _, K, hv⟩ => ⟨by rw [he, hv], K.grown⟩
  have hs := AnyQ.slices_SortFunc L k aE zE enc hk h1 cf hO g cb b 0 cap d.toArray w eg hC (holds_of hk hbw hl henc) hblk (by simpa using hsz)
  rw [show d.toArray.size = d.length by simp] at hs
  refine hs.mono ?_
  rintro e w' ⟨rfl, d', n, os, hp, hsr, rfl⟩
  obtain ⟨hp1, _, hp3⟩ := hp
  have hds : d'.size = d.length := by simpa using hp1
  have hperm : d'.toList.Perm d := by
    have e1 : d'.extract 0 d.length = d' := by rw [← hds]; exact Array.extract_size
    have e2 : d.toArray.extract 0 d.length = d.toArray := by
      have : d.length = d.toArray.size := by simp
      rw [this]; exact Array.extract_size
    rw [e1, e2] at hp3
    exact hp3
  have hpw : List.Pairwise (fun x y => ltOf cf y x = false) d'.toList := by
    rw [List.pairwise_iff_getElem]
    intro i j hi hj hij
    have hi' : i < d'.size := by simpa using hi
    have hj' : j < d'.size := by simpa using hj
    have := hsr i j (Nat.zero_le _) hij (by omega)
    rw [getElem!_pos d' i hi', getElem!_pos d' j hj'] at this
    simpa using this
  have hcs : (Go.Sort.putCells id 0 (Go.Sort.flatK enc k d') c).size = c.size := by unfold Go.Sort.putCells; simp
  refine ⟨_, h.upd b (.cells (Go.Sort.putCells id 0 (Go.Sort.flatK enc k d') c) E (0, 0)), rfl, ?_, ?_, hQ _ _ hperm hpw hcs (enc_flat hk (by rw [hds]; exact hl))⟩
  · intro x o hx
    unfold Hp.upd at hx
    split at hx
    · rename_i e; subst e; cases hx
      rw [sw_heap hblk, if_pos rfl, hbw]; rfl
    · rename_i ne
      have hw := V x o hx
      rw [sw_heap (Array.getElem?_eq_some_iff.1 hw).1, if_neg (fun e => ne e.symm)]; exact hw
  · refine ⟨rfl, rfl, rfl, ?_, fun i hi hn => ?_, fun i hi hn => ?_, ?_⟩
    · unfold sortWorldK Go.Sort.putRowK
      rw [Go.Sort.size_grow, Go.Sort.size_putRow]
      exact Nat.le_add_right _ _
    · rw [sw_heap hi, if_neg (by rintro rfl; rw [hb] at hn; cases hn)]
    · unfold Hp.upd; rw [if_neg (by rintro rfl; rw [hb] at hn; cases hn)]; exact hn
    · show w.drawn ≤ w.drawn + n; omega
end Go.Proofs.Ytchbipkoifmmdaa

/- The order of prefixes. -/
namespace Go.Proofs.Ytchbipkoifmmdaa
open Go Go.Sort
set_option linter.unusedSimpArgs false
set_option linter.unusedVariables false

abbrev PK := Nat × Int
def pltB (x y : PK) : Bool := decide (x.1 < y.1) || (decide (x.1 = y.1) && decide (x.2 < y.2))
def cmpP (x y : PK) : Int := if pltB x y then -1 else if x = y then 0 else 1
def plt (x y : PK) : Prop := x.1 < y.1 ∨ (x.1 = y.1 ∧ x.2 < y.2)
instance (x y : PK) : Decidable (plt x y) := by unfold plt; infer_instance
theorem pltB_iff {x y : PK} : pltB x y = true ↔ plt x y := by simp [pltB, plt]

theorem cmpP_lt {x y : PK} : cmpP x y < 0 ↔ plt x y := by
  rw [← pltB_iff]
  unfold cmpP
  by_cases h : pltB x y = true
  · simp [h]
  · rw [if_neg h]
    constructor
    · intro q; split at q <;> omega
    · intro q; exact absurd q h
theorem ltP (x y : PK) : ltOf cmpP x y = decide (plt x y) := by
  unfold ltOf
  rw [decide_eq_decide]
  exact cmpP_lt
theorem plt_trans {x y z : PK} (h1 : plt x y) (h2 : plt y z) : plt x z := by unfold plt at *; omega
theorem plt_ntrans {x y z : PK} (h1 : ¬ plt x y) (h2 : ¬ plt y z) : ¬ plt x z := by unfold plt at *; omega
theorem plt_tri {x y : PK} (h1 : ¬ plt x y) (h2 : ¬ plt y x) : x = y := by
  unfold plt at *
  exact Prod.ext (by omega) (by omega)
theorem plt_irr {x : PK} : ¬ plt x x := by unfold plt; omega
theorem plt_asym {x y : PK} (h : plt x y) : ¬ plt y x := by unfold plt at *; omega
theorem swoP : SWO (ltOf cmpP) where
  irrefl x := by rw [ltP]; simp [plt_irr]
  trans x y z h1 h2 := by rw [ltP, decide_eq_true_eq] at *; exact plt_trans h1 h2
  ntrans x y z h1 h2 := by rw [ltP, decide_eq_false_iff_not] at *; exact plt_ntrans h1 h2

/-- None comes ahead of an earlier one. -/
def SrtP (l : List PK) : Prop := l.Pairwise fun x y => ¬ plt y x
theorem srtP_unique {l l' : List PK} (s : SrtP l) (s' : SrtP l') (p : l.Perm l') : l = l' :=
  List.Perm.eq_of_pairwise (le := fun x y => ¬ plt y x) (fun a b _ _ h1 h2 => plt_tri h2 h1) s s' p
end Go.Proofs.Ytchbipkoifmmdaa

/- Laws of maps (printed by wip/lib/maps.py). -/
namespace Go.Proofs.Ytchbipkoifmmdaa
open Go
set_option linter.unusedSimpArgs false
set_option linter.unusedVariables false
set_option maxRecDepth 20000

abbrev kencP (p : PK) : List Value := [.int .u32 (p.1 : Nat), .int .i64 p.2]
abbrev kvalP (p : PK) : Value := .agg #[.int .u32 (p.1 : Nat), .int .i64 p.2]
abbrev valP (v : Tlv) : Value := .agg #[.int .i64 v.k, .int .u16 (v.s : Nat), .int .i64 v.iv, .int .i64 v.c, .int .u32 (v.a : Nat), .int .i64 v.l, .int .u64 (v.rt : Nat), .int .u16 (v.tg : Nat), .int .i64 v.hp]
theorem eqP {h : Hp} {p q : PK} : rrun Try.prog (Op.equal 24 (kvalP p) (kvalP q)) h = some (decide (p = q)) := by
  unfold kvalP
  rw [keq_70]
  congr 1
  rw [Bool.eq_iff_iff]
  simp only [Bool.and_true, Bool.and_eq_true, decide_eq_true_eq, Prod.ext_iff]
  omega
theorem findP {h : Hp} {β : Type} {venc : β → Value} {p : PK} {m : List ((PK) × β)} {es : List MapEntry} (H : Ents kvalP venc es m) : rrun Try.prog (Instr.findKey 24 (kvalP p) es) h = some ((findM p m 0).map fun x => (x.1, venc x.2)) :=
  rr_findKey_struct Try.underlying24 (fun q => eqP) H
abbrev MpP (h : Hp) (r : Nat) (m : List ((PK) × (Tlv))) : Prop := MapB h r kvalP valP m
theorem lookP {h : Hp} {r : Nat} {p : PK} {m : List ((PK) × (Tlv))} (M : MpP h r m) :
    rrun Try.prog (Instr.lookup 70 (.map (some r)) (.agg #[.int .u32 (p.1 : Nat), .int .i64 p.2]) true) h = some (.tuple #[match getM m p with | some v => valP v | none => .agg #[.int .i64 0, .int .u16 0, .int .i64 0, .int .i64 0, .int .u32 0, .int .i64 0, .int .u64 0, .int .u16 0, .int .i64 0], .bool (getM m p).isSome]) := by
  have := rr_lookup (a := p) (z := .agg #[.int .i64 0, .int .u16 0, .int .i64 0, .int .i64 0, .int .u32 0, .int .i64 0, .int .u64 0, .int .u16 0, .int .i64 0]) Try.underlying70 M.at (fun e => ck_70) (fun es H => findP H) (by kernel_rfl)
  rw [show (Value.agg #[.int .u32 (p.1 : Nat), .int .i64 p.2]) = kvalP p from rfl, this]
  cases getM m p <;> rfl
theorem putP {h : Hp} {r : Nat} {p : PK} {v : Tlv} {m : List ((PK) × (Tlv))} {K : Unit → Hp → Prop} (M : MpP h r m) (hK : ∀ o, MpP (h.upd r o) r (setM p v m) → K () (h.upd r o)) :
    arun Try.prog (Instr.mapUpdate 70 (.map (some r)) (.agg #[.int .u32 (p.1 : Nat), .int .i64 p.2]) (.agg #[.int .i64 v.k, .int .u16 (v.s : Nat), .int .i64 v.iv, .int .i64 v.c, .int .u32 (v.a : Nat), .int .i64 v.l, .int .u64 (v.rt : Nat), .int .u16 (v.tg : Nat), .int .i64 v.hp])) h K :=
  arun_mapUpdateB (a := p) (v := v) (kenc := kvalP) (venc := valP) Try.underlying70 M (fun e => ck_70) (fun es H => findP H) sb_70 (fun _ _ => hK _)
theorem lenP {h : Hp} {r : Nat} {m : List ((PK) × (Tlv))} {R : TypeId} (M : MpP h r m) : rrun Try.prog (Builtin.len_ #[70] R #[.map (some r)]) h = some (.int .i64 (m.length : Nat)) :=
  rr_mapLen (kenc := kvalP) (venc := valP) rfl Try.underlying70 M.at
theorem delP {h : Hp} {r : Nat} {R kk : TypeId} {p : PK} {m : List ((PK) × (Tlv))} {K : Value → Hp → Prop} (M : MpP h r m) (hK : ∀ o, MpP (h.upd r o) r (delM p m) → K (.tuple #[]) (h.upd r o)) :
    arun Try.prog (Builtin.delete_ #[70, kk] R #[.map (some r), .agg #[.int .u32 (p.1 : Nat), .int .i64 p.2]]) h K :=
  arun_mapDeleteB (a := p) (kenc := kvalP) (venc := valP) rfl Try.underlying70 M (fun e => ck_70) (fun es H => findP H) (fun _ _ => hK _)
theorem delSP {h : Hp} {it r : Nat} {R kk : TypeId} {p : PK} {m : List ((PK) × (Tlv))} {V : List (PK)} {K : Value → Hp → Prop} (I : IterS h it r kvalP valP m V) (hK : ∀ o, IterS (h.upd r o) it r kvalP valP (delM p m) V → K (.tuple #[]) (h.upd r o)) :
    arun Try.prog (Builtin.delete_ #[70, kk] R #[.map (some r), .agg #[.int .u32 (p.1 : Nat), .int .i64 p.2]]) h K :=
  arun_mapDeleteS (a := p) (kenc := kvalP) (venc := valP) rfl Try.underlying70 I (fun e => ck_70) (fun es H => findP H) hK
theorem clearP {h : Hp} {r : Nat} {R : TypeId} {m : List ((PK) × (Tlv))} {K : Value → Hp → Prop} (M : MpP h r m) (hK : ∀ o, MpP (h.upd r o) r [] → K (.tuple #[]) (h.upd r o)) :
    arun Try.prog (Builtin.clear_ #[70] R #[.map (some r)]) h K :=
  arun_clearMap rfl Try.underlying70 M hK
theorem makeP {h : Hp} {K : Value → Hp → Prop} (hK : ∀ b, h b = none → MpP (h.upd b (.map #[] 0)) b [] → K (.map (some b)) (h.upd b (.map #[] 0))) : arun Try.prog (Instr.makeMap 70 none) h K :=
  arun_makeMapB hK

abbrev kencF (p : PK × Int) : List Value := [.int .u32 (p.1.1 : Nat), .int .i64 p.1.2, .int .i64 p.2]
abbrev kvalF (p : PK × Int) : Value := .agg #[.int .u32 (p.1.1 : Nat), .int .i64 p.1.2, .int .i64 p.2]
abbrev valF (v : Int × Tlv) : Value := .agg #[.int .i64 v.1, .int .i64 v.2.k, .int .u16 (v.2.s : Nat), .int .i64 v.2.iv, .int .i64 v.2.c, .int .u32 (v.2.a : Nat), .int .i64 v.2.l, .int .u64 (v.2.rt : Nat), .int .u16 (v.2.tg : Nat), .int .i64 v.2.hp]
theorem eqF {h : Hp} {p q : PK × Int} : rrun Try.prog (Op.equal 77 (kvalF p) (kvalF q)) h = some (decide (p = q)) := by
  unfold kvalF
  rw [keq_71]
  congr 1
  rw [Bool.eq_iff_iff]
  simp only [Bool.and_true, Bool.and_eq_true, decide_eq_true_eq, Prod.ext_iff]
  omega
theorem findF {h : Hp} {β : Type} {venc : β → Value} {p : PK × Int} {m : List ((PK × Int) × β)} {es : List MapEntry} (H : Ents kvalF venc es m) : rrun Try.prog (Instr.findKey 77 (kvalF p) es) h = some ((findM p m 0).map fun x => (x.1, venc x.2)) :=
  rr_findKey_struct Try.underlying77 (fun q => eqF) H
abbrev MpF (h : Hp) (r : Nat) (m : List ((PK × Int) × (Int × Tlv))) : Prop := MapB h r kvalF valF m
theorem lookF {h : Hp} {r : Nat} {p : PK × Int} {m : List ((PK × Int) × (Int × Tlv))} (M : MpF h r m) :
    rrun Try.prog (Instr.lookup 71 (.map (some r)) (.agg #[.int .u32 (p.1.1 : Nat), .int .i64 p.1.2, .int .i64 p.2]) true) h = some (.tuple #[match getM m p with | some v => valF v | none => .agg #[.int .i64 0, .int .i64 0, .int .u16 0, .int .i64 0, .int .i64 0, .int .u32 0, .int .i64 0, .int .u64 0, .int .u16 0, .int .i64 0], .bool (getM m p).isSome]) := by
  have := rr_lookup (a := p) (z := .agg #[.int .i64 0, .int .i64 0, .int .u16 0, .int .i64 0, .int .i64 0, .int .u32 0, .int .i64 0, .int .u64 0, .int .u16 0, .int .i64 0]) Try.underlying71 M.at (fun e => ck_71) (fun es H => findF H) (by kernel_rfl)
  rw [show (Value.agg #[.int .u32 (p.1.1 : Nat), .int .i64 p.1.2, .int .i64 p.2]) = kvalF p from rfl, this]
  cases getM m p <;> rfl
theorem putF {h : Hp} {r : Nat} {p : PK × Int} {v : Int × Tlv} {m : List ((PK × Int) × (Int × Tlv))} {K : Unit → Hp → Prop} (M : MpF h r m) (hK : ∀ o, MpF (h.upd r o) r (setM p v m) → K () (h.upd r o)) :
    arun Try.prog (Instr.mapUpdate 71 (.map (some r)) (.agg #[.int .u32 (p.1.1 : Nat), .int .i64 p.1.2, .int .i64 p.2]) (.agg #[.int .i64 v.1, .int .i64 v.2.k, .int .u16 (v.2.s : Nat), .int .i64 v.2.iv, .int .i64 v.2.c, .int .u32 (v.2.a : Nat), .int .i64 v.2.l, .int .u64 (v.2.rt : Nat), .int .u16 (v.2.tg : Nat), .int .i64 v.2.hp])) h K :=
  arun_mapUpdateB (a := p) (v := v) (kenc := kvalF) (venc := valF) Try.underlying71 M (fun e => ck_71) (fun es H => findF H) sb_71 (fun _ _ => hK _)
theorem lenF {h : Hp} {r : Nat} {m : List ((PK × Int) × (Int × Tlv))} {R : TypeId} (M : MpF h r m) : rrun Try.prog (Builtin.len_ #[71] R #[.map (some r)]) h = some (.int .i64 (m.length : Nat)) :=
  rr_mapLen (kenc := kvalF) (venc := valF) rfl Try.underlying71 M.at
theorem delF {h : Hp} {r : Nat} {R kk : TypeId} {p : PK × Int} {m : List ((PK × Int) × (Int × Tlv))} {K : Value → Hp → Prop} (M : MpF h r m) (hK : ∀ o, MpF (h.upd r o) r (delM p m) → K (.tuple #[]) (h.upd r o)) :
    arun Try.prog (Builtin.delete_ #[71, kk] R #[.map (some r), .agg #[.int .u32 (p.1.1 : Nat), .int .i64 p.1.2, .int .i64 p.2]]) h K :=
  arun_mapDeleteB (a := p) (kenc := kvalF) (venc := valF) rfl Try.underlying71 M (fun e => ck_71) (fun es H => findF H) (fun _ _ => hK _)
theorem delSF {h : Hp} {it r : Nat} {R kk : TypeId} {p : PK × Int} {m : List ((PK × Int) × (Int × Tlv))} {V : List (PK × Int)} {K : Value → Hp → Prop} (I : IterS h it r kvalF valF m V) (hK : ∀ o, IterS (h.upd r o) it r kvalF valF (delM p m) V → K (.tuple #[]) (h.upd r o)) :
    arun Try.prog (Builtin.delete_ #[71, kk] R #[.map (some r), .agg #[.int .u32 (p.1.1 : Nat), .int .i64 p.1.2, .int .i64 p.2]]) h K :=
  arun_mapDeleteS (a := p) (kenc := kvalF) (venc := valF) rfl Try.underlying71 I (fun e => ck_71) (fun es H => findF H) hK
theorem clearF {h : Hp} {r : Nat} {R : TypeId} {m : List ((PK × Int) × (Int × Tlv))} {K : Value → Hp → Prop} (M : MpF h r m) (hK : ∀ o, MpF (h.upd r o) r [] → K (.tuple #[]) (h.upd r o)) :
    arun Try.prog (Builtin.clear_ #[71] R #[.map (some r)]) h K :=
  arun_clearMap rfl Try.underlying71 M hK
theorem makeF {h : Hp} {K : Value → Hp → Prop} (hK : ∀ b, h b = none → MpF (h.upd b (.map #[] 0)) b [] → K (.map (some b)) (h.upd b (.map #[] 0))) : arun Try.prog (Instr.makeMap 71 none) h K :=
  arun_makeMapB hK

abbrev kencS (p : PK × Nat) : List Value := [.int .u32 (p.1.1 : Nat), .int .i64 p.1.2, .int .u64 (p.2 : Nat)]
abbrev kvalS (p : PK × Nat) : Value := .agg #[.int .u32 (p.1.1 : Nat), .int .i64 p.1.2, .int .u64 (p.2 : Nat)]
abbrev valS (v : Nat × Int) : Value := .agg #[.int .u16 (v.1 : Nat), .int .i64 v.2]
theorem eqS {h : Hp} {p q : PK × Nat} : rrun Try.prog (Op.equal 83 (kvalS p) (kvalS q)) h = some (decide (p = q)) := by
  unfold kvalS
  rw [keq_72]
  congr 1
  rw [Bool.eq_iff_iff]
  simp only [Bool.and_true, Bool.and_eq_true, decide_eq_true_eq, Prod.ext_iff]
  omega
theorem findS {h : Hp} {β : Type} {venc : β → Value} {p : PK × Nat} {m : List ((PK × Nat) × β)} {es : List MapEntry} (H : Ents kvalS venc es m) : rrun Try.prog (Instr.findKey 83 (kvalS p) es) h = some ((findM p m 0).map fun x => (x.1, venc x.2)) :=
  rr_findKey_struct Try.underlying83 (fun q => eqS) H
abbrev MpS (h : Hp) (r : Nat) (m : List ((PK × Nat) × (Nat × Int))) : Prop := MapB h r kvalS valS m
theorem lookS {h : Hp} {r : Nat} {p : PK × Nat} {m : List ((PK × Nat) × (Nat × Int))} (M : MpS h r m) :
    rrun Try.prog (Instr.lookup 72 (.map (some r)) (.agg #[.int .u32 (p.1.1 : Nat), .int .i64 p.1.2, .int .u64 (p.2 : Nat)]) true) h = some (.tuple #[match getM m p with | some v => valS v | none => .agg #[.int .u16 0, .int .i64 0], .bool (getM m p).isSome]) := by
  have := rr_lookup (a := p) (z := .agg #[.int .u16 0, .int .i64 0]) Try.underlying72 M.at (fun e => ck_72) (fun es H => findS H) (by kernel_rfl)
  rw [show (Value.agg #[.int .u32 (p.1.1 : Nat), .int .i64 p.1.2, .int .u64 (p.2 : Nat)]) = kvalS p from rfl, this]
  cases getM m p <;> rfl
theorem putS {h : Hp} {r : Nat} {p : PK × Nat} {v : Nat × Int} {m : List ((PK × Nat) × (Nat × Int))} {K : Unit → Hp → Prop} (M : MpS h r m) (hK : ∀ o, MpS (h.upd r o) r (setM p v m) → K () (h.upd r o)) :
    arun Try.prog (Instr.mapUpdate 72 (.map (some r)) (.agg #[.int .u32 (p.1.1 : Nat), .int .i64 p.1.2, .int .u64 (p.2 : Nat)]) (.agg #[.int .u16 (v.1 : Nat), .int .i64 v.2])) h K :=
  arun_mapUpdateB (a := p) (v := v) (kenc := kvalS) (venc := valS) Try.underlying72 M (fun e => ck_72) (fun es H => findS H) sb_72 (fun _ _ => hK _)
theorem lenS {h : Hp} {r : Nat} {m : List ((PK × Nat) × (Nat × Int))} {R : TypeId} (M : MpS h r m) : rrun Try.prog (Builtin.len_ #[72] R #[.map (some r)]) h = some (.int .i64 (m.length : Nat)) :=
  rr_mapLen (kenc := kvalS) (venc := valS) rfl Try.underlying72 M.at
theorem delS {h : Hp} {r : Nat} {R kk : TypeId} {p : PK × Nat} {m : List ((PK × Nat) × (Nat × Int))} {K : Value → Hp → Prop} (M : MpS h r m) (hK : ∀ o, MpS (h.upd r o) r (delM p m) → K (.tuple #[]) (h.upd r o)) :
    arun Try.prog (Builtin.delete_ #[72, kk] R #[.map (some r), .agg #[.int .u32 (p.1.1 : Nat), .int .i64 p.1.2, .int .u64 (p.2 : Nat)]]) h K :=
  arun_mapDeleteB (a := p) (kenc := kvalS) (venc := valS) rfl Try.underlying72 M (fun e => ck_72) (fun es H => findS H) (fun _ _ => hK _)
theorem delSS {h : Hp} {it r : Nat} {R kk : TypeId} {p : PK × Nat} {m : List ((PK × Nat) × (Nat × Int))} {V : List (PK × Nat)} {K : Value → Hp → Prop} (I : IterS h it r kvalS valS m V) (hK : ∀ o, IterS (h.upd r o) it r kvalS valS (delM p m) V → K (.tuple #[]) (h.upd r o)) :
    arun Try.prog (Builtin.delete_ #[72, kk] R #[.map (some r), .agg #[.int .u32 (p.1.1 : Nat), .int .i64 p.1.2, .int .u64 (p.2 : Nat)]]) h K :=
  arun_mapDeleteS (a := p) (kenc := kvalS) (venc := valS) rfl Try.underlying72 I (fun e => ck_72) (fun es H => findS H) hK
theorem clearS {h : Hp} {r : Nat} {R : TypeId} {m : List ((PK × Nat) × (Nat × Int))} {K : Value → Hp → Prop} (M : MpS h r m) (hK : ∀ o, MpS (h.upd r o) r [] → K (.tuple #[]) (h.upd r o)) :
    arun Try.prog (Builtin.clear_ #[72] R #[.map (some r)]) h K :=
  arun_clearMap rfl Try.underlying72 M hK
theorem makeS {h : Hp} {K : Value → Hp → Prop} (hK : ∀ b, h b = none → MpS (h.upd b (.map #[] 0)) b [] → K (.map (some b)) (h.upd b (.map #[] 0))) : arun Try.prog (Instr.makeMap 72 none) h K :=
  arun_makeMapB hK

end Go.Proofs.Ytchbipkoifmmdaa

/- Bits of 16. -/
namespace Go.Proofs.Ytchbipkoifmmdaa
open Go
theorem bits_and_u16 {a b : Nat} (ha : a < 2 ^ 16) (hb : b < 2 ^ 16) : bits_and .u16 (a : Int) (b : Int) = ((a &&& b : Nat) : Int) := by
  have h : (BitVec.ofInt 16 (a : Int) &&& BitVec.ofInt 16 (b : Int)).toNat = a &&& b := by
    simp [BitVec.ofInt_natCast, BitVec.toNat_and, Nat.mod_eq_of_lt ha, Nat.mod_eq_of_lt hb]
  show IntKind.u16.wrap ((BitVec.ofInt 16 (a : Int) &&& BitVec.ofInt 16 (b : Int)).toNat : Nat) = _
  rw [h, wrap_u16]
  · omega
  · have := Nat.and_le_left (n := a) (m := b); omega
theorem bits_or_u16 {a b : Nat} (ha : a < 2 ^ 16) (hb : b < 2 ^ 16) : bits_or .u16 (a : Int) (b : Int) = ((a ||| b : Nat) : Int) := by
  have h : (BitVec.ofInt 16 (a : Int) ||| BitVec.ofInt 16 (b : Int)).toNat = a ||| b := by
    simp [BitVec.ofInt_natCast, BitVec.toNat_or, Nat.mod_eq_of_lt ha, Nat.mod_eq_of_lt hb]
  show IntKind.u16.wrap ((BitVec.ofInt 16 (a : Int) ||| BitVec.ofInt 16 (b : Int)).toNat : Nat) = _
  rw [h, wrap_u16]
  · omega
  · have := Nat.or_lt_two_pow ha hb; omega
end Go.Proofs.Ytchbipkoifmmdaa

/- tags.Has. -/
namespace Go.Proofs.Ytchbipkoifmmdaa
open Go
set_option linter.unusedSimpArgs false

/-- A set has a domain. -/
def hasT (t : Nat) (d : Int) : Bool := decide (0 ≤ d) && (decide (d < 16) && (t / 2 ^ d.toNat % 2 == 1))

theorem tmay_spec {d : Int} {h : Hp} {Q : Value → Hp → Prop} (hQ : Q (.bool (decide (0 ≤ d) && decide (d < 16))) h) : Ok Try.prog F_tags_may #[.int .i64 d] h Q := by
  refine tags_may_ok (by simp) ?_
  unfold tags_may_D
  by_cases h0 : 0 ≤ d
  · simp (disch := omega) [tags_may_r0, tags_may_r1, h0]
    exact .to _ (.refl _) (by simpa [h0] using hQ)
  · simp (disch := omega) [tags_may_r0, tags_may_r1, h0]
    exact .to _ (.refl _) (by simpa [h0] using hQ)

theorem thas_spec {t : Nat} {d : Int} {h : Hp} {Q : Value → Hp → Prop} (ht : t < 2 ^ 16) (hQ : Q (.bool (hasT t d)) h) : Ok Try.prog F_tags_Has #[.int .u16 (t : Nat), .int .i64 d] h Q := by
  refine tags_Has_ok (by simp) ?_
  unfold tags_Has_D
  simp (disch := omega) [tags_Has_r0, tags_Has_r1]
  refine tmay_spec ?_
  by_cases h0 : 0 ≤ d
  · by_cases h1 : d < 16
    · obtain ⟨m, rfl⟩ := Int.eq_ofNat_of_zero_le h0
      have hm : m < 16 := by omega
      have e1 : min m 16 = m := by omega
      have e2 : bits_and .u16 ((t : Int).fdiv (2 ^ m)) 1 = ((t / 2 ^ m % 2 : Nat) : Int) := by
        rw [fdiv_pow]
        have := bits_and_u16 (a := t / 2 ^ m) (b := 1) (Nat.lt_of_le_of_lt (Nat.div_le_self _ _) ht) (by omega)
        rw [Nat.and_one_is_mod] at this
        exact this
      have e3 : decide (((t / 2 ^ m % 2 : Nat) : Int) = 1) = hasT t (m : Int) := by
        unfold hasT
        rw [Bool.eq_iff_iff]
        simp only [decide_eq_true_eq, Bool.and_eq_true, beq_iff_eq, Int.toNat_natCast]
        omega
      generalize t / 2 ^ m % 2 = q at e2 e3
      simp (disch := omega) [h0, hm, h1, e1, e2]
      refine .to _ (.refl _) ?_
      rw [← e3] at hQ
      exact hQ
    · simp (disch := omega) [h0, h1]
      exact .to _ (.refl _) (by simpa [hasT, h0, h1] using hQ)
  · simp (disch := omega) [h0]
    exact .to _ (.refl _) (by simpa [hasT, h0] using hQ)
end Go.Proofs.Ytchbipkoifmmdaa

/- num.Add. -/
namespace Go.Proofs.Ytchbipkoifmmdaa
open Go
set_option linter.unusedSimpArgs false

/-- The sum of two numbers, or the most. -/
def addM (a b most : Int) : Int := min (max a 0) (max most 0) + min (max b 0) (max most 0 - min (max a 0) (max most 0))

theorem add_spec {a b most : Int} {h : Hp} {Q : Value → Hp → Prop} (hm : most < 9223372036854775808) (hQ : Q (.int .i64 (addM a b most)) h) : Ok Try.prog F_num_Add #[.int .i64 a, .int .i64 b, .int .i64 most] h Q := by
  refine num_Add_ok (by simp) ?_
  unfold num_Add_D
  simp (disch := omega) [num_Add_r0, num_Add_r1, num_Add_r2, wrap_i64]
  exact .to _ (.refl _) hQ
end Go.Proofs.Ytchbipkoifmmdaa

/- prefix.Mask, prefix.May. -/
namespace Go.Proofs.Ytchbipkoifmmdaa
open Go
set_option linter.unusedSimpArgs false

theorem mask_spec {n : Int} {h : Hp} {Q : Value → Hp → Prop} (hQ : Q (.int .u32 (maskI n)) h) : Ok Try.prog F_prefix_Mask #[.int .i64 n] h Q := by
  refine prefix_Mask_ok (by simp) ?_
  unfold prefix_Mask_D
  simp (disch := omega) [prefix_Mask_r0, prefix_Mask_r1, wrap_i64]
  exact .to h (.refl _) hQ

theorem may_spec {a : Nat} {n : Int} {h : Hp} {Q : Value → Hp → Prop} (ha : a < 2 ^ 32) (hQ : Q (.bool (mayB a n)) h) : Ok Try.prog F_prefix_May #[.agg #[.int .u32 a, .int .i64 n]] h Q := by
  refine prefix_May_ok (by simp) ?_
  unfold prefix_May_D
  simp (disch := omega) [prefix_May_r0]
  intro b hb
  by_cases h0 : 0 ≤ n
  · by_cases h1 : n ≤ 32
    · simp (disch := omega) [prefix_May_r1, h0, h1]
      refine mask_spec ?_
      obtain ⟨m, rfl⟩ := Int.eq_ofNat_of_zero_le h0
      rw [maskI_nat (by omega)]
      simp (disch := omega) [bits_andNot_msk]
      refine .to h (.new hb) ?_
      rw [mayB_eq (by omega)] at hQ
      exact hQ
    · simp (disch := omega) [prefix_May_r1, h0, h1]
      refine .to h (.new hb) ?_
      simpa [mayB, h0, h1] using hQ
  · simp (disch := omega) [prefix_May_r1, h0]
    refine .to h (.new hb) ?_
    simpa [mayB, h0] using hQ

end Go.Proofs.Ytchbipkoifmmdaa

/- Babel: what a router knows, in memory; New, Newer, better, of, Own, Drop, Raise. -/
namespace Go.Proofs.Ytchbipkoifmmdaa
open Go
set_option linter.unusedSimpArgs false
set_option linter.unusedVariables false

abbrev MO := List (PK × Tlv)
abbrev MT := List ((PK × Int) × (Int × Tlv))
abbrev MM := List ((PK × Nat) × (Nat × Int))
structure BS where
  id : Nat
  dom : Int
  most : Int
  seq : Nat
  O : MO
  T : MT
  M : MM
  S : MO
structure BP where
  p : Nat
  o : Nat
  t : Nat
  m : Nat
  d : Nat
abbrev T_bab : Nat := 74
abbrev bcells (x : BP) (s : BS) : Array Value := #[.int .u64 (s.id : Nat), .int .i64 s.dom, .int .i64 s.most, .int .u16 (s.seq : Nat), .map (some x.o), .map (some x.t), .map (some x.m), .map (some x.d)]
structure BabAt (h : Hp) (x : BP) (s : BS) : Prop where
  pt : h x.p = some (.cells (bcells x s) T_bab (0, 0))
  mo : MpP h x.o s.O
  mt : MpF h x.t s.T
  mm : MpS h x.m s.M
  md : MpP h x.d s.S
  uo : Uniq s.O
  ut : Uniq s.T
  um : Uniq s.M
  ud : Uniq s.S
  nd : [x.p, x.o, x.t, x.m, x.d].Nodup
def ownB (x : BP) : List Nat := [x.p, x.o, x.t, x.m, x.d]
theorem mem_ownB {x : BP} {y : Nat} : y ∈ ownB x ↔ y = x.p ∨ y = x.o ∨ y = x.t ∨ y = x.m ∨ y = x.d := by simp [ownB]

/-- What a call leaves. -/
structure BQ (h : Hp) (x : BP) (s' : BS) (h' : Hp) : Prop where
  at_ : BabAt h' x s'
  fr : Fr h h' (ownB x) (ownB x)

section
variable {h h' : Hp} {x : BP} {s : BS} {Q : Value → Hp → Prop}
theorem BabAt.keep (A : BabAt h x s) (k : ∀ y o, y ∈ ownB x → h y = some o → h' y = some o) : BabAt h' x s := by
  have e : ∀ y, y ∈ ownB x → (∃ o, h y = some o) → h' y = h y := fun y hy ⟨o, ho⟩ => by rw [ho]; exact k y o hy ho
  exact ⟨k _ _ (mem_ownB.2 (.inl rfl)) A.pt, A.mo.keep (e _ (mem_ownB.2 (.inr (.inl rfl))) A.mo.alive), A.mt.keep (e _ (mem_ownB.2 (.inr (.inr (.inl rfl)))) A.mt.alive),
    A.mm.keep (e _ (mem_ownB.2 (.inr (.inr (.inr (.inl rfl))))) A.mm.alive), A.md.keep (e _ (mem_ownB.2 (.inr (.inr (.inr (.inr rfl))))) A.md.alive), A.uo, A.ut, A.um, A.ud, A.nd⟩
theorem BabAt.le' (A : BabAt h x s) (l : Le h h') : BabAt h' x s := A.keep fun y o _ e => l y o e
theorem BabAt.alive (A : BabAt h x s) : ∀ y, y ∈ ownB x → ∃ o, h y = some o := by
  intro y hy
  rcases mem_ownB.1 hy with rfl | rfl | rfl | rfl | rfl
  · exact ⟨_, A.pt⟩
  · exact A.mo.alive
  · exact A.mt.alive
  · exact A.mm.alive
  · exact A.md.alive
theorem BQ.same (A : BabAt h x s) (l : Le h h') : BQ h x s h' := ⟨A.le' l, .of_le l fun _ m => .inl m⟩
theorem BQ.le' {h1 : Hp} {s' : BS} (l : Le h h1) (q : BQ h1 x s' h') : BQ h x s' h' :=
  ⟨q.at_, ⟨fun y o e n => q.fr.keep y o (l _ _ e) n, fun y m => .inl m⟩⟩
theorem BQ.trans {h1 : Hp} {s1 s' : BS} (a : BQ h x s1 h1) (q : BQ h1 x s' h') : BQ h x s' h' := ⟨q.at_, a.fr.trans q.fr⟩

theorem BabAt.ne (A : BabAt h x s) : x.p ≠ x.o ∧ x.p ≠ x.t ∧ x.p ≠ x.m ∧ x.p ≠ x.d ∧ x.o ≠ x.t ∧ x.o ≠ x.m ∧ x.o ≠ x.d ∧ x.t ≠ x.m ∧ x.t ≠ x.d ∧ x.m ≠ x.d := by
  have := A.nd
  simp only [List.nodup_cons, List.mem_cons, List.not_mem_nil, or_false, not_or] at this
  obtain ⟨⟨a, b, c, d⟩, ⟨e, f, g⟩, ⟨i, j⟩, k, _⟩ := this
  exact ⟨a, b, c, d, e, f, g, i, j, k⟩

/-- One of the four maps is written. -/
theorem BabAt.setO (A : BabAt h x s) {o : Obj} {O' : MO} (M : MpP (h.upd x.o o) x.o O') (u : Uniq O') : BQ h x { s with O := O' } (h.upd x.o o) := by
  obtain ⟨a, b, c, d, e, f, g, i, j, k⟩ := A.ne
  exact ⟨⟨by rw [upd_ne a]; exact A.pt, M, A.mt.keep (upd_ne (Ne.symm e)), A.mm.keep (upd_ne (Ne.symm f)), A.md.keep (upd_ne (Ne.symm g)), u, A.ut, A.um, A.ud, A.nd⟩, .upd (mem_ownB.2 (.inr (.inl rfl)))⟩
theorem BabAt.setT (A : BabAt h x s) {o : Obj} {T' : MT} (M : MpF (h.upd x.t o) x.t T') (u : Uniq T') : BQ h x { s with T := T' } (h.upd x.t o) := by
  obtain ⟨a, b, c, d, e, f, g, i, j, k⟩ := A.ne
  exact ⟨⟨by rw [upd_ne b]; exact A.pt, A.mo.keep (upd_ne e), M, A.mm.keep (upd_ne (Ne.symm i)), A.md.keep (upd_ne (Ne.symm j)), A.uo, u, A.um, A.ud, A.nd⟩, .upd (mem_ownB.2 (.inr (.inr (.inl rfl))))⟩
theorem BabAt.setM (A : BabAt h x s) {o : Obj} {M' : MM} (M : MpS (h.upd x.m o) x.m M') (u : Uniq M') : BQ h x { s with M := M' } (h.upd x.m o) := by
  obtain ⟨a, b, c, d, e, f, g, i, j, k⟩ := A.ne
  exact ⟨⟨by rw [upd_ne c]; exact A.pt, A.mo.keep (upd_ne f), A.mt.keep (upd_ne i), M, A.md.keep (upd_ne (Ne.symm k)), A.uo, A.ut, u, A.ud, A.nd⟩, .upd (mem_ownB.2 (.inr (.inr (.inr (.inl rfl)))))⟩
theorem BabAt.setS (A : BabAt h x s) {o : Obj} {S' : MO} (M : MpP (h.upd x.d o) x.d S') (u : Uniq S') : BQ h x { s with S := S' } (h.upd x.d o) := by
  obtain ⟨a, b, c, d, e, f, g, i, j, k⟩ := A.ne
  exact ⟨⟨by rw [upd_ne d]; exact A.pt, A.mo.keep (upd_ne g), A.mt.keep (upd_ne j), A.mm.keep (upd_ne k), M, A.uo, A.ut, A.um, u, A.nd⟩, .upd (mem_ownB.2 (.inr (.inr (.inr (.inr rfl)))))⟩

theorem bnewM {id : Nat} {dom most : Int} (hQ : ∀ x h', Le h h' → (∀ y, y ∈ ownB x → h y = none) → BabAt h' x ⟨id, dom, min most 64, 0, [], [], [], []⟩ → Q (.pointer (some ⟨x.p, 0, none⟩)) h') :
    Ok Try.prog F_babel_New #[.int .u64 (id : Nat), .int .i64 dom, .int .i64 most] h Q := by
  refine babel_New_ok (by simp) ?_
  unfold babel_New_D
  simp (disch := omega) [babel_New_r0, babel_New_r1]
  refine makeP (fun o ho MO => ?_)
  simp (disch := omega)
  refine makeF (fun t ht MT => ?_)
  simp (disch := omega)
  refine makeS (fun m hm MM => ?_)
  simp (disch := omega)
  refine makeP (fun d hd MD => ?_)
  simp (disch := omega)
  intro p hp
  have l1 : Le h (h.upd o (.map #[] 0)) := .new ho
  have l2 := l1.trans (Le.new (o := .map #[] 0) ht)
  have l3 := l2.trans (Le.new (o := .map #[] 0) hm)
  have l4 := l3.trans (Le.new (o := .map #[] 0) hd)
  have l5 := l4.trans (Le.new (o := .cells (bcells ⟨p, o, t, m, d⟩ ⟨id, dom, min most 64, 0, [], [], [], []⟩) T_bab) hp)
  obtain ⟨a1, a2⟩ := upd_none hp
  obtain ⟨a3, a4⟩ := upd_none a2
  obtain ⟨a5, a6⟩ := upd_none a4
  obtain ⟨a7, a8⟩ := upd_none a6
  obtain ⟨b1, b2⟩ := upd_none hd
  obtain ⟨b3, b4⟩ := upd_none b2
  obtain ⟨b5, b6⟩ := upd_none b4
  obtain ⟨c1, c2⟩ := upd_none hm
  obtain ⟨c3, c4⟩ := upd_none c2
  obtain ⟨d1, d2⟩ := upd_none ht
  have L5 := Le.new (o := .cells (bcells ⟨p, o, t, m, d⟩ ⟨id, dom, min most 64, 0, [], [], [], []⟩) T_bab) hp
  have L4 := (Le.new (o := .map #[] 0) hd).trans L5
  have L3 := (Le.new (o := .map #[] 0) hm).trans L4
  have L2 := (Le.new (o := .map #[] 0) ht).trans L3
  refine .to _ (.refl _) (hQ ⟨p, o, t, m, d⟩ _ l5 (fun y hy => ?_) ⟨upd_same, MO.le L2, MT.le L3, MM.le L4, MD.le L5, by simp [Uniq], by simp [Uniq], by simp [Uniq], by simp [Uniq], ?_⟩)
  · rcases mem_ownB.1 hy with rfl | rfl | rfl | rfl | rfl <;> assumption
  · simp only [List.nodup_cons, List.mem_cons, List.not_mem_nil, or_false, not_or, List.nodup_nil, not_false_eq_true, and_true]
    exact ⟨⟨a7, a5, a3, a1⟩, ⟨Ne.symm d1, Ne.symm c3, Ne.symm b5⟩, ⟨Ne.symm c1, Ne.symm b3⟩, Ne.symm b1⟩

/-! ### Newer, better, of -/
def newerB (a b : Nat) : Bool := decide (a ≠ b) && decide ((a + 65536 - b) % 65536 < 32768)
theorem wrap_sub16 {a b : Nat} (ha : a < 65536) (hb : b < 65536) : IntKind.u16.wrap ((a : Int) - b) = (((a + 65536 - b) % 65536 : Nat) : Int) := by
  show ((a : Int) - b) % 65536 = _
  omega
set_option maxRecDepth 20000 in
theorem newerM {a b : Nat} (ha : a < 65536) (hb : b < 65536) (hQ : Q (.bool (newerB a b)) h) : Ok Try.prog F_num_Newer #[.int .u16 (a : Nat), .int .u16 (b : Nat)] h Q := by
  refine num_Newer_ok (by simp) ?_
  unfold num_Newer_D
  unfold newerB at hQ
  have w := wrap_sub16 ha hb
  generalize (a + 65536 - b) % 65536 = z at *
  by_cases e : a = b
  · subst e
    simp at hQ
    simp (disch := omega) [num_Newer_r0, num_Newer_r1]
    exact .to _ (.refl _) hQ
  · have e' : ¬ (a : Int) = (b : Int) := by omega
    by_cases c : z < 32768
    · have c' : ((z : Nat) : Int) < 32768 := by omega
      rw [decide_eq_true c, decide_eq_true e] at hQ
      simp (disch := omega) [num_Newer_r0, num_Newer_r1, e', w, c', e, c]
      exact .to _ (.refl _) hQ
    · have c' : ¬ ((z : Nat) : Int) < 32768 := by omega
      rw [decide_eq_false c, decide_eq_true e] at hQ
      simp (disch := omega) [num_Newer_r0, num_Newer_r1, e', w, c', e, c]
      exact .to _ (.refl _) hQ

def betterB (M : MM) (k : PK × Nat) (s : Nat) (n : Int) : Bool := match getM M k with | none => true | some y => newerB s y.1 || (decide (s = y.1) && decide (n < y.2))
/-- Numbers that are. -/
def SeqOk (M : MM) : Prop := ∀ e ∈ M, e.2.1 < 65536
set_option maxRecDepth 20000 in
theorem betterM {k : PK × Nat} {sn : Nat} {n : Int} (A : BabAt h x s) (hM : SeqOk s.M) (hs : sn < 65536) (hQ : ∀ h', Le h h' → Q (.bool (betterB s.M k sn n)) h') :
    Ok Try.prog F_babel_Babel_better #[.pointer (some ⟨x.p, 0, none⟩), .agg #[.int .u32 (k.1.1 : Nat), .int .i64 k.1.2, .int .u64 (k.2 : Nat)], .agg #[.int .u16 (sn : Nat), .int .i64 n]] h Q := by
  refine babel_Babel_better_ok (by simp) ?_
  unfold babel_Babel_better_D
  simp (disch := omega) [babel_Babel_better_r0]
  intro b4 hb4 b5 hb5
  obtain ⟨n54, hb5'⟩ := upd_none hb5
  have L1 : Le h ((h.upd b4 (.cells (kencS k).toArray 83)).upd b5 (.cells #[.int .u16 (sn : Nat), .int .i64 n] 85)) := (Le.new hb4).trans (Le.new hb5)
  have f4 : ((h.upd b4 (.cells (kencS k).toArray 83)).upd b5 (.cells #[.int .u16 (sn : Nat), .int .i64 n] 85)) b4 = some (.cells (kencS k).toArray 83) := by rw [upd_ne (Ne.symm n54), upd_same]
  have f5 : ((h.upd b4 (.cells (kencS k).toArray 83)).upd b5 (.cells #[.int .u16 (sn : Nat), .int .i64 n] 85)) b5 = some (.cells #[.int .u16 (sn : Nat), .int .i64 n] 85) := upd_same
  show babel_Babel_better_r1 _ ((h.upd b4 (.cells (kencS k).toArray 83)).upd b5 (.cells #[.int .u16 (sn : Nat), .int .i64 n] 85)) _
  generalize (h.upd b4 (.cells (kencS k).toArray 83)).upd b5 (.cells #[.int .u16 (sn : Nat), .int .i64 n] 85) = h1 at *
  have A1 := A.le' L1
  have hp := A1.pt
  have lk := lookS (p := k) A1.mm
  have two : ∀ (v : Nat × Int) (is : Bool), (∀ h2, Le h1 h2 → rrun Try.prog (Instr.lookup 72 (.map (some x.m)) (.agg #[.int .u32 (k.1.1 : Nat), .int .i64 k.1.2, .int .u64 (k.2 : Nat)]) true) h2 = some (.tuple #[.agg #[.int .u16 (v.1 : Nat), .int .i64 v.2], .bool is])) →
      (∀ (env : Env) b7 h2, Le h1 h2 → h2 b7 = some (.cells #[.int .u16 (v.1 : Nat), .int .i64 v.2] 85) → env 5 = .pointer (some ⟨b5, 0, none⟩) → env 7 = .pointer (some ⟨b7, 0, none⟩) → env 8 = .bool is →
        babel_Babel_better_r2 env h2 (thenK (ex .ret) (fin Try.prog [.tmp 6] Q) .normal)) →
      ∀ env : Env, env 0 = .pointer (some ⟨x.p, 0, none⟩) → env 4 = .pointer (some ⟨b4, 0, none⟩) → env 5 = .pointer (some ⟨b5, 0, none⟩) →
      babel_Babel_better_r1 env h1 (thenK (sq (rg babel_Babel_better_r2) (ex .ret)) (fin Try.prog [.tmp 6] Q) .normal) := by
    intro v is lk go env e0 e4 e5
    have lk1 := lk h1 (.refl _)
    simp (disch := omega) [babel_Babel_better_r1, hp, f4, lk1, e0, e4, e5]
    intro b7 hb7
    have L7 : Le h1 (h1.upd b7 (.cells #[.int .u16 0, .int .i64 0] 85)) := .new hb7
    have f7 : (h1.upd b7 (.cells #[.int .u16 0, .int .i64 0] 85)) b7 = some (.cells #[.int .u16 0, .int .i64 0] 85 (0, 0)) := upd_same
    have L8 : Le h1 ((h1.upd b7 (.cells #[.int .u16 0, .int .i64 0] 85)).upd b7 (.cells #[.int .u16 (v.1 : Nat), .int .i64 v.2] 85)) := fun y o e => by
      have : y ≠ b7 := by rintro rfl; rw [hb7] at e; cases e
      rw [upd_ne this]; exact L7 _ _ e
    generalize h1.upd b7 (.cells #[.int .u16 0, .int .i64 0] 85) = h2 at *
    have lk2 := lk h2 L7
    have f42 := L7 _ _ f4
    have hp2 := L7 _ _ hp
    simp (disch := omega) [hp2, f42, lk2, f7, e5]
    refine go _ b7 _ L8 upd_same ?_ ?_ ?_ <;> simp [e5]
  have hs' : (sn : Int) < 65536 := by omega
  unfold betterB at hQ
  cases hg : getM s.M k with
  | none =>
    rw [hg] at hQ
    refine two (0, 0) false (fun h2 l2 => ?_) (fun env b7 h2 l2 f7 e5 e7 e8 => ?_) _ ?_ ?_ ?_
    · have := lookS (p := k) (A1.le' l2).mm
      rw [hg] at this; exact this
    · simp (disch := omega) [babel_Babel_better_r2, e5, e7, e8]
      exact .to _ (.refl _) (hQ _ (L1.trans l2))
    all_goals simp
  | some y =>
    rw [hg] at hQ
    have hy : y.1 < 65536 := hM _ (getM_mem hg)
    refine two y true (fun h2 l2 => ?_) (fun env b7 h2 l2 f7 e5 e7 e8 => ?_) _ ?_ ?_ ?_
    · have := lookS (p := k) (A1.le' l2).mm
      rw [hg] at this; exact this
    · have f52 := l2 _ _ f5
      simp (disch := omega) [babel_Babel_better_r2, e5, e7, e8, f52, f7]
      refine newerM hs hy ?_
      have hq := hQ _ (L1.trans l2)
      simp only at hq
      cases hn : newerB sn y.1 with
      | true =>
        rw [hn] at hq
        simp (disch := omega) [e5, e7, f52, f7]
        exact .to _ (.refl _) hq
      | false =>
        rw [hn] at hq
        by_cases c1 : sn = y.1
        · by_cases c2 : n < y.2
          · rw [decide_eq_true c1, decide_eq_true c2] at hq
            simp (disch := omega) [e5, e7, f52, f7, c1, c2]
            exact .to _ (.refl _) hq
          · rw [decide_eq_true c1, decide_eq_false c2] at hq
            simp (disch := omega) [e5, e7, f52, f7, c1, c2]
            exact .to _ (.refl _) hq
        · have c1' : ¬ (sn : Int) = (y.1 : Int) := by omega
          rw [decide_eq_false c1] at hq
          simp (disch := omega) [e5, e7, f52, f7, c1, c1']
          exact .to _ (.refl _) hq
    all_goals simp
end
end Go.Proofs.Ytchbipkoifmmdaa

/- Babel: of; Know, Least, Len, Raise. -/
namespace Go.Proofs.Ytchbipkoifmmdaa
open Go
set_option linter.unusedSimpArgs false
set_option linter.unusedVariables false

abbrev mkV (t : Tlv) : Value := .agg #[.int .u16 (t.s : Nat), .int .i64 t.c]
abbrev srcK (t : Tlv) : PK × Nat := ((t.a, t.l), t.rt)

section
variable {h h' : Hp} {x : BP} {s : BS} {Q : Value → Hp → Prop}

set_option maxHeartbeats 1000000 in
set_option maxRecDepth 20000 in
theorem ofM {t : Tlv} (hQ : ∀ h', Le h h' → Q (.tuple #[.agg #[.int .u32 (t.a : Nat), .int .i64 t.l, .int .u64 (t.rt : Nat)], .agg #[.int .u16 (t.s : Nat), .int .i64 t.c]]) h') : Ok Try.prog F_babel_of #[Tlvv t] h Q := by
  refine babel_of_ok (by simp) ?_
  unfold babel_of_D
  simp (disch := omega) [babel_of_r0]
  intro b1 hb1 b2 hb2 b3 hb3
  show babel_of_r1 _ (((h.upd b1 (.cells t.cells 31)).upd b2 (.cells #[.int .u32 0, .int .i64 0, .int .u64 0] 83)).upd b3 (.cells #[.int .u16 0, .int .i64 0] 85)) _
  obtain ⟨n32, hb3'⟩ := upd_none hb3
  obtain ⟨n31, hb3''⟩ := upd_none hb3'
  obtain ⟨n21, hb2'⟩ := upd_none hb2
  have f1 : (((h.upd b1 (.cells t.cells 31)).upd b2 (.cells #[.int .u32 0, .int .i64 0, .int .u64 0] 83)).upd b3 (.cells #[.int .u16 0, .int .i64 0] 85)) b1 = some (.cells t.cells 31) := by rw [upd_ne (Ne.symm n31), upd_ne (Ne.symm n21), upd_same]
  have f2 : (((h.upd b1 (.cells t.cells 31)).upd b2 (.cells #[.int .u32 0, .int .i64 0, .int .u64 0] 83)).upd b3 (.cells #[.int .u16 0, .int .i64 0] 85)) b2 = some (.cells #[.int .u32 0, .int .i64 0, .int .u64 0] 83) := by rw [upd_ne (Ne.symm n32), upd_same]
  have f3 : (((h.upd b1 (.cells t.cells 31)).upd b2 (.cells #[.int .u32 0, .int .i64 0, .int .u64 0] 83)).upd b3 (.cells #[.int .u16 0, .int .i64 0] 85)) b3 = some (.cells #[.int .u16 0, .int .i64 0] 85) := upd_same
  have L : Le h (((h.upd b1 (.cells t.cells 31)).upd b2 (.cells #[.int .u32 0, .int .i64 0, .int .u64 0] 83)).upd b3 (.cells #[.int .u16 0, .int .i64 0] 85)) := ((Le.new hb1).trans (Le.new hb2)).trans (Le.new hb3)
  generalize ((h.upd b1 (.cells t.cells 31)).upd b2 (.cells #[.int .u32 0, .int .i64 0, .int .u64 0] 83)).upd b3 (.cells #[.int .u16 0, .int .i64 0] 85) = g at *
  simp (disch := omega) [babel_of_r1, f1, f2, f3, n21, n31, n32, Ne.symm n21, Ne.symm n31, Ne.symm n32]
  refine .to _ (.refl _) (hQ _ fun y o e => ?_)
  have q3 : y ≠ b3 := by rintro rfl; rw [hb3''] at e; cases e
  have q2 : y ≠ b2 := by rintro rfl; rw [hb2'] at e; cases e
  rw [upd_ne q3, upd_ne q2]; exact L _ _ e

theorem bLenM (A : BabAt h x s) (hQ : Q (.int .i64 (s.T.length : Nat)) h) : Ok Try.prog F_babel_Babel_Len #[.pointer (some ⟨x.p, 0, none⟩)] h Q := by
  refine babel_Babel_Len_ok (by simp) ?_
  unfold babel_Babel_Len_D
  simp (disch := omega) [babel_Babel_Len_r0, babel_Babel_Len_r1, A.pt, lenF A.mt]
  exact .to _ (.refl _) hQ

def raiseN (n : Nat) : Nat := (n + 1) % 65536
theorem wrap_add16 {a : Nat} (ha : a < 65536) : IntKind.u16.wrap ((a : Int) + 1) = ((raiseN a : Nat) : Int) := by
  show ((a : Int) + 1) % 65536 = _
  unfold raiseN
  omega
set_option maxRecDepth 20000 in
theorem bRaiseM (A : BabAt h x s) (hs : s.seq < 65536) (hQ : ∀ h', BQ h x { s with seq := raiseN s.seq } h' → Q (.int .u16 (raiseN s.seq : Nat)) h') : Ok Try.prog F_babel_Babel_Raise #[.pointer (some ⟨x.p, 0, none⟩)] h Q := by
  refine babel_Babel_Raise_ok (by simp) ?_
  unfold babel_Babel_Raise_D
  have hp := A.pt
  have w := wrap_add16 hs
  obtain ⟨a, b, c, d, e, f, g, i, j, k⟩ := A.ne
  simp (disch := omega) [babel_Babel_Raise_r0, babel_Babel_Raise_r1, babel_Babel_Raise_r2, hp, w]
  refine .to _ (.refl _) (hQ _ ⟨⟨by simp [upd_same], A.mo.keep (upd_ne (Ne.symm a)), A.mt.keep (upd_ne (Ne.symm b)), A.mm.keep (upd_ne (Ne.symm c)), A.md.keep (upd_ne (Ne.symm d)), A.uo, A.ut, A.um, A.ud, A.nd⟩, .upd (mem_ownB.2 (.inl rfl))⟩)

set_option maxHeartbeats 1000000 in
set_option maxRecDepth 20000 in
theorem bLeastM {k : PK} {rt : Nat} (A : BabAt h x s) (hQ : ∀ h', Le h h' → Q (.tuple #[.int .u16 (((getM s.M (k, rt)).getD (0, 0)).1 : Nat), .int .i64 ((getM s.M (k, rt)).getD (0, 0)).2, .bool (getM s.M (k, rt)).isSome]) h') :
    Ok Try.prog F_babel_Babel_Least #[.pointer (some ⟨x.p, 0, none⟩), .agg #[.int .u32 (k.1 : Nat), .int .i64 k.2], .int .u64 (rt : Nat)] h Q := by
  refine babel_Babel_Least_ok (by simp) ?_
  unfold babel_Babel_Least_D
  simp (disch := omega) [babel_Babel_Least_r0]
  intro b4 hb4
  have L1 : Le h (h.upd b4 (.cells #[.int .u32 (k.1 : Nat), .int .i64 k.2] 24)) := .new hb4
  have f4 : (h.upd b4 (.cells #[.int .u32 (k.1 : Nat), .int .i64 k.2] 24)) b4 = some (.cells #[.int .u32 (k.1 : Nat), .int .i64 k.2] 24) := upd_same
  generalize h.upd b4 (.cells #[.int .u32 (k.1 : Nat), .int .i64 k.2] 24) = h1 at *
  have A1 := A.le' L1
  have hp := A1.pt
  have lk : ∀ h2, Le h1 h2 → rrun Try.prog (Instr.lookup 72 (.map (some x.m)) (.agg #[.int .u32 (k.1 : Nat), .int .i64 k.2, .int .u64 (rt : Nat)]) true) h2 = some (.tuple #[.agg #[.int .u16 (((getM s.M (k, rt)).getD (0, 0)).1 : Nat), .int .i64 ((getM s.M (k, rt)).getD (0, 0)).2], .bool (getM s.M (k, rt)).isSome]) := fun h2 l2 => by
    have := lookS (p := (k, rt)) (A1.le' l2).mm
    rw [this]
    cases getM s.M (k, rt) <;> rfl
  generalize (getM s.M (k, rt)).getD (0, 0) = v at *
  generalize (getM s.M (k, rt)).isSome = is at *
  have lk1 := lk h1 (.refl _)
  simp (disch := omega) [babel_Babel_Least_r1, hp, f4, lk1]
  intro b7 hb7
  have L7 : Le h1 (h1.upd b7 (.cells #[.int .u16 0, .int .i64 0] 85)) := .new hb7
  have f7 : (h1.upd b7 (.cells #[.int .u16 0, .int .i64 0] 85)) b7 = some (.cells #[.int .u16 0, .int .i64 0] 85 (0, 0)) := upd_same
  have L8 : Le h1 ((h1.upd b7 (.cells #[.int .u16 0, .int .i64 0] 85)).upd b7 (.cells #[.int .u16 (v.1 : Nat), .int .i64 v.2] 85)) := fun y o e => by
    have : y ≠ b7 := by rintro rfl; rw [hb7] at e; cases e
    rw [upd_ne this]; exact L7 _ _ e
  generalize h1.upd b7 (.cells #[.int .u16 0, .int .i64 0] 85) = h2 at *
  have lk2 := lk h2 L7
  have f42 := L7 _ _ f4
  have hp2 := L7 _ _ hp
  simp (disch := omega) [hp2, f42, lk2, f7, babel_Babel_Least_r2]
  exact .to _ (.refl _) (hQ _ (L1.trans L8))

/-! ### Know -/
def knowB (s : BS) (k : PK) (rt : Nat) (sn : Nat) (n : Int) : BS := if mayB k.1 k.2 = true ∧ 0 ≤ n ∧ n < 65535 ∧ betterB s.M (k, rt) sn n = true then { s with M := setM (k, rt) (sn, n) s.M } else s

set_option maxHeartbeats 1000000 in
set_option maxRecDepth 20000 in
theorem bKnowM {k : PK} {rt sn : Nat} {n : Int} (A : BabAt h x s) (hM : SeqOk s.M) (hs : sn < 65536) (hk : k.1 < 2 ^ 32) (hQ : ∀ h', BQ h x (knowB s k rt sn n) h' → Q (.tuple #[]) h') :
    Ok Try.prog F_babel_Babel_Know #[.pointer (some ⟨x.p, 0, none⟩), .agg #[.int .u32 (k.1 : Nat), .int .i64 k.2], .int .u64 (rt : Nat), .int .u16 (sn : Nat), .int .i64 n] h Q := by
  refine babel_Babel_Know_ok (by simp) ?_
  unfold babel_Babel_Know_D
  simp (disch := omega) [babel_Babel_Know_r0]
  intro b6 hb6
  have L1 : Le h (h.upd b6 (.cells #[.int .u32 (k.1 : Nat), .int .i64 k.2] 24)) := .new hb6
  have f6 : (h.upd b6 (.cells #[.int .u32 (k.1 : Nat), .int .i64 k.2] 24)) b6 = some (.cells #[.int .u32 (k.1 : Nat), .int .i64 k.2] 24) := upd_same
  generalize h.upd b6 (.cells #[.int .u32 (k.1 : Nat), .int .i64 k.2] 24) = h1 at *
  simp (disch := omega) [babel_Babel_Know_r1, f6]
  intro b10 hb10 b11 hb11
  obtain ⟨n11, hb11'⟩ := upd_none hb11
  have n6 : b6 ≠ b10 := by rintro rfl; rw [f6] at hb10; cases hb10
  have n6' : b6 ≠ b11 := by rintro rfl; rw [f6] at hb11'; cases hb11'
  have g10 : ((h1.upd b10 (.cells #[.int .u32 0, .int .i64 0, .int .u64 0] 83)).upd b11 (.cells #[.int .u16 0, .int .i64 0] 85)) b10 = some (.cells #[.int .u32 0, .int .i64 0, .int .u64 0] 83) := by rw [upd_ne (Ne.symm n11), upd_same]
  have g11 : ((h1.upd b10 (.cells #[.int .u32 0, .int .i64 0, .int .u64 0] 83)).upd b11 (.cells #[.int .u16 0, .int .i64 0] 85)) b11 = some (.cells #[.int .u16 0, .int .i64 0] 85) := upd_same
  have L : Le h1 ((h1.upd b10 (.cells #[.int .u32 0, .int .i64 0, .int .u64 0] 83)).upd b11 (.cells #[.int .u16 0, .int .i64 0] 85)) := (Le.new hb10).trans (Le.new hb11)
  generalize (h1.upd b10 (.cells #[.int .u32 0, .int .i64 0, .int .u64 0] 83)).upd b11 (.cells #[.int .u16 0, .int .i64 0] 85) = g at *
  simp (disch := omega) [g10, g11, n11, Ne.symm n11]
  show babel_Babel_Know_r2 _ ((g.upd b10 (.cells (kencS (k, rt)).toArray 83)).upd b11 (.cells #[.int .u16 (sn : Nat), .int .i64 n] 85)) _
  have L2 : Le h1 ((g.upd b10 (.cells (kencS (k, rt)).toArray 83)).upd b11 (.cells #[.int .u16 (sn : Nat), .int .i64 n] 85)) := fun y o e => by
    have q3 : y ≠ b11 := by rintro rfl; rw [hb11'] at e; cases e
    have q2 : y ≠ b10 := by rintro rfl; rw [hb10] at e; cases e
    rw [upd_ne q3, upd_ne q2]; exact L _ _ e
  have f10 : ((g.upd b10 (.cells (kencS (k, rt)).toArray 83)).upd b11 (.cells #[.int .u16 (sn : Nat), .int .i64 n] 85)) b10 = some (.cells (kencS (k, rt)).toArray 83 (0, 0)) := by rw [upd_ne (Ne.symm n11), upd_same]
  have f11 : ((g.upd b10 (.cells (kencS (k, rt)).toArray 83)).upd b11 (.cells #[.int .u16 (sn : Nat), .int .i64 n] 85)) b11 = some (.cells #[.int .u16 (sn : Nat), .int .i64 n] 85 (0, 0)) := upd_same
  generalize (g.upd b10 (.cells (kencS (k, rt)).toArray 83)).upd b11 (.cells #[.int .u16 (sn : Nat), .int .i64 n] 85) = h4 at *
  have A4 := (A.le' L1).le' L2
  replace f6 := L2 _ _ f6
  replace hQ : ∀ h', BQ h4 x (knowB s k rt sn n) h' → Q (.tuple #[]) h' := fun h' q => hQ h' (q.le' (L1.trans L2))
  simp (disch := omega) [babel_Babel_Know_r2, f6]
  refine may_spec hk ?_
  unfold knowB at hQ
  have no : ¬ (mayB k.1 k.2 = true ∧ 0 ≤ n ∧ n < 65535 ∧ betterB s.M (k, rt) sn n = true) → Q (.tuple #[]) h4 := fun q => by rw [if_neg q] at hQ; exact hQ _ (.same A4 (.refl _))
  cases hm : mayB k.1 k.2 with
  | false =>
    rw [hm] at no
    simp (disch := omega)
    exact .to _ (.refl _) (no (by simp))
  | true =>
  by_cases g1 : 0 ≤ n
  · by_cases g2 : n < 65535
    · simp (disch := omega) [g1, g2, f10, f11]
      refine betterM (k := (k, rt)) A4 hM hs (fun h5 l5 => ?_)
      cases hb : betterB s.M (k, rt) sn n with
      | false =>
        rw [hb] at no
        simp (disch := omega)
        refine .to _ l5 (no (by simp))
      | true =>
        rw [if_pos ⟨hm, g1, g2, hb⟩] at hQ
        have A5 := A4.le' l5
        have hp5 := A5.pt
        have f105 := l5 _ _ f10
        have f115 := l5 _ _ f11
        simp (disch := omega) [babel_Babel_Know_r3, hp5, f105, f115]
        refine putS (p := (k, rt)) (v := (sn, n)) A5.mm (fun o M5 => ?_)
        simp (disch := omega)
        exact .to _ (.refl _) (hQ _ (BQ.le' l5 (A5.setM M5 A5.um.set)))
    · simp (disch := omega) [g1, g2]
      exact .to _ (.refl _) (no (fun q => g2 q.2.2.1))
  · simp (disch := omega) [g1]
    exact .to _ (.refl _) (no (fun q => g1 q.2.1))
end
end Go.Proofs.Ytchbipkoifmmdaa

/- Babel: Own, Drop. -/
namespace Go.Proofs.Ytchbipkoifmmdaa
open Go
set_option linter.unusedSimpArgs false
set_option linter.unusedVariables false

abbrev tlv0 : Tlv := ⟨0, 0, 0, 0, 0, 0, 0, 0, 0⟩
abbrev tc0 : Array Value := #[.int .i64 0, .int .u16 0, .int .i64 0, .int .i64 0, .int .u32 0, .int .i64 0, .int .u64 0, .int .u16 0, .int .i64 0]

section
variable {h h' : Hp} {x : BP} {s : BS} {Q : Value → Hp → Prop}

theorem lookO {r : Nat} {O : MO} {k : PK} (M : MpP h r O) : rrun Try.prog (Instr.lookup 70 (.map (some r)) (.agg #[.int .u32 (k.1 : Nat), .int .i64 k.2]) true) h = some (.tuple #[Tlvv ((getM O k).getD tlv0), .bool (getM O k).isSome]) := by
  rw [lookP (p := k) M]
  cases getM O k <;> rfl

def bownE (s : BS) (k : PK) (n : Int) (tag : Nat) : Int := if mayB k.1 k.2 = false ∨ n < 0 ∨ 65535 ≤ n then 1 else if hasT tag s.dom = true then 6 else if getM s.O k = none ∧ 64 ≤ s.O.length then 4 else 0
def ownT (s : BS) (k : PK) (n : Int) (tag : Nat) : Tlv := ⟨2, 0, 400, n, k.1, k.2, s.id, tag, 0⟩
def bownS (s : BS) (k : PK) (n : Int) (tag : Nat) : BS := if bownE s k n tag = 0 then { s with O := setM k (ownT s k n tag) s.O } else s

set_option maxHeartbeats 1000000 in
set_option maxRecDepth 20000 in
theorem bOwnM {k : PK} {n : Int} {tag : Nat} (A : BabAt h x s) (hk : k.1 < 2 ^ 32) (ht : tag < 2 ^ 16) (hQ : ∀ h', BQ h x (bownS s k n tag) h' → Q (.int .i64 (bownE s k n tag)) h') :
    Ok Try.prog F_babel_Babel_Own #[.pointer (some ⟨x.p, 0, none⟩), .agg #[.int .u32 (k.1 : Nat), .int .i64 k.2], .int .i64 n, .int .u16 (tag : Nat)] h Q := by
  refine babel_Babel_Own_ok (by simp) ?_
  unfold babel_Babel_Own_D
  simp (disch := omega) [babel_Babel_Own_r0]
  intro b5 hb5
  have L1 : Le h (h.upd b5 (.cells #[.int .u32 (k.1 : Nat), .int .i64 k.2] 24)) := .new hb5
  have f5 : (h.upd b5 (.cells #[.int .u32 (k.1 : Nat), .int .i64 k.2] 24)) b5 = some (.cells #[.int .u32 (k.1 : Nat), .int .i64 k.2] 24) := upd_same
  generalize h.upd b5 (.cells #[.int .u32 (k.1 : Nat), .int .i64 k.2] 24) = h1 at *
  have A1 := A.le' L1
  have hp := A1.pt
  have lk : ∀ h2, Le h1 h2 → _ := fun h2 l2 => lookO (k := k) (A1.le' l2).mo
  have lk1 := lk h1 (.refl _)
  simp (disch := omega) [babel_Babel_Own_r1, hp, f5, lk1]
  intro b9 hb9
  have L7 : Le h1 (h1.upd b9 (.cells tc0 31)) := .new hb9
  have f9 : (h1.upd b9 (.cells tc0 31)) b9 = some (.cells tc0 31 (0, 0)) := upd_same
  have L8 : ∀ o2, Le h1 ((h1.upd b9 (.cells tc0 31)).upd b9 o2) := fun o2 y o e => by
    have : y ≠ b9 := by rintro rfl; rw [hb9] at e; cases e
    rw [upd_ne this]; exact L7 _ _ e
  generalize h1.upd b9 (.cells tc0 31) = h2 at *
  have lk2 := lk h2 L7
  have f52 := L7 _ _ f5
  have hp2 := L7 _ _ hp
  simp (disch := omega) [hp2, f52, lk2, f9]
  refine (stA_of f9 (by rfl) (by rfl)).mpr ?_
  refine ⟨trivial, ?_⟩
  have L9 := L8 (.cells (((getM s.O k).getD tlv0).enc.toArray) 31 (0, 0))
  show thenK _ _ _ _ (h2.upd b9 (.cells (((getM s.O k).getD tlv0).enc.toArray) 31 (0, 0)))
  clear lk lk1 lk2
  generalize h2.upd b9 (.cells (((getM s.O k).getD tlv0).enc.toArray) 31 (0, 0)) = h3 at *
  have A3 := A1.le' L9
  have hp3 := A3.pt
  have f53 := L9 _ _ f5
  replace hQ : ∀ h', BQ h3 x (bownS s k n tag) h' → Q (.int .i64 (bownE s k n tag)) h' := fun h' q => hQ h' (q.le' (L1.trans L9))
  unfold bownS at hQ
  simp (disch := omega) [babel_Babel_Own_r2, f53]
  refine may_spec hk ?_
  cases hm : mayB k.1 k.2 with
  | false =>
    rw [show bownE s k n tag = 1 by unfold bownE; rw [if_pos (.inl hm)], if_neg (by simp)] at hQ
    simp (disch := omega) [babel_Babel_Own_r3]
    exact .to _ (.refl _) (hQ _ (.same A3 (.refl _)))
  | true =>
  by_cases g1 : n < 0
  · rw [show bownE s k n tag = 1 by unfold bownE; rw [if_pos (.inr (.inl g1))], if_neg (by simp)] at hQ
    simp (disch := omega) [babel_Babel_Own_r3, g1]
    exact .to _ (.refl _) (hQ _ (.same A3 (.refl _)))
  by_cases g2 : 65535 ≤ n
  · rw [show bownE s k n tag = 1 by unfold bownE; rw [if_pos (.inr (.inr g2))], if_neg (by simp)] at hQ
    simp (disch := omega) [babel_Babel_Own_r3, g1, g2]
    exact .to _ (.refl _) (hQ _ (.same A3 (.refl _)))
  have hE0 : bownE s k n tag = if hasT tag s.dom = true then 6 else if getM s.O k = none ∧ 64 ≤ s.O.length then 4 else 0 := by unfold bownE; rw [if_neg (by rw [hm]; simp; omega)]
  simp (disch := omega) [babel_Babel_Own_r4, g1, g2, hp3]
  refine thas_spec ht ?_
  cases ht' : hasT tag s.dom with
  | true =>
    rw [hE0, if_pos ht', if_neg (by simp)] at hQ
    simp (disch := omega) [babel_Babel_Own_r5]
    exact .to _ (.refl _) (hQ _ (.same A3 (.refl _)))
  | false =>
  rw [if_neg (by rw [ht']; simp)] at hE0
  have ln := fun R => lenP (R := R) A3.mo
  have fin9 : ∀ env : Env, bownE s k n tag = 0 → env 0 = .pointer (some ⟨x.p, 0, none⟩) → env 2 = .int .i64 n → env 3 = .int .u16 (tag : Nat) → env 5 = .pointer (some ⟨b5, 0, none⟩) →
      babel_Babel_Own_r8 env h3 (thenK (sq (rg babel_Babel_Own_r9) (ex .ret)) (fin Try.prog [.tmp 8] Q) .normal) := by
    intro env hE e0 e2 e3 e5
    rw [hE, if_pos rfl] at hQ
    simp (disch := omega) [babel_Babel_Own_r8, e0, e2, e3, e5, hp3, f53]
    refine putP (p := k) (v := ownT s k n tag) A3.mo (fun o M5 => ?_)
    simp (disch := omega) [babel_Babel_Own_r9]
    exact .to _ (.refl _) (hQ _ (A3.setO M5 A3.uo.set))
  cases hg : getM s.O k with
  | some y =>
    rw [hg, if_neg (by simp)] at hE0
    simp (disch := omega) [babel_Babel_Own_r6]
    refine fin9 _ hE0 ?_ ?_ ?_ ?_ <;> simp
  | none =>
    by_cases g3 : 64 ≤ s.O.length
    · have g3' : (64 : Int) ≤ (s.O.length : Int) := by omega
      rw [if_pos ⟨hg, g3⟩] at hE0
      rw [hE0, if_neg (by simp)] at hQ
      simp (disch := omega) [babel_Babel_Own_r6, babel_Babel_Own_r7, hp3, ln, g3, g3']
      exact .to _ (.refl _) (hQ _ (.same A3 (.refl _)))
    · have g3' : ¬ (64 : Int) ≤ (s.O.length : Int) := by omega
      rw [if_neg (fun q => g3 q.2)] at hE0
      simp (disch := omega) [babel_Babel_Own_r6, hp3, ln, g3, g3']
      refine fin9 _ hE0 ?_ ?_ ?_ ?_ <;> simp

def bdropE (s : BS) (k : PK) : Int := if (getM s.O k).isSome then 0 else 5
def bdropS (s : BS) (k : PK) : BS := if (getM s.O k).isSome then { s with O := delM k s.O } else s
set_option maxHeartbeats 1000000 in
set_option maxRecDepth 20000 in
theorem bDropM {k : PK} (A : BabAt h x s) (hQ : ∀ h', BQ h x (bdropS s k) h' → Q (.int .i64 (bdropE s k)) h') :
    Ok Try.prog F_babel_Babel_Drop #[.pointer (some ⟨x.p, 0, none⟩), .agg #[.int .u32 (k.1 : Nat), .int .i64 k.2]] h Q := by
  refine babel_Babel_Drop_ok (by simp) ?_
  unfold babel_Babel_Drop_D
  simp (disch := omega) [babel_Babel_Drop_r0]
  intro b5 hb5
  have L1 : Le h (h.upd b5 (.cells #[.int .u32 (k.1 : Nat), .int .i64 k.2] 24)) := .new hb5
  have f5 : (h.upd b5 (.cells #[.int .u32 (k.1 : Nat), .int .i64 k.2] 24)) b5 = some (.cells #[.int .u32 (k.1 : Nat), .int .i64 k.2] 24) := upd_same
  generalize h.upd b5 (.cells #[.int .u32 (k.1 : Nat), .int .i64 k.2] 24) = h1 at *
  have A1 := A.le' L1
  have hp := A1.pt
  have lk : ∀ h2, Le h1 h2 → _ := fun h2 l2 => lookO (k := k) (A1.le' l2).mo
  have lk1 := lk h1 (.refl _)
  simp (disch := omega) [babel_Babel_Drop_r1, hp, f5, lk1]
  intro b9 hb9
  have L7 : Le h1 (h1.upd b9 (.cells tc0 31)) := .new hb9
  have f9 : (h1.upd b9 (.cells tc0 31)) b9 = some (.cells tc0 31 (0, 0)) := upd_same
  have L8 : ∀ o2, Le h1 ((h1.upd b9 (.cells tc0 31)).upd b9 o2) := fun o2 y o e => by
    have : y ≠ b9 := by rintro rfl; rw [hb9] at e; cases e
    rw [upd_ne this]; exact L7 _ _ e
  generalize h1.upd b9 (.cells tc0 31) = h2 at *
  have lk2 := lk h2 L7
  have f52 := L7 _ _ f5
  have hp2 := L7 _ _ hp
  simp (disch := omega) [hp2, f52, lk2, f9]
  refine (stA_of f9 (by rfl) (by rfl)).mpr ?_
  refine ⟨trivial, ?_⟩
  have L9 := L8 (.cells (((getM s.O k).getD tlv0).enc.toArray) 31 (0, 0))
  show thenK _ _ _ _ (h2.upd b9 (.cells (((getM s.O k).getD tlv0).enc.toArray) 31 (0, 0)))
  clear lk lk1 lk2
  generalize h2.upd b9 (.cells (((getM s.O k).getD tlv0).enc.toArray) 31 (0, 0)) = h3 at *
  have A3 := A1.le' L9
  have hp3 := A3.pt
  have f53 := L9 _ _ f5
  replace hQ : ∀ h', BQ h3 x (bdropS s k) h' → Q (.int .i64 (bdropE s k)) h' := fun h' q => hQ h' (q.le' (L1.trans L9))
  unfold bdropS bdropE at hQ
  cases hg : (getM s.O k).isSome with
  | false =>
    rw [hg] at hQ
    simp (disch := omega) [babel_Babel_Drop_r2, babel_Babel_Drop_r3]
    exact .to _ (.refl _) (hQ _ (.same A3 (.refl _)))
  | true =>
    rw [hg] at hQ
    simp (disch := omega) [babel_Babel_Drop_r2, babel_Babel_Drop_r4, hp3, f53]
    refine delP (p := k) A3.mo (fun o M5 => ?_)
    simp (disch := omega) [babel_Babel_Drop_r5]
    exact .to _ (.refl _) (hQ _ (A3.setO M5 A3.uo.del))
end
end Go.Proofs.Ytchbipkoifmmdaa

/- Babel: Hear. -/
namespace Go.Proofs.Ytchbipkoifmmdaa
open Go
set_option linter.unusedSimpArgs false
set_option linter.unusedVariables false

abbrev td0 : Array Value := #[.int .i64 0, .int .i64 0, .int .u16 0, .int .i64 0, .int .i64 0, .int .u32 0, .int .i64 0, .int .u64 0, .int .u16 0, .int .i64 0]
abbrev tdenc (v : Int × Tlv) : List Value := .int .i64 v.1 :: [.int .i64 v.2.k, .int .u16 (v.2.s : Nat), .int .i64 v.2.iv, .int .i64 v.2.c, .int .u32 (v.2.a : Nat), .int .i64 v.2.l, .int .u64 (v.2.rt : Nat), .int .u16 (v.2.tg : Nat), .int .i64 v.2.hp]

section
variable {h h' : Hp} {x : BP} {s : BS} {Q : Value → Hp → Prop}

theorem lookT {r : Nat} {T : MT} {k : PK × Int} (M : MpF h r T) : rrun Try.prog (Instr.lookup 71 (.map (some r)) (.agg #[.int .u32 (k.1.1 : Nat), .int .i64 k.1.2, .int .i64 k.2]) true) h = some (.tuple #[valF ((getM T k).getD (0, tlv0)), .bool (getM T k).isSome]) := by
  rw [lookF (p := k) M]
  cases getM T k <;> rfl

def badT (f c : Int) (t : Tlv) : Prop := f < 1 ∨ 32 < f ∨ c < 1 ∨ 65535 < c ∨ t.k ≠ 2 ∨ mayB t.a t.l = false ∨ t.c < 0 ∨ 65535 < t.c
instance {f c : Int} {t : Tlv} : Decidable (badT f c t) := by unfold badT; infer_instance
def bhear (s : BS) (f c : Int) (t : Tlv) : Bool × Int × BS :=
  if badT f c t then (false, 1, s)
  else if hasT t.tg s.dom = true then (false, 6, s)
  else if t.rt = s.id then (false, 0, s)
  else if t.c = 65535 ∨ betterB s.M (srcK t) t.s t.c = false then ((getM s.T ((t.a, t.l), f)).isSome, 0, { s with T := delM ((t.a, t.l), f) s.T })
  else if getM s.T ((t.a, t.l), f) = none ∧ s.most ≤ (s.T.length : Int) then (false, 4, s)
  else (true, 0, { s with T := setM ((t.a, t.l), f) (c, t) s.T })

set_option maxHeartbeats 1000000 in
set_option maxRecDepth 20000 in
theorem bHearM {f c : Int} {t : Tlv} (A : BabAt h x s) (hM : SeqOk s.M) (hs : t.s < 65536) (hk : t.a < 2 ^ 32) (ht : t.tg < 2 ^ 16)
    (hQ : ∀ h', BQ h x (bhear s f c t).2.2 h' → Q (.tuple #[.bool (bhear s f c t).1, .int .i64 (bhear s f c t).2.1]) h') :
    Ok Try.prog F_babel_Babel_Hear #[.pointer (some ⟨x.p, 0, none⟩), .int .i64 f, .int .i64 c, Tlvv t] h Q := by
  refine babel_Babel_Hear_ok (by simp) ?_
  unfold babel_Babel_Hear_D
  simp (disch := omega) [babel_Babel_Hear_r0]
  intro b7 hb7
  have L1 : Le h (h.upd b7 (.cells t.cells 31)) := .new hb7
  have f7 : (h.upd b7 (.cells t.cells 31)) b7 = some (.cells t.cells 31) := upd_same
  show babel_Babel_Hear_r1 _ (h.upd b7 (.cells t.cells 31)) _
  generalize h.upd b7 (.cells t.cells 31) = h1 at *
  have A1 := A.le' L1
  have hp := A1.pt
  by_cases bad : badT f c t
  · have e : bhear s f c t = (false, 1, s) := by unfold bhear; rw [if_pos bad]
    rw [e] at hQ
    have fin2 := hQ _ (.same A L1)
    simp only at fin2
    by_cases a1 : f < 1
    · simp (disch := omega) [babel_Babel_Hear_r1, babel_Babel_Hear_r2, f7, a1]
      exact .to _ (.refl _) fin2
    by_cases a2 : 32 < f
    · simp (disch := omega) [babel_Babel_Hear_r1, babel_Babel_Hear_r2, f7, a1, a2]
      exact .to _ (.refl _) fin2
    by_cases a3 : c < 1
    · simp (disch := omega) [babel_Babel_Hear_r1, babel_Babel_Hear_r2, f7, a1, a2, a3]
      exact .to _ (.refl _) fin2
    by_cases a4 : 65535 < c
    · simp (disch := omega) [babel_Babel_Hear_r1, babel_Babel_Hear_r2, f7, a1, a2, a3, a4]
      exact .to _ (.refl _) fin2
    by_cases a5 : t.k = 2
    · simp (disch := omega) [babel_Babel_Hear_r1, f7, a1, a2, a3, a4, a5]
      refine may_spec hk ?_
      cases a6 : mayB t.a t.l with
      | false =>
        simp (disch := omega) [babel_Babel_Hear_r2, f7]
        exact .to _ (.refl _) fin2
      | true =>
        by_cases a7 : t.c < 0
        · simp (disch := omega) [babel_Babel_Hear_r2, f7, a7]
          exact .to _ (.refl _) fin2
        by_cases a8 : 65535 < t.c
        · simp (disch := omega) [babel_Babel_Hear_r2, f7, a7, a8]
          exact .to _ (.refl _) fin2
        · exact absurd bad (by unfold badT; simp [a1, a2, a3, a4, a5, a6, a7, a8])
    · simp (disch := omega) [babel_Babel_Hear_r1, babel_Babel_Hear_r2, f7, a1, a2, a3, a4, a5]
      exact .to _ (.refl _) fin2
  have e0 : bhear s f c t = if hasT t.tg s.dom = true then (false, (6 : Int), s)
    else if t.rt = s.id then (false, 0, s)
    else if t.c = 65535 ∨ betterB s.M (srcK t) t.s t.c = false then ((getM s.T ((t.a, t.l), f)).isSome, 0, { s with T := delM ((t.a, t.l), f) s.T })
    else if getM s.T ((t.a, t.l), f) = none ∧ s.most ≤ (s.T.length : Int) then (false, 4, s)
    else (true, 0, { s with T := setM ((t.a, t.l), f) (c, t) s.T }) := by unfold bhear; rw [if_neg bad]
  obtain ⟨a1, a2, a3, a4, a5, a6, a7, a8⟩ : ¬ f < 1 ∧ ¬ 32 < f ∧ ¬ c < 1 ∧ ¬ 65535 < c ∧ t.k = 2 ∧ mayB t.a t.l = true ∧ ¬ t.c < 0 ∧ ¬ 65535 < t.c := by
    unfold badT at bad
    refine ⟨fun q => bad (.inl q), fun q => bad (.inr (.inl q)), fun q => bad (.inr (.inr (.inl q))), fun q => bad (.inr (.inr (.inr (.inl q)))), ?_, ?_, fun q => bad (.inr (.inr (.inr (.inr (.inr (.inr (.inl q))))))), fun q => bad (.inr (.inr (.inr (.inr (.inr (.inr (.inr q)))))))⟩
    · exact Decidable.byContradiction fun q => bad (.inr (.inr (.inr (.inr (.inl q)))))
    · cases hm : mayB t.a t.l with
      | true => rfl
      | false => exact absurd (.inr (.inr (.inr (.inr (.inr (.inl hm)))))) bad
  clear bad
  simp (disch := omega) [babel_Babel_Hear_r1, f7, a1, a2, a3, a4, a5]
  refine may_spec hk ?_
  rw [a6]
  simp (disch := omega) [babel_Babel_Hear_r3, f7, a7, a8, hp]
  refine thas_spec ht ?_
  cases ht' : hasT t.tg s.dom with
  | true =>
    rw [if_pos ht'] at e0
    rw [e0] at hQ
    simp (disch := omega) [babel_Babel_Hear_r4]
    exact .to _ (.refl _) (hQ _ (.same A L1))
  | false =>
  rw [if_neg (by rw [ht']; simp)] at e0
  by_cases hr : t.rt = s.id
  · rw [if_pos hr] at e0
    rw [e0] at hQ
    have hr' : (t.rt : Int) = (s.id : Int) := by omega
    simp (disch := omega) [babel_Babel_Hear_r5, babel_Babel_Hear_r6, f7, hp, hr, hr']
    exact .to _ (.refl _) (hQ _ (.same A L1))
  rw [if_neg hr] at e0
  have hr' : ¬ (t.rt : Int) = (s.id : Int) := by omega
  simp (disch := omega) [babel_Babel_Hear_r5, babel_Babel_Hear_r7, f7, hp, hr, hr']
  intro b10 hb10
  have L2 : Le h1 (h1.upd b10 (.cells (kencF ((t.a, t.l), f)).toArray 77)) := .new hb10
  have f10 : (h1.upd b10 (.cells (kencF ((t.a, t.l), f)).toArray 77)) b10 = some (.cells (kencF ((t.a, t.l), f)).toArray 77 (0, 0)) := upd_same
  simp (disch := omega)
  show babel_Babel_Hear_r8 _ (h1.upd b10 (.cells (kencF ((t.a, t.l), f)).toArray 77)) _
  generalize h1.upd b10 (.cells (kencF ((t.a, t.l), f)).toArray 77) = h2 at *
  have A2 := A1.le' L2
  have f72 := L2 _ _ f7
  have hp2 := A2.pt
  have lk : ∀ h3, Le h2 h3 → _ := fun h3 l3 => lookT (k := ((t.a, t.l), f)) (A2.le' l3).mt
  have lk2 := lk h2 (.refl _)
  simp (disch := omega) [babel_Babel_Hear_r8, hp2, f10, lk2]
  intro b11 hb11
  have L7 : Le h2 (h2.upd b11 (.cells td0 79)) := .new hb11
  have f11 : (h2.upd b11 (.cells td0 79)) b11 = some (.cells td0 79 (0, 0)) := upd_same
  have L8 : ∀ o2, Le h2 ((h2.upd b11 (.cells td0 79)).upd b11 o2) := fun o2 y o e => by
    have : y ≠ b11 := by rintro rfl; rw [hb11] at e; cases e
    rw [upd_ne this]; exact L7 _ _ e
  generalize h2.upd b11 (.cells td0 79) = h3 at *
  have lk3 := lk h3 L7
  have f103 := L7 _ _ f10
  have hp3 := L7 _ _ hp2
  simp (disch := omega) [hp3, f103, lk3, f11]
  refine (stA_of f11 (by rfl) (by rfl)).mpr ⟨trivial, ?_⟩
  have L9 := L8 (.cells (tdenc ((getM s.T ((t.a, t.l), f)).getD (0, tlv0))).toArray 79 (0, 0))
  show thenK _ _ _ _ (h3.upd b11 (.cells (tdenc ((getM s.T ((t.a, t.l), f)).getD (0, tlv0))).toArray 79 (0, 0)))
  clear lk lk2 lk3
  generalize h3.upd b11 (.cells (tdenc ((getM s.T ((t.a, t.l), f)).getD (0, tlv0))).toArray 79 (0, 0)) = h4 at *
  have A4 := A2.le' L9
  have hp4 := A4.pt
  have f74 := L9 _ _ f72
  have f104 := L9 _ _ f10
  replace hQ : ∀ h', BQ h4 x (bhear s f c t).2.2 h' → Q (.tuple #[.bool (bhear s f c t).1, .int .i64 (bhear s f c t).2.1]) h' := fun h' q => hQ h' (q.le' (L1.trans (L2.trans L9)))
  clear L1 L2 L7 L8 L9 A1 A2 hp hp2 hp3 f7 f72 f10 f103 f11
  have lnT := fun R => lenF (R := R) A4.mt
  have forget : ∀ (env : Env) g, Le h4 g → t.c = 65535 ∨ betterB s.M (srcK t) t.s t.c = false → env 0 = .pointer (some ⟨x.p, 0, none⟩) → env 10 = .pointer (some ⟨b10, 0, none⟩) → env 12 = .bool (getM s.T ((t.a, t.l), f)).isSome →
      babel_Babel_Hear_r10 env g (thenK (sq (rg babel_Babel_Hear_r11) (ex .ret)) (inBlk 1 (thenK (sq (rg babel_Babel_Hear_r14) (sq (rg babel_Babel_Hear_r15) (ex .ret))) (fin Try.prog [.tmp 8, .tmp 9] Q))) .normal) := by
    intro env g lg hc e0' e10 e12
    rw [if_pos hc] at e0
    rw [e0] at hQ
    have A5 := A4.le' lg
    have hp5 := A5.pt
    have f105 := lg _ _ f104
    simp (disch := omega) [babel_Babel_Hear_r10, e0', e10, hp5, f105]
    refine delF (p := ((t.a, t.l), f)) A5.mt (fun o M6 => ?_)
    simp (disch := omega) [babel_Babel_Hear_r11, e12]
    exact .to _ (.refl _) (hQ _ (BQ.le' lg (A5.setT M6 A5.ut.del)))
  by_cases c65 : t.c = 65535
  · simp (disch := omega) [babel_Babel_Hear_r9, f74, c65]
    refine forget _ h4 (.refl _) (.inl c65) ?_ ?_ ?_ <;> simp
  · simp (disch := omega) [babel_Babel_Hear_r9, f74, c65]
    refine ofM (fun h5 l5 => ?_)
    simp (disch := omega)
    have A5 := A4.le' l5
    refine betterM (k := srcK t) A5 hM hs (fun h6 l6 => ?_)
    have l56 := l5.trans l6
    cases hb : betterB s.M (srcK t) t.s t.c with
    | false =>
      simp (disch := omega)
      refine forget _ h6 l56 (.inr hb) ?_ ?_ ?_ <;> simp
    | true =>
      have hno : ¬ (t.c = 65535 ∨ betterB s.M (srcK t) t.s t.c = false) := by rw [hb]; simp [c65]
      rw [if_neg hno] at e0
      have A6 := A5.le' l6
      have hp6 := A6.pt
      have f76 := l56 _ _ f74
      have f106 := l56 _ _ f104
      have ln := fun R => lenF (R := R) A6.mt
      replace hQ : ∀ h', BQ h6 x (bhear s f c t).2.2 h' → Q (.tuple #[.bool (bhear s f c t).1, .int .i64 (bhear s f c t).2.1]) h' := fun h' q => hQ h' (q.le' l56)
      clear forget A4 A5 hp4 f74 f104 lnT l5 l6 l56
      have put14 : ∀ env : Env, ¬ (getM s.T ((t.a, t.l), f) = none ∧ s.most ≤ (s.T.length : Int)) → env 0 = .pointer (some ⟨x.p, 0, none⟩) → env 2 = .int .i64 c → env 7 = .pointer (some ⟨b7, 0, none⟩) → env 10 = .pointer (some ⟨b10, 0, none⟩) →
          babel_Babel_Hear_r14 env h6 (thenK (sq (rg babel_Babel_Hear_r15) (ex .ret)) (fin Try.prog [.tmp 8, .tmp 9] Q) .normal) := by
        intro env hc e0' e2 e7 e10
        rw [if_neg hc] at e0
        rw [e0] at hQ
        simp (disch := omega) [babel_Babel_Hear_r14, e0', e2, e7, e10, hp6, f76, f106]
        refine putF (p := ((t.a, t.l), f)) (v := (c, t)) A6.mt (fun o M7 => ?_)
        simp (disch := omega) [babel_Babel_Hear_r15]
        exact .to _ (.refl _) (hQ _ (A6.setT M7 A6.ut.set))
      cases hg : getM s.T ((t.a, t.l), f) with
      | some y =>
        simp (disch := omega) [babel_Babel_Hear_r12]
        refine put14 _ (by rw [hg]; simp) ?_ ?_ ?_ ?_ <;> simp
      | none =>
        by_cases g3 : s.most ≤ (s.T.length : Int)
        · rw [if_pos ⟨hg, g3⟩] at e0
          rw [e0] at hQ
          simp (disch := omega) [babel_Babel_Hear_r12, babel_Babel_Hear_r13, hp6, ln, g3]
          exact .to _ (.refl _) (hQ _ (.same A6 (.refl _)))
        · simp (disch := omega) [babel_Babel_Hear_r12, hp6, ln, g3]
          refine put14 _ (fun q => g3 q.2) ?_ ?_ ?_ ?_ <;> simp
end
end Go.Proofs.Ytchbipkoifmmdaa

/- Babel: Lose. -/
namespace Go.Proofs.Ytchbipkoifmmdaa
open Go
set_option linter.unusedSimpArgs false
set_option linter.unusedVariables false

theorem delM_filter {α β : Type} [DecidableEq α] {a : α} : ∀ {m : List (α × β)}, Uniq m → delM a m = m.filter fun e => decide (e.1 ≠ a)
  | [], _ => rfl
  | y :: ys, u => by
    have u' := u
    unfold Uniq at u'
    rw [List.map_cons, List.nodup_cons] at u'
    simp only [delM]
    by_cases q : a = y.1
    · rw [if_pos q, List.filter_cons, if_neg (by simp [q])]
      symm
      rw [List.filter_eq_self]
      intro e he
      simp only [decide_eq_true_eq]
      rintro rfl
      exact u'.1 (by rw [← q]; exact List.mem_map_of_mem he)
    · rw [if_neg q, List.filter_cons, if_pos (by simp; exact fun z => q z.symm), delM_filter u'.2]

def lostT (f : Int) (T : MT) : MT := T.filter fun e => decide (e.1.2 ≠ f)
def workT (f : Int) (V : List (PK × Int)) (T : MT) : MT := T.filter fun e => !(decide (e.1 ∈ V) && decide (e.1.2 = f))
theorem workT_nil {f : Int} {T : MT} : workT f [] T = T := by unfold workT; rw [List.filter_eq_self]; simp
theorem workT_uniq {f : Int} {V : List (PK × Int)} {T : MT} (u : Uniq T) : Uniq (workT f V T) := List.Sublist.nodup (List.Sublist.map _ List.filter_sublist) u
theorem workT_stay {f : Int} {V : List (PK × Int)} {T : MT} {k : PK × Int} (h : k.2 ≠ f) : workT f (V ++ [k]) T = workT f V T := by
  unfold workT
  refine List.filter_congr fun e he => ?_
  by_cases q : e.1.2 = f
  · have : e.1 ≠ k := fun z => h (by rw [← z]; exact q)
    simp [q, this]
  · simp [q]
theorem workT_del {f : Int} {V : List (PK × Int)} {T : MT} {k : PK × Int} (u : Uniq T) (h : k.2 = f) : delM k (workT f V T) = workT f (V ++ [k]) T := by
  rw [delM_filter (workT_uniq u)]
  unfold workT
  rw [List.filter_filter]
  refine List.filter_congr fun e he => ?_
  by_cases z : e.1 = k
  · have : e.1.2 = f := by rw [z]; exact h
    simp [z, h]
  · simp [z]
theorem workT_end {f : Int} {V : List (PK × Int)} {T : MT} (h : ∀ e ∈ workT f V T, e.1 ∈ V) : workT f V T = lostT f T := by
  unfold workT lostT at *
  refine List.filter_congr fun e he => ?_
  have hV : e.1 ∈ V := by
    by_cases q : e.1 ∈ V
    · exact q
    · exact h e (List.mem_filter.2 ⟨he, by simp [q]⟩)
  simp [hV]

section
variable {h h' : Hp} {x : BP} {s : BS} {Q : Value → Hp → Prop}

def LsInv (h : Hp) (x : BP) (s : BS) (it : Nat) (f : Int) (n : Nat) (env : Env) (g : Hp) : Prop :=
  ∃ V, V.length + n = s.T.length ∧ V.Nodup ∧ (∀ k ∈ V, k ∈ s.T.map (·.1)) ∧ BabAt g x { s with T := workT f V s.T } ∧ IterS g it x.t kvalF valF (workT f V s.T) V ∧ (∀ y o, h y = some o → y ∉ ownB x → g y = some o) ∧
    env 0 = .pointer (some ⟨x.p, 0, none⟩) ∧ env 1 = .int .i64 f ∧ env 9 = .pointer (some ⟨it, 0, none⟩)

set_option maxHeartbeats 1000000 in
set_option maxRecDepth 20000 in
theorem bLoseM {f : Int} (A : BabAt h x s) (hQ : ∀ h', BQ h x { s with T := lostT f s.T } h' → Q (.tuple #[]) h') : Ok Try.prog F_babel_Babel_Lose #[.pointer (some ⟨x.p, 0, none⟩), .int .i64 f] h Q := by
  refine babel_Babel_Lose_ok (by simp) ?_
  unfold babel_Babel_Lose_D
  simp (disch := omega) [babel_Babel_Lose_r0, A.pt]
  refine arun_rangeS Try.underlying71 A.mt A.ut (fun it o hit IS => ?_)
  simp (disch := omega)
  have hio : it ∉ ownB x := fun q => by obtain ⟨o, e⟩ := A.alive _ q; rw [hit] at e; cases e
  have A0 : BabAt (h.upd it o) x { s with T := workT f [] s.T } := by rw [workT_nil]; exact A.le' (.new hit)
  refine ⟨LsInv h x s it f, ⟨s.T.length, [], by simp, .nil, by simp, A0, by rw [workT_nil]; exact IS, fun y o' e _ => (Le.new hit) _ _ e, by simp, by simp, by simp⟩, ?_⟩
  clear A0 IS
  rintro n env g ⟨V, hn, nd, sub, A1, IS, K, e0, e1, e9⟩
  unfold babel_Babel_Lose_L0
  simp (disch := omega) [babel_Babel_Lose_r1, e9]
  refine arun_nextS IS (fun hend => ?_) (fun y o hy hyV I2 => ?_)
  · simp (disch := omega)
    rw [workT_end hend] at A1
    exact .to _ (.refl _) (hQ _ ⟨A1, ⟨K, fun _ m => .inl m⟩⟩)
  · have A2 : BabAt (g.upd it o) x { s with T := workT f V s.T } := A1.keep fun z o' hz e => by rw [upd_ne (fun q => hio (by rw [← q]; exact hz))]; exact e
    have K2 : ∀ z o', h z = some o' → z ∉ ownB x → (g.upd it o) z = some o' := fun z o' e nn => by rw [upd_ne (by rintro rfl; rw [hit] at e; cases e)]; exact K z o' e nn
    generalize g.upd it o = g2 at *
    simp (disch := omega) [babel_Babel_Lose_r2, e9]
    refine arun_entryS I2 hy ?_
    simp (disch := omega)
    intro b4 hb4
    have L2 : Le g2 (g2.upd b4 (.cells (kencF y.1).toArray 77)) := .new hb4
    have f4 : (g2.upd b4 (.cells (kencF y.1).toArray 77)) b4 = some (.cells (kencF y.1).toArray 77) := upd_same
    replace A2 := A2.le' L2
    replace I2 := I2.le L2
    replace K2 : ∀ z o', h z = some o' → z ∉ ownB x → (g2.upd b4 (.cells (kencF y.1).toArray 77)) z = some o' := fun z o' e nn => L2 _ _ (K2 z o' e nn)
    simp (disch := omega)
    show babel_Babel_Lose_r3 _ (g2.upd b4 (.cells (kencF y.1).toArray 77)) _
    generalize g2.upd b4 (.cells (kencF y.1).toArray 77) = g3 at *
    have hyT : y ∈ s.T := (List.mem_filter.1 hy).1
    have hmem : y.1 ∈ s.T.map (·.1) := List.mem_map_of_mem hyT
    have nd' : (V ++ [y.1]).Nodup := List.nodup_append.2 ⟨nd, by simp, fun z hz w hw => by simp at hw; subst hw; rintro rfl; exact hyV hz⟩
    have sub' : ∀ k ∈ V ++ [y.1], k ∈ s.T.map (·.1) := fun k hk => by
      rcases List.mem_append.1 hk with q | q
      · exact sub k q
      · simp at q; subst q; exact hmem
    have hlen : (V ++ [y.1]).length ≤ s.T.length := by have := List.Nodup.length_le_of_subset nd' sub'; simpa using this
    have hlen' : V.length + 1 ≤ s.T.length := by simpa using hlen
    by_cases c : y.1.2 = f
    · have hp := A2.pt
      simp (disch := omega) [babel_Babel_Lose_r3, babel_Babel_Lose_r4, e0, e1, e9, f4, eq_true c, hp]
      refine delSF (p := y.1) I2 (fun o3 I3 => ?_)
      have A3 := (A2.setT I3.map A2.ut.del).at_
      rw [workT_del A.ut c] at A3 I3
      simp (disch := omega)
      exact ⟨n - 1, by omega, V ++ [y.1], by simp; omega, nd', sub', A3, I3, fun z o' e nn => by rw [upd_ne (fun q => nn (mem_ownB.2 (.inr (.inr (.inl q)))))]; exact K2 z o' e nn, by simp [e0], by simp [e1], by simp [e9]⟩
    · simp (disch := omega) [babel_Babel_Lose_r3, e0, e1, e9, f4, c]
      exact ⟨n - 1, by omega, V ++ [y.1], by simp; omega, nd', sub', by rw [workT_stay c]; exact A2, by rw [workT_stay c]; exact I2, K2, by simp [e0], by simp [e1], by simp [e9]⟩
end
end Go.Proofs.Ytchbipkoifmmdaa

/- Babel: the prefixes of a map's keys. -/
namespace Go.Proofs.Ytchbipkoifmmdaa
open Go
set_option linter.unusedSimpArgs false
set_option linter.unusedVariables false

section
variable {h h' : Hp} {Q : Value → Hp → Prop}
theorem same1M {k : PK} (hQ : ∀ h', Le h h' → Q (.agg #[.int .u32 (k.1 : Nat), .int .i64 k.2]) h') : Ok Try.prog F_babel_Babel_prefixes_1 #[.agg #[.int .u32 (k.1 : Nat), .int .i64 k.2]] h Q := by
  refine babel_Babel_prefixes_1_ok (by simp) ?_
  unfold babel_Babel_prefixes_1_D
  simp (disch := omega) [babel_Babel_prefixes_1_r0]
  intro b1 hb1 b2 hb2
  obtain ⟨n21, hb2'⟩ := upd_none hb2
  simp (disch := omega) [babel_Babel_prefixes_1_r1, n21, Ne.symm n21]
  refine .to _ (.refl _) (hQ _ fun y o e => ?_)
  have q2 : y ≠ b2 := by rintro rfl; rw [hb2'] at e; cases e
  have q1 : y ≠ b1 := by rintro rfl; rw [hb1] at e; cases e
  simp [upd_ne, q1, q2]; exact e
theorem same2M {k : PK × Int} (hQ : ∀ h', Le h h' → Q (.agg #[.int .u32 (k.1.1 : Nat), .int .i64 k.1.2]) h') : Ok Try.prog F_babel_Babel_prefixes_2 #[.agg #[.int .u32 (k.1.1 : Nat), .int .i64 k.1.2, .int .i64 k.2]] h Q := by
  refine babel_Babel_prefixes_2_ok (by simp) ?_
  unfold babel_Babel_prefixes_2_D
  simp (disch := omega) [babel_Babel_prefixes_2_r0]
  intro b1 hb1 b2 hb2
  obtain ⟨n21, hb2'⟩ := upd_none hb2
  simp (disch := omega) [babel_Babel_prefixes_2_r1, n21, Ne.symm n21]
  refine .to _ (.refl _) (hQ _ fun y o e => ?_)
  have q2 : y ≠ b2 := by rintro rfl; rw [hb2'] at e; cases e
  have q1 : y ≠ b1 := by rintro rfl; rw [hb1] at e; cases e
  simp [upd_ne, q1, q2]; exact e

def KyInvP (h0 : Hp) (w0 : Value) (l0 : List PK) (r it : Nat) (m : MO) (n : Nat) (env : Env) (g : Hp) : Prop :=
  ∃ (V : List (PK)) (w : Value), V.length + n = m.length ∧ V.Nodup ∧ (∀ k ∈ V, k ∈ m.map (·.1)) ∧ SlAt g 24 2 kencP w (l0 ++ V.map (fun k : PK => k)) ∧ Fr h0 g (blkOf w0).toList (blkOf w).toList ∧ IterS g it r kvalP valP m V ∧ h0 it = none ∧ blkOf w ≠ some it ∧
    env 0 = w ∧ env 2 = .func (.func F_babel_Babel_prefixes_1) #[] #[] ∧ env 9 = .pointer (some ⟨it, 0, none⟩)

set_option maxHeartbeats 1000000 in
set_option maxRecDepth 20000 in
theorem keysPM {w0 : Value} {l0 : List PK} {r : Nat} {m : MO} (S0 : SlAt h 24 2 kencP w0 l0) (MB : MpP h r m) (u : Uniq m) (hd : blkOf w0 ≠ some r) (hl : l0.length + m.length ≤ 1000000)
    (hQ : ∀ (w : Value) (ks : List (PK)) (h' : Hp), ks.Perm (m.map (·.1)) → SlAt h' 24 2 kencP w (l0 ++ ks.map (fun k : PK => k)) → Fr h h' (blkOf w0).toList (blkOf w).toList → Q w h') :
    Ok Try.prog F_babel_keys_api_Prefix_api_BabelTlv #[w0, .map (some r), .func (.func F_babel_Babel_prefixes_1) #[] #[]] h Q := by
  refine babel_keys_api_Prefix_api_BabelTlv_ok (by simp) ?_
  unfold babel_keys_api_Prefix_api_BabelTlv_D
  simp (disch := omega) [babel_keys_api_Prefix_api_BabelTlv_r0, babel_keys_api_Prefix_api_BabelTlv_r1]
  refine arun_rangeS Try.underlying70 MB u (fun it o hit IS => ?_)
  simp (disch := omega)
  have nit : blkOf w0 ≠ some it := fun e => by obtain ⟨o, e2⟩ := S0.alive e; rw [hit] at e2; cases e2
  refine ⟨KyInvP h w0 l0 r it m, ⟨m.length, [], w0, by simp, .nil, by simp, by simpa using S0.le' (.new hit), .of_le (.new hit) (fun _ q => .inl q), IS, hit, nit, by simp, by simp, by simp⟩, ?_⟩
  clear IS
  rintro n env g ⟨V, w, hn, nd, sub, S, F, IS, hi0, nwi, e0, e2, e9⟩
  unfold babel_keys_api_Prefix_api_BabelTlv_L0
  simp (disch := omega) [babel_keys_api_Prefix_api_BabelTlv_r2, e9]
  refine arun_nextS IS (fun hend => ?_) (fun y o hy hyV I2 => ?_)
  · simp (disch := omega) [babel_keys_api_Prefix_api_BabelTlv_r5, e0]
    have hp : V.Perm (m.map (·.1)) := (List.perm_ext_iff_of_nodup nd u).2 (fun k => ⟨sub k, fun hk => by obtain ⟨y, hy, rfl⟩ := List.mem_map.1 hk; exact hend y hy⟩)
    exact .to _ (.refl _) (hQ _ _ _ hp S F)
  · obtain ⟨p0, cap0, hw⟩ := S.shape'
    have S2 : SlAt (g.upd it o) 24 2 kencP w (l0 ++ V.map (fun k : PK => k)) := S.keep fun b o' e e2 => by rw [upd_ne (fun q => nwi (by rw [← q]; exact e))]; exact e2
    have F2 : Fr h (g.upd it o) (blkOf w0).toList (blkOf w).toList := ⟨fun z o' e nn => by rw [upd_ne (by rintro rfl; rw [hi0] at e; cases e)]; exact F.keep z o' e nn, F.own⟩
    have nwr : blkOf w ≠ some r := fun e => by
      rcases F.own r (by simp [e]) with q | q
      · exact hd (by simpa using q)
      · obtain ⟨o, e2⟩ := MB.alive; rw [q] at e2; cases e2
    have ia := I2.alive
    generalize g.upd it o = g2 at *
    simp (disch := omega) [babel_keys_api_Prefix_api_BabelTlv_r3, e9]
    refine arun_entryS I2 hy ?_
    simp (disch := omega)
    intro b7 hb7
    have L2 : Le g2 (g2.upd b7 (.cells (kencP y.1).toArray 24)) := .new hb7
    have f7 : (g2.upd b7 (.cells (kencP y.1).toArray 24)) b7 = some (.cells (kencP y.1).toArray 24) := upd_same
    simp (disch := omega)
    show babel_keys_api_Prefix_api_BabelTlv_r4 _ (g2.upd b7 (.cells (kencP y.1).toArray 24)) _
    generalize g2.upd b7 (.cells (kencP y.1).toArray 24) = g3 at *
    simp (disch := omega) [babel_keys_api_Prefix_api_BabelTlv_r4, e0, e2, f7]
    refine same1M (k := y.1) (fun g4 l4 => ?_)
    have L4 := L2.trans l4
    have S4 := S2.le' L4
    have I4 := I2.le L4
    have hlen : (l0 ++ V.map (fun k : PK => k)).length ≤ 1000000 := by
      have := List.Nodup.length_le_of_subset nd sub
      simp at this ⊢; omega
    simp (disch := omega) [e0]
    refine snoc_api_Prefix S4 (y := (fun k : PK => k) y.1) rfl (by simp [kencP]) (by omega) (fun b9 w' g' S' G hb9 => ?_)
    have nwit : blkOf w ≠ some it := nwi
    have G' := G.fr
    have I5 : IterS g' it r kvalP valP m (V ++ [y.1]) := by
      obtain ⟨⟨o1, k1⟩, ⟨o2, k2⟩⟩ := I4.alive
      exact I4.keep (by rw [G.keep _ _ k1 (Ne.symm nwr), k1]) (by rw [G.keep _ _ k2 (Ne.symm nwit), k2])
    have nw' : blkOf w' ≠ some it := fun e => by
      rcases G.fresh with q1 | q1
      · exact nwit (by rw [← q1]; exact e)
      · obtain ⟨_, ⟨o2, k2⟩⟩ := I4.alive
        rw [q1 it e] at k2; cases k2
    have hmem : y.1 ∈ m.map (·.1) := List.mem_map_of_mem hy
    have nd' : (V ++ [y.1]).Nodup := List.nodup_append.2 ⟨nd, by simp, fun z hz w hw => by simp at hw; subst hw; rintro rfl; exact hyV hz⟩
    have sub' : ∀ k ∈ V ++ [y.1], k ∈ m.map (·.1) := fun k hk => by
      rcases List.mem_append.1 hk with q | q
      · exact sub k q
      · simp at q; subst q; exact hmem
    have hlen' : V.length + 1 ≤ m.length := by have := List.Nodup.length_le_of_subset nd' sub'; simpa using this
    have F5 : Fr h g' (blkOf w0).toList (blkOf w').toList := (F2.trans (.of_le L4 fun _ q => .inl q)).trans G'
    simp (disch := omega)
    exact ⟨n - 1, by omega, V ++ [y.1], w', by simp; omega, nd', sub', by simpa using S', F5, I5, hi0, nw', by simp, by simp [e2], by simp [e9]⟩

def KyInvF (h0 : Hp) (w0 : Value) (l0 : List PK) (r it : Nat) (m : MT) (n : Nat) (env : Env) (g : Hp) : Prop :=
  ∃ (V : List (PK × Int)) (w : Value), V.length + n = m.length ∧ V.Nodup ∧ (∀ k ∈ V, k ∈ m.map (·.1)) ∧ SlAt g 24 2 kencP w (l0 ++ V.map (fun k : PK × Int => k.1)) ∧ Fr h0 g (blkOf w0).toList (blkOf w).toList ∧ IterS g it r kvalF valF m V ∧ h0 it = none ∧ blkOf w ≠ some it ∧
    env 0 = w ∧ env 2 = .func (.func F_babel_Babel_prefixes_2) #[] #[] ∧ env 9 = .pointer (some ⟨it, 0, none⟩)

set_option maxHeartbeats 1000000 in
set_option maxRecDepth 20000 in
theorem keysFM {w0 : Value} {l0 : List PK} {r : Nat} {m : MT} (S0 : SlAt h 24 2 kencP w0 l0) (MB : MpF h r m) (u : Uniq m) (hd : blkOf w0 ≠ some r) (hl : l0.length + m.length ≤ 1000000)
    (hQ : ∀ (w : Value) (ks : List (PK × Int)) (h' : Hp), ks.Perm (m.map (·.1)) → SlAt h' 24 2 kencP w (l0 ++ ks.map (fun k : PK × Int => k.1)) → Fr h h' (blkOf w0).toList (blkOf w).toList → Q w h') :
    Ok Try.prog F_babel_keys_babel_from_babel_told #[w0, .map (some r), .func (.func F_babel_Babel_prefixes_2) #[] #[]] h Q := by
  refine babel_keys_babel_from_babel_told_ok (by simp) ?_
  unfold babel_keys_babel_from_babel_told_D
  simp (disch := omega) [babel_keys_babel_from_babel_told_r0, babel_keys_babel_from_babel_told_r1]
  refine arun_rangeS Try.underlying71 MB u (fun it o hit IS => ?_)
  simp (disch := omega)
  have nit : blkOf w0 ≠ some it := fun e => by obtain ⟨o, e2⟩ := S0.alive e; rw [hit] at e2; cases e2
  refine ⟨KyInvF h w0 l0 r it m, ⟨m.length, [], w0, by simp, .nil, by simp, by simpa using S0.le' (.new hit), .of_le (.new hit) (fun _ q => .inl q), IS, hit, nit, by simp, by simp, by simp⟩, ?_⟩
  clear IS
  rintro n env g ⟨V, w, hn, nd, sub, S, F, IS, hi0, nwi, e0, e2, e9⟩
  unfold babel_keys_babel_from_babel_told_L0
  simp (disch := omega) [babel_keys_babel_from_babel_told_r2, e9]
  refine arun_nextS IS (fun hend => ?_) (fun y o hy hyV I2 => ?_)
  · simp (disch := omega) [babel_keys_babel_from_babel_told_r5, e0]
    have hp : V.Perm (m.map (·.1)) := (List.perm_ext_iff_of_nodup nd u).2 (fun k => ⟨sub k, fun hk => by obtain ⟨y, hy, rfl⟩ := List.mem_map.1 hk; exact hend y hy⟩)
    exact .to _ (.refl _) (hQ _ _ _ hp S F)
  · obtain ⟨p0, cap0, hw⟩ := S.shape'
    have S2 : SlAt (g.upd it o) 24 2 kencP w (l0 ++ V.map (fun k : PK × Int => k.1)) := S.keep fun b o' e e2 => by rw [upd_ne (fun q => nwi (by rw [← q]; exact e))]; exact e2
    have F2 : Fr h (g.upd it o) (blkOf w0).toList (blkOf w).toList := ⟨fun z o' e nn => by rw [upd_ne (by rintro rfl; rw [hi0] at e; cases e)]; exact F.keep z o' e nn, F.own⟩
    have nwr : blkOf w ≠ some r := fun e => by
      rcases F.own r (by simp [e]) with q | q
      · exact hd (by simpa using q)
      · obtain ⟨o, e2⟩ := MB.alive; rw [q] at e2; cases e2
    have ia := I2.alive
    generalize g.upd it o = g2 at *
    simp (disch := omega) [babel_keys_babel_from_babel_told_r3, e9]
    refine arun_entryS I2 hy ?_
    simp (disch := omega)
    intro b7 hb7
    have L2 : Le g2 (g2.upd b7 (.cells (kencF y.1).toArray 77)) := .new hb7
    have f7 : (g2.upd b7 (.cells (kencF y.1).toArray 77)) b7 = some (.cells (kencF y.1).toArray 77) := upd_same
    simp (disch := omega)
    show babel_keys_babel_from_babel_told_r4 _ (g2.upd b7 (.cells (kencF y.1).toArray 77)) _
    generalize g2.upd b7 (.cells (kencF y.1).toArray 77) = g3 at *
    simp (disch := omega) [babel_keys_babel_from_babel_told_r4, e0, e2, f7]
    refine same2M (k := y.1) (fun g4 l4 => ?_)
    have L4 := L2.trans l4
    have S4 := S2.le' L4
    have I4 := I2.le L4
    have hlen : (l0 ++ V.map (fun k : PK × Int => k.1)).length ≤ 1000000 := by
      have := List.Nodup.length_le_of_subset nd sub
      simp at this ⊢; omega
    simp (disch := omega) [e0]
    refine snoc_api_Prefix S4 (y := (fun k : PK × Int => k.1) y.1) rfl (by simp [kencP]) (by omega) (fun b9 w' g' S' G hb9 => ?_)
    have nwit : blkOf w ≠ some it := nwi
    have G' := G.fr
    have I5 : IterS g' it r kvalF valF m (V ++ [y.1]) := by
      obtain ⟨⟨o1, k1⟩, ⟨o2, k2⟩⟩ := I4.alive
      exact I4.keep (by rw [G.keep _ _ k1 (Ne.symm nwr), k1]) (by rw [G.keep _ _ k2 (Ne.symm nwit), k2])
    have nw' : blkOf w' ≠ some it := fun e => by
      rcases G.fresh with q1 | q1
      · exact nwit (by rw [← q1]; exact e)
      · obtain ⟨_, ⟨o2, k2⟩⟩ := I4.alive
        rw [q1 it e] at k2; cases k2
    have hmem : y.1 ∈ m.map (·.1) := List.mem_map_of_mem hy
    have nd' : (V ++ [y.1]).Nodup := List.nodup_append.2 ⟨nd, by simp, fun z hz w hw => by simp at hw; subst hw; rintro rfl; exact hyV hz⟩
    have sub' : ∀ k ∈ V ++ [y.1], k ∈ m.map (·.1) := fun k hk => by
      rcases List.mem_append.1 hk with q | q
      · exact sub k q
      · simp at q; subst q; exact hmem
    have hlen' : V.length + 1 ≤ m.length := by have := List.Nodup.length_le_of_subset nd' sub'; simpa using this
    have F5 : Fr h g' (blkOf w0).toList (blkOf w').toList := (F2.trans (.of_le L4 fun _ q => .inl q)).trans G'
    simp (disch := omega)
    exact ⟨n - 1, by omega, V ++ [y.1], w', by simp; omega, nd', sub', by simpa using S', F5, I5, hi0, nw', by simp, by simp [e2], by simp [e9]⟩
end
end Go.Proofs.Ytchbipkoifmmdaa

/- slices.Compact of prefixes. -/
namespace Go.Proofs.Ytchbipkoifmmdaa
open Go
set_option linter.unusedSimpArgs false
set_option linter.unusedVariables false

/-- What is not as the one ahead of it. -/
def ddT (xs : List PK) : Nat → List PK
  | 0 => []
  | j + 1 => ddT xs j ++ (if j = 0 ∨ xs[j]? ≠ xs[j - 1]? then xs[j]?.toList else [])
theorem ddT_length {xs : List PK} : ∀ j, (ddT xs j).length ≤ j
  | 0 => Nat.le_refl _
  | j + 1 => by
    rw [ddT, List.length_append]
    have := ddT_length (xs := xs) j
    split
    · cases xs[j]? <;> simp <;> omega
    · simp; omega
theorem ddT_take {xs : List PK} : ∀ j, (∀ i, 1 ≤ i → i < j → xs[i]? ≠ xs[i - 1]?) → ddT xs j = xs.take j
  | 0, _ => by simp [ddT]
  | j + 1, h => by
    rw [ddT, ddT_take j (fun i h1 h2 => h i h1 (by omega)), if_pos, List.take_add_one]
    by_cases q : j = 0
    · exact .inl q
    · exact .inr (h j (by omega) (by omega))

theorem kq_at {h : Hp} {v : Value} {xs : List PK} {i : Nat} {x : PK} (S : SlAt h 24 2 kencP v xs) (hx : xs[i]? = some x) :
    ∃ b cap c, v = .slice (some ⟨b, 0, none⟩) xs.length cap ∧ h b = some (.cells c 24 (0, 0)) ∧ c[i * 2]? = some (.int .u32 (x.1 : Nat)) ∧ c[i * 2 + 1]? = some (.int .i64 x.2) := by
  obtain ⟨b, cap, c, e, hb, H⟩ := SlAt.at' S hx
  exact ⟨b, cap, c, e, hb, H 0 (by omega), H 1 (by omega)⟩

section
variable {h h' : Hp} {Q : Value → Hp → Prop}

def CoOut (h : Hp) (b cap : Nat) (xs : List PK) (k : Nat) (n : Nat) (env : Env) (g : Hp) : Prop :=
  ∃ i : Nat, 1 ≤ i ∧ i + n = xs.length + 1 ∧ g = h ∧ (∀ j, 1 ≤ j → j < i → xs[j]? ≠ xs[j - 1]?) ∧ i ≤ xs.length ∧ env 0 = .slice (some ⟨b, 0, none⟩) xs.length cap ∧ env 3 = .int .i64 (i : Nat)

def CoIn (h : Hp) (b cap : Nat) (xs : List PK) (k0 : Nat) (n : Nat) (env : Env) (g : Hp) : Prop :=
  ∃ j : Nat, k0 < j ∧ j + n = xs.length ∧ SlAt g 24 2 kencP (.slice (some ⟨b, 0, none⟩) xs.length cap) (ddT xs j ++ xs.drop (ddT xs j).length) ∧ (ddT xs j).length < j ∧ (∀ y o, h y = some o → y ≠ b → g y = some o) ∧
    env 0 = .slice (some ⟨b, 0, none⟩) xs.length cap ∧ env 3 = .int .i64 ((ddT xs j).length : Nat) ∧ env 4 = .slice (some ⟨b, k0 * 2, none⟩) (xs.length - k0) (cap - k0) ∧ env 5 = .int .i64 ((j - k0 : Nat) : Int)

set_option maxHeartbeats 1000000 in
set_option maxRecDepth 20000 in
theorem compactM {w : Value} {xs : List PK} (S : SlAt h 24 2 kencP w xs) (hl : xs.length ≤ 1000000)
    (hQ : ∀ w' h', (∀ y o, h y = some o → blkOf w ≠ some y → h' y = some o) → blkOf w' = blkOf w → SlAt h' 24 2 kencP w' (ddT xs xs.length) → Q w' h') :
    Ok Try.prog F_slices_Compact_api_Prefix_api_Prefix #[w] h Q := by
  refine slices_Compact_api_Prefix_api_Prefix_ok (by simp) ?_
  unfold slices_Compact_api_Prefix_api_Prefix_D
  obtain ⟨ap, acap, hw⟩ := S.shape'
  by_cases g1 : (xs.length : Int) < 2
  · have e : ddT xs xs.length = xs := by
      rw [ddT_take _ (fun i h1 h2 => by omega), List.take_length]
    rw [e] at hQ
    have hq := hQ w h (fun _ _ e _ => e) rfl S
    rw [hw] at hq ⊢
    simp (disch := omega) [slices_Compact_api_Prefix_api_Prefix_r0, slices_Compact_api_Prefix_api_Prefix_r1, slices_Compact_api_Prefix_api_Prefix_r2, g1]
    exact .to _ (.refl _) hq
  have hx0 : xs[0]? = some xs[0] := List.getElem?_eq_getElem (by omega)
  obtain ⟨b, cap, c, hw', hb, _, _⟩ := kq_at S hx0
  subst hw'
  clear hw
  have hcap : xs.length ≤ cap := by
    rcases S with ⟨e, _⟩ | ⟨b', cap', c', e, hb', h1, h2, h3⟩
    · cases e
    · cases e; exact h1
  simp (disch := omega) [slices_Compact_api_Prefix_api_Prefix_r0, slices_Compact_api_Prefix_api_Prefix_r1, slices_Compact_api_Prefix_api_Prefix_r3, g1]
  refine ⟨CoOut h b cap xs 0, ⟨xs.length, 1, by omega, by omega, rfl, fun j h1 h2 => by omega, by omega, by simp, by simp⟩, ?_⟩
  rintro n env g ⟨i, h1i, hin, rfl, hne, hil, e0, e3⟩
  unfold slices_Compact_api_Prefix_api_Prefix_L1
  by_cases hm : i = xs.length
  · subst hm
    have e : ddT xs xs.length = xs := by rw [ddT_take _ hne, List.take_length]
    rw [e] at hQ
    simp (disch := omega) [slices_Compact_api_Prefix_api_Prefix_r4, slices_Compact_api_Prefix_api_Prefix_r16, e0, e3]
    exact .to _ (.refl _) (hQ _ _ (fun _ _ e _ => e) rfl S)
  · have hi' : i < xs.length := by omega
    obtain ⟨x1, hx1⟩ : ∃ x, xs[i]? = some x := ⟨_, List.getElem?_eq_getElem hi'⟩
    obtain ⟨x2, hx2⟩ : ∃ x, xs[i - 1]? = some x := ⟨_, List.getElem?_eq_getElem (by omega)⟩
    obtain ⟨b1, cap1, c1, e1, hb1, p0, p1⟩ := kq_at S hx1
    obtain ⟨b2, cap2, c2, e2, hb2, t0, t1⟩ := kq_at S hx2
    simp only [Value.slice.injEq, Option.some.injEq, Addr.mk.injEq, and_true, true_and] at e1 e2
    obtain ⟨rfl, rfl⟩ := e1
    obtain ⟨rfl, rfl⟩ := e2
    rw [hb1] at hb2
    simp only [Option.some.injEq, Obj.cells.injEq, and_true] at hb2
    subst hb2
    have hs : ((i : Int) - 1) = ((i - 1 : Nat) : Int) := by omega
    have hi1 : i - 1 < xs.length := by omega
    by_cases hx : x1 = x2
    · subst hx
      have sf : rrun Try.prog (Instr.sliceAt 88 (.slice (some ⟨b, 0, none⟩) xs.length cap) (some (.int .i64 (i : Nat))) none none) noHp = some (.slice (some ⟨b, i * 2, none⟩) (xs.length - i) (cap - i)) := by
        rw [rr_slice_from und_88 size_24 (by omega) (by omega) (by omega)]; simp
      simp (disch := omega) [slices_Compact_api_Prefix_api_Prefix_r4, slices_Compact_api_Prefix_api_Prefix_r5, slices_Compact_api_Prefix_api_Prefix_r6, slices_Compact_api_Prefix_api_Prefix_r7, e0, e3, hi', hs, hi1, hb1, p0, p1, t0, t1, wrap_i64, sf]
      have hti : ddT xs i = xs.take i := ddT_take _ hne
      have htl : (xs.take i).length = i := by rw [List.length_take]; omega
      have hd1 : ddT xs (i + 1) = xs.take i := by rw [ddT, hti, if_neg (by rw [hx1, hx2]; simp; omega), List.append_nil]
      refine ⟨CoIn g b cap xs i, ⟨xs.length - (i + 1), i + 1, by omega, by omega, by rw [hd1, htl, List.take_append_drop]; exact S, by rw [hd1, htl]; omega, fun _ _ e _ => e, by simp [e0], by rw [hd1, htl]; simp [e3], by simp, by simp⟩, ?_⟩
      clear e0 e3 sf p0 p1 t0 t1 hb1 hx1 hx2
      rintro n2 env g2 ⟨j, hj0, hjn, S2, hK, keep, e0, e3, e4, e5⟩
      unfold slices_Compact_api_Prefix_api_Prefix_L0
      have hKj := hK
      have hys : ∀ p, (ddT xs j).length ≤ p → (ddT xs j ++ xs.drop (ddT xs j).length)[p]? = xs[p]? := fun p hp => by
        rw [List.getElem?_append_right hp, List.getElem?_drop]; congr 1; omega
      have hyl : (ddT xs j ++ xs.drop (ddT xs j).length).length = xs.length := by rw [List.length_append, List.length_drop]; omega
      by_cases hm2 : j = xs.length
      · subst hm2
        generalize hKd : (ddT xs xs.length).length = K at *
        have sf : rrun Try.prog (Instr.sliceAt 88 (.slice (some ⟨b, 0, none⟩) xs.length cap) (some (.int .i64 (K : Nat))) none none) noHp = some (.slice (some ⟨b, K * 2, none⟩) ((xs.length - K - 1) + 1) (cap - K)) := by
          rw [rr_slice_from und_88 size_24 (by omega) (by omega) (by omega), show (xs.length - K - 1) + 1 = xs.length - K by omega]; simp
        have st : rrun Try.prog (Instr.sliceAt 88 (.slice (some ⟨b, 0, none⟩) xs.length cap) none (some (.int .i64 (K : Nat))) none) noHp = some (.slice (some ⟨b, 0, none⟩) K cap) := by
          rw [rr_slice_to und_88 size_24 (by omega) (by omega)]; simp
        have lt : ¬ ((xs.length - i : Nat) : Int) < ((xs.length - i : Nat) : Int) := by omega
        simp (disch := omega) [slices_Compact_api_Prefix_api_Prefix_r8, slices_Compact_api_Prefix_api_Prefix_r13, e0, e3, e4, e5, lt, sf]
        rcases S2 with ⟨e, _⟩ | ⟨b', cap', c', e, hb', k1, k2, k3⟩
        · cases e
        · simp only [Value.slice.injEq, Option.some.injEq, Addr.mk.injEq, and_true, true_and] at e
          obtain ⟨rfl, e2, rfl⟩ := e
          obtain ⟨m1, hm1⟩ : ∃ m1, xs.length - K = m1 + 1 := ⟨xs.length - K - 1, by omega⟩
          rw [hm1]
          refine arun_clearSl (ts := #[88]) rfl und_88 (z := .agg #[.int .u32 0, .int .i64 0]) (sz := 2) (k := K * 2) (n := m1) (by kernel_rfl) rfl rfl hb' (by omega) (fun c'' q1 q2 => ?_)
          simp (disch := omega) [slices_Compact_api_Prefix_api_Prefix_r14, e0, e3, st]
          refine .to _ (.refl _) (hQ _ _ (fun y o e n => by rw [upd_ne (fun q => n (by rw [q]; rfl))]; exact keep y o e (fun q => n (by rw [q]; rfl))) rfl (.inr ⟨b, cap, c'', by rw [hKd], upd_same, by omega, by omega, fun jj x hx mm hmm => ?_⟩))
          have hjK : jj < K := by rw [← hKd]; exact (List.getElem?_eq_some_iff.1 hx).1
          rw [q2 _ (by omega)]
          exact k3 jj x (by rw [List.getElem?_append_left (by rw [hKd]; exact hjK)]; exact hx) mm hmm
      · have hj' : j < xs.length := by omega
        obtain ⟨y1, hy1⟩ : ∃ x, xs[j]? = some x := ⟨_, List.getElem?_eq_getElem hj'⟩
        obtain ⟨y2, hy2⟩ : ∃ x, xs[j - 1]? = some x := ⟨_, List.getElem?_eq_getElem (by omega)⟩
        obtain ⟨b1, cap1, c1, e1, hb1, p0, p1⟩ := kq_at S2 (i := j) (x := y1) (by rw [hys j (by omega)]; exact hy1)
        obtain ⟨b2, cap2, c2, e2, hb2, t0, t1⟩ := kq_at S2 (i := j - 1) (x := y2) (by rw [hys (j - 1) (by omega)]; exact hy2)
        rw [hyl] at e1 e2
        simp only [Value.slice.injEq, Option.some.injEq, Addr.mk.injEq, and_true, true_and] at e1 e2
        obtain ⟨rfl, rfl⟩ := e1
        obtain ⟨rfl, rfl⟩ := e2
        rw [hb1] at hb2
        simp only [Option.some.injEq, Obj.cells.injEq, and_true] at hb2
        subst hb2
        have pj : j * 2 = i * 2 + (j - i) * 2 := by omega
        have pj1 : (j - 1) * 2 = i * 2 + (j - i - 1) * 2 := by omega
        rw [pj] at p0 p1
        rw [pj1] at t0 t1
        have hs : (((j - i : Nat) : Int) - 1) = ((j - i - 1 : Nat) : Int) := by omega
        have lt1 : (j - i) < (xs.length - i) := by omega
        have lt2 : (j - i - 1) < (xs.length - i) := by omega
        have lt3 : ((j - i : Nat) : Int) < ((xs.length - i : Nat) : Int) := by omega
        by_cases hy : y1 = y2
        · subst hy
          have hd : ddT xs (j + 1) = ddT xs j := by rw [ddT, if_neg (by rw [hy1, hy2]; simp; omega), List.append_nil]
          simp (disch := omega) [slices_Compact_api_Prefix_api_Prefix_r8, slices_Compact_api_Prefix_api_Prefix_r9, slices_Compact_api_Prefix_api_Prefix_r12, e0, e3, e4, e5, hs, lt1, lt2, lt3, hb1, p0, p1, t0, t1, wrap_i64]
          exact ⟨n2 - 1, by omega, j + 1, by omega, by omega, by rw [hd]; exact S2, by rw [hd]; omega, keep, by simp [e0], by rw [hd]; simp [e3], by simp [e4], by simp; omega⟩
        · have hd : ddT xs (j + 1) = ddT xs j ++ [y1] := by rw [ddT, if_pos (.inr (by rw [hy1, hy2]; simpa using hy)), hy1]; rfl
          have hne' : ¬ ((y1.1 : Int) = (y2.1 : Int) ∧ y1.2 = y2.2) := fun q => hy (Prod.ext (by omega) q.2)
          have step : ∀ env : Env, env 0 = .slice (some ⟨b, 0, none⟩) xs.length cap → env 3 = .int .i64 ((ddT xs j).length : Nat) → env 4 = .slice (some ⟨b, i * 2, none⟩) (xs.length - i) (cap - i) → env 5 = .int .i64 ((j - i : Nat) : Int) →
              slices_Compact_api_Prefix_api_Prefix_r10 env g2 (thenK (rg slices_Compact_api_Prefix_api_Prefix_r11) (inBlk 3 (thenK (rg slices_Compact_api_Prefix_api_Prefix_r12) (roundK (CoIn g b cap xs i) n2 (inBlk 2 (thenK (sq (rg slices_Compact_api_Prefix_api_Prefix_r13) (sq (rg slices_Compact_api_Prefix_api_Prefix_r14) (ex .ret))) (inBlk 1 (thenK (rg slices_Compact_api_Prefix_api_Prefix_r15) (roundK (CoOut g b cap xs 0) n (inBlk 0 (thenK (sq (rg slices_Compact_api_Prefix_api_Prefix_r16) (ex .ret)) (fin Try.prog [.tmp 2] Q))))))))))) .normal) := by
            intro env e0 e3 e4 e5
            have hKl : (ddT xs j).length < xs.length := by omega
            obtain ⟨z, hz⟩ : ∃ z, (ddT xs j ++ xs.drop (ddT xs j).length)[(ddT xs j).length]? = some z := ⟨_, List.getElem?_eq_getElem (by rw [hyl]; exact hKl)⟩
            simp (disch := omega) [-stN_cons, slices_Compact_api_Prefix_api_Prefix_r10, e0, e3, e4, e5, lt1, hKl, hb1, p0, p1]
            refine SlAt.setOne (y := y1) S2 (by rw [hyl]) hz rfl (by simp) rfl rfl (fun g3 K3 S3 => ?_)
            simp (disch := omega) [slices_Compact_api_Prefix_api_Prefix_r11, slices_Compact_api_Prefix_api_Prefix_r12, e3, e5, wrap_i64]
            have hset : (ddT xs j ++ xs.drop (ddT xs j).length).set (ddT xs j).length y1 = ddT xs (j + 1) ++ xs.drop (ddT xs (j + 1)).length := by
              obtain ⟨q, hq⟩ : ∃ q, xs[(ddT xs j).length]? = some q := ⟨_, List.getElem?_eq_getElem hKl⟩
              rw [hd, List.length_append, List.length_singleton, List.set_append_right _ _ (Nat.le_refl _), Nat.sub_self, drop_cons hq]; simp
            rw [hset] at S3
            exact ⟨n2 - 1, by omega, j + 1, by omega, by omega, S3, by rw [hd]; simp; omega, fun y o e n => K3 y o (keep y o e n) n, by simp [e0], by rw [hd]; simp, by simp [e4], by simp; omega⟩
          by_cases s1 : (y1.1 : Int) = (y2.1 : Int)
          · have s2 : ¬ y1.2 = y2.2 := fun q => hne' ⟨s1, q⟩
            have s1' : y1.1 = y2.1 := by omega
            rw [← s1] at t0
            simp (disch := omega) [slices_Compact_api_Prefix_api_Prefix_r8, slices_Compact_api_Prefix_api_Prefix_r9, e0, e3, e4, e5, hs, lt1, lt2, lt3, hb1, p0, p1, t0, t1, wrap_i64, s2]
            refine step _ ?_ ?_ ?_ ?_ <;> simp [e0, e3, e4, e5]
          · have s1' : ¬ y1.1 = y2.1 := by omega
            simp (disch := omega) [slices_Compact_api_Prefix_api_Prefix_r8, slices_Compact_api_Prefix_api_Prefix_r9, e0, e3, e4, e5, hs, lt1, lt2, lt3, hb1, p0, p1, t0, t1, wrap_i64, s1, s1']
            refine step _ ?_ ?_ ?_ ?_ <;> simp [e0, e3, e4, e5]
    · have next : ∀ env : Env, env 0 = .slice (some ⟨b, 0, none⟩) xs.length cap → env 3 = .int .i64 (i : Nat) →
          slices_Compact_api_Prefix_api_Prefix_r15 env g (roundK (CoOut g b cap xs 0) n (inBlk 0 (thenK (sq (rg slices_Compact_api_Prefix_api_Prefix_r16) (ex .ret)) (fin Try.prog [.tmp 2] Q))) .normal) := by
        intro env e0 e3
        simp (disch := omega) [slices_Compact_api_Prefix_api_Prefix_r15, e3, wrap_i64]
        refine ⟨n - 1, by omega, i + 1, by omega, by omega, rfl, fun j h1 h2 => ?_, by omega, by simp [e0], by simp⟩
        by_cases q : j = i
        · subst q; rw [hx1, hx2]; simpa using hx
        · exact hne j h1 (by omega)
      have hne' : ¬ ((x1.1 : Int) = (x2.1 : Int) ∧ x1.2 = x2.2) := fun q => hx (Prod.ext (by omega) q.2)
      by_cases s1 : (x1.1 : Int) = (x2.1 : Int)
      · have s2 : ¬ x1.2 = x2.2 := fun q => hne' ⟨s1, q⟩
        rw [← s1] at t0
        simp (disch := omega) [slices_Compact_api_Prefix_api_Prefix_r4, slices_Compact_api_Prefix_api_Prefix_r5, e0, e3, hi', hs, hi1, hb1, p0, p1, t0, t1, wrap_i64, s2]
        refine next _ ?_ ?_ <;> simp [e0, e3]
      · have s1' : ¬ x1.1 = x2.1 := by omega
        simp (disch := omega) [slices_Compact_api_Prefix_api_Prefix_r4, slices_Compact_api_Prefix_api_Prefix_r5, e0, e3, hi', hs, hi1, hb1, p0, p1, t0, t1, wrap_i64, s1, s1']
        refine next _ ?_ ?_ <;> simp [e0, e3]
end
end Go.Proofs.Ytchbipkoifmmdaa

/- The order that Babel sorts by. -/
namespace Go.Proofs.Ytchbipkoifmmdaa
open Go
set_option linter.unusedSimpArgs false
set_option linter.unusedVariables false

theorem order1_spec {x y : PK} {h : Hp} {Q : Value → Hp → Prop} (hQ : ∀ h', Le h h' → Q (.int .i64 (cmpP x y)) h') : Ok Try.prog F_babel_Babel_prefixes_3 #[kvalP x, kvalP y] h Q := by
  refine babel_Babel_prefixes_3_ok (by simp) ?_
  unfold babel_Babel_prefixes_3_D
  simp (disch := omega) [babel_Babel_prefixes_3_r0]
  intro b1 hb1 b2 hb2
  obtain ⟨n21, hb2'⟩ := upd_none hb2
  have L1 : Le h ((h.upd b1 (.cells #[.int .u32 (x.1 : Nat), .int .i64 x.2] 24)).upd b2 (.cells #[.int .u32 (y.1 : Nat), .int .i64 y.2] 24)) := (Le.new hb1).trans (Le.new hb2)
  have f1 : ((h.upd b1 (.cells #[.int .u32 (x.1 : Nat), .int .i64 x.2] 24)).upd b2 (.cells #[.int .u32 (y.1 : Nat), .int .i64 y.2] 24)) b1 = some (.cells #[.int .u32 (x.1 : Nat), .int .i64 x.2] 24) := by rw [upd_ne (Ne.symm n21), upd_same]
  have f2 : ((h.upd b1 (.cells #[.int .u32 (x.1 : Nat), .int .i64 x.2] 24)).upd b2 (.cells #[.int .u32 (y.1 : Nat), .int .i64 y.2] 24)) b2 = some (.cells #[.int .u32 (y.1 : Nat), .int .i64 y.2] 24) := upd_same
  generalize (h.upd b1 (.cells #[.int .u32 (x.1 : Nat), .int .i64 x.2] 24)).upd b2 (.cells #[.int .u32 (y.1 : Nat), .int .i64 y.2] 24) = g1 at *
  simp (disch := omega) [babel_Babel_prefixes_3_r1, f1, f2]
  refine less_spec ?_
  have hQ' := hQ _ L1
  unfold cmpP at hQ'
  by_cases h1 : pltB x y = true
  · rw [if_pos h1] at hQ'
    unfold pltB at h1
    rw [h1]
    simp (disch := omega) [babel_Babel_prefixes_3_r2]
    exact .to _ (.refl _) hQ'
  · rw [if_neg h1] at hQ'
    unfold pltB at h1
    rw [Bool.not_eq_true] at h1
    rw [h1]
    by_cases he : x = y
    · rw [if_pos he] at hQ'
      subst he
      simp (disch := omega) [babel_Babel_prefixes_3_r3, babel_Babel_prefixes_3_r4, f1, f2]
      exact .to _ (.refl _) hQ'
    · rw [if_neg he] at hQ'
      have hne : ¬ ((x.1 : Int) = (y.1 : Int) ∧ x.2 = y.2) := fun q => he (Prod.ext (by omega) q.2)
      by_cases h2 : x.1 = y.1
      · have h3 : ¬ x.2 = y.2 := fun q => he (Prod.ext h2 q)
        simp (disch := omega) [babel_Babel_prefixes_3_r3, babel_Babel_prefixes_3_r5, f1, f2, h2, h3]
        exact .to _ (.refl _) hQ'
      · have h2' : ¬ (x.1 : Int) = (y.1 : Int) := by omega
        simp (disch := omega) [babel_Babel_prefixes_3_r3, babel_Babel_prefixes_3_r5, f1, f2, h2, h2']
        exact .to _ (.refl _) hQ'
end Go.Proofs.Ytchbipkoifmmdaa

/- Contracts of the shelf, laid at this program in plain words (printed by wip/kit/sp.sh). -/
namespace Go.Proofs.Ytchbipkoifmmdaa
open Go Go.Shelf Go.RowKit
set_option maxRecDepth 100000
def sortP_ren : Go.Shelf.Ren := ⟨fun | 6 => 53 | 14 => 65 | 15 => 66 | 20 => 72 | 21 => 73 | 22 => 74 | 23 => 75 | 24 => 76 | 25 => 77 | 26 => 78 | 27 => 79 | 28 => 80 | 29 => 81 | 46 => 82 | 47 => 83 | 48 => 84 | 49 => 85 | 50 => 86 | 57 => 87 | n => n, fun | 22 => 88 | 25 => 107 | 39 => 120 | 45 => 123 | 46 => 124 | 50 => 128 | 53 => 22 | 55 => 28 | 66 => 132 | 70 => 136 | 76 => 138 | 77 => 139 | n => n, fun  | n => n⟩
theorem sortP : SlLaysF0.n6 Try.prog sortP_ren where
  mixed := by kernel_rfl
  f6 := ⟨Try.f53.name, by decide, Try.func53.trans (congrArg some (by kernel_rfl))⟩
  f14 := ⟨Try.f65.name, by decide, Try.func65.trans (congrArg some (by kernel_rfl))⟩
  f15 := Try.func66.trans (congrArg some (by kernel_rfl))
  f20 := ⟨Try.f72.name, by decide, Try.func72.trans (congrArg some (by kernel_rfl))⟩
  f21 := ⟨Try.f73.name, by decide, Try.func73.trans (congrArg some (by kernel_rfl))⟩
  f22 := ⟨Try.f74.name, by decide, Try.func74.trans (congrArg some (by kernel_rfl))⟩
  f23 := ⟨Try.f75.name, by decide, Try.func75.trans (congrArg some (by kernel_rfl))⟩
  f24 := ⟨Try.f76.name, by decide, Try.func76.trans (congrArg some (by kernel_rfl))⟩
  f25 := ⟨Try.f77.name, by decide, Try.func77.trans (congrArg some (by kernel_rfl))⟩
  f26 := ⟨Try.f78.name, by decide, Try.func78.trans (congrArg some (by kernel_rfl))⟩
  f27 := ⟨Try.f79.name, by decide, Try.func79.trans (congrArg some (by kernel_rfl))⟩
  f28 := Try.func80.trans (congrArg some (by kernel_rfl))
  f29 := Try.func81.trans (congrArg some (by kernel_rfl))
  f46 := ⟨Try.f82.name, by decide, Try.func82.trans (congrArg some (by kernel_rfl))⟩
  f47 := Try.func83.trans (congrArg some (by kernel_rfl))
  f48 := Try.func84.trans (congrArg some (by kernel_rfl))
  f49 := ⟨Try.f85.name, by decide, Try.func85.trans (congrArg some (by kernel_rfl))⟩
  f50 := ⟨Try.f86.name, by decide, Try.func86.trans (congrArg some (by kernel_rfl))⟩
  f57 := ⟨Try.f87.name, by decide, Try.func87.trans (congrArg some (by kernel_rfl))⟩
  t0 := Try.underlying0
  a0 := Try.isAgg0
  z0 := Try.sizeOf0
  v0 := Try.zeroValue0
  t3 := Try.underlying3
  a3 := Try.isAgg3
  z3 := Try.sizeOf3
  v3 := Try.zeroValue3
  t4 := Try.underlying4
  a4 := Try.isAgg4
  z4 := Try.sizeOf4
  v4 := Try.zeroValue4
  t5 := Try.underlying5
  a5 := Try.isAgg5
  z5 := Try.sizeOf5
  v5 := Try.zeroValue5
  t9 := Try.underlying9
  a9 := Try.isAgg9
  z9 := Try.sizeOf9
  v9 := Try.zeroValue9
  t22 := Try.underlying88
  a22 := Try.isAgg88
  z22 := Try.sizeOf88
  v22 := Try.zeroValue88
  t25 := Try.underlying107
  a25 := Try.isAgg107
  z25 := Try.sizeOf107
  v25 := Try.zeroValue107
  t39 := Try.underlying120
  a39 := Try.isAgg120
  z39 := Try.sizeOf120
  v39 := Try.zeroValue120
  t45 := Try.underlying123
  a45 := Try.isAgg123
  z45 := Try.sizeOf123
  v45 := Try.zeroValue123
  t46 := Try.underlying124
  a46 := Try.isAgg124
  z46 := Try.sizeOf124
  v46 := Try.zeroValue124
  t50 := Try.underlying128
  a50 := Try.isAgg128
  z50 := Try.sizeOf128
  v50 := Try.zeroValue128
  t53 := Try.underlying22
  a53 := Try.isAgg22
  z53 := Try.sizeOf22
  v53 := Try.zeroValue22
  t55 := Try.underlying28
  a55 := Try.isAgg28
  z55 := Try.sizeOf28
  v55 := Try.zeroValue28
  t66 := Try.underlying132
  a66 := Try.isAgg132
  z66 := Try.sizeOf132
  v66 := Try.zeroValue132
  t70 := Try.underlying136
  a70 := Try.isAgg136
  z70 := Try.sizeOf136
  v70 := Try.zeroValue136
  t76 := Try.underlying138
  a76 := Try.isAgg138
  z76 := Try.sizeOf138
  v76 := Try.zeroValue138
  t77 := Try.underlying139
  a77 := Try.isAgg139
  z77 := Try.sizeOf139
  v77 := Try.zeroValue139
def bitsP_ren : Go.Shelf.Ren := ⟨fun | 125 => 66 | 128 => 80 | 129 => 81 | n => n, fun | 46 => 120 | 51 => 22 | 53 => 28 | n => n, fun  | n => n⟩
theorem bitsP : Lays.n125 Try.prog bitsP_ren where
  mixed := by kernel_rfl
  f125 := Try.func66.trans (congrArg some (by kernel_rfl))
  f128 := Try.func80.trans (congrArg some (by kernel_rfl))
  f129 := Try.func81.trans (congrArg some (by kernel_rfl))
  t3 := Try.underlying3
  a3 := Try.isAgg3
  z3 := Try.sizeOf3
  v3 := Try.zeroValue3
  t4 := Try.underlying4
  a4 := Try.isAgg4
  z4 := Try.sizeOf4
  v4 := Try.zeroValue4
  t5 := Try.underlying5
  a5 := Try.isAgg5
  z5 := Try.sizeOf5
  v5 := Try.zeroValue5
  t9 := Try.underlying9
  a9 := Try.isAgg9
  z9 := Try.sizeOf9
  v9 := Try.zeroValue9
  t46 := Try.underlying120
  a46 := Try.isAgg120
  z46 := Try.sizeOf120
  v46 := Try.zeroValue120
  t51 := Try.underlying22
  a51 := Try.isAgg22
  z51 := Try.sizeOf22
  v51 := Try.zeroValue22
  t53 := Try.underlying28
  a53 := Try.isAgg28
  z53 := Try.sizeOf28
  v53 := Try.zeroValue28
end Go.Proofs.Ytchbipkoifmmdaa

/- slices.SortFunc at these elements (printed by wip/lib/sort.py). -/
namespace Go.Proofs.Ytchbipkoifmmdaa
open Go Go.Shelf Go.RowKit Go.Lib Go.Sort
set_option linter.unusedSimpArgs false
set_option linter.unusedVariables false

theorem isAggP : ∀ w, (isAgg (sortP_ren.t 24)).run Try.prog w = .ok true w := by intro w; kernel_rfl
theorem sizeP : ∀ w, (Go.sizeOf (sortP_ren.t 24)).run Try.prog w = .ok 2 w := by intro w; kernel_rfl

theorem len_specP {n : Nat} {h : Hp} {Q : Value → Hp → Prop} (hn : n < 2 ^ 63) (hQ : ∀ k : Int, Q (.int .i64 k) h) : Ok Try.prog F_math_bits_Len #[.int .u64 (n : Nat)] h Q := by
  refine ⟨⟨Try.f66, math_bits_Len_code, Try.func66, by kernel_rfl⟩, fun w V => ?_⟩
  have := Any.bits_Len bitsP (n : Int) w (by omega) (by omega)
  refine Calls.mono (P := Try.prog) this ?_
  rintro e w' ⟨rfl, rfl⟩
  exact ⟨_, h, rfl, V, .refl _ _, hQ _⟩


theorem sort_nilP {Q : Value → Hp → Prop} {h : Hp} (hQ : Q (.tuple #[]) h) : Ok Try.prog F_slices_SortFunc_api_Prefix_api_Prefix #[.slice none 0 0, .func (.func F_babel_Babel_prefixes_3) #[] #[]] h Q := by
  refine slices_SortFunc_api_Prefix_api_Prefix_ok (by simp) ?_
  unfold slices_SortFunc_api_Prefix_api_Prefix_D
  simp (disch := omega) [slices_SortFunc_api_Prefix_api_Prefix_r0, slices_SortFunc_api_Prefix_api_Prefix_r1]
  refine len_specP (n := 0) (by omega) (fun k => ?_)
  simp (disch := omega)
  refine slices_pdqsortCmpFunc_api_Prefix_ok (by simp) ?_
  unfold slices_pdqsortCmpFunc_api_Prefix_D
  simp (disch := omega) [slices_pdqsortCmpFunc_api_Prefix_r0, slices_pdqsortCmpFunc_api_Prefix_r1]
  refine ⟨fun _ env g => g = h ∧ env 0 = .slice none 0 0 ∧ env 1 = .int .i64 0 ∧ env 2 = .int .i64 0, ⟨0, rfl, by simp, by simp, by simp⟩, ?_⟩
  rintro _ env g ⟨rfl, e0, e1, e2⟩
  unfold slices_pdqsortCmpFunc_api_Prefix_L0
  simp (disch := omega) [slices_pdqsortCmpFunc_api_Prefix_r2, slices_pdqsortCmpFunc_api_Prefix_r3, slices_pdqsortCmpFunc_api_Prefix_r4, e0, e1, e2, wrap_i64]
  refine slices_insertionSortCmpFunc_api_Prefix_ok (by simp) ?_
  unfold slices_insertionSortCmpFunc_api_Prefix_D
  simp (disch := omega) [slices_insertionSortCmpFunc_api_Prefix_r0, wrap_i64]
  refine ⟨fun _ env g2 => g2 = g ∧ env 2 = .int .i64 0 ∧ env 8 = .int .i64 1, ⟨0, rfl, by simp, by simp⟩, ?_⟩
  rintro _ env2 g2 ⟨rfl, f2, f8⟩
  unfold slices_insertionSortCmpFunc_api_Prefix_L1
  simp (disch := omega) [slices_insertionSortCmpFunc_api_Prefix_r1, f2, f8]
  exact .to _ (.refl _) (.to _ (.refl _) (.to _ (.refl _) hQ))

theorem sort_specP {h : Hp} {v : Value} {d : List (Nat × Int)} {Q : Value → Hp → Prop} (S : SlAt h 24 2 kencP v d) (hsz : d.length < 4611686018427387904)
    (hQ : ∀ (d' : List (Nat × Int)) h', d'.Perm d → SrtP d' → (∀ x o, h x = some o → blkOf v ≠ some x → h' x = some o) → SlAt h' 24 2 kencP v d' → Q (.tuple #[]) h') :
    Ok Try.prog F_slices_SortFunc_api_Prefix_api_Prefix #[v, .func (.func F_babel_Babel_prefixes_3) #[] #[]] h Q := by
  rcases S with ⟨rfl, rfl⟩ | ⟨b, cap, c, rfl, hb, h1, h2, h3⟩
  · exact sort_nilP (hQ [] h (.refl _) .nil (fun _ _ e _ => e) (.inl ⟨rfl, rfl⟩))
  · have hlc : d.length * 2 ≤ c.size := by omega
    refine ok_sortFunc sortP isAggP sizeP (enc := kencP) (fun _ => rfl) (fun x v hv => by simp [kencP] at hv; rcases hv with rfl | rfl <;> rfl) swoP (g := F_babel_Babel_prefixes_3) (cb := #[])
      (enters_of Try.func54 (by kernel_rfl) rfl) (fun x y => order1_spec (fun _ _ => rfl)) ⟨_, slices_SortFunc_api_Prefix_api_Prefix_code, Try.func53, by kernel_rfl⟩ hb hlc h3 hsz (fun d' c' hp hs hc he => ?_)
    have hl := hp.length_eq
    refine hQ d' _ hp (hs.imp fun {x y} q => by rw [ltP] at q; simpa using q) (fun x o e n => ?_) (.inr ⟨b, cap, c', by rw [hl], upd_same, by omega, by omega, he⟩)
    rw [upd_ne (fun q => n (by subst q; rfl))]; exact e
end Go.Proofs.Ytchbipkoifmmdaa

/- Babel: all prefixes that are known, in order. -/
namespace Go.Proofs.Ytchbipkoifmmdaa
open Go
set_option linter.unusedSimpArgs false
set_option linter.unusedVariables false

def SrtS (l : List PK) : Prop := l.Pairwise plt
theorem SrtS.srt {l : List PK} (s : SrtS l) : SrtP l := s.imp fun h => plt_asym h
theorem SrtS.nodup {l : List PK} (s : SrtS l) : l.Nodup := s.imp fun {a b} h => by rintro rfl; exact plt_irr h
theorem srtS_unique {l l' : List PK} (s : SrtS l) (s' : SrtS l') (h : ∀ k, k ∈ l ↔ k ∈ l') : l = l' :=
  srtP_unique s.srt s'.srt ((List.perm_ext_iff_of_nodup s.nodup s'.nodup).2 h)
theorem plt_cases {x y : PK} : plt x y ∨ x = y ∨ plt y x := by
  by_cases h1 : plt x y
  · exact .inl h1
  · by_cases h2 : plt y x
    · exact .inr (.inr h2)
    · exact .inr (.inl (plt_tri h1 h2))

def insU (k : PK) : List PK → List PK
  | [] => [k]
  | y :: ys => if plt k y then k :: y :: ys else if k = y then y :: ys else y :: insU k ys
theorem mem_insU {k z : PK} : ∀ {l : List PK}, z ∈ insU k l ↔ z = k ∨ z ∈ l
  | [] => by simp [insU]
  | y :: ys => by
    rw [insU]
    split
    · simp
    · split
      · rename_i h1 h2; subst h2; simp
      · rw [List.mem_cons, mem_insU, List.mem_cons]
        constructor
        · rintro (h | h | h)
          · exact .inr (.inl h)
          · exact .inl h
          · exact .inr (.inr h)
        · rintro (h | h | h)
          · exact .inr (.inl h)
          · exact .inl h
          · exact .inr (.inr h)
theorem srt_insU {k : PK} : ∀ {l : List PK}, SrtS l → SrtS (insU k l)
  | [], _ => by simp [insU, SrtS]
  | y :: ys, s => by
    unfold SrtS at *
    rw [List.pairwise_cons] at s
    rw [insU]
    by_cases h : plt k y
    · rw [if_pos h, List.pairwise_cons, List.pairwise_cons]
      refine ⟨fun z hz => ?_, s⟩
      rcases List.mem_cons.1 hz with rfl | hz
      · exact h
      · exact plt_trans h (s.1 z hz)
    · rw [if_neg h]
      by_cases q : k = y
      · rw [if_pos q, List.pairwise_cons]; exact s
      · rw [if_neg q, List.pairwise_cons]
        refine ⟨fun z hz => ?_, srt_insU s.2⟩
        rcases mem_insU.1 hz with rfl | hz
        · rcases plt_cases (x := z) (y := y) with h1 | h1 | h1
          · exact absurd h1 h
          · exact absurd h1 q
          · exact h1
        · exact s.1 z hz

def keysB (s : BS) : List PK := s.O.map (·.1) ++ (s.S.map (·.1) ++ s.T.map (·.1.1))
def prefL (s : BS) : List PK := (keysB s).foldr insU []
theorem foldU_mem {k : PK} : ∀ {l : List PK}, k ∈ l.foldr insU [] ↔ k ∈ l
  | [] => by simp
  | y :: ys => by rw [List.foldr_cons, mem_insU, foldU_mem, List.mem_cons]
theorem foldU_srt : ∀ {l : List PK}, SrtS (l.foldr insU [])
  | [] => by simp [SrtS]
  | y :: ys => by rw [List.foldr_cons]; exact srt_insU foldU_srt
theorem prefL_mem {s : BS} {k : PK} : k ∈ prefL s ↔ k ∈ keysB s := foldU_mem
theorem prefL_srt {s : BS} : SrtS (prefL s) := foldU_srt
theorem prefL_length {s : BS} : (prefL s).length ≤ s.O.length + s.S.length + s.T.length := by
  have := List.Nodup.length_le_of_subset (prefL_srt (s := s)).nodup (l₂ := keysB s) (fun k hk => prefL_mem.1 hk)
  unfold keysB at this
  simp at this; omega

theorem ddT_sub {xs : List PK} {z : PK} : ∀ {j}, z ∈ ddT xs j → ∃ i, i < j ∧ xs[i]? = some z
  | 0, h => by simp [ddT] at h
  | j + 1, h => by
    rw [ddT] at h
    rcases List.mem_append.1 h with h | h
    · obtain ⟨i, h1, h2⟩ := ddT_sub h; exact ⟨i, by omega, h2⟩
    · split at h
      · exact ⟨j, by omega, by simpa using h⟩
      · simp at h
theorem ddT_mem {xs : List PK} : ∀ {j i : Nat} {z : PK}, i < j → xs[i]? = some z → z ∈ ddT xs j
  | 0, i, z, h, _ => by omega
  | j + 1, i, z, h, hz => by
    rw [ddT]
    by_cases q : i < j
    · exact List.mem_append_left _ (ddT_mem q hz)
    · have : i = j := by omega
      subst this
      by_cases c : i = 0 ∨ xs[i]? ≠ xs[i - 1]?
      · rw [if_pos c, hz]; simp
      · have c1 : i ≠ 0 := fun e => c (.inl e)
        have c2 : xs[i]? = xs[i - 1]? := Decidable.byContradiction fun e => c (.inr e)
        exact List.mem_append_left _ (ddT_mem (i := i - 1) (by omega) (by rw [← c2]; exact hz))
theorem srtP_at {xs : List PK} (s : SrtP xs) {i j : Nat} {x y : PK} (hx : xs[i]? = some x) (hy : xs[j]? = some y) (h : i < j) : ¬ plt y x := by
  obtain ⟨h1, rfl⟩ := List.getElem?_eq_some_iff.1 hx
  obtain ⟨h2, rfl⟩ := List.getElem?_eq_some_iff.1 hy
  exact (List.pairwise_iff_getElem.1 s) i j h1 h2 h
theorem ddT_srt {xs : List PK} (s : SrtP xs) : ∀ j, SrtS (ddT xs j)
  | 0 => by simp [ddT, SrtS]
  | j + 1 => by
    rw [ddT]
    unfold SrtS
    rw [List.pairwise_append]
    refine ⟨ddT_srt s j, ?_, fun a ha b hb => ?_⟩
    · split
      · cases xs[j]? <;> simp
      · simp
    · split at hb
      · rename_i c
        have hb' : xs[j]? = some b := by simpa using hb
        obtain ⟨i, h1, h2⟩ := ddT_sub ha
        have n1 := srtP_at s h2 hb' h1
        rcases plt_cases (x := a) (y := b) with q | q | q
        · exact q
        · subst q
          rcases c with c | c
          · omega
          · obtain ⟨d, hd⟩ : ∃ d, xs[j - 1]? = some d := ⟨_, List.getElem?_eq_getElem (by have := (List.getElem?_eq_some_iff.1 hb').1; omega)⟩
            have n2 := srtP_at s hd hb' (by omega)
            have n3 : ¬ plt d a := by
              by_cases e : i = j - 1
              · rw [← e, h2] at hd; simp at hd; subst hd; exact plt_irr
              · exact srtP_at s h2 hd (by omega)
            have : d = a := plt_tri n3 n2
            rw [hb', hd, this] at c
            exact absurd rfl c
        · exact absurd q n1
      · simp at hb
theorem ddT_prefL {s : BS} {xs : List PK} (so : SrtP xs) (hm : ∀ k, k ∈ xs ↔ k ∈ keysB s) : ddT xs xs.length = prefL s := by
  refine srtS_unique (ddT_srt so _) prefL_srt fun k => ?_
  rw [prefL_mem, ← hm]
  constructor
  · intro h; obtain ⟨i, _, h2⟩ := ddT_sub h; exact List.mem_of_getElem? h2
  · intro h; obtain ⟨i, h1, rfl⟩ := List.mem_iff_getElem.1 h; exact ddT_mem h1 (List.getElem?_eq_getElem h1)

section
variable {h h' : Hp} {x : BP} {s : BS} {Q : Value → Hp → Prop}
set_option maxHeartbeats 1000000 in
set_option maxRecDepth 20000 in
theorem bprefM (A : BabAt h x s) (hl : s.O.length + s.S.length + s.T.length ≤ 100000) (hQ : ∀ w h', Le h h' → SlAt h' 24 2 kencP w (prefL s) → (∀ b, blkOf w = some b → h b = none) → Q w h') :
    Ok Try.prog F_babel_Babel_prefixes #[.pointer (some ⟨x.p, 0, none⟩)] h Q := by
  refine babel_Babel_prefixes_ok (by simp) ?_
  unfold babel_Babel_prefixes_D
  have fresh : ∀ {g g' : Hp} {w w' : Value}, Le h g → (∀ b, blkOf w = some b → h b = none) → Fr g g' (blkOf w).toList (blkOf w').toList → Le h g' ∧ ∀ b, blkOf w' = some b → h b = none := by
    intro g g' w w' l n F
    refine ⟨F.le l (fun y hy => n y (by simpa using hy)), fun b e => ?_⟩
    exact F.new l (fun y hy => n y (by simpa using hy)) b (by simp [e])
  have off : ∀ {w : Value}, (∀ b, blkOf w = some b → h b = none) → ∀ y ∈ ownB x, blkOf w ≠ some y := fun n y hy e => by obtain ⟨o, e2⟩ := A.alive y hy; rw [n y e] at e2; cases e2
  simp (disch := omega) [babel_Babel_prefixes_r0, babel_Babel_prefixes_r1, babel_Babel_prefixes_r2, A.pt]
  refine keysPM (l0 := []) (.inl ⟨rfl, rfl⟩) A.mo A.uo (by simp [blkOf]) (by simp; omega) (fun w1 k1 h1 p1 S1 F1 => ?_)
  obtain ⟨L1, N1⟩ := fresh (.refl h) (by simp [blkOf]) F1
  have A1 := A.le' L1
  simp only [List.nil_append, List.map_id_fun', id_eq] at S1
  have hp1 := A1.pt
  simp (disch := omega) [babel_Babel_prefixes_r3, hp1]
  have len1 := p1.length_eq
  rw [List.length_map] at len1
  refine keysPM S1 A1.md A1.ud (off N1 _ (mem_ownB.2 (.inr (.inr (.inr (.inr rfl)))))) (by omega) (fun w2 k2 h2 p2 S2 F2 => ?_)
  obtain ⟨L2, N2⟩ := fresh L1 N1 F2
  have A2 := A.le' L2
  have hp2 := A2.pt
  simp (disch := omega) [babel_Babel_prefixes_r4, hp2]
  have len2 := p2.length_eq
  rw [List.length_map] at len2
  refine keysFM S2 A2.mt A2.ut (off N2 _ (mem_ownB.2 (.inr (.inr (.inl rfl))))) (by simp; omega) (fun w3 k3 h3 p3 S3 F3 => ?_)
  obtain ⟨L3, N3⟩ := fresh L2 N2 F3
  have len3 := p3.length_eq
  rw [List.length_map] at len3
  simp (disch := omega) [babel_Babel_prefixes_r5]
  refine sort_specP S3 (by simp; omega) (fun d h4 pd sd K4 S4 => ?_)
  have L4 : Le h h4 := fun y o e => K4 y o (L3 _ _ e) (fun q => by rw [N3 y q] at e; cases e)
  simp (disch := omega) [babel_Babel_prefixes_r6]
  have lend := pd.length_eq
  refine compactM S4 (by rw [lend]; simp; omega) (fun w5 h5 K5 e5 S5 => ?_)
  have L5 : Le h h5 := fun y o e => K5 y o (L4 _ _ e) (fun q => by rw [N3 y q] at e; cases e)
  rw [ddT_prefL (s := s) sd (fun k => ?_)] at S5
  · simp (disch := omega)
    exact .to _ (.refl _) (hQ _ _ L5 S5 (fun b e => N3 b (by rw [← e5]; exact e)))
  · rw [pd.mem_iff]
    unfold keysB
    have m1 := fun k => p1.mem_iff (a := k)
    have m2 := fun k => p2.mem_iff (a := k)
    have m3 := (p3.map (·.1)).mem_iff (a := k)
    rw [List.map_map] at m3
    simp only [List.mem_append, List.map_id_fun', id_eq, m1, m2, m3, or_assoc]
    exact Iff.rfl
end
end Go.Proofs.Ytchbipkoifmmdaa

/- Babel: the way to a prefix. -/
namespace Go.Proofs.Ytchbipkoifmmdaa
open Go
set_option linter.unusedSimpArgs false
set_option linter.unusedVariables false

abbrev tcut (t : Tlv) (c : Int) : Tlv := ⟨t.k, t.s, 400, addM t.c c 65535, t.a, t.l, t.rt, t.tg, 0⟩
abbrev bestT (b : Option (Tlv × Int)) : Tlv := (b.map (·.1)).getD tlv0
abbrev bestN (b : Option (Tlv × Int)) : Int := (b.map (·.2)).getD 0
def takes (b : Option (Tlv × Int)) (c : Int) : Prop := c < 65535 ∧ (b.isSome = false ∨ c < (bestT b).c)
instance {b : Option (Tlv × Int)} {c : Int} : Decidable (takes b c) := by unfold takes; infer_instance
def wayStep (s : BS) (k : PK) (b : Option (Tlv × Int)) (n : Int) : Option (Tlv × Int) :=
  match getM s.T (k, n) with
  | none => b
  | some y => if betterB s.M (srcK y.2) y.2.s y.2.c = true ∧ takes b (addM y.2.c y.1 65535) then some (tcut y.2 y.1, n) else b
def wayN (s : BS) (k : PK) : Nat → Option (Tlv × Int)
  | 0 => none
  | n + 1 => wayStep s k (wayN s k n) ((n + 1 : Nat) : Int)
def wayB (s : BS) (k : PK) : Option (Tlv × Int) := match getM s.O k with | some t => some (⟨t.k, s.seq, t.iv, t.c, t.a, t.l, t.rt, t.tg, t.hp⟩, 0) | none => wayN s k 32

/-- What was told bears numbers that are. -/
def TldOk (T : MT) : Prop := ∀ e ∈ T, e.2.2.s < 65536

section
variable {h h' : Hp} {x : BP} {s : BS} {Q : Value → Hp → Prop}

theorem costM {a b : Int} (hQ : Q (.int .i64 (addM a b 65535)) h) : Ok Try.prog F_metric_Cost #[.int .i64 a, .int .i64 b] h Q := by
  refine metric_Cost_ok (by simp) ?_
  unfold metric_Cost_D
  simp (disch := omega) [metric_Cost_r0, metric_Cost_r1]
  refine add_spec (by omega) ?_
  simp (disch := omega)
  exact .to _ (.refl _) hQ

def WyInv (h : Hp) (x : BP) (s : BS) (k : PK) (b3 b4 : Nat) (n : Nat) (env : Env) (g : Hp) : Prop :=
  ∃ i : Nat, i + n = 32 ∧ Le h g ∧ g b3 = some (.cells #[.int .u32 (k.1 : Nat), .int .i64 k.2] 24 (0, 0)) ∧ g b4 = some (.cells (bestT (wayN s k i)).cells 31 (0, 0)) ∧
    env 0 = .pointer (some ⟨x.p, 0, none⟩) ∧ env 3 = .pointer (some ⟨b3, 0, none⟩) ∧ env 4 = .pointer (some ⟨b4, 0, none⟩) ∧ env 5 = .int .i64 (bestN (wayN s k i)) ∧ env 6 = .bool (wayN s k i).isSome ∧ env 9 = .int .i64 ((i + 1 : Nat) : Int)

set_option maxHeartbeats 1000000 in
set_option maxRecDepth 20000 in
theorem bwayM {k : PK} (A : BabAt h x s) (hM : SeqOk s.M) (hT : TldOk s.T) (hQ : ∀ h', Le h h' → Q (.tuple #[Tlvv (bestT (wayB s k)), .int .i64 (bestN (wayB s k)), .bool (wayB s k).isSome]) h') :
    Ok Try.prog F_babel_Babel_way #[.pointer (some ⟨x.p, 0, none⟩), .agg #[.int .u32 (k.1 : Nat), .int .i64 k.2]] h Q := by
  refine babel_Babel_way_ok (by simp) ?_
  unfold babel_Babel_way_D
  simp (disch := omega) [babel_Babel_way_r0]
  intro b3 hb3 b4 hb4
  obtain ⟨n43, hb4'⟩ := upd_none hb4
  have L1 : Le h ((h.upd b3 (.cells #[.int .u32 (k.1 : Nat), .int .i64 k.2] 24)).upd b4 (.cells tc0 31)) := (Le.new hb3).trans (Le.new hb4)
  have f3 : ((h.upd b3 (.cells #[.int .u32 (k.1 : Nat), .int .i64 k.2] 24)).upd b4 (.cells tc0 31)) b3 = some (.cells #[.int .u32 (k.1 : Nat), .int .i64 k.2] 24 (0, 0)) := by rw [upd_ne (Ne.symm n43), upd_same]
  have f4 : ((h.upd b3 (.cells #[.int .u32 (k.1 : Nat), .int .i64 k.2] 24)).upd b4 (.cells tc0 31)) b4 = some (.cells tc0 31 (0, 0)) := upd_same
  show babel_Babel_way_r1 _ ((h.upd b3 (.cells #[.int .u32 (k.1 : Nat), .int .i64 k.2] 24)).upd b4 (.cells tc0 31)) _
  generalize (h.upd b3 (.cells #[.int .u32 (k.1 : Nat), .int .i64 k.2] 24)).upd b4 (.cells tc0 31) = h1 at *
  have A1 := A.le' L1
  have hp := A1.pt
  have lk : ∀ h2, Le h1 h2 → _ := fun h2 l2 => lookO (k := k) (A1.le' l2).mo
  have lk1 := lk h1 (.refl _)
  simp (disch := omega) [babel_Babel_way_r1, hp, f3, lk1]
  intro b9 hb9
  have L7 : Le h1 (h1.upd b9 (.cells tc0 31)) := .new hb9
  have f9 : (h1.upd b9 (.cells tc0 31)) b9 = some (.cells tc0 31 (0, 0)) := upd_same
  have L8 : ∀ o2, Le h1 ((h1.upd b9 (.cells tc0 31)).upd b9 o2) := fun o2 y o e => by
    have : y ≠ b9 := by rintro rfl; rw [hb9] at e; cases e
    rw [upd_ne this]; exact L7 _ _ e
  generalize h1.upd b9 (.cells tc0 31) = h2 at *
  have lk2 := lk h2 L7
  have f32 := L7 _ _ f3
  have hp2 := L7 _ _ hp
  simp (disch := omega) [hp2, f32, lk2, f9]
  refine (stA_of f9 (by rfl) (by rfl)).mpr ⟨trivial, ?_⟩
  have L9 := L8 (.cells (((getM s.O k).getD tlv0).enc.toArray) 31 (0, 0))
  have n49 : b4 ≠ b9 := by rintro rfl; rw [f4] at hb9; cases hb9
  have f99 : (h2.upd b9 (.cells (((getM s.O k).getD tlv0).enc.toArray) 31 (0, 0))) b9 = some (.cells (((getM s.O k).getD tlv0).cells) 31 (0, 0)) := upd_same
  have h49 : h b9 = none := none_of_le L1 hb9
  show thenK _ _ _ _ (h2.upd b9 (.cells (((getM s.O k).getD tlv0).enc.toArray) 31 (0, 0)))
  clear lk lk1 lk2
  generalize h2.upd b9 (.cells (((getM s.O k).getD tlv0).enc.toArray) 31 (0, 0)) = h3 at *
  have A3 := A1.le' L9
  have hp3 := A3.pt
  have f33 := L9 _ _ f3
  have f43 := L9 _ _ f4
  unfold wayB at hQ
  cases hg : getM s.O k with
  | some t =>
    rw [hg] at hQ f99
    simp only [Option.getD_some] at f99
    simp (disch := omega) [babel_Babel_way_r2, babel_Babel_way_r3, babel_Babel_way_r4, hp3, f99]
    refine (stA_of (by rw [upd_ne n49]; exact f43) (by rfl) (by rfl)).mpr ?_
    simp (disch := omega)
    have hq := hQ ((h3.upd b9 (.cells (Tlv.cells ⟨t.k, s.seq, t.iv, t.c, t.a, t.l, t.rt, t.tg, t.hp⟩) 31)).upd b4 (.cells (Tlv.cells ⟨t.k, s.seq, t.iv, t.c, t.a, t.l, t.rt, t.tg, t.hp⟩) 31)) (fun y o e => by
      have q1 : y ≠ b4 := by rintro rfl; rw [hb4'] at e; cases e
      have q2 : y ≠ b9 := by rintro rfl; rw [h49] at e; cases e
      rw [upd_ne q1, upd_ne q2]; exact L9 _ _ (L1 _ _ e))
    exact .to _ (.refl _) hq
  | none =>
    rw [hg] at hQ
    simp (disch := omega) [babel_Babel_way_r2, babel_Babel_way_r5]
    refine ⟨WyInv h x s k b3 b4, ⟨32, 0, by omega, L1.trans L9, f33, f43, by simp, by simp, by simp, by simp [wayN, bestN], by simp [wayN], by simp⟩, ?_⟩
    clear f9 f99
    rintro n env g ⟨i, hin, lg, g3, g4, e0, e3, e4, e5, e6, e9⟩
    unfold babel_Babel_way_L0
    have lgu : ∀ o, Le h (g.upd b4 o) := fun o y o' e => by rw [upd_ne (by rintro rfl; rw [hb4'] at e; cases e)]; exact lg _ _ e
    by_cases hm : n = 0
    · have : i = 32 := by omega
      subst this
      simp (disch := omega) [babel_Babel_way_r6, babel_Babel_way_r13, e0, e3, e4, e5, e6, e9, g4]
      refine (stA_of g4 (by rfl) (by rfl)).mpr ?_
      simp (disch := omega) [e4, e5, e6]
      exact .to _ (.refl _) (hQ _ (lgu (.cells (bestT (wayN s k 32)).cells 31)))
    · have Ag := A.le' lg
      have hpg := Ag.pt
      obtain ⟨N, hN⟩ : ∃ N : Int, N = ((i + 1 : Nat) : Int) := ⟨_, rfl⟩
      have hW : wayN s k (i + 1) = wayStep s k (wayN s k i) N := by rw [wayN, hN]
      rw [← hN] at e9
      have lk : ∀ h2, Le g h2 → _ := fun h2 l2 => lookT (k := (k, N)) (Ag.le' l2).mt
      have lk1 := lk g (.refl _)
      have hi32 : N ≤ 32 := by omega
      simp (disch := omega) [babel_Babel_way_r6, babel_Babel_way_r7, e0, e3, e9, hpg, g3, lk1, hi32]
      intro b10 hb10
      have L10 : Le g (g.upd b10 (.cells td0 79)) := .new hb10
      have f10 : (g.upd b10 (.cells td0 79)) b10 = some (.cells td0 79 (0, 0)) := upd_same
      have L11 : ∀ o2, Le g ((g.upd b10 (.cells td0 79)).upd b10 o2) := fun o2 y o e => by
        have : y ≠ b10 := by rintro rfl; rw [hb10] at e; cases e
        rw [upd_ne this]; exact L10 _ _ e
      have h10 : h b10 = none := none_of_le lg hb10
      have n410 : b4 ≠ b10 := by rintro rfl; rw [g4] at hb10; cases hb10
      have n310 : b3 ≠ b10 := by rintro rfl; rw [g3] at hb10; cases hb10
      generalize g.upd b10 (.cells td0 79) = g5 at *
      have lk2 := lk g5 L10
      have g35 := L10 _ _ g3
      have hp5 := L10 _ _ hpg
      simp (disch := omega) [hp5, g35, lk2, f10]
      refine (stA_of f10 (by rfl) (by rfl)).mpr ⟨trivial, ?_⟩
      have L12 := L11 (.cells (tdenc ((getM s.T (k, N)).getD (0, tlv0))).toArray 79 (0, 0))
      have f12 : (g5.upd b10 (.cells (tdenc ((getM s.T (k, N)).getD (0, tlv0))).toArray 79 (0, 0))) b10 = some (.cells (tdenc ((getM s.T (k, N)).getD (0, tlv0))).toArray 79 (0, 0)) := upd_same
      show thenK _ _ _ _ (g5.upd b10 (.cells (tdenc ((getM s.T (k, N)).getD (0, tlv0))).toArray 79 (0, 0)))
      clear lk lk1 lk2
      generalize g5.upd b10 (.cells (tdenc ((getM s.T (k, N)).getD (0, tlv0))).toArray 79 (0, 0)) = g6 at *
      have lg6 := lg.trans L12
      have g36 := L12 _ _ g3
      have g46 := L12 _ _ g4
      have inv : ∀ (env : Env) (g' : Hp), Le h g' → g' b3 = some (.cells #[.int .u32 (k.1 : Nat), .int .i64 k.2] 24 (0, 0)) → g' b4 = some (.cells (bestT (wayN s k (i + 1))).cells 31 (0, 0)) →
          env 0 = .pointer (some ⟨x.p, 0, none⟩) → env 3 = .pointer (some ⟨b3, 0, none⟩) → env 4 = .pointer (some ⟨b4, 0, none⟩) → env 5 = .int .i64 (bestN (wayN s k (i + 1))) → env 6 = .bool (wayN s k (i + 1)).isSome → env 9 = .int .i64 N →
          babel_Babel_way_r12 env g' (roundK (WyInv h x s k b3 b4) n (inBlk 0 (thenK (sq (rg babel_Babel_way_r13) (ex .ret)) (fin Try.prog [.cell 4 31, .tmp 5, .tmp 6] Q))) .normal) := by
        intro env g' l' q3 q4 e0 e3 e4 e5 e6 e9
        simp (disch := omega) [babel_Babel_way_r12, e9, wrap_i64]
        exact ⟨n - 1, by omega, i + 1, by omega, l', q3, q4, by simp [e0], by simp [e3], by simp [e4], by simp [e5], by simp [e6], by simp; omega⟩
      cases ht : getM s.T (k, N) with
      | none =>
        have hW2 : wayN s k (i + 1) = wayN s k i := by rw [hW]; unfold wayStep; rw [ht]
        rw [hW2] at inv
        simp (disch := omega) [babel_Babel_way_r8]
        refine inv _ g6 lg6 g36 g46 ?_ ?_ ?_ ?_ ?_ ?_ <;> simp [e0, e3, e4, e5, e6, e9]
      | some y =>
        rw [ht] at f12
        simp only [Option.getD_some] at f12
        have A6 := A.le' lg6
        simp (disch := omega) [babel_Babel_way_r8, f12, e0]
        refine ofM (t := y.2) (fun g7 l7 => ?_)
        simp (disch := omega)
        have A7 := A6.le' l7
        refine betterM (k := srcK y.2) A7 hM (hT _ (getM_mem ht)) (fun g8 l8 => ?_)
        have l78 := l7.trans l8
        have lg8 := lg6.trans l78
        have f128 := l78 _ _ f12
        have g38 := l78 _ _ g36
        have g48 := l78 _ _ g46
        cases hb : betterB s.M (srcK y.2) y.2.s y.2.c with
        | false =>
          have hW2 : wayN s k (i + 1) = wayN s k i := by rw [hW]; unfold wayStep; rw [ht]; simp [hb]
          rw [hW2] at inv
          simp (disch := omega)
          refine inv _ g8 lg8 g38 g48 ?_ ?_ ?_ ?_ ?_ ?_ <;> simp [e0, e3, e4, e5, e6, e9]
        | true =>
          simp (disch := omega) [babel_Babel_way_r9, f128]
          refine costM ?_
          simp (disch := omega) [f128]
          show babel_Babel_way_r10 _ (g8.upd b10 (.cells (tdenc (y.1, tcut y.2 y.1)).toArray 79 (0, 0))) _
          have f13 : (g8.upd b10 (.cells (tdenc (y.1, tcut y.2 y.1)).toArray 79 (0, 0))) b10 = some (.cells (tdenc (y.1, tcut y.2 y.1)).toArray 79 (0, 0)) := upd_same
          have g39 : (g8.upd b10 (.cells (tdenc (y.1, tcut y.2 y.1)).toArray 79 (0, 0))) b3 = some (.cells #[.int .u32 (k.1 : Nat), .int .i64 k.2] 24 (0, 0)) := by rw [upd_ne n310]; exact g38
          have g49 : (g8.upd b10 (.cells (tdenc (y.1, tcut y.2 y.1)).toArray 79 (0, 0))) b4 = some (.cells (bestT (wayN s k i)).cells 31 (0, 0)) := by rw [upd_ne n410]; exact g48
          have lg9 : Le h (g8.upd b10 (.cells (tdenc (y.1, tcut y.2 y.1)).toArray 79 (0, 0))) := fun z o e => by rw [upd_ne (by rintro rfl; rw [h10] at e; cases e)]; exact lg8 _ _ e
          generalize g8.upd b10 (.cells (tdenc (y.1, tcut y.2 y.1)).toArray 79 (0, 0)) = g9 at *
          have hWy : wayN s k (i + 1) = if takes (wayN s k i) (addM y.2.c y.1 65535) then some (tcut y.2 y.1, N) else wayN s k i := by
            rw [hW]; unfold wayStep; rw [ht]; simp only [hb, true_and]
          have no : ¬ takes (wayN s k i) (addM y.2.c y.1 65535) → ∀ env : Env, env 0 = .pointer (some ⟨x.p, 0, none⟩) → env 3 = .pointer (some ⟨b3, 0, none⟩) → env 4 = .pointer (some ⟨b4, 0, none⟩) → env 5 = .int .i64 (bestN (wayN s k i)) → env 6 = .bool (wayN s k i).isSome → env 9 = .int .i64 N →
              babel_Babel_way_r12 env g9 (roundK (WyInv h x s k b3 b4) n (inBlk 0 (thenK (sq (rg babel_Babel_way_r13) (ex .ret)) (fin Try.prog [.cell 4 31, .tmp 5, .tmp 6] Q))) .normal) := by
            intro hn env q0 q3 q4 q5 q6 q9
            rw [if_neg hn] at hWy
            exact inv env g9 lg9 g39 (by rw [hWy]; exact g49) q0 q3 q4 (by rw [hWy]; exact q5) (by rw [hWy]; exact q6) q9
          have yes : takes (wayN s k i) (addM y.2.c y.1 65535) → ∀ env : Env, env 0 = .pointer (some ⟨x.p, 0, none⟩) → env 3 = .pointer (some ⟨b3, 0, none⟩) → env 4 = .pointer (some ⟨b4, 0, none⟩) → env 9 = .int .i64 N → env 10 = .pointer (some ⟨b10, 0, none⟩) →
              babel_Babel_way_r11 env g9 (inBlk 1 (thenK (rg babel_Babel_way_r12) (roundK (WyInv h x s k b3 b4) n (inBlk 0 (thenK (sq (rg babel_Babel_way_r13) (ex .ret)) (fin Try.prog [.cell 4 31, .tmp 5, .tmp 6] Q))))) .normal) := by
            intro hy env q0 q3 q4 q9 q10
            rw [if_pos hy] at hWy
            simp (disch := omega) [babel_Babel_way_r11, q0, q3, q4, q9, q10, f13]
            refine (stA_of g49 (by rfl) (by rfl)).mpr ?_
            simp (disch := omega)
            refine inv _ _ (fun z o e => ?_) (by rw [upd_ne (Ne.symm n43)]; exact g39) (by rw [hWy]; exact upd_same) ?_ ?_ ?_ ?_ ?_ ?_
            · rw [upd_ne (by rintro rfl; rw [hb4'] at e; cases e)]; exact lg9 _ _ e
            all_goals simp [q0, q3, q4, q9, hWy, bestN]
          by_cases c1 : addM y.2.c y.1 65535 < 65535
          · cases hw : (wayN s k i).isSome with
            | false =>
              have ty : takes (wayN s k i) (addM y.2.c y.1 65535) := ⟨c1, .inl hw⟩
              rw [hw] at e6
              simp (disch := omega) [babel_Babel_way_r10, f13, e6, c1]
              refine yes ty _ ?_ ?_ ?_ ?_ ?_ <;> simp [e0, e3, e4, e9]
            | true =>
              rw [hw] at e6 no
              by_cases c2 : addM y.2.c y.1 65535 < (bestT (wayN s k i)).c
              · have ty : takes (wayN s k i) (addM y.2.c y.1 65535) := ⟨c1, .inr c2⟩
                simp (disch := omega) [babel_Babel_way_r10, f13, g49, e4, e6, c1, c2]
                refine yes ty _ ?_ ?_ ?_ ?_ ?_ <;> simp [e0, e3, e4, e9]
              · have tn : ¬ takes (wayN s k i) (addM y.2.c y.1 65535) := fun q => by
                  rcases q.2 with q | q
                  · rw [hw] at q; cases q
                  · exact c2 q
                simp (disch := omega) [babel_Babel_way_r10, f13, g49, e4, e6, c1, c2]
                refine no tn _ ?_ ?_ ?_ ?_ ?_ ?_ <;> simp [e0, e3, e4, e5, e6, e9]
          · have tn : ¬ takes (wayN s k i) (addM y.2.c y.1 65535) := fun q => c1 q.1
            simp (disch := omega) [babel_Babel_way_r10, f13, e6, c1]
            refine no tn _ ?_ ?_ ?_ ?_ ?_ ?_ <;> simp [e0, e3, e4, e5, e6, e9]
end
end Go.Proofs.Ytchbipkoifmmdaa

/- Rt: a flat struct (printed by wip/lib/struct.py). -/
namespace Go.Proofs.Ytchbipkoifmmdaa
open Go
set_option linter.unusedSimpArgs false
set_option linter.unusedVariables false

structure Rt where
  a : Nat
  l : Int
  d : Int
  ds : Int
  m : Int
  nx : Int
  tg : Nat
deriving DecidableEq

def Rt.enc (x : Rt) : List Value := [.int .u32 (x.a : Nat), .int .i64 x.l, .int .i64 x.d, .int .i64 x.ds, .int .i64 x.m, .int .i64 x.nx, .int .u16 (x.tg : Nat)]
abbrev rv (x : Rt) : Value := .agg #[.int .u32 (x.a : Nat), .int .i64 x.l, .int .i64 x.d, .int .i64 x.ds, .int .i64 x.m, .int .i64 x.nx, .int .u16 (x.tg : Nat)]
abbrev Rt.cells (x : Rt) : Array Value := #[.int .u32 (x.a : Nat), .int .i64 x.l, .int .i64 x.d, .int .i64 x.ds, .int .i64 x.m, .int .i64 x.nx, .int .u16 (x.tg : Nat)]
structure Rt.Good (x : Rt) : Prop where
  a : x.a < 2 ^ 32
  tg : x.tg < 2 ^ 16
theorem Rt.one (x : Rt) : (Rt.enc x).length = 7 ∧ ∀ u ∈ Rt.enc x, oneCell u = true := ⟨rfl, by simp [Rt.enc]⟩

theorem rt_at {h : Hp} {v : Value} {xs : List Rt} {i : Nat} {x : Rt} (S : SlAt h 38 7 Rt.enc v xs) (hx : xs[i]? = some x) :
    ∃ b cap c, v = .slice (some ⟨b, 0, none⟩) xs.length cap ∧ h b = some (.cells c 38 (0, 0)) ∧ c[i * 7]? = some (.int .u32 (x.a : Nat)) ∧ c[i * 7 + 1]? = some (.int .i64 x.l) ∧ c[i * 7 + 2]? = some (.int .i64 x.d) ∧ c[i * 7 + 3]? = some (.int .i64 x.ds) ∧ c[i * 7 + 4]? = some (.int .i64 x.m) ∧ c[i * 7 + 5]? = some (.int .i64 x.nx) ∧ c[i * 7 + 6]? = some (.int .u16 (x.tg : Nat)) := by
  obtain ⟨b, cap, c, e, hb, H⟩ := SlAt.at' S hx
  exact ⟨b, cap, c, e, hb, H 0 (by omega), H 1 (by omega), H 2 (by omega), H 3 (by omega), H 4 (by omega), H 5 (by omega), H 6 (by omega)⟩
end Go.Proofs.Ytchbipkoifmmdaa
