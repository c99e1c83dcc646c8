/- Maps: taking away, how many, a look at the value alone; lists of pairs. -/
import Derived.Test.YtmbhlbohbpepaaaM14
namespace Go.Proofs.Ytmbhlbohbpepaaa
open Go
set_option linter.unusedSimpArgs false
set_option linter.unusedVariables false

def delM {α β : Type} [DecidableEq α] (a : α) : List (α × β) → List (α × β)
  | [] => []
  | x :: xs => if a = x.1 then xs else x :: delM a xs

def Uniq {α β : Type} (m : List (α × β)) : Prop := (m.map (·.1)).Nodup

section
variable {α β : Type} [DecidableEq α]

theorem getM_none {a : α} : ∀ {m : List (α × β)}, getM m a = none ↔ a ∉ m.map (·.1)
  | [] => by simp [getM_nil]
  | x :: xs => by
    rw [getM_cons, List.map_cons, List.mem_cons]
    split
    · rename_i h; simp [h]
    · rename_i h
      rw [getM_none (m := xs)]
      simp [h]

theorem getM_mem {a : α} {v : β} : ∀ {m : List (α × β)}, getM m a = some v → (a, v) ∈ m
  | [], h => by simp [getM_nil] at h
  | x :: xs, h => by
    rw [getM_cons] at h
    split at h
    · rename_i e; simp at h; subst h; subst e; simp
    · exact List.mem_cons_of_mem _ (getM_mem h)

theorem getM_of_mem {a : α} {v : β} : ∀ {m : List (α × β)}, Uniq m → (a, v) ∈ m → getM m a = some v
  | [], _, h => by simp at h
  | x :: xs, u, h => by
    rw [getM_cons]
    unfold Uniq at u
    rw [List.map_cons, List.nodup_cons] at u
    rcases List.mem_cons.1 h with e | e
    · rw [← e]; simp
    · have : a ≠ x.1 := fun q => u.1 (by rw [← q]; exact List.mem_map_of_mem e)
      rw [if_neg this]
      exact getM_of_mem u.2 e

theorem setM_keys {a : α} {v : β} : ∀ {m : List (α × β)}, (setM a v m).map (·.1) = if a ∈ m.map (·.1) then m.map (·.1) else m.map (·.1) ++ [a]
  | [] => by simp [setM]
  | x :: xs => by
    simp only [setM]
    split
    · rename_i e; simp [e]
    · rename_i e
      rw [List.map_cons, setM_keys]
      by_cases h : a ∈ xs.map (·.1)
      · rw [if_pos h, if_pos (by simp only [List.map_cons, List.mem_cons]; exact .inr h)]; rfl
      · rw [if_neg h, if_neg (by simp only [List.map_cons, List.mem_cons, not_or]; exact ⟨e, h⟩)]; rfl

theorem Uniq.set {a : α} {v : β} {m : List (α × β)} (u : Uniq m) : Uniq (setM a v m) := by
  unfold Uniq at *
  rw [setM_keys]
  split
  · exact u
  · rename_i h
    rw [List.nodup_append]
    refine ⟨u, by simp, fun x hx y hy => ?_⟩
    simp at hy; subst hy
    rintro rfl; exact h hx

theorem setM_length {a : α} {v : β} {m : List (α × β)} : (setM a v m).length = if (getM m a).isSome then m.length else m.length + 1 := by
  have := congrArg List.length (setM_keys (a := a) (v := v) (m := m))
  rw [List.length_map] at this
  rw [this]
  by_cases h : a ∈ m.map (·.1)
  · have h2 : getM m a ≠ none := fun q => (getM_none.1 q) h
    rw [if_pos h, if_pos (Option.isSome_iff_ne_none.2 h2), List.length_map]
  · have h2 := getM_none.2 h
    rw [if_neg h, h2]; simp

theorem delM_sub {a : α} : ∀ {m : List (α × β)}, List.Sublist (delM a m) m
  | [] => .slnil
  | x :: xs => by
    simp only [delM]
    split
    · exact List.sublist_cons_self _ _
    · exact List.Sublist.cons_cons _ delM_sub

theorem Uniq.del {a : α} {m : List (α × β)} (u : Uniq m) : Uniq (delM a m) := List.Sublist.nodup (delM_sub.map _) u

theorem getM_delM {a b : α} : ∀ {m : List (α × β)}, Uniq m → getM (delM a m) b = if b = a then none else getM m b
  | [], _ => by simp [delM, getM_nil]
  | x :: xs, u => by
    have u' := u
    unfold Uniq at u
    rw [List.map_cons, List.nodup_cons] at u
    simp only [delM]
    split
    · rename_i e
      by_cases hb : b = a
      · rw [if_pos hb, hb, e]; exact getM_none.2 u.1
      · rw [if_neg hb, getM_cons, if_neg (by rw [← e]; exact hb)]
    · rename_i e
      rw [getM_cons, getM_cons, getM_delM u.2]
      by_cases hb : b = a
      · rw [if_neg (by rw [hb]; exact e), if_pos hb, if_pos hb]
      · rw [if_neg hb]; simp [hb]

theorem delM_length {a : α} : ∀ {m : List (α × β)}, (delM a m).length = if (getM m a).isSome then m.length - 1 else m.length
  | [] => by simp [delM, getM_nil]
  | x :: xs => by
    simp only [delM]
    rw [getM_cons]
    split
    · simp
    · rw [List.length_cons, delM_length]
      cases h : getM xs a with
      | none => simp
      | some v =>
        have := getM_mem h
        have : 0 < xs.length := List.length_pos_of_mem this
        simp; omega
end

section
variable {P : Program} {h : Hp} {α β : Type} [DecidableEq α] {kenc : α → Value} {venc : β → Value}

theorem Ents.length_eq {α β : Type} {kenc : α → Value} {venc : β → Value} {es : List MapEntry} {m : List (α × β)} (H : Ents kenc venc es m) : es.length = m.length := by
  induction H with
  | nil => rfl
  | cons _ _ _ ih => simp [ih]

theorem Ents.erase {es : List MapEntry} {m : List (α × β)} (H : Ents kenc venc es m) {a : α} {v : β} {j : Nat} : findM a m 0 = some (j, v) → Ents kenc venc (es.eraseIdx j) (delM a m) := by
  have key : ∀ (es : List MapEntry) (m : List (α × β)), Ents kenc venc es m → ∀ i j, findM a m i = some (i + j, v) → Ents kenc venc (es.eraseIdx j) (delM a m) := by
    intro es m H
    induction H with
    | nil => intro i j h; cases h
    | @cons e es k v' m h1 h2 h3 ih =>
      intro i j h
      simp only [findM] at h
      split at h
      · rename_i e
        have : j = 0 := by simp only [Option.some.injEq, Prod.mk.injEq] at h; omega
        subst this
        simp only [delM, if_pos e, List.eraseIdx_zero, List.tail_cons]
        exact h3
      · rename_i hne
        have := (findM_some h).1
        obtain ⟨j', rfl⟩ : ∃ j', j = j' + 1 := ⟨j - 1, by omega⟩
        simp only [delM, if_neg hne, List.eraseIdx_cons_succ]
        exact .cons h1 h2 (ih (i + 1) j' (by rw [h]; congr 2; omega))
  intro h
  exact key es m H 0 j (by simpa using h)

theorem delM_none {α β : Type} [DecidableEq α] {a : α} : ∀ {m : List (α × β)}, getM m a = none → delM a m = m
  | [], _ => rfl
  | x :: xs, h => by
    rw [getM_cons] at h
    split at h
    · cases h
    · rename_i e
      simp only [delM, if_neg e]
      rw [delM_none h]

theorem arun_mapDelete {t kt et R : TypeId} {ts : Array TypeId} {r : Nat} {a : α} {m : List (α × β)} {K : Value → Hp → Prop} (ht : ts[0]? = some t) (hu : P.underlying t = some (.map kt et)) (M : MapAt h r kenc venc m)
    (hck : ∀ e, rrun P (Instr.checkKey e 10000 kt (kenc a)) h = some ())
    (hfk : ∀ es : List MapEntry, Ents kenc venc es m → rrun P (Instr.findKey kt (kenc a) es) h = some ((findM a m 0).map fun x => (x.1, venc x.2)))
    (hK : ∀ es clock, Ents kenc venc es.toList (delM a m) → K (.tuple #[]) (h.upd r (.map es clock))) :
    arun P (Builtin.delete_ ts R #[.map (some r), kenc a]) h K := by
  obtain ⟨es, clock, hr, hE⟩ := M
  have set : ∀ o, K (.tuple #[]) (h.upd r o) → arun P (setObj r o >>= fun _ => pure (Value.tuple #[])) h K := fun o hk => ⟨⟨_, hr, rfl⟩, hk⟩
  unfold Builtin.delete_
  rw [ht]
  simp only [List.getElem?_toArray, List.getElem?_cons_zero, List.getElem?_cons_succ]
  rw [arun_bnd_rr (a := .map kt et) (by rw [rr_underlying, hu])]
  simp only [bind_assoc, pure_bind]
  rw [arun_bnd_rr (a := .map es clock) (rr_getObj hr)]
  simp only []
  rw [arun_bnd_rr (a := ()) (hck _), arun_bnd_rr (hfk _ hE)]
  cases hf : findM a m 0 with
  | none =>
    simp only [Option.map_none]
    refine set _ (hK _ _ ?_)
    have : delM a m = m := delM_none (by unfold getM; rw [hf]; rfl)
    rw [this]; exact hE
  | some x =>
    obtain ⟨j, v⟩ := x
    simp only [Option.map_some]
    have hj := (findM_some hf).2
    have hlt : j < es.size := by
      have h1 := (List.getElem?_eq_some_iff.1 hj).1
      have h2 := hE.length_eq
      rw [Array.length_toList] at h2
      omega
    refine set _ (hK _ _ ?_)
    rw [Array.toList_eraseIdxIfInBounds]
    exact hE.erase hf

end

theorem rr_mapLen {P : Program} {h : Hp} {α β : Type} {kenc : α → Value} {venc : β → Value} {t kt et R : TypeId} {ts : Array TypeId} {r : Nat} {m : List (α × β)} (ht : ts[0]? = some t) (hu : P.underlying t = some (.map kt et)) (M : MapAt h r kenc venc m) :
    rrun P (Builtin.len_ ts R #[.map (some r)]) h = some (.int .i64 (m.length : Nat)) := by
  obtain ⟨es, clock, hr, hE⟩ := M
  unfold Builtin.len_
  rw [ht]
  simp only [List.getElem?_toArray, List.getElem?_cons_zero]
  rw [rrun_bnd, rr_underlying, hu, Option.bind_some]
  simp only []
  rw [rrun_bnd, rr_getObj hr, Option.bind_some]
  simp only [rrun_pure]
  rw [← hE.length_eq, Array.length_toList]; rfl

/-! ### Slices as sources -/
theorem SlAt.toSrc {α : Type} {h : Hp} {E sz : Nat} {enc : α → List Value} {v : Value} {xs : List α} (S : SlAt h E sz enc v xs) (hl : ∀ y ∈ xs, (enc y).length = sz ∧ ∀ u ∈ enc y, oneCell u = true) : Src h sz enc v xs := by
  refine ⟨hl, ?_⟩
  rcases S with ⟨rfl, rfl⟩ | ⟨b, cap, c, rfl, hb, h1, h2, h3⟩
  · exact .inl ⟨_, _, rfl, rfl⟩
  · exact .inr ⟨b, 0, cap, c, E, (0, 0), rfl, hb, by have := Nat.mul_le_mul_right sz h1; omega, h3⟩

theorem one_sl {α : Type} {h : Hp} {E sz : Nat} {enc : α → List Value} {b : Nat} {y : α} (hb : h b = some (.cells (enc y).toArray E (0, 0))) (hl : (enc y).length = sz) : SlAt h E sz enc (.slice (some ⟨b, 0, none⟩) 1 1) [y] := by
  refine .inr ⟨b, 1, _, rfl, hb, by simp, by simp [hl], fun i x hx j hj => ?_⟩
  have hi : i = 0 := by have := (List.getElem?_eq_some_iff.1 hx).1; simpa using this
  subst hi
  simp at hx; subst hx
  simp
end Go.Proofs.Ytmbhlbohbpepaaa
