/- Frames: what a call may change, what it owns behind; slices' shapes. -/
import Derived.Test.YtmbhlbohbpepaaaM12
namespace Go.Proofs.Ytmbhlbohbpepaaa
open Go
set_option linter.unusedSimpArgs false

/-- All blocks but those of O stay; those of O' are of O or new. -/
structure Fr (h h' : Hp) (O O' : List Nat) : Prop where
  keep : ∀ x o, h x = some o → x ∉ O → h' x = some o
  own : ∀ x, x ∈ O' → x ∈ O ∨ h x = none

theorem Fr.refl (h : Hp) (O : List Nat) : Fr h h O O := ⟨fun _ _ e _ => e, fun _ e => .inl e⟩

theorem Fr.trans {h h1 h2 : Hp} {O O1 O2 : List Nat} (a : Fr h h1 O O1) (b : Fr h1 h2 O1 O2) : Fr h h2 O O2 := by
  refine ⟨fun x o e n => b.keep x o (a.keep x o e n) (fun m => ?_), fun x m => ?_⟩
  · rcases a.own x m with q | q
    · exact n q
    · rw [e] at q; cases q
  · rcases b.own x m with q | q
    · exact a.own x q
    · cases e : h x with
      | none => exact .inr rfl
      | some o =>
        by_cases hO : x ∈ O
        · exact .inl hO
        · rw [a.keep x o e hO] at q; cases q

theorem Fr.of_le {h h' : Hp} {O O' : List Nat} (l : Le h h') (f : ∀ x, x ∈ O' → x ∈ O ∨ h x = none) : Fr h h' O O' := ⟨fun x o e _ => l x o e, f⟩

/-- What is owned is not of an older heap: that stays. -/
theorem Fr.le {g h h' : Hp} {O O' : List Nat} (a : Fr h h' O O') (l : Le g h) (n : ∀ x, x ∈ O → g x = none) : Le g h' := fun x o e => a.keep x o (l x o e) (fun m => by rw [n x m] at e; cases e)

theorem upd_ne {h : Hp} {b x : Nat} {o : Obj} (n : x ≠ b) : (h.upd b o) x = h x := by rw [upd_get, if_neg n]
theorem upd_same {h : Hp} {b : Nat} {o : Obj} : (h.upd b o) b = some o := by rw [upd_get, if_pos rfl]

/-- A write into an own block. -/
theorem Fr.upd {h : Hp} {O : List Nat} {b : Nat} {o : Obj} (m : b ∈ O) : Fr h (h.upd b o) O O :=
  ⟨fun x _ e n => by rw [upd_ne]; exact e; rintro rfl; exact n m, fun _ e => .inl e⟩

theorem none_of_le {h g : Hp} {b : Nat} (L : Le h g) (hb : g b = none) : h b = none := by
  cases hh : h b with
  | none => rfl
  | some o => rw [L _ _ hh] at hb; cases hb

theorem Fr.new {g h h' : Hp} {O O' : List Nat} (a : Fr h h' O O') (l : Le g h) (n : ∀ x, x ∈ O → g x = none) : ∀ x, x ∈ O' → g x = none := fun x m => by
  rcases a.own x m with q | q
  · exact n x q
  · exact none_of_le l q

/-- Another one's blocks stay its own. -/
theorem Fr.apart {h h' : Hp} {O O' R : List Nat} (a : Fr h h' O O') (al : ∀ x, x ∈ R → ∃ o, h x = some o) (d : ∀ x, x ∈ R → x ∉ O) : ∀ x, x ∈ R → x ∉ O' := fun x m m' => by
  rcases a.own x m' with q | q
  · exact d x m q
  · obtain ⟨o, e⟩ := al x m; rw [e] at q; cases q

theorem Fr.alive {h h' : Hp} {O O' R : List Nat} (a : Fr h h' O O') (al : ∀ x, x ∈ R → ∃ o, h x = some o) (d : ∀ x, x ∈ R → x ∉ O) : ∀ x, x ∈ R → ∃ o, h' x = some o := fun x m => by
  obtain ⟨o, e⟩ := al x m
  exact ⟨o, a.keep x o e (d x m)⟩

theorem Grew.fr {h h' : Hp} {v v' : Value} (G : Grew h h' v v') : Fr h h' (blkOf v).toList (blkOf v').toList := by
  refine ⟨fun x o e n => G.keep x o e (fun q => n (by rw [← q]; simp)), fun x m => ?_⟩
  rcases G.fresh with q | q
  · rw [q] at m; exact .inl m
  · exact .inr (q x (by simpa using m))

section
variable {α : Type} {h h' : Hp} {E sz : Nat} {enc : α → List Value} {v : Value} {xs : List α}

theorem SlAt.at' {i : Nat} {x : α} (S : SlAt h E sz enc v xs) (hx : xs[i]? = some x) :
    ∃ b cap c, v = .slice (some ⟨b, 0, none⟩) xs.length cap ∧ h b = some (.cells c E (0, 0)) ∧ ∀ j, j < sz → c[i * sz + j]? = (enc x)[j]? := by
  rcases S with ⟨_, rfl⟩ | ⟨b, cap, c, rfl, hb, h1, h2, h3⟩
  · simp at hx
  · exact ⟨b, cap, c, rfl, hb, fun j hj => by have := h3 i x hx j hj; rwa [Nat.zero_add] at this⟩

theorem SlAt.shape' (S : SlAt h E sz enc v xs) : ∃ p cap, v = .slice p xs.length cap := by
  rcases S with ⟨rfl, rfl⟩ | ⟨b, cap, c, rfl, _⟩
  · exact ⟨_, _, rfl⟩
  · exact ⟨_, _, rfl⟩

theorem SlAt.le' (S : SlAt h E sz enc v xs) (l : Le h h') : SlAt h' E sz enc v xs := S.keep (fun _ _ _ e => l _ _ e)

theorem SlAt.alive (S : SlAt h E sz enc v xs) {b : Nat} (hb : blkOf v = some b) : ∃ o, h b = some o := by
  rcases S with ⟨rfl, rfl⟩ | ⟨b, cap, c, rfl, hb', _⟩
  · cases hb
  · cases hb; exact ⟨_, hb'⟩

theorem SlAt.fr {O O' : List Nat} (S : SlAt h E sz enc v xs) (F : Fr h h' O O') (n : ∀ b, blkOf v = some b → b ∉ O) : SlAt h' E sz enc v xs := S.keep (fun b o e q => F.keep b o q (n b e))

/-- The first ones of a slice. -/
theorem SlAt.take {b cap : Nat} (S : SlAt h E sz enc (.slice (some ⟨b, 0, none⟩) xs.length cap) xs) (n : Nat) (hn : n ≤ xs.length) : SlAt h E sz enc (.slice (some ⟨b, 0, none⟩) n cap) (xs.take n) := by
  rcases S with ⟨e, rfl⟩ | ⟨b', cap', c, e, hb, h1, h2, h3⟩
  · cases e
  · cases e
    refine .inr ⟨_, _, c, by rw [List.length_take, Nat.min_eq_left hn], hb, by rw [List.length_take]; omega, h2, fun i x hx j hj => h3 i x ?_ j hj⟩
    rw [List.getElem?_take] at hx
    split at hx
    · exact hx
    · cases hx
end

/-- x[i:j], within a block. -/
theorem rr_slice_part {P : Program} {h : Hp} {t e : TypeId} {sz b o len cap : Nat} {i j : Int} (hu : P.underlying t = some (.slice e)) (hs : (P.info? e).map (·.size) = some sz) (h0 : 0 ≤ i) (h1 : i ≤ j) (h2 : j ≤ (cap : Int)) (h3 : i < (cap : Int)) :
    rrun P (Instr.sliceAt t (.slice (some ⟨b, o, none⟩) len cap) (some (.int .i64 i)) (some (.int .i64 j)) none) h = some (.slice (some ⟨b, o + i.toNat * sz, none⟩) (j.toNat - i.toNat) (cap - i.toNat)) := by
  unfold Instr.sliceAt
  rw [rrun_bnd, rr_underlying, hu, Option.bind_some]
  simp only
  unfold Instr.slice
  rw [rrun_bnd, rr_underlying, hu, Option.bind_some]
  simp only
  have hb : rrun P (Instr.sliceBounds true len cap (some (.int .i64 i)) (some (.int .i64 j)) none) h = some (i.toNat, j.toNat, cap) := by
    unfold Instr.sliceBounds
    simp only [rrun_bnd, rrun_pure, Option.bind_some, if_true]
    rw [rr_sliceBound (by omega) h2, Option.bind_some, rr_sliceBound h0 (by omega)]; rfl
  rw [rrun_bnd, hb, Option.bind_some]
  simp only [rrun_bnd, rr_sizeOf, hs, Option.bind_some, rrun_pure]
  rw [if_neg (by omega)]
  simp only [Option.map_some, add_none]

theorem sq_rg {r s : Env → Hp → (Env → Hp → Prop) → Prop} {D : Den} : sq (rg r) (sq (rg s) D) = sq (rg fun env h K => r env h fun env h => s env h K) D := rfl

/-! ### Maps: what is found -/
theorem findM_map {α β : Type} [DecidableEq α] {a : α} : ∀ (m : List (α × β)) (i j : Nat), (findM a m i).map (·.2) = (findM a m j).map (·.2)
  | [], _, _ => rfl
  | x :: xs, i, j => by
    simp only [findM]
    split
    · rfl
    · exact findM_map xs _ _

theorem getM_nil {α β : Type} [DecidableEq α] {a : α} : getM ([] : List (α × β)) a = none := rfl
theorem getM_cons {α β : Type} [DecidableEq α] {a : α} {x : α × β} {xs : List (α × β)} : getM (x :: xs) a = if a = x.1 then some x.2 else getM xs a := by
  unfold getM
  simp only [findM]
  split
  · rfl
  · exact findM_map _ _ _

theorem getM_setM {α β : Type} [DecidableEq α] {a b : α} {v : β} : ∀ {m : List (α × β)}, getM (setM a v m) b = if b = a then some v else getM m b
  | [] => by simp [setM, getM_cons, getM_nil]
  | x :: xs => by
    simp only [setM]
    split
    · rename_i e
      rw [getM_cons, getM_cons]
      by_cases hb : b = a
      · simp [hb]
      · rw [if_neg hb, if_neg hb, if_neg (by rw [← e]; exact hb)]
    · rename_i e
      rw [getM_cons, getM_cons, getM_setM]
      by_cases hb : b = a
      · rw [if_neg (by rw [hb]; exact e), if_pos hb, if_pos hb]
      · rw [if_neg hb]; simp [hb]
end Go.Proofs.Ytmbhlbohbpepaaa
