/- Appending another slice's elements; a slice's part. -/
import Derived.Test.YtmbhlbohbpepaaaM9
namespace Go.Proofs.Ytmbhlbohbpepaaa
open Go
set_option linter.unusedSimpArgs false
set_option linter.unusedVariables false

/-- What an append of many leaves as it was. -/
structure Grew (h h' : Hp) (v v' : Value) : Prop where
  keep : ∀ y o, h y = some o → some y ≠ blkOf v → h' y = some o
  fresh : blkOf v' = blkOf v ∨ ∀ b, blkOf v' = some b → h b = none

/-- A slice that may be a part of a block, to be read from. -/
def Src {α : Type} (h : Hp) (sz : Nat) (enc : α → List Value) (v : Value) (ys : List α) : Prop :=
  (∀ y ∈ ys, (enc y).length = sz ∧ ∀ u ∈ enc y, oneCell u = true) ∧
  ((∃ a cap, v = .slice a 0 cap ∧ ys = []) ∨ ∃ b o cap c E fr, v = .slice (some ⟨b, o, none⟩) ys.length cap ∧ h b = some (.cells c E fr) ∧ o + ys.length * sz ≤ c.size ∧ Enc c o sz enc ys)

theorem Src.part {α : Type} {h : Hp} {sz : Nat} {enc : α → List Value} {ys : List α} {b o : Nat} {c : Array Value} {E : TypeId} {fr : Nat × Nat} (i n cap' : Nat) (hn : i + n ≤ ys.length)
    (hl : ∀ y ∈ ys, (enc y).length = sz ∧ ∀ u ∈ enc y, oneCell u = true) (hb : h b = some (.cells c E fr)) (hs : o + ys.length * sz ≤ c.size) (he : Enc c o sz enc ys) :
    Src h sz enc (.slice (some ⟨b, o + i * sz, none⟩) n cap') ((ys.drop i).take n) := by
  refine ⟨fun y hy => hl y (List.mem_of_mem_drop (List.mem_of_mem_take hy)), .inr ⟨b, o + i * sz, cap', c, E, fr, ?_, hb, ?_, ?_⟩⟩
  · have : ((ys.drop i).take n).length = n := by simp; omega
    rw [this]
  · have e : ((ys.drop i).take n).length = n := by simp; omega
    have h1 : (i + n) * sz ≤ ys.length * sz := Nat.mul_le_mul_right _ hn
    rw [Nat.add_mul] at h1
    rw [e]; omega
  · intro k x hx j hj
    have hk : k < n := by
      have := (List.getElem?_eq_some_iff.1 hx).1
      simp at this; omega
    rw [List.getElem?_take, if_pos hk, List.getElem?_drop] at hx
    have := he (i + k) x hx j hj
    rw [← this]
    congr 1
    rw [Nat.add_mul]; omega

section
variable {P : Program} {h : Hp}

theorem src_cells {α : Type} {sz n o : Nat} {enc : α → List Value} {ys : List α} {c : Array Value} (hn : n = ys.length) (hl : ∀ y ∈ ys, (enc y).length = sz ∧ ∀ u ∈ enc y, oneCell u = true) (hs : o + ys.length * sz ≤ c.size) (he : Enc c o sz enc ys) :
    ((c.toList.drop o).take (n * sz)).length = n * sz ∧ (∀ i y, ys[i]? = some y → ∀ j, j < sz → ((c.toList.drop o).take (n * sz))[i * sz + j]? = (enc y)[j]?) ∧ ∀ u ∈ (c.toList.drop o).take (n * sz), oneCell u = true := by
  subst hn
  have hget : ∀ i y, ys[i]? = some y → ∀ j, j < sz → ((c.toList.drop o).take (ys.length * sz))[i * sz + j]? = (enc y)[j]? := by
    intro i y hy j hj
    have hi := (List.getElem?_eq_some_iff.1 hy).1
    have h1 : (i + 1) * sz ≤ ys.length * sz := Nat.mul_le_mul_right _ hi
    rw [Nat.add_mul, Nat.one_mul] at h1
    rw [List.getElem?_take, if_pos (by omega), List.getElem?_drop, ← Nat.add_assoc, Array.getElem?_toList]
    exact he i y hy j hj
  refine ⟨by simp; omega, hget, fun u hu => ?_⟩
  obtain ⟨k, hk, rfl⟩ := List.getElem_of_mem hu
  have hk' : k < ys.length * sz := by simp at hk; omega
  have hsz : 0 < sz := by
    rcases Nat.eq_zero_or_pos sz with e | e
    · subst e; simp at hk'
    · exact e
  have hi : k / sz < ys.length := Nat.div_lt_of_lt_mul (by rw [Nat.mul_comm]; exact hk')
  have hy : ys[k / sz]? = some ys[k / sz] := List.getElem?_eq_getElem hi
  have hj := Nat.mod_lt k hsz
  have e := hget (k / sz) _ hy (k % sz) hj
  have e2 : k / sz * sz + k % sz = k := by rw [Nat.mul_comm]; exact Nat.div_add_mod k sz
  rw [e2, List.getElem?_eq_getElem hk] at e
  have hm := hl _ (List.mem_of_getElem? hy)
  exact hm.2 _ (List.mem_of_getElem? e.symm)

theorem Enc.cat {α : Type} {c c' : Array Value} {sz : Nat} {enc : α → List Value} {xs ys : List α} (H : Enc c 0 sz enc xs)
    (h1 : ∀ i, i < xs.length * sz → c'[i]? = c[i]?) (h2 : ∀ i y, ys[i]? = some y → ∀ j, j < sz → c'[xs.length * sz + (i * sz + j)]? = (enc y)[j]?) : Enc c' 0 sz enc (xs ++ ys) := by
  intro i x hx j hj
  rcases Nat.lt_or_ge i xs.length with hi | hi
  · rw [List.getElem?_append_left hi] at hx
    rw [← H i x hx j hj]
    have h3 : (i + 1) * sz ≤ xs.length * sz := Nat.mul_le_mul_right _ hi
    rw [Nat.add_mul, Nat.one_mul] at h3
    exact h1 _ (by omega)
  · rw [List.getElem?_append_right hi] at hx
    have := h2 _ x hx j hj
    rw [← this]
    congr 1
    obtain ⟨d, rfl⟩ : ∃ d, i = xs.length + d := ⟨i - xs.length, by omega⟩
    rw [Nat.add_sub_cancel_left, Nat.add_mul]; omega

theorem arun_cat {α : Type} {sT xT R E E2 sz bytes : Nat} {z : Value} (hs : P.underlying sT = some (.slice E)) (hx : P.underlying xT = some (.slice E2))
    (hsz : (P.info? E).map (·.size) = some sz) (hby : (P.info? E).map (·.bytes) = some bytes) (hz : (P.info? E).bind (·.zero) = some z) (hb0 : 0 < bytes) (hzs : z.cells.size = sz)
    {enc : α → List Value} {v w : Value} {xs ys : List α} {k : Value → Hp → Prop} (S : SlAt h E sz enc v xs) (R0 : Src h sz enc w ys) (hbd : (2 * (xs.length + ys.length) + 770) * bytes ≤ 2 ^ 48)
    (K : ∀ v' h', SlAt h' E sz enc v' (xs ++ ys) → Grew h h' v v' → k v' h') : arun P (Builtin.append_ #[sT, xT] R #[v, w]) h k := by
  obtain ⟨hl, R1⟩ := R0
  have hzc : ∀ n, (Builtin.zeroCells z.cells n).size = n * sz := by intro n; simp [Builtin.zeroCells, hzs]
  -- the new cells
  obtain ⟨a2, c2, new, rfl, hnew, n1, n2, n3⟩ : ∃ a2 c2 new, w = .slice a2 ys.length c2 ∧ rrun P (Builtin.firstCells sz ys.length (.slice a2 ys.length c2)) h = some (List.toArray new) ∧ new.length = ys.length * sz ∧
      (∀ i y, ys[i]? = some y → ∀ j, j < sz → new[i * sz + j]? = (enc y)[j]?) ∧ ∀ u ∈ new, oneCell u = true := by
    rcases R1 with ⟨a, cap, rfl, rfl⟩ | ⟨b, o, cap, c, _, fr, rfl, hb, h1, h2⟩
    · refine ⟨a, cap, [], rfl, ?_, by simp, fun i y hy => by simp at hy, by simp⟩
      cases a with
      | none => rfl
      | some a =>
        show rrun P (loadCells a (0 * sz)) h = _
        rw [Nat.zero_mul]; rfl
    · obtain ⟨q1, q2, q3⟩ := src_cells (n := ys.length) rfl hl h1 h2
      refine ⟨_, cap, _, rfl, ?_, q1, q2, q3⟩
      show rrun P (loadCells ⟨b, o, none⟩ (ys.length * sz)) h = _
      rw [rr_loadCells, ldN_of hb _ _ h1]; rfl
  rcases S with ⟨rfl, rfl⟩ | ⟨b, cap, c, rfl, hb, h1, h2, h3⟩
  · refine arun_append hs hx hsz hby hz hb0 hnew (fun h0 => ?_) (fun hlt => ⟨?_, #[], rfl, fun cap' b hc hb => ?_⟩)
    · have : ys = [] := List.eq_nil_of_length_eq_zero (by omega)
      subst this
      exact K _ _ (.inl ⟨rfl, rfl⟩) ⟨fun _ _ h _ => h, .inl rfl⟩
    · refine Nat.le_trans (Nat.mul_le_mul_right bytes ?_) hbd
      have := nextcap_le hlt
      simp only [List.length_nil]; omega
    · refine K _ _ (.inr ⟨b, cap', _, by simp, if_pos rfl, by simpa using hc, ?_, ?_⟩) ⟨fun y o hy _ => ?_, .inr fun b' hb' => ?_⟩
      · obtain ⟨d, rfl⟩ : ∃ d, cap' = ys.length + d := ⟨cap' - ys.length, by omega⟩
        simp only [Array.size_append, hzc, List.size_toArray, n1]
        have : ys.length + d - ys.length = d := by omega
        simp only [List.length_nil, Nat.zero_add, this, Nat.add_mul]
        exact Nat.le_of_eq (by simp)
      · refine Enc.cat (c := #[]) (fun i x hx => by cases hx) (fun i hi => absurd hi (by simp)) (fun i y hy j hj => ?_)
        have hi := (List.getElem?_eq_some_iff.1 hy).1
        have h3 : (i + 1) * sz ≤ ys.length * sz := Nat.mul_le_mul_right _ hi
        rw [Nat.add_mul, Nat.one_mul] at h3
        rw [Array.getElem?_append_left (by simp [n1]; omega)]
        have := n2 i y hy j hj
        simpa using this
      · have : y ≠ b := by rintro rfl; rw [hb] at hy; cases hy
        simp [Hp.upd, this, hy]
      · cases hb'; exact hb
  · refine arun_append hs hx hsz hby hz hb0 hnew (fun hle => ?_) (fun hlt => ⟨?_, ((c.toList.drop 0).take (xs.length * sz)).toArray, ?_, fun cap' b' hc hb' => ?_⟩)
    · simp only [add_none]
      rw [arun_storeCells_eq]
      have hsz2 : xs.length * sz + ys.length * sz ≤ c.size := by
        have : (xs.length + ys.length) * sz ≤ cap * sz := Nat.mul_le_mul_right _ hle
        rw [Nat.add_mul] at this
        omega
      refine stN_write _ _ c h hb (by simp [n1]; omega) (by simpa using n3) ?_
      refine K _ _ (.inr ⟨b, cap, _, by simp, if_pos rfl, by simpa using hle, by rw [writeL_size]; exact h2, ?_⟩) ⟨fun y o hy hne => ?_, .inl rfl⟩
      · refine Enc.cat h3 (fun i hi => ?_) (fun i y hy j hj => ?_)
        · rw [writeL_get _ _ _ _ (by simp [n1]; omega), if_neg (by omega)]
        · have hi := (List.getElem?_eq_some_iff.1 hy).1
          have h4 : (i + 1) * sz ≤ ys.length * sz := Nat.mul_le_mul_right _ hi
          rw [Nat.add_mul, Nat.one_mul] at h4
          rw [writeL_get _ _ _ _ (by simp [n1]; omega), if_pos (by simp [n1]; omega)]
          have e : xs.length * sz + (i * sz + j) - (xs.length * sz + 0) = i * sz + j := by omega
          simp only [Nat.zero_add, e]; exact n2 i y hy j hj
      · have : y ≠ b := by rintro rfl; exact hne rfl
        simp [Hp.upd, this, hy]
    · refine Nat.le_trans (Nat.mul_le_mul_right bytes ?_) hbd
      have := nextcap_le hlt
      omega
    · show rrun P (loadCells ⟨b, 0, none⟩ (xs.length * sz)) h = _
      have : xs.length * sz ≤ c.size := Nat.le_trans (Nat.mul_le_mul_right _ h1) h2
      rw [rr_loadCells, ldN_of hb _ _ (by omega)]; rfl
    · have hold : ((c.toList.drop 0).take (xs.length * sz)).toArray.size = xs.length * sz := by
        have : xs.length * sz ≤ c.size := Nat.le_trans (Nat.mul_le_mul_right _ h1) h2
        simp; omega
      refine K _ _ (.inr ⟨b', cap', _, by simp, if_pos rfl, by simpa using hc, ?_, ?_⟩) ⟨fun y o hy _ => ?_, .inr fun b2 hb2 => ?_⟩
      · simp only [Array.size_append, hzc, List.size_toArray, n1]
        have e : cap' = xs.length + (ys.length + (cap' - (xs.length + ys.length))) := by omega
        have e2 : ((c.toList.drop 0).take (xs.length * sz)).length = xs.length * sz := by simpa using hold
        rw [e2]
        conv => lhs; rw [e]
        rw [Nat.add_mul, Nat.add_mul]; omega
      · refine Enc.cat h3 (fun i hi => ?_) (fun i y hy j hj => ?_)
        · rw [Array.getElem?_append_left (by simp only [Array.size_append, hold]; omega), Array.getElem?_append_left (by rw [hold]; exact hi)]
          simp [List.getElem?_take, hi]
        · have hi := (List.getElem?_eq_some_iff.1 hy).1
          have h4 : (i + 1) * sz ≤ ys.length * sz := Nat.mul_le_mul_right _ hi
          rw [Nat.add_mul, Nat.one_mul] at h4
          rw [Array.getElem?_append_left (by simp only [Array.size_append, hold, List.size_toArray, n1]; omega), Array.getElem?_append_right (by rw [hold]; omega), hold]
          have e : xs.length * sz + (i * sz + j) - xs.length * sz = i * sz + j := by omega
          rw [e]
          have := n2 i y hy j hj
          simpa using this
      · have : y ≠ b' := by rintro rfl; rw [hb'] at hy; cases hy
        simp [Hp.upd, this, hy]
      · cases hb2; exact hb'

/-! ### A part of a slice -/
theorem rr_sliceBound {n : Nat} {i : Int} {k : BoundsCode} (h0 : 0 ≤ i) (h1 : i ≤ (n : Int)) : rrun P (Instr.sliceBound (.int .i64 i) n k) h = some i.toNat := by
  unfold Instr.sliceBound
  simp only [rrun_bnd, asIntOf, rrun_pure, Option.bind_some]
  rw [if_pos ⟨h0, h1⟩]; rfl

/-- x[i:], within a block. -/
theorem rr_slice_from {t e : TypeId} {sz b o len cap : Nat} {i : Int} (hu : P.underlying t = some (.slice e)) (hs : (P.info? e).map (·.size) = some sz) (h0 : 0 ≤ i) (h1 : i ≤ (len : Int)) (h2 : i < (cap : Int)) :
    rrun P (Instr.sliceAt t (.slice (some ⟨b, o, none⟩) len cap) (some (.int .i64 i)) none none) h = some (.slice (some ⟨b, o + i.toNat * sz, none⟩) (len - i.toNat) (cap - i.toNat)) := by
  unfold Instr.sliceAt
  rw [rrun_bnd, rr_underlying, hu, Option.bind_some]
  simp only
  unfold Instr.slice
  rw [rrun_bnd, rr_underlying, hu, Option.bind_some]
  simp only
  have hb : rrun P (Instr.sliceBounds true len cap (some (.int .i64 i)) none none) h = some (i.toNat, len, cap) := by
    unfold Instr.sliceBounds
    simp only [rrun_bnd, rrun_pure, Option.bind_some]
    rw [rr_sliceBound h0 h1]; rfl
  rw [rrun_bnd, hb, Option.bind_some]
  simp only [rrun_bnd, rr_sizeOf, hs, Option.bind_some, rrun_pure]
  rw [if_neg (by omega)]
  simp only [Option.map_some, add_none]

/-- x[i:] where nothing is left, whatever the address. -/
theorem rr_slice_end {t e : TypeId} {sz : Nat} {a : Option Addr} {len cap : Nat} {i : Int} (hu : P.underlying t = some (.slice e)) (hs : (P.info? e).map (·.size) = some sz) (h1 : i = (len : Int)) :
    ∃ a' cap', rrun P (Instr.sliceAt t (.slice a len cap) (some (.int .i64 i)) none none) h = some (.slice a' 0 cap') := by
  unfold Instr.sliceAt
  rw [rrun_bnd, rr_underlying, hu, Option.bind_some]
  simp only
  unfold Instr.slice
  rw [rrun_bnd, rr_underlying, hu, Option.bind_some]
  simp only
  have hb : rrun P (Instr.sliceBounds true len cap (some (.int .i64 i)) none none) h = some (i.toNat, len, cap) := by
    unfold Instr.sliceBounds
    simp only [rrun_bnd, rrun_pure, Option.bind_some]
    rw [rr_sliceBound (by omega) (by omega)]; rfl
  rw [rrun_bnd, hb, Option.bind_some]
  simp only [rrun_bnd, rr_sizeOf, hs, Option.bind_some, rrun_pure]
  have e0 : len - i.toNat = 0 := by omega
  rw [e0]
  exact ⟨_, _, rfl⟩

/-- x[:i]. -/
theorem rr_slice_to {t e : TypeId} {sz len cap : Nat} {a : Addr} {i : Int} (hu : P.underlying t = some (.slice e)) (hs : (P.info? e).map (·.size) = some sz) (h0 : 0 ≤ i) (h1 : i ≤ (cap : Int)) :
    rrun P (Instr.sliceAt t (.slice (some a) len cap) none (some (.int .i64 i)) none) h = some (.slice (some a) i.toNat cap) := by
  unfold Instr.sliceAt
  rw [rrun_bnd, rr_underlying, hu, Option.bind_some]
  simp only
  unfold Instr.slice
  rw [rrun_bnd, rr_underlying, hu, Option.bind_some]
  simp only
  have hb : rrun P (Instr.sliceBounds true len cap none (some (.int .i64 i)) none) h = some (0, i.toNat, cap) := by
    unfold Instr.sliceBounds
    simp only [rrun_bnd, rrun_pure, Option.bind_some]
    simp only [if_true]
    rw [rr_sliceBound h0 h1]; rfl
  rw [rrun_bnd, hb, Option.bind_some]
  simp only [rrun_bnd, rr_sizeOf, hs, Option.bind_some, rrun_pure, Nat.zero_mul, Nat.sub_zero, Option.map_some]
  split
  · rfl
  · rfl
end
end Go.Proofs.Ytmbhlbohbpepaaa
