/- Appending another slice's elements; a slice's part. -/
import Derived.Test.YtmbhlbohbpepaaaZ4

namespace Go.Proofs.Ytmbhlbohbpepaaa
open Go
set_option linter.unusedSimpArgs false
set_option linter.unusedVariables false

/-- What an append of many leaves as it was. -/
structure Grew (h h' : Hp) (v v' : Value) : Prop where
  keep : ∀ y o, h y = some o → some y ≠ blkOf v → h' y = some o
  fresh : blkOf v' = blkOf v ∨ ∀ b, blkOf v' = some b → h b = none

/-- A slice that may be a part of a block, to be read from. -/
def Src {α : Type} (h : Hp) (sz : Nat) (enc : α → List Value) (v : Value) (ys : List α) : Prop :=
  (∀ y ∈ ys, (enc y).length = sz ∧ ∀ u ∈ enc y, oneCell u = true) ∧
  ((∃ a cap, v = .slice a 0 cap ∧ ys = []) ∨ ∃ b o cap c E fr, v = .slice (some ⟨b, o, none⟩) ys.length cap ∧ h b = some (.cells c E fr) ∧ o + ys.length * sz ≤ c.size ∧ Enc c o sz enc ys)

theorem Src.part {α : Type} {h : Hp} {sz : Nat} {enc : α → List Value} {ys : List α} {b o : Nat} {c : Array Value} {E : TypeId} {fr : Nat × Nat} (i n cap' : Nat) (hn : i + n ≤ ys.length)
    (hl : ∀ y ∈ ys, (enc y).length = sz ∧ ∀ u ∈ enc y, oneCell u = true) (hb : h b = some (.cells c E fr)) (hs : o + ys.length * sz ≤ c.size) (he : Enc c o sz enc ys) :
    Src h sz enc (.slice (some ⟨b, o + i * sz, none⟩) n cap') ((ys.drop i).take n) := by
  refine ⟨fun y hy => hl y (List.mem_of_mem_drop (List.mem_of_mem_take hy)), .inr ⟨b, o + i * sz, cap', c, E, fr, ?_, hb, ?_, ?_⟩⟩
  · have : ((ys.drop i).take n).length = n := by simp; omega
    rw [this]
  · have e : ((ys.drop i).take n).length = n := by simp; omega
    have h1 : (i + n) * sz ≤ ys.length * sz := Nat.mul_le_mul_right _ hn
    rw [Nat.add_mul] at h1
    rw [e]; omega
  · intro k x hx j hj
    have hk : k < n := by
      have := (List.getElem?_eq_some_iff.1 hx).1
      simp at this; omega
    rw [List.getElem?_take, if_pos hk, List.getElem?_drop] at hx
    have := he (i + k) x hx j hj
    rw [← this]
    congr 1
    rw [Nat.add_mul]; omega

section
variable {P : Program} {h : Hp}

theorem src_cells {α : Type} {sz n o : Nat} {enc : α → List Value} {ys : List α} {c : Array Value} (hn : n = ys.length) (hl : ∀ y ∈ ys, (enc y).length = sz ∧ ∀ u ∈ enc y, oneCell u = true) (hs : o + ys.length * sz ≤ c.size) (he : Enc c o sz enc ys) :
    ((c.toList.drop o).take (n * sz)).length = n * sz ∧ (∀ i y, ys[i]? = some y → ∀ j, j < sz → ((c.toList.drop o).take (n * sz))[i * sz + j]? = (enc y)[j]?) ∧ ∀ u ∈ (c.toList.drop o).take (n * sz), oneCell u = true := by
  subst hn
  have hget : ∀ i y, ys[i]? = some y → ∀ j, j < sz → ((c.toList.drop o).take (ys.length * sz))[i * sz + j]? = (enc y)[j]? := by
    intro i y hy j hj
    have hi := (List.getElem?_eq_some_iff.1 hy).1
    have h1 : (i + 1) * sz ≤ ys.length * sz := Nat.mul_le_mul_right _ hi
    rw [Nat.add_mul, Nat.one_mul] at h1
    rw [List.getElem?_take, if_pos (by omega), List.getElem?_drop, ← Nat.add_assoc, Array.getElem?_toList]
    exact he i y hy j hj
  refine ⟨by simp; omega, hget, fun u hu => ?_⟩
  obtain ⟨k, hk, rfl⟩ := List.getElem_of_mem hu
  have hk' : k < ys.length * sz := by simp at hk; omega
  have hsz : 0 < sz := by
    rcases Nat.eq_zero_or_pos sz with e | e
    · subst e; simp at hk'
    · exact e
  have hi : k / sz < ys.length := Nat.div_lt_of_lt_mul (by rw [Nat.mul_comm]; exact hk')
  have hy : ys[k / sz]? = some ys[k / sz] := List.getElem?_eq_getElem hi
  have hj := Nat.mod_lt k hsz
  have e := hget (k / sz) _ hy (k % sz) hj
  have e2 : k / sz * sz + k % sz = k := by rw [Nat.mul_comm]; exact Nat.div_add_mod k sz
  rw [e2, List.getElem?_eq_getElem hk] at e
  have hm := hl _ (List.mem_of_getElem? hy)
  exact hm.2 _ (List.mem_of_getElem? e.symm)

theorem Enc.cat {α : Type} {c c' : Array Value} {sz : Nat} {enc : α → List Value} {xs ys : List α} (H : Enc c 0 sz enc xs)
    (h1 : ∀ i, i < xs.length * sz → c'[i]? = c[i]?) (h2 : ∀ i y, ys[i]? = some y → ∀ j, j < sz → c'[xs.length * sz + (i * sz + j)]? = (enc y)[j]?) : Enc c' 0 sz enc (xs ++ ys) := by
  intro i x hx j hj
  rcases Nat.lt_or_ge i xs.length with hi | hi
  · rw [List.getElem?_append_left hi] at hx
    rw [← H i x hx j hj]
    have h3 : (i + 1) * sz ≤ xs.length * sz := Nat.mul_le_mul_right _ hi
    rw [Nat.add_mul, Nat.one_mul] at h3
    exact h1 _ (by omega)
  · rw [List.getElem?_append_right hi] at hx
    have := h2 _ x hx j hj
    rw [← this]
    congr 1
    obtain ⟨d, rfl⟩ : ∃ d, i = xs.length + d := ⟨i - xs.length, by omega⟩
    rw [Nat.add_sub_cancel_left, Nat.add_mul]; omega

theorem arun_cat {α : Type} {sT xT R E E2 sz bytes : Nat} {z : Value} (hs : P.underlying sT = some (.slice E)) (hx : P.underlying xT = some (.slice E2))
    (hsz : (P.info? E).map (·.size) = some sz) (hby : (P.info? E).map (·.bytes) = some bytes) (hz : (P.info? E).bind (·.zero) = some z) (hb0 : 0 < bytes) (hzs : z.cells.size = sz)
    {enc : α → List Value} {v w : Value} {xs ys : List α} {k : Value → Hp → Prop} (S : SlAt h E sz enc v xs) (R0 : Src h sz enc w ys) (hbd : (2 * (xs.length + ys.length) + 770) * bytes ≤ 2 ^ 48)
    (K : ∀ v' h', SlAt h' E sz enc v' (xs ++ ys) → Grew h h' v v' → k v' h') : arun P (Builtin.append_ #[sT, xT] R #[v, w]) h k := by
  obtain ⟨hl, R1⟩ := R0
  have hzc : ∀ n, (Builtin.zeroCells z.cells n).size = n * sz := by intro n; simp [Builtin.zeroCells, hzs]
  -- the new cells
  obtain ⟨a2, c2, new, rfl, hnew, n1, n2, n3⟩ : ∃ a2 c2 new, w = .slice a2 ys.length c2 ∧ rrun P (Builtin.firstCells sz ys.length (.slice a2 ys.length c2)) h = some (List.toArray new) ∧ new.length = ys.length * sz ∧
      (∀ i y, ys[i]? = some y → ∀ j, j < sz → new[i * sz + j]? = (enc y)[j]?) ∧ ∀ u ∈ new, oneCell u = true := by
    rcases R1 with ⟨a, cap, rfl, rfl⟩ | ⟨b, o, cap, c, _, fr, rfl, hb, h1, h2⟩
    · refine ⟨a, cap, [], rfl, ?_, by simp, fun i y hy => by simp at hy, by simp⟩
      cases a with
      | none => rfl
      | some a =>
        show rrun P (loadCells a (0 * sz)) h = _
        rw [Nat.zero_mul]; rfl
    · obtain ⟨q1, q2, q3⟩ := src_cells (n := ys.length) rfl hl h1 h2
      refine ⟨_, cap, _, rfl, ?_, q1, q2, q3⟩
      show rrun P (loadCells ⟨b, o, none⟩ (ys.length * sz)) h = _
      rw [rr_loadCells, ldN_of hb _ _ h1]; rfl
  rcases S with ⟨rfl, rfl⟩ | ⟨b, cap, c, rfl, hb, h1, h2, h3⟩
  · refine arun_append hs hx hsz hby hz hb0 hnew (fun h0 => ?_) (fun hlt => ⟨?_, #[], rfl, fun cap' b hc hb => ?_⟩)
    · have : ys = [] := List.eq_nil_of_length_eq_zero (by omega)
      subst this
      exact K _ _ (.inl ⟨rfl, rfl⟩) ⟨fun _ _ h _ => h, .inl rfl⟩
    · refine Nat.le_trans (Nat.mul_le_mul_right bytes ?_) hbd
      have := nextcap_le hlt
      simp only [List.length_nil]; omega
    · refine K _ _ (.inr ⟨b, cap', _, by simp, if_pos rfl, by simpa using hc, ?_, ?_⟩) ⟨fun y o hy _ => ?_, .inr fun b' hb' => ?_⟩
      · obtain ⟨d, rfl⟩ : ∃ d, cap' = ys.length + d := ⟨cap' - ys.length, by omega⟩
        simp only [Array.size_append, hzc, List.size_toArray, n1]
        have : ys.length + d - ys.length = d := by omega
        simp only [List.length_nil, Nat.zero_add, this, Nat.add_mul]
        exact Nat.le_of_eq (by simp)
      · refine Enc.cat (c := #[]) (fun i x hx => by cases hx) (fun i hi => absurd hi (by simp)) (fun i y hy j hj => ?_)
        have hi := (List.getElem?_eq_some_iff.1 hy).1
        have h3 : (i + 1) * sz ≤ ys.length * sz := Nat.mul_le_mul_right _ hi
        rw [Nat.add_mul, Nat.one_mul] at h3
        rw [Array.getElem?_append_left (by simp [n1]; omega)]
        have := n2 i y hy j hj
        simpa using this
      · have : y ≠ b := by rintro rfl; rw [hb] at hy; cases hy
        simp [Hp.upd, this, hy]
      · cases hb'; exact hb
  · refine arun_append hs hx hsz hby hz hb0 hnew (fun hle => ?_) (fun hlt => ⟨?_, ((c.toList.drop 0).take (xs.length * sz)).toArray, ?_, fun cap' b' hc hb' => ?_⟩)
    · simp only [add_none]
      rw [arun_storeCells_eq]
      have hsz2 : xs.length * sz + ys.length * sz ≤ c.size := by
        have : (xs.length + ys.length) * sz ≤ cap * sz := Nat.mul_le_mul_right _ hle
        rw [Nat.add_mul] at this
        omega
      refine stN_write _ _ c h hb (by simp [n1]; omega) (by simpa using n3) ?_
      refine K _ _ (.inr ⟨b, cap, _, by simp, if_pos rfl, by simpa using hle, by rw [writeL_size]; exact h2, ?_⟩) ⟨fun y o hy hne => ?_, .inl rfl⟩
      · refine Enc.cat h3 (fun i hi => ?_) (fun i y hy j hj => ?_)
        · rw [writeL_get _ _ _ _ (by simp [n1]; omega), if_neg (by omega)]
        · have hi := (List.getElem?_eq_some_iff.1 hy).1
          have h4 : (i + 1) * sz ≤ ys.length * sz := Nat.mul_le_mul_right _ hi
          rw [Nat.add_mul, Nat.one_mul] at h4
          rw [writeL_get _ _ _ _ (by simp [n1]; omega), if_pos (by simp [n1]; omega)]
          have e : xs.length * sz + (i * sz + j) - (xs.length * sz + 0) = i * sz + j := by omega
          simp only [Nat.zero_add, e]; exact n2 i y hy j hj
      · have : y ≠ b := by rintro rfl; exact hne rfl
        simp [Hp.upd, this, hy]
    · refine Nat.le_trans (Nat.mul_le_mul_right bytes ?_) hbd
      have := nextcap_le hlt
      omega
    · show rrun P (loadCells ⟨b, 0, none⟩ (xs.length * sz)) h = _
      have : xs.length * sz ≤ c.size := Nat.le_trans (Nat.mul_le_mul_right _ h1) h2
      rw [rr_loadCells, ldN_of hb _ _ (by omega)]; rfl
    · have hold : ((c.toList.drop 0).take (xs.length * sz)).toArray.size = xs.length * sz := by
        have : xs.length * sz ≤ c.size := Nat.le_trans (Nat.mul_le_mul_right _ h1) h2
        simp; omega
      refine K _ _ (.inr ⟨b', cap', _, by simp, if_pos rfl, by simpa using hc, ?_, ?_⟩) ⟨fun y o hy _ => ?_, .inr fun b2 hb2 => ?_⟩
      · simp only [Array.size_append, hzc, List.size_toArray, n1]
        have e : cap' = xs.length + (ys.length + (cap' - (xs.length + ys.length))) := by omega
        have e2 : ((c.toList.drop 0).take (xs.length * sz)).length = xs.length * sz := by simpa using hold
        rw [e2]
        conv => lhs; rw [e]
        rw [Nat.add_mul, Nat.add_mul]; omega
      · refine Enc.cat h3 (fun i hi => ?_) (fun i y hy j hj => ?_)
        · rw [Array.getElem?_append_left (by simp only [Array.size_append, hold]; omega), Array.getElem?_append_left (by rw [hold]; exact hi)]
          simp [List.getElem?_take, hi]
        · have hi := (List.getElem?_eq_some_iff.1 hy).1
          have h4 : (i + 1) * sz ≤ ys.length * sz := Nat.mul_le_mul_right _ hi
          rw [Nat.add_mul, Nat.one_mul] at h4
          rw [Array.getElem?_append_left (by simp only [Array.size_append, hold, List.size_toArray, n1]; omega), Array.getElem?_append_right (by rw [hold]; omega), hold]
          have e : xs.length * sz + (i * sz + j) - xs.length * sz = i * sz + j := by omega
          rw [e]
          have := n2 i y hy j hj
          simpa using this
      · have : y ≠ b' := by rintro rfl; rw [hb'] at hy; cases hy
        simp [Hp.upd, this, hy]
      · cases hb2; exact hb'

/-! ### A part of a slice -/
theorem rr_sliceBound {n : Nat} {i : Int} {k : BoundsCode} (h0 : 0 ≤ i) (h1 : i ≤ (n : Int)) : rrun P (Instr.sliceBound (.int .i64 i) n k) h = some i.toNat := by
  unfold Instr.sliceBound
  simp only [rrun_bnd, asIntOf, rrun_pure, Option.bind_some]
  rw [if_pos ⟨h0, h1⟩]; rfl

/-- x[i:], within a block. -/
theorem rr_slice_from {t e : TypeId} {sz b o len cap : Nat} {i : Int} (hu : P.underlying t = some (.slice e)) (hs : (P.info? e).map (·.size) = some sz) (h0 : 0 ≤ i) (h1 : i ≤ (len : Int)) (h2 : i < (cap : Int)) :
    rrun P (Instr.sliceAt t (.slice (some ⟨b, o, none⟩) len cap) (some (.int .i64 i)) none none) h = some (.slice (some ⟨b, o + i.toNat * sz, none⟩) (len - i.toNat) (cap - i.toNat)) := by
  unfold Instr.sliceAt
  rw [rrun_bnd, rr_underlying, hu, Option.bind_some]
  simp only
  unfold Instr.slice
  rw [rrun_bnd, rr_underlying, hu, Option.bind_some]
  simp only
  have hb : rrun P (Instr.sliceBounds true len cap (some (.int .i64 i)) none none) h = some (i.toNat, len, cap) := by
    unfold Instr.sliceBounds
    simp only [rrun_bnd, rrun_pure, Option.bind_some]
    rw [rr_sliceBound h0 h1]; rfl
  rw [rrun_bnd, hb, Option.bind_some]
  simp only [rrun_bnd, rr_sizeOf, hs, Option.bind_some, rrun_pure]
  rw [if_neg (by omega)]
  simp only [Option.map_some, add_none]

/-- x[i:] where nothing is left, whatever the address. -/
theorem rr_slice_end {t e : TypeId} {sz : Nat} {a : Option Addr} {len cap : Nat} {i : Int} (hu : P.underlying t = some (.slice e)) (hs : (P.info? e).map (·.size) = some sz) (h1 : i = (len : Int)) :
    ∃ a' cap', rrun P (Instr.sliceAt t (.slice a len cap) (some (.int .i64 i)) none none) h = some (.slice a' 0 cap') := by
  unfold Instr.sliceAt
  rw [rrun_bnd, rr_underlying, hu, Option.bind_some]
  simp only
  unfold Instr.slice
  rw [rrun_bnd, rr_underlying, hu, Option.bind_some]
  simp only
  have hb : rrun P (Instr.sliceBounds true len cap (some (.int .i64 i)) none none) h = some (i.toNat, len, cap) := by
    unfold Instr.sliceBounds
    simp only [rrun_bnd, rrun_pure, Option.bind_some]
    rw [rr_sliceBound (by omega) (by omega)]; rfl
  rw [rrun_bnd, hb, Option.bind_some]
  simp only [rrun_bnd, rr_sizeOf, hs, Option.bind_some, rrun_pure]
  have e0 : len - i.toNat = 0 := by omega
  rw [e0]
  exact ⟨_, _, rfl⟩

/-- x[:i]. -/
theorem rr_slice_to {t e : TypeId} {sz len cap : Nat} {a : Addr} {i : Int} (hu : P.underlying t = some (.slice e)) (hs : (P.info? e).map (·.size) = some sz) (h0 : 0 ≤ i) (h1 : i ≤ (cap : Int)) :
    rrun P (Instr.sliceAt t (.slice (some a) len cap) none (some (.int .i64 i)) none) h = some (.slice (some a) i.toNat cap) := by
  unfold Instr.sliceAt
  rw [rrun_bnd, rr_underlying, hu, Option.bind_some]
  simp only
  unfold Instr.slice
  rw [rrun_bnd, rr_underlying, hu, Option.bind_some]
  simp only
  have hb : rrun P (Instr.sliceBounds true len cap none (some (.int .i64 i)) none) h = some (0, i.toNat, cap) := by
    unfold Instr.sliceBounds
    simp only [rrun_bnd, rrun_pure, Option.bind_some]
    simp only [if_true]
    rw [rr_sliceBound h0 h1]; rfl
  rw [rrun_bnd, hb, Option.bind_some]
  simp only [rrun_bnd, rr_sizeOf, hs, Option.bind_some, rrun_pure, Nat.zero_mul, Nat.sub_zero, Option.map_some]
  split
  · rfl
  · rfl
end
end Go.Proofs.Ytmbhlbohbpepaaa

/- Maps: what they hold, a look, a store. -/
namespace Go.Proofs.Ytmbhlbohbpepaaa
open Go
set_option linter.unusedSimpArgs false
set_option linter.unusedVariables false

/-- A map's entries read so, in the order in which they lie. -/
inductive Ents {α β : Type} (kenc : α → Value) (venc : β → Value) : List MapEntry → List (α × β) → Prop where
  | nil : Ents kenc venc [] []
  | cons {e : MapEntry} {es : List MapEntry} {k : α} {v : β} {m : List (α × β)} : e.key = kenc k → e.val = venc v → Ents kenc venc es m → Ents kenc venc (e :: es) ((k, v) :: m)

def findM {α β : Type} [DecidableEq α] (a : α) : List (α × β) → Nat → Option (Nat × β)
  | [], _ => none
  | x :: xs, i => if a = x.1 then some (i, x.2) else findM a xs (i + 1)

theorem Ents.get {α β : Type} {kenc : α → Value} {venc : β → Value} {es : List MapEntry} {m : List (α × β)} (H : Ents kenc venc es m) : ∀ {i : Nat} {x : α × β}, m[i]? = some x → ∃ e, es[i]? = some e ∧ e.key = kenc x.1 ∧ e.val = venc x.2 := by
  induction H with
  | nil => intro i x h; simp at h
  | @cons e es k v m h1 h2 _ ih =>
    intro i x h
    cases i with
    | zero => simp at h; subst h; exact ⟨e, rfl, h1, h2⟩
    | succ i => simpa using ih (by simpa using h)

section
variable {P : Program} {h : Hp} {α β : Type} [DecidableEq α] {kenc : α → Value} {venc : β → Value}

theorem rr_findAsking {kt : TypeId} {a : α} (heq : ∀ b, rrun P (Op.equal kt (kenc a) (kenc b)) h = some (decide (a = b))) : ∀ {es : List MapEntry} {m : List (α × β)}, Ents kenc venc es m → ∀ i,
    rrun P (Instr.findAsking kt (kenc a) es i) h = some ((findM a m i).map fun x => (x.1, venc x.2)) := by
  intro es m H
  induction H with
  | nil => intro i; rfl
  | @cons e es k v m h1 h2 _ ih =>
    intro i
    unfold Instr.findAsking
    rw [rrun_bnd, h1, heq, Option.bind_some]
    by_cases hab : a = k
    · simp [hab, findM, h2, rrun_pure]
    · simp [hab, findM, ih]

theorem rr_findKey_struct {kt : TypeId} {fs : Array Field} {a : α} (hu : P.underlying kt = some (.struct fs)) (heq : ∀ b, rrun P (Op.equal kt (kenc a) (kenc b)) h = some (decide (a = b))) {es : List MapEntry} {m : List (α × β)} (H : Ents kenc venc es m) :
    rrun P (Instr.findKey kt (kenc a) es) h = some ((findM a m 0).map fun x => (x.1, venc x.2)) := by
  unfold Instr.findKey
  rw [rrun_bnd, rr_underlying, hu, Option.bind_some]
  cases H with
  | nil => rfl
  | cons h1 h2 h3 => exact rr_findAsking heq (.cons h1 h2 h3) 0

def getM (m : List (α × β)) (a : α) : Option β := (findM a m 0).map (·.2)

def MapAt (h : Hp) (r : Nat) (kenc : α → Value) (venc : β → Value) (m : List (α × β)) : Prop := ∃ es clock, h r = some (.map es clock) ∧ Ents kenc venc es.toList m

theorem rr_lookup {t kt et : TypeId} {r : Nat} {a : α} {m : List (α × β)} {z : Value} (hu : P.underlying t = some (.map kt et)) (M : MapAt h r kenc venc m) (hck : ∀ e, rrun P (Instr.checkKey e 10000 kt (kenc a)) h = some ())
    (hfk : ∀ es : List MapEntry, Ents kenc venc es m → rrun P (Instr.findKey kt (kenc a) es) h = some ((findM a m 0).map fun x => (x.1, venc x.2))) (hz : (P.info? et).bind (·.zero) = some z) :
    rrun P (Instr.lookup t (.map (some r)) (kenc a) true) h = some (.tuple #[match getM m a with | some v => venc v | none => z, .bool (getM m a).isSome]) := by
  obtain ⟨es, clock, hr, hE⟩ := M
  unfold Instr.lookup
  rw [rrun_bnd, rr_underlying, hu, Option.bind_some]
  simp only []
  have hg : rrun P (getObj r) h = some (.map es clock) := by
    unfold getObj
    simp only [rrun, hr, isRow]
  simp only [rrun_bnd, hg, Option.bind_some, rrun_pure, hck, hfk _ hE]
  unfold getM
  cases findM a m 0 with
  | none =>
    have e : ∀ (s : Sem Value) (f : Value → Value), rrun P (f <$> s) h = (rrun P s h).map f := by
      intro s f
      have : f <$> s = s >>= fun x => pure (f x) := by simp
      rw [this, rrun_bnd]
      cases rrun P s h <;> rfl
    simp [rrun_bnd, rrun_pure, e, rr_zeroValue hz]
  | some x => simp [rrun_bnd, rrun_pure]

def setM (a : α) (v : β) : List (α × β) → List (α × β)
  | [] => [(a, v)]
  | x :: xs => if a = x.1 then (a, v) :: xs else x :: setM a v xs

theorem findM_some {a : α} : ∀ {m : List (α × β)} {i j : Nat} {v : β}, findM a m i = some (j, v) → i ≤ j ∧ m[j - i]? = some (a, v)
  | [], i, j, v, h => by cases h
  | x :: xs, i, j, v, h => by
    simp only [findM] at h
    split at h
    · rename_i e; cases h; rw [Nat.sub_self]; exact ⟨Nat.le_refl _, by simp [e]⟩
    · obtain ⟨h1, h2⟩ := findM_some h
      refine ⟨by omega, ?_⟩
      have e : j - i = (j - (i + 1)) + 1 := by omega
      rw [e]; simpa using h2

theorem Ents.push {es : List MapEntry} {m : List (α × β)} (H : Ents kenc venc es m) {a : α} {v : β} {c : Nat} : findM a m 0 = none → Ents kenc venc (es ++ [{ key := kenc a, val := venc v, born := c }]) (setM a v m) := by
  have key : ∀ (es : List MapEntry) (m : List (α × β)), Ents kenc venc es m → ∀ i, findM a m i = none → Ents kenc venc (es ++ [{ key := kenc a, val := venc v, born := c }]) (setM a v m) := by
    intro es m H
    induction H with
    | nil => intro i _; exact .cons rfl rfl .nil
    | @cons e es k v' m h1 h2 _ ih =>
      intro i h
      simp only [findM] at h
      split at h
      · cases h
      · rename_i hne
        simp only [setM, if_neg hne, List.cons_append]
        exact .cons h1 h2 (ih _ h)
  exact key es m H 0

theorem Ents.modify {es : List MapEntry} {m : List (α × β)} (H : Ents kenc venc es m) {a : α} {v v0 : β} {j : Nat} : findM a m 0 = some (j, v0) → Ents kenc venc (es.modify j fun e => { e with key := kenc a, val := venc v }) (setM a v m) := by
  have key : ∀ (es : List MapEntry) (m : List (α × β)), Ents kenc venc es m → ∀ i, findM a m i = some (i + j, v0) → Ents kenc venc (es.modify j fun e => { e with key := kenc a, val := venc v }) (setM a v m) := by
    intro es m H
    induction H generalizing j with
    | nil => intro i h; cases h
    | @cons e es k v' m h1 h2 h3 ih =>
      intro i h
      simp only [findM] at h
      split at h
      · rename_i e
        have : j = 0 := by
          simp only [Option.some.injEq, Prod.mk.injEq] at h; omega
        subst this
        simp only [setM, if_pos e]
        exact .cons rfl rfl h3
      · rename_i hne
        have := (findM_some h).1
        obtain ⟨j', rfl⟩ : ∃ j', j = j' + 1 := ⟨j - 1, by omega⟩
        simp only [setM, if_neg hne, List.modify_succ_cons]
        refine .cons h1 h2 (ih (j := j') (i + 1) ?_)
        rw [h]; congr 2; omega
  intro h
  exact key es m H 0 (by simpa using h)

theorem rr_getObj {r : Nat} {es : Array MapEntry} {clock : Nat} (hr : h r = some (.map es clock)) : rrun P (getObj r) h = some (.map es clock) := by
  unfold getObj
  simp only [rrun, hr, isRow]

theorem arun_mapUpdate {t kt et : TypeId} {r : Nat} {a : α} {v : β} {m : List (α × β)} {K : Unit → Hp → Prop} (hu : P.underlying t = some (.map kt et)) (M : MapAt h r kenc venc m) (hck : ∀ e, rrun P (Instr.checkKey e 10000 kt (kenc a)) h = some ())
    (hfk : ∀ es : List MapEntry, Ents kenc venc es m → rrun P (Instr.findKey kt (kenc a) es) h = some ((findM a m 0).map fun x => (x.1, venc x.2))) (hsb : Instr.sameBits 10000 (kenc a) (kenc a) = true)
    (hK : ∀ es clock, Ents kenc venc es.toList (setM a v m) → K () (h.upd r (.map es clock))) :
    arun P (Instr.mapUpdate t (.map (some r)) (kenc a) (venc v)) h K := by
  obtain ⟨es, clock, hr, hE⟩ := M
  unfold Instr.mapUpdate
  rw [arun_bnd_rr (a := .map kt et) (by rw [rr_underlying, hu])]
  simp only []
  rw [arun_bnd_rr (a := .map es clock) (rr_getObj hr)]
  simp only []
  rw [arun_bnd_rr (a := ()) (hck _), arun_bnd_rr (hfk _ hE)]
  have set : ∀ o, K () (h.upd r o) → arun P (setObj r o) h K := fun o hk => ⟨⟨_, hr, rfl⟩, hk⟩
  cases hf : findM a m 0 with
  | none =>
    simp only [Option.map_none]
    refine set _ (hK _ _ ?_)
    rw [Array.toList_push]
    exact hE.push hf
  | some x =>
    obtain ⟨j, v0⟩ := x
    simp only [Option.map_some]
    obtain ⟨e, he, hke, _⟩ := hE.get (i := j) (x := (a, v0)) (by have := (findM_some hf).2; simpa using this)
    have hes : es[j]? = some e := by simpa using he
    have hks : rrun P (Instr.keyThatStays (((es[j]?).map (·.key)).getD (kenc a)) (kenc a)) h = some (kenc a) := by
      rw [hes]
      unfold Instr.keyThatStays
      simp only [Option.map_some, Option.getD_some, hke, hsb, if_true]
      rfl
    rw [arun_bnd_rr hks]
    refine set _ (hK _ _ ?_)
    rw [Array.toList_modify]
    exact hE.modify hf

theorem arun_makeMap {t : TypeId} {K : Value → Hp → Prop} (hK : ∀ b, h b = none → K (.map (some b)) (h.upd b (.map #[] 0))) : arun P (Instr.makeMap t none) h K := hK
end
end Go.Proofs.Ytmbhlbohbpepaaa

/- Room for more; bytes as a string. -/
namespace Go.Proofs.Ytmbhlbohbpepaaa
open Go
set_option linter.unusedSimpArgs false
set_option linter.unusedVariables false
section
variable {P : Program} {h : Hp}

/-- append(nil, make(T, n)...), n above 0. -/
theorem arun_extend_nil {sT xT R E sz bytes n : Nat} {k : IntKind} {z : Value} (hs : P.underlying sT = some (.slice E)) (hx : P.underlying xT = some (.int k))
    (hsz : (P.info? E).map (·.size) = some sz) (hby : (P.info? E).map (·.bytes) = some bytes) (hz : (P.info? E).bind (·.zero) = some z) (hb0 : 0 < bytes) (hs0 : 0 < sz) (hzs : z.cells.size = sz)
    {K : Value → Hp → Prop} (hn : 0 < n) (hbd : (2 * n + 770) * bytes ≤ 2 ^ 48)
    (hK : ∀ b cap c, h b = none → n ≤ cap → c.size = cap * sz → K (.slice (some ⟨b, 0, none⟩) n cap) (h.upd b (.cells c E))) :
    arun P (Builtin.append_ #[sT, xT] R #[.slice none 0 0, .int .i64 (n : Int)]) h K := by
  obtain ⟨info, hinfo⟩ : ∃ i, P.info? E = some i := by
    cases hi : P.info? E with
    | none => simp [hi] at hsz
    | some i => exact ⟨i, rfl⟩
  have hbi : info.bytes = bytes := by simpa [hinfo] using hby
  have hzc : ∀ n, (Builtin.zeroCells z.cells n).size = n * sz := by intro n; simp [Builtin.zeroCells, hzs]
  have hn48 : n * bytes ≤ 2 ^ 48 := Nat.le_trans (Nat.mul_le_mul_right _ (by omega)) hbd
  have hnle : n ≤ 2 ^ 48 := Nat.le_trans (Nat.le_mul_of_pos_right _ hb0) hn48
  unfold Builtin.append_
  simp only [aget_0, aget_1]
  rw [arun_bnd_rr (a := .slice E) (by rw [rr_underlying, hs])]
  simp only []
  have hw : IntKind.i64.wrap (n : Int) = (n : Int) := wrap_i64 (by omega) (by omega)
  have hinf : rrun P (typeInfo E) h = some info := by rw [rr_info, hinfo]
  have hmul : ¬ ((n : Int) * (info.bytes : Int) > 2 ^ 48) := by
    rw [hbi]
    have : ((n * bytes : Nat) : Int) ≤ ((2 ^ 48 : Nat) : Int) := Int.ofNat_le.2 hn48
    simp only [Int.natCast_mul] at this
    omega
  have hcap := nextcap_le (n := 0 + n) (c := 0) (by omega)
  have hcapb : ¬ (Builtin.nextslicecap (0 + n) 0 * info.bytes > 2 ^ 48) := by
    rw [hbi]
    have : Builtin.nextslicecap (0 + n) 0 * bytes ≤ (2 * n + 770) * bytes := Nat.mul_le_mul_right _ (by omega)
    omega
  have hmax : IntKind.i64.max = 9223372036854775807 := by decide
  rw [arun_bnd_rr (a := sz) (by rw [rr_sizeOf, hsz]), arun_bnd_rr (a := .int k) (by rw [rr_underlying, hx])]
  simp only []
  rw [arun_bnd_rr (a := true) rfl]
  simp only [if_true]
  rw [arun_bnd_rr (a := (n : Int)) rfl]
  simp only [hw]
  rw [if_neg (by omega), arun_bnd_rr hinf, if_neg hmul, arun_bnd_rr (a := ((n : Int)).toNat) rfl]
  simp only [Int.toNat_natCast]
  rw [if_neg (by omega), arun_bnd_rr hinf, if_neg (by rw [hmax]; rintro ⟨h1, _⟩; omega), arun_bnd_rr hinf, if_neg hcapb]
  refine arun_bind _ _ ?_
  show arun P (Sem.choose _ Sem.pure) h _
  unfold arun
  rw [if_neg (by simp [Question.forced])]
  intro t
  show arun P (Sem.bind _ _) h _
  refine arun_bind _ _ (arun_of_rrun _ hinf ?_)
  refine arun_bind _ _ ?_
  rw [arun_askRoom]
  refine arun_bind _ _ (arun_of_rrun _ (a := #[]) rfl ?_)
  refine arun_bind _ _ (arun_of_rrun _ (a := Builtin.zeroCells z.cells n) ?_ ?_)
  · have h0 : ¬ n * sz = 0 := by
      have := Nat.mul_pos hn hs0
      omega
    simp only [Bool.not_true, Bool.false_eq_true, if_false]
    rw [if_neg h0, rrun_bnd, rr_zeroValue hz]; rfl
  refine arun_bind _ _ (arun_of_rrun _ (rr_zeroValue hz) ?_)
  intro b hb
  have key : ∀ cap', n ≤ cap' → K (.slice (some ⟨b, 0, none⟩) (0 + n) cap') (h.upd b (.cells (#[] ++ Builtin.zeroCells z.cells n ++ Builtin.zeroCells z.cells (cap' - (0 + n))) E)) := by
    intro cap' hc
    rw [Nat.zero_add]
    refine hK b cap' _ hb hc ?_
    obtain ⟨d, rfl⟩ : ∃ d, cap' = n + d := ⟨cap' - n, by omega⟩
    simp only [Array.size_append, hzc, Nat.add_sub_cancel_left, Nat.add_mul]
    simp
  exact key _ (by simp only [Question.cut]; omega)
end
end Go.Proofs.Ytmbhlbohbpepaaa

/- Frames: what a call may change, what it owns behind; slices' shapes. -/
namespace Go.Proofs.Ytmbhlbohbpepaaa
open Go
set_option linter.unusedSimpArgs false

/-- All blocks but those of O stay; those of O' are of O or new. -/
structure Fr (h h' : Hp) (O O' : List Nat) : Prop where
  keep : ∀ x o, h x = some o → x ∉ O → h' x = some o
  own : ∀ x, x ∈ O' → x ∈ O ∨ h x = none

theorem Fr.refl (h : Hp) (O : List Nat) : Fr h h O O := ⟨fun _ _ e _ => e, fun _ e => .inl e⟩

theorem Fr.trans {h h1 h2 : Hp} {O O1 O2 : List Nat} (a : Fr h h1 O O1) (b : Fr h1 h2 O1 O2) : Fr h h2 O O2 := by
  refine ⟨fun x o e n => b.keep x o (a.keep x o e n) (fun m => ?_), fun x m => ?_⟩
  · rcases a.own x m with q | q
    · exact n q
    · rw [e] at q; cases q
  · rcases b.own x m with q | q
    · exact a.own x q
    · cases e : h x with
      | none => exact .inr rfl
      | some o =>
        by_cases hO : x ∈ O
        · exact .inl hO
        · rw [a.keep x o e hO] at q; cases q

theorem Fr.of_le {h h' : Hp} {O O' : List Nat} (l : Le h h') (f : ∀ x, x ∈ O' → x ∈ O ∨ h x = none) : Fr h h' O O' := ⟨fun x o e _ => l x o e, f⟩

/-- What is owned is not of an older heap: that stays. -/
theorem Fr.le {g h h' : Hp} {O O' : List Nat} (a : Fr h h' O O') (l : Le g h) (n : ∀ x, x ∈ O → g x = none) : Le g h' := fun x o e => a.keep x o (l x o e) (fun m => by rw [n x m] at e; cases e)

theorem upd_ne {h : Hp} {b x : Nat} {o : Obj} (n : x ≠ b) : (h.upd b o) x = h x := by rw [upd_get, if_neg n]
theorem upd_same {h : Hp} {b : Nat} {o : Obj} : (h.upd b o) b = some o := by rw [upd_get, if_pos rfl]

/-- A write into an own block. -/
theorem Fr.upd {h : Hp} {O : List Nat} {b : Nat} {o : Obj} (m : b ∈ O) : Fr h (h.upd b o) O O :=
  ⟨fun x _ e n => by rw [upd_ne]; exact e; rintro rfl; exact n m, fun _ e => .inl e⟩

theorem none_of_le {h g : Hp} {b : Nat} (L : Le h g) (hb : g b = none) : h b = none := by
  cases hh : h b with
  | none => rfl
  | some o => rw [L _ _ hh] at hb; cases hb

theorem Fr.new {g h h' : Hp} {O O' : List Nat} (a : Fr h h' O O') (l : Le g h) (n : ∀ x, x ∈ O → g x = none) : ∀ x, x ∈ O' → g x = none := fun x m => by
  rcases a.own x m with q | q
  · exact n x q
  · exact none_of_le l q

/-- Another one's blocks stay its own. -/
theorem Fr.apart {h h' : Hp} {O O' R : List Nat} (a : Fr h h' O O') (al : ∀ x, x ∈ R → ∃ o, h x = some o) (d : ∀ x, x ∈ R → x ∉ O) : ∀ x, x ∈ R → x ∉ O' := fun x m m' => by
  rcases a.own x m' with q | q
  · exact d x m q
  · obtain ⟨o, e⟩ := al x m; rw [e] at q; cases q

theorem Fr.alive {h h' : Hp} {O O' R : List Nat} (a : Fr h h' O O') (al : ∀ x, x ∈ R → ∃ o, h x = some o) (d : ∀ x, x ∈ R → x ∉ O) : ∀ x, x ∈ R → ∃ o, h' x = some o := fun x m => by
  obtain ⟨o, e⟩ := al x m
  exact ⟨o, a.keep x o e (d x m)⟩

theorem Grew.fr {h h' : Hp} {v v' : Value} (G : Grew h h' v v') : Fr h h' (blkOf v).toList (blkOf v').toList := by
  refine ⟨fun x o e n => G.keep x o e (fun q => n (by rw [← q]; simp)), fun x m => ?_⟩
  rcases G.fresh with q | q
  · rw [q] at m; exact .inl m
  · exact .inr (q x (by simpa using m))

section
variable {α : Type} {h h' : Hp} {E sz : Nat} {enc : α → List Value} {v : Value} {xs : List α}

theorem SlAt.at' {i : Nat} {x : α} (S : SlAt h E sz enc v xs) (hx : xs[i]? = some x) :
    ∃ b cap c, v = .slice (some ⟨b, 0, none⟩) xs.length cap ∧ h b = some (.cells c E (0, 0)) ∧ ∀ j, j < sz → c[i * sz + j]? = (enc x)[j]? := by
  rcases S with ⟨_, rfl⟩ | ⟨b, cap, c, rfl, hb, h1, h2, h3⟩
  · simp at hx
  · exact ⟨b, cap, c, rfl, hb, fun j hj => by have := h3 i x hx j hj; rwa [Nat.zero_add] at this⟩

theorem SlAt.shape' (S : SlAt h E sz enc v xs) : ∃ p cap, v = .slice p xs.length cap := by
  rcases S with ⟨rfl, rfl⟩ | ⟨b, cap, c, rfl, _⟩
  · exact ⟨_, _, rfl⟩
  · exact ⟨_, _, rfl⟩

theorem SlAt.le' (S : SlAt h E sz enc v xs) (l : Le h h') : SlAt h' E sz enc v xs := S.keep (fun _ _ _ e => l _ _ e)

theorem SlAt.alive (S : SlAt h E sz enc v xs) {b : Nat} (hb : blkOf v = some b) : ∃ o, h b = some o := by
  rcases S with ⟨rfl, rfl⟩ | ⟨b, cap, c, rfl, hb', _⟩
  · cases hb
  · cases hb; exact ⟨_, hb'⟩

theorem SlAt.fr {O O' : List Nat} (S : SlAt h E sz enc v xs) (F : Fr h h' O O') (n : ∀ b, blkOf v = some b → b ∉ O) : SlAt h' E sz enc v xs := S.keep (fun b o e q => F.keep b o q (n b e))

/-- The first ones of a slice. -/
theorem SlAt.take {b cap : Nat} (S : SlAt h E sz enc (.slice (some ⟨b, 0, none⟩) xs.length cap) xs) (n : Nat) (hn : n ≤ xs.length) : SlAt h E sz enc (.slice (some ⟨b, 0, none⟩) n cap) (xs.take n) := by
  rcases S with ⟨e, rfl⟩ | ⟨b', cap', c, e, hb, h1, h2, h3⟩
  · cases e
  · cases e
    refine .inr ⟨_, _, c, by rw [List.length_take, Nat.min_eq_left hn], hb, by rw [List.length_take]; omega, h2, fun i x hx j hj => h3 i x ?_ j hj⟩
    rw [List.getElem?_take] at hx
    split at hx
    · exact hx
    · cases hx
end

/-- x[i:j], within a block. -/
theorem rr_slice_part {P : Program} {h : Hp} {t e : TypeId} {sz b o len cap : Nat} {i j : Int} (hu : P.underlying t = some (.slice e)) (hs : (P.info? e).map (·.size) = some sz) (h0 : 0 ≤ i) (h1 : i ≤ j) (h2 : j ≤ (cap : Int)) (h3 : i < (cap : Int)) :
    rrun P (Instr.sliceAt t (.slice (some ⟨b, o, none⟩) len cap) (some (.int .i64 i)) (some (.int .i64 j)) none) h = some (.slice (some ⟨b, o + i.toNat * sz, none⟩) (j.toNat - i.toNat) (cap - i.toNat)) := by
  unfold Instr.sliceAt
  rw [rrun_bnd, rr_underlying, hu, Option.bind_some]
  simp only
  unfold Instr.slice
  rw [rrun_bnd, rr_underlying, hu, Option.bind_some]
  simp only
  have hb : rrun P (Instr.sliceBounds true len cap (some (.int .i64 i)) (some (.int .i64 j)) none) h = some (i.toNat, j.toNat, cap) := by
    unfold Instr.sliceBounds
    simp only [rrun_bnd, rrun_pure, Option.bind_some, if_true]
    rw [rr_sliceBound (by omega) h2, Option.bind_some, rr_sliceBound h0 (by omega)]; rfl
  rw [rrun_bnd, hb, Option.bind_some]
  simp only [rrun_bnd, rr_sizeOf, hs, Option.bind_some, rrun_pure]
  rw [if_neg (by omega)]
  simp only [Option.map_some, add_none]

theorem sq_rg {r s : Env → Hp → (Env → Hp → Prop) → Prop} {D : Den} : sq (rg r) (sq (rg s) D) = sq (rg fun env h K => r env h fun env h => s env h K) D := rfl

/-! ### Maps: what is found -/
theorem findM_map {α β : Type} [DecidableEq α] {a : α} : ∀ (m : List (α × β)) (i j : Nat), (findM a m i).map (·.2) = (findM a m j).map (·.2)
  | [], _, _ => rfl
  | x :: xs, i, j => by
    simp only [findM]
    split
    · rfl
    · exact findM_map xs _ _

theorem getM_nil {α β : Type} [DecidableEq α] {a : α} : getM ([] : List (α × β)) a = none := rfl
theorem getM_cons {α β : Type} [DecidableEq α] {a : α} {x : α × β} {xs : List (α × β)} : getM (x :: xs) a = if a = x.1 then some x.2 else getM xs a := by
  unfold getM
  simp only [findM]
  split
  · rfl
  · exact findM_map _ _ _

theorem getM_setM {α β : Type} [DecidableEq α] {a b : α} {v : β} : ∀ {m : List (α × β)}, getM (setM a v m) b = if b = a then some v else getM m b
  | [] => by simp [setM, getM_cons, getM_nil]
  | x :: xs => by
    simp only [setM]
    split
    · rename_i e
      rw [getM_cons, getM_cons]
      by_cases hb : b = a
      · simp [hb]
      · rw [if_neg hb, if_neg hb, if_neg (by rw [← e]; exact hb)]
    · rename_i e
      rw [getM_cons, getM_cons, getM_setM]
      by_cases hb : b = a
      · rw [if_neg (by rw [hb]; exact e), if_pos hb, if_pos hb]
      · rw [if_neg hb]; simp [hb]
end Go.Proofs.Ytmbhlbohbpepaaa

/- Strings out of bytes, and their comparison. -/
namespace Go.Proofs.Ytmbhlbohbpepaaa
open Go
set_option linter.unusedSimpArgs false

def be (x : Nat) : List Value := [.int .u8 (x : Nat)]
def mkB (xs : List Nat) : ByteArray := xs.foldl (fun r n => r.push (UInt8.ofNat n)) ByteArray.empty

section
variable {P : Program} {h : Hp}

@[simp] theorem rr_eql_str {t : TypeId} {x y : Operand} {a b : ByteArray} : rrun P (bop .eql t x y (.string a) (.string b)) h = some (.bool (a.toList == b.toList)) := rfl
@[simp] theorem rr_neq_str {t : TypeId} {x y : Operand} {a b : ByteArray} : rrun P (bop .neq t x y (.string a) (.string b)) h = some (.bool (!(a.toList == b.toList))) := rfl

theorem rr_forIn_bytes (f : Value → ByteArray → Sem (ForInStep ByteArray)) (hf : ∀ (n : Nat) (r : ByteArray), rrun P (f (.int .u8 (n : Nat)) r) h = some (.yield (r.push (UInt8.ofNat n)))) :
    ∀ (ns : List Nat) (s : ByteArray), rrun P (forIn (ns.map fun n => Value.int .u8 (n : Nat)) s f) h = some (ns.foldl (fun r n => r.push (UInt8.ofNat n)) s) := by
  intro ns
  induction ns with
  | nil => intro s; simp [rrun_pure]
  | cons n ns ih =>
    intro s
    simp only [List.map_cons, List.forIn_cons, rrun_bnd, hf, Option.bind_some, List.foldl_cons]
    exact ih _

theorem rr_bytesToString {b o len cap : Nat} {xs : List Nat} (hl : ldN h b o len = some (xs.map fun n => Value.int .u8 (n : Nat))) : rrun P (Conv.bytesToString (.slice (some ⟨b, o, none⟩) len cap)) h = some (.string (mkB xs)) := by
  unfold Conv.bytesToString
  simp only [rrun_bnd]
  rw [rr_loadCells, hl]
  simp only [Option.map_some, Option.bind_some, List.forIn_toArray, rrun_bnd]
  rw [rr_forIn_bytes _ (by intro n r; simp [rrun_pure])]
  simp [rrun_pure, mkB]

theorem rr_convert_bytes {src dst e : TypeId} {v : Value} {E : TypeId} {xs : List Nat} (hs : P.underlying src = some (.slice e)) (he : P.underlying e = some (.int .u8)) (hd : P.underlying dst = some .string) (S : SlAt h E 1 be v xs) :
    rrun P (convert src dst v) h = some (.string (mkB xs)) := by
  have key : ∀ a l c, rrun P (convert src dst (.slice a l c)) h = rrun P (Conv.bytesToString (.slice a l c)) h := by
    intro a l c
    unfold convert
    simp only [rrun_bnd, rr_underlying, hs, hd, he, Option.bind_some]
  rcases S with ⟨rfl, rfl⟩ | ⟨b, cap, c, rfl, hb, h1, h2, h3⟩
  · rw [key]; rfl
  · rw [key]
    refine rr_bytesToString ?_
    rw [ldN_of hb _ _ (by omega)]
    congr 1
    refine List.ext_getElem? fun i => ?_
    rw [List.getElem?_take, List.getElem?_map, Nat.mul_one] at *
    split
    · rename_i hi
      obtain ⟨x, hx⟩ : ∃ x, xs[i]? = some x := ⟨_, List.getElem?_eq_getElem hi⟩
      have := h3 i x hx 0 (by omega)
      rw [hx]
      simpa [be] using this
    · rename_i hi
      rw [List.getElem?_eq_none (by omega)]; rfl

theorem arun_convert_bytes {src dst e : TypeId} {v : Value} {E : TypeId} {xs : List Nat} {K : Value → Hp → Prop} (hs : P.underlying src = some (.slice e)) (he : P.underlying e = some (.int .u8)) (hd : P.underlying dst = some .string) (S : SlAt h E 1 be v xs)
    (hK : K (.string (mkB xs)) h) : arun P (convert src dst v) h K := arun_of_rrun _ (rr_convert_bytes hs he hd S) hK
end
end Go.Proofs.Ytmbhlbohbpepaaa

/- Tags' depths, comparing numbers, comparing routes: what these functions answer. -/
namespace Go.Proofs.Ytmbhlbohbpepaaa
open Go
set_option linter.unusedSimpArgs false
set_option linter.unusedVariables false

theorem and_pred_lt {t : Nat} (h : t ≠ 0) : t &&& (t - 1) < t := by
  have := Nat.and_le_right (n := t) (m := t - 1); omega

def dep (t : Nat) : Nat := if h : t = 0 then 0 else dep (t &&& (t - 1)) + 1
termination_by t
decreasing_by exact and_pred_lt h

theorem dep_zero : dep 0 = 0 := by unfold dep; rfl
theorem dep_pos {t : Nat} (h : t ≠ 0) : dep t = dep (t &&& (t - 1)) + 1 := by rw [dep, dif_neg h]

def rdep (t : Nat) : Nat := if h : t = 0 then 0 else t % 2 + rdep (t / 2)
termination_by t
decreasing_by omega

theorem rdep_zero : rdep 0 = 0 := by unfold rdep; rfl
theorem rdep_pos {t : Nat} (h : t ≠ 0) : rdep t = t % 2 + rdep (t / 2) := by rw [rdep, dif_neg h]

theorem dep_even (k : Nat) : dep (2 * k) = dep k := by
  induction k using Nat.strongRecOn with
  | ind k ih =>
    by_cases hk : k = 0
    · subst hk; rfl
    · rw [dep_pos (t := 2 * k) (by omega), dep_pos hk]
      have e : (2 * k) &&& (2 * k - 1) = 2 * (k &&& (k - 1)) := by
        apply Nat.eq_of_testBit_eq
        intro i
        cases i with
        | zero => simp [Nat.testBit_zero]
        | succ i =>
          rw [Nat.testBit_and, Nat.testBit_succ, Nat.testBit_succ, Nat.testBit_succ, Nat.mul_div_cancel_left _ (by omega), Nat.mul_div_cancel_left _ (by omega), Nat.testBit_and]
          rw [show (2 * k - 1) / 2 = k - 1 by omega]
      rw [e, ih _ (and_pred_lt hk)]

theorem dep_odd (k : Nat) : dep (2 * k + 1) = dep k + 1 := by
  rw [dep_pos (t := 2 * k + 1) (by omega)]
  have e : (2 * k + 1) &&& (2 * k + 1 - 1) = 2 * k := by
    apply Nat.eq_of_testBit_eq
    intro i
    cases i with
    | zero => simp [Nat.testBit_zero]
    | succ i => rw [Nat.testBit_and, Nat.testBit_succ, Nat.testBit_succ, show (2 * k + 1) / 2 = k by omega, show (2 * k + 1 - 1) / 2 = k by omega, Bool.and_self, show (2 * k).testBit (i + 1) = k.testBit i by rw [Nat.testBit_succ, show 2 * k / 2 = k by omega]]
  rw [e, dep_even]

theorem rdep_eq (t : Nat) : rdep t = dep t := by
  induction t using Nat.strongRecOn with
  | ind t ih =>
    by_cases h : t = 0
    · subst h; rw [rdep_zero, dep_zero]
    · rw [rdep_pos h, ih _ (by omega)]
      rcases Nat.mod_two_eq_zero_or_one t with e | e
      · have := dep_even (t / 2); rw [show 2 * (t / 2) = t by omega] at this; omega
      · have := dep_odd (t / 2); rw [show 2 * (t / 2) + 1 = t by omega] at this; omega

theorem dep_le (t : Nat) : dep t ≤ t := by
  induction t using Nat.strongRecOn with
  | ind t ih =>
    by_cases h : t = 0
    · subst h; simp [dep_zero]
    · rw [dep_pos h]
      have := ih _ (and_pred_lt h)
      have := and_pred_lt h
      omega

theorem bits_and_u16 {a b : Nat} (ha : a < 2 ^ 16) (hb : b < 2 ^ 16) : bits_and .u16 (a : Int) (b : Int) = ((a &&& b : Nat) : Int) := by
  have h : (BitVec.ofInt 16 (a : Int) &&& BitVec.ofInt 16 (b : Int)).toNat = a &&& b := by
    simp [BitVec.ofInt_natCast, BitVec.toNat_and, Nat.mod_eq_of_lt ha, Nat.mod_eq_of_lt hb]
  show IntKind.u16.wrap ((BitVec.ofInt 16 (a : Int) &&& BitVec.ofInt 16 (b : Int)).toNat : Nat) = _
  rw [h]
  have := Nat.and_le_left (n := a) (m := b)
  simp [IntKind.wrap, IntKind.signed, IntKind.bits]
  omega

def DepInv (h0 : Hp) (t : Nat) (m : Nat) (env : Env) (g : Hp) : Prop :=
  g = h0 ∧ ∃ n : Nat, m < 2 ^ 16 ∧ env 0 = .int .u16 (m : Nat) ∧ env 3 = .int .i64 (n : Nat) ∧ n + dep m = dep t ∧ n + m ≤ t

theorem depth_spec {t : Nat} {h : Hp} {Q : Value → Hp → Prop} (ht : t < 2 ^ 16) (hQ : Q (.int .i64 (dep t : Nat)) h) : Ok Try.prog F_tags_Depth #[.int .u16 (t : Nat)] h Q := by
  refine tags_Depth_ok (by simp) ?_
  unfold tags_Depth_D
  simp (disch := omega) [tags_Depth_r0]
  refine scp_one tags_Depth_S0_lab0 rfl (DepInv h t) ?_ ?_
  · intro K hK
    simp (disch := omega) [tags_Depth_r1]
    exact hK t _ _ ⟨rfl, 0, ht, by simp, by simp, by omega, by omega⟩
  · rintro m env g ⟨rfl, n, hm, e0, e3, hd, hle⟩
    unfold tags_Depth_S0_at0
    by_cases h0 : m = 0
    · subst h0
      simp (disch := omega) [tags_Depth_r2, tags_Depth_r5, e0, e3]
      rw [dep_zero] at hd
      rw [show n = dep t by omega]
      exact .to _ (.refl _) hQ
    · have h0' : ¬ (m : Int) = 0 := by omega
      have w : IntKind.u16.wrap ((m : Int) - 1) = ((m - 1 : Nat) : Int) := by
        simp [IntKind.wrap, IntKind.signed, IntKind.bits]; omega
      have w2 := bits_and_u16 (a := m) (b := m - 1) hm (by omega)
      have lt := and_pred_lt h0
      simp (disch := omega) [tags_Depth_r2, tags_Depth_r3, tags_Depth_r4, e0, e3, h0, w, w2, wrap_i64]
      exact ⟨m &&& (m - 1), lt, rfl, n + 1, by omega, by simp, by simp, by rw [← hd, dep_pos h0]; omega, by omega⟩

def RdepInv (h0 : Hp) (t : Nat) (m : Nat) (env : Env) (g : Hp) : Prop :=
  g = h0 ∧ ∃ n : Nat, env 4 = .int .i64 (m : Nat) ∧ env 3 = .int .i64 (n : Nat) ∧ n + rdep m = rdep t ∧ n + m ≤ t

theorem rdepth_spec {t : Nat} {h : Hp} {Q : Value → Hp → Prop} (ht : t < 2 ^ 16) (hQ : Q (.int .i64 (dep t : Nat)) h) : Ok Try.prog F_octroiref03_Depth #[.int .u16 (t : Nat)] h Q := by
  refine octroiref03_Depth_ok (by simp) ?_
  unfold octroiref03_Depth_D
  simp (disch := omega) [octroiref03_Depth_r0, octroiref03_Depth_r1, octroiref03_Depth_r2, wrap_i64]
  refine ⟨RdepInv h t, ⟨t, rfl, 0, by simp, by simp, by omega, by omega⟩, ?_⟩
  rintro m env g ⟨rfl, n, e4, e3, hd, hle⟩
  unfold octroiref03_Depth_L0
  by_cases h0 : m = 0
  · subst h0
    simp (disch := omega) [octroiref03_Depth_r3, octroiref03_Depth_r6, e3, e4]
    rw [rdep_zero] at hd
    rw [show n = dep t by rw [← rdep_eq]; omega]
    exact .to _ (.refl _) hQ
  · have h0' : 0 < m := by omega
    have w1 : (m : Int).tmod 2 = ((m % 2 : Nat) : Int) := rfl
    have w2 : (m : Int).tdiv 2 = ((m / 2 : Nat) : Int) := rfl
    have b1 : (m : Int) % 2 = ((m % 2 : Nat) : Int) := by omega
    simp (disch := omega) [octroiref03_Depth_r3, octroiref03_Depth_r4, octroiref03_Depth_r5, e3, e4, h0', w1, w2, wrap_i64]
    refine ⟨m / 2, by omega, rfl, n + m % 2, by simp, by simp, ?_, by omega⟩
    rw [← hd, rdep_pos h0]; omega
end Go.Proofs.Ytmbhlbohbpepaaa

/- Comparing numbers and routes: cmp.Compare, cmp.Or, compare. -/
namespace Go.Proofs.Ytmbhlbohbpepaaa
open Go
set_option linter.unusedSimpArgs false
set_option linter.unusedVariables false

structure Rt where
  a : Nat
  l : Int
  d : Int
  ds : Int
  m : Int
  nx : Int
  tg : Nat
deriving DecidableEq

def Rt.enc (x : Rt) : List Value := [.int .u32 (x.a : Nat), .int .i64 x.l, .int .i64 x.d, .int .i64 x.ds, .int .i64 x.m, .int .i64 x.nx, .int .u16 (x.tg : Nat)]
abbrev rv (x : Rt) : Value := .agg #[.int .u32 (x.a : Nat), .int .i64 x.l, .int .i64 x.d, .int .i64 x.ds, .int .i64 x.m, .int .i64 x.nx, .int .u16 (x.tg : Nat)]
structure Rt.Good (x : Rt) : Prop where
  a : x.a < 2 ^ 32
  tg : x.tg < 2 ^ 16

def cmpI (a b : Int) : Int := if a < b then -1 else if b < a then 1 else 0
def orI : List Int → Int
  | [] => 0
  | x :: xs => if x = 0 then orI xs else x
def cmpR (x y : Rt) : Int := orI [cmpI (dep x.tg : Nat) (dep y.tg : Nat), cmpI x.ds y.ds, cmpI x.m y.m, cmpI x.d y.d, cmpI x.nx y.nx, cmpI (x.tg : Nat) (y.tg : Nat)]

theorem compare_spec {a b : Int} {h : Hp} {Q : Value → Hp → Prop} (hQ : Q (.int .i64 (cmpI a b)) h) : Ok Try.prog F_cmp_Compare_int #[.int .i64 a, .int .i64 b] h Q := by
  have nan : ∀ {a : Int} {h : Hp} {Q : Value → Hp → Prop}, Q (.bool false) h → Ok Try.prog F_cmp_isNaN_int #[.int .i64 a] h Q := by
    intro a h Q hQ
    refine cmp_isNaN_int_ok (by simp) ?_
    unfold cmp_isNaN_int_D
    simp (disch := omega) [cmp_isNaN_int_r0, cmp_isNaN_int_r1]
    exact .to _ (.refl _) hQ
  refine cmp_Compare_int_ok (by simp) ?_
  unfold cmp_Compare_int_D
  simp (disch := omega) [cmp_Compare_int_r0, cmp_Compare_int_r1]
  refine nan ?_
  simp (disch := omega) [cmp_Compare_int_r2]
  refine nan ?_
  unfold cmpI at hQ
  by_cases h1 : a < b
  · simp (disch := omega) [cmp_Compare_int_r3, cmp_Compare_int_r7, cmp_Compare_int_r9, cmp_Compare_int_r10, h1]
    rw [if_pos h1] at hQ
    exact .to _ (.refl _) hQ
  · by_cases h2 : b < a
    · simp (disch := omega) [cmp_Compare_int_r3, cmp_Compare_int_r7, cmp_Compare_int_r9, cmp_Compare_int_r11, cmp_Compare_int_r12, h1, h2]
      rw [if_neg h1, if_pos h2] at hQ
      exact .to _ (.refl _) hQ
    · simp (disch := omega) [cmp_Compare_int_r3, cmp_Compare_int_r7, cmp_Compare_int_r9, cmp_Compare_int_r11, cmp_Compare_int_r13, h1, h2]
      rw [if_neg h1, if_neg h2] at hQ
      exact .to _ (.refl _) hQ

theorem compare16_spec {a b : Int} {h : Hp} {Q : Value → Hp → Prop} (hQ : Q (.int .i64 (cmpI a b)) h) : Ok Try.prog F_cmp_Compare_uint16 #[.int .u16 a, .int .u16 b] h Q := by
  have nan : ∀ {a : Int} {h : Hp} {Q : Value → Hp → Prop}, Q (.bool false) h → Ok Try.prog F_cmp_isNaN_uint16 #[.int .u16 a] h Q := by
    intro a h Q hQ
    refine cmp_isNaN_uint16_ok (by simp) ?_
    unfold cmp_isNaN_uint16_D
    simp (disch := omega) [cmp_isNaN_uint16_r0, cmp_isNaN_uint16_r1]
    exact .to _ (.refl _) hQ
  refine cmp_Compare_uint16_ok (by simp) ?_
  unfold cmp_Compare_uint16_D
  simp (disch := omega) [cmp_Compare_uint16_r0, cmp_Compare_uint16_r1]
  refine nan ?_
  simp (disch := omega) [cmp_Compare_uint16_r2]
  refine nan ?_
  unfold cmpI at hQ
  by_cases h1 : a < b
  · simp (disch := omega) [cmp_Compare_uint16_r3, cmp_Compare_uint16_r7, cmp_Compare_uint16_r9, cmp_Compare_uint16_r10, h1]
    rw [if_pos h1] at hQ
    exact .to _ (.refl _) hQ
  · by_cases h2 : b < a
    · simp (disch := omega) [cmp_Compare_uint16_r3, cmp_Compare_uint16_r7, cmp_Compare_uint16_r9, cmp_Compare_uint16_r11, cmp_Compare_uint16_r12, h1, h2]
      rw [if_neg h1, if_pos h2] at hQ
      exact .to _ (.refl _) hQ
    · simp (disch := omega) [cmp_Compare_uint16_r3, cmp_Compare_uint16_r7, cmp_Compare_uint16_r9, cmp_Compare_uint16_r11, cmp_Compare_uint16_r13, h1, h2]
      rw [if_neg h1, if_neg h2] at hQ
      exact .to _ (.refl _) hQ

def OrInv (h0 : Hp) (b n cap : Nat) (l : List Int) (m : Nat) (env : Env) (g : Hp) : Prop :=
  g = h0 ∧ ∃ i : Nat, env 3 = .int .i64 0 ∧ env 6 = .slice (some ⟨b, 0, none⟩) n cap ∧ env 7 = .int .i64 (n : Nat) ∧ env 8 = .int .i64 (i : Nat) ∧ i + m = n ∧ orI (l.drop i) = orI l

theorem orI_drop {l : List Int} {i : Nat} {x : Int} (h : l[i]? = some x) : orI (l.drop i) = if x = 0 then orI (l.drop (i + 1)) else x := by
  have hi := (List.getElem?_eq_some_iff.1 h).1
  have e := (List.getElem?_eq_some_iff.1 h).2
  rw [List.drop_eq_getElem_cons hi, e]; rfl

theorem or_spec {b cap : Nat} {c : Array Value} {E : TypeId} {fr : Nat × Nat} {l : List Int} {h : Hp} {Q : Value → Hp → Prop} (hb : h b = some (.cells c E fr)) (hl : ∀ (i : Nat) (x : Int), l[i]? = some x → c[i]? = some (Value.int .i64 x)) (hn : l.length ≤ 1000)
    (hQ : Q (.int .i64 (orI l)) h) : Ok Try.prog F_cmp_Or_int #[.slice (some ⟨b, 0, none⟩) l.length cap] h Q := by
  refine cmp_Or_int_ok (by simp) ?_
  unfold cmp_Or_int_D
  simp (disch := omega) [cmp_Or_int_r0, cmp_Or_int_r1, cmp_Or_int_r2]
  refine ⟨OrInv h b l.length cap l, ⟨l.length, rfl, 0, by simp, by simp, by simp, by simp, by omega, by simp⟩, ?_⟩
  rintro m env g ⟨rfl, i, e3, e6, e7, e8, him, ho⟩
  unfold cmp_Or_int_L0
  by_cases hm : m = 0
  · have : i = l.length := by omega
    subst this
    simp (disch := omega) [cmp_Or_int_r3, cmp_Or_int_r8, e3, e6, e7, e8]
    rw [List.drop_length] at ho
    rw [← ho] at hQ
    exact .to _ (.refl _) hQ
  · obtain ⟨x, hx⟩ : ∃ x, l[i]? = some x := ⟨_, List.getElem?_eq_getElem (by omega)⟩
    have hc := hl i x hx
    have hi : i < l.length := by omega
    have hi' : (i : Int) < (l.length : Int) := by omega
    rw [orI_drop hx] at ho
    by_cases hx0 : x = 0
    · subst hx0
      simp (disch := omega) [cmp_Or_int_r3, cmp_Or_int_r4, cmp_Or_int_r5, cmp_Or_int_r7, e3, e6, e7, e8, hi, hi', hb, hc, wrap_i64]
      exact ⟨m - 1, by omega, rfl, i + 1, by simp [e3], by simp [e6], by simp [e7], by simp, by omega, by simpa using ho⟩
    · simp (disch := omega) [cmp_Or_int_r3, cmp_Or_int_r4, cmp_Or_int_r5, cmp_Or_int_r6, e3, e6, e7, e8, hi, hi', hb, hc, hx0]
      rw [if_neg hx0] at ho
      rw [← ho] at hQ
      exact .to _ (.refl _) hQ

theorem first_spec {b cap : Nat} {c : Array Value} {E : TypeId} {fr : Nat × Nat} {l : List Int} {h : Hp} {Q : Value → Hp → Prop} (hb : h b = some (.cells c E fr)) (hl : ∀ (i : Nat) (x : Int), l[i]? = some x → c[i]? = some (Value.int .i64 x)) (hn : l.length ≤ 1000)
    (hQ : Q (.int .i64 (orI l)) h) : Ok Try.prog F_rib_first #[.slice (some ⟨b, 0, none⟩) l.length cap] h Q := by
  refine rib_first_ok (by simp) ?_
  unfold rib_first_D
  simp (disch := omega) [rib_first_r0, rib_first_r1]
  refine or_spec hb hl hn ?_
  exact .to _ (.refl _) hQ

set_option maxRecDepth 20000 in
set_option maxHeartbeats 1000000 in
theorem cmpR_spec {x y : Rt} {h : Hp} {Q : Value → Hp → Prop} (hx : x.Good) (hy : y.Good) (hQ : Q (.int .i64 (cmpR x y)) h) : Ok Try.prog F_rib_compare #[rv x, rv y] h Q := by
  refine rib_compare_ok (by simp) ?_
  unfold rib_compare_D
  simp (disch := omega) [rib_compare_r0]
  intro b1 hb1 b2 hb2
  obtain ⟨n12, hb2'⟩ := upd_none hb2
  have l : Le h ((h.upd b1 (.cells #[.int .u32 (x.a : Nat), .int .i64 x.l, .int .i64 x.d, .int .i64 x.ds, .int .i64 x.m, .int .i64 x.nx, .int .u16 (x.tg : Nat)] 27)).upd b2 (.cells #[.int .u32 (y.a : Nat), .int .i64 y.l, .int .i64 y.d, .int .i64 y.ds, .int .i64 y.m, .int .i64 y.nx, .int .u16 (y.tg : Nat)] 27)) := (Le.new hb1).trans (Le.new hb2)
  have f1 : ((h.upd b1 (.cells #[.int .u32 (x.a : Nat), .int .i64 x.l, .int .i64 x.d, .int .i64 x.ds, .int .i64 x.m, .int .i64 x.nx, .int .u16 (x.tg : Nat)] 27)).upd b2 (.cells #[.int .u32 (y.a : Nat), .int .i64 y.l, .int .i64 y.d, .int .i64 y.ds, .int .i64 y.m, .int .i64 y.nx, .int .u16 (y.tg : Nat)] 27)) b1 = some (.cells #[.int .u32 (x.a : Nat), .int .i64 x.l, .int .i64 x.d, .int .i64 x.ds, .int .i64 x.m, .int .i64 x.nx, .int .u16 (x.tg : Nat)] 27) := by rw [upd_ne (Ne.symm n12), upd_same]
  have f2 : ((h.upd b1 (.cells #[.int .u32 (x.a : Nat), .int .i64 x.l, .int .i64 x.d, .int .i64 x.ds, .int .i64 x.m, .int .i64 x.nx, .int .u16 (x.tg : Nat)] 27)).upd b2 (.cells #[.int .u32 (y.a : Nat), .int .i64 y.l, .int .i64 y.d, .int .i64 y.ds, .int .i64 y.m, .int .i64 y.nx, .int .u16 (y.tg : Nat)] 27)) b2 = some (.cells #[.int .u32 (y.a : Nat), .int .i64 y.l, .int .i64 y.d, .int .i64 y.ds, .int .i64 y.m, .int .i64 y.nx, .int .u16 (y.tg : Nat)] 27) := by rw [upd_same]
  generalize (h.upd b1 (.cells #[.int .u32 (x.a : Nat), .int .i64 x.l, .int .i64 x.d, .int .i64 x.ds, .int .i64 x.m, .int .i64 x.nx, .int .u16 (x.tg : Nat)] 27)).upd b2 (.cells #[.int .u32 (y.a : Nat), .int .i64 y.l, .int .i64 y.d, .int .i64 y.ds, .int .i64 y.m, .int .i64 y.nx, .int .u16 (y.tg : Nat)] 27) = g at *
  simp (disch := omega) [rib_compare_r1, f1, f2]
  refine depth_spec hx.tg ?_
  simp (disch := omega) [f1, f2]
  refine depth_spec hy.tg ?_
  simp (disch := omega) [f1, f2]
  refine compare_spec ?_
  simp (disch := omega) [f1, f2]
  refine compare_spec ?_
  simp (disch := omega) [f1, f2]
  refine compare_spec ?_
  simp (disch := omega) [f1, f2]
  refine compare_spec ?_
  simp (disch := omega) [f1, f2]
  refine compare_spec ?_
  simp (disch := omega) [f1, f2]
  refine compare16_spec ?_
  simp (disch := omega)
  intro b3 hb3
  refine first_spec (b := b3) (l := [cmpI (dep x.tg : Nat) (dep y.tg : Nat), cmpI x.ds y.ds, cmpI x.m y.m, cmpI x.d y.d, cmpI x.nx y.nx, cmpI (x.tg : Nat) (y.tg : Nat)]) upd_same (fun i z hi => ?_) (by simp) ?_
  · have hlt := (List.getElem?_eq_some_iff.1 hi).1
    simp only [List.length_cons, List.length_nil] at hlt
    have hic : i = 0 ∨ i = 1 ∨ i = 2 ∨ i = 3 ∨ i = 4 ∨ i = 5 := by omega
    rcases hic with rfl | rfl | rfl | rfl | rfl | rfl <;> simp at hi <;> subst hi <;> simp
  · exact .to _ (l.trans (.new hb3)) hQ

theorem better_spec {x y : Rt} {h : Hp} {Q : Value → Hp → Prop} (hx : x.Good) (hy : y.Good) (hQ : Q (.bool (decide (cmpR x y < 0))) h) : Ok Try.prog F_rib_Better #[rv x, rv y] h Q := by
  refine rib_Better_ok (by simp) ?_
  unfold rib_Better_D
  simp (disch := omega) [rib_Better_r0]
  intro b1 hb1 b2 hb2
  obtain ⟨n12, hb2'⟩ := upd_none hb2
  simp (disch := omega) [rib_Better_r1, n12, Ne.symm n12]
  refine cmpR_spec hx hy ?_
  simp (disch := omega)
  exact .to _ ((Le.new hb1).trans (Le.new hb2)) hQ
end Go.Proofs.Ytmbhlbohbpepaaa

/- The document's own words on prefixes: Mask, May, Less, Has. -/
namespace Go.Proofs.Ytmbhlbohbpepaaa
open Go
set_option linter.unusedSimpArgs false

def MaskInv (n : Nat) (g0 : Hp) (m : Nat) (env : Env) (g : Hp) : Prop :=
  ∃ i, g = g0 ∧ env 0 = .int .i64 (n : Nat) ∧ env 3 = .int .u32 (msk i : Nat) ∧ (∃ w : Nat, w = 2 ^ 31 / 2 ^ i ∧ env 4 = .int .u32 (w : Nat)) ∧ env 5 = .int .i64 (i : Nat) ∧ i + m = n

theorem msk_step {i : Nat} (h : i < 32) : msk (i + 1) = msk i + 2 ^ 31 / 2 ^ i ∧ msk (i + 1) < 2 ^ 32 ∧ 2 ^ 31 / 2 ^ i < 2 ^ 32 ∧ 2 ^ 31 / 2 ^ (i + 1) = 2 ^ 31 / 2 ^ i / 2 := by
  have key : ∀ k : Fin 32, msk (k.1 + 1) = msk k.1 + 2 ^ 31 / 2 ^ k.1 ∧ msk (k.1 + 1) < 2 ^ 32 ∧ 2 ^ 31 / 2 ^ k.1 < 2 ^ 32 ∧ 2 ^ 31 / 2 ^ (k.1 + 1) = 2 ^ 31 / 2 ^ k.1 / 2 := by decide
  exact key ⟨i, h⟩

theorem rmask_spec {n : Nat} {h : Hp} {Q : Value → Hp → Prop} (hn : n ≤ 32) (hQ : Q (.int .u32 (msk n : Nat)) h) : Ok Try.prog F_octroiref02_Mask #[.int .i64 (n : Nat)] h Q := by
  refine octroiref02_Mask_ok (by simp) ?_
  unfold octroiref02_Mask_D
  simp (disch := omega) [octroiref02_Mask_r0, octroiref02_Mask_r1, octroiref02_Mask_r2, octroiref02_Mask_r3]
  refine ⟨MaskInv n h, ⟨n, 0, rfl, by simp, by simp [msk], ⟨2 ^ 31, by decide, by simp⟩, by simp, by omega⟩, ?_⟩
  rintro m env g ⟨i, rfl, e0, e3, ⟨w, hw, e4⟩, e5, him⟩
  unfold octroiref02_Mask_L0
  by_cases hm : m = 0
  · have hin : i = n := by omega
    subst hin
    simp (disch := omega) [octroiref02_Mask_r4, octroiref02_Mask_r8, e0, e3, e4, e5]
    exact .to _ (.refl _) hQ
  · obtain ⟨m, rfl⟩ : ∃ k, m = k + 1 := ⟨m - 1, by omega⟩
    have hlt : i < n := by omega
    have h32 : i < 32 := by omega
    obtain ⟨k1, k2, k3, k4⟩ := msk_step h32
    rw [← hw] at k1 k3 k4
    have h32' : (i : Int) < 32 := by omega
    have w1 : IntKind.u32.wrap ((msk i : Int) + (w : Int)) = (msk (i + 1) : Nat) := by
      rw [wrap_u32 (by omega) (by omega)]; omega
    have w2 : IntKind.u32.wrap ((w : Int).tdiv 2) = ((w / 2 : Nat) : Int) := by
      have e : (w : Int).tdiv 2 = ((w / 2 : Nat) : Int) := by rw [Int.tdiv_eq_ediv_of_nonneg (by omega)]; omega
      rw [e, wrap_u32 (by omega) (by omega)]
    simp (disch := omega) [octroiref02_Mask_r4, octroiref02_Mask_r5, octroiref02_Mask_r6, octroiref02_Mask_r7, e0, e3, e4, e5, hlt, h32, h32', w1, w2, wrap_i64]
    exact ⟨m, by omega, i + 1, rfl, by simp [e0], by simp, ⟨w / 2, k4.symm, by simp; rw [wrap_u32 (by omega) (by omega)]⟩, by simp, by omega⟩

theorem cast_eq (q a : Nat) : decide (q = a) = decide ((q : Int) = (a : Int)) := by
  rw [Bool.eq_iff_iff]; simp only [decide_eq_true_eq]; omega

theorem rmay_spec {a : Nat} {n : Int} {h : Hp} {Q : Value → Hp → Prop} (ha : a < 2 ^ 32) (hQ : Q (.bool (mayB a n)) h) : Ok Try.prog F_octroiref02_May #[.agg #[.int .u32 a, .int .i64 n]] h Q := by
  refine octroiref02_May_ok (by simp) ?_
  unfold octroiref02_May_D
  simp (disch := omega) [octroiref02_May_r0]
  intro b hb
  by_cases h0 : 0 ≤ n
  · by_cases h1 : n ≤ 32
    · obtain ⟨m, rfl⟩ := Int.eq_ofNat_of_zero_le h0
      simp (disch := omega) [octroiref02_May_r1, h0, h1]
      refine rmask_spec (by omega) ?_
      have hm := msk_lt m
      have hand := bits_and_u32 ha hm
      rw [and_msk ha (by omega)] at hand
      have hdec : decide (a / 2 ^ (32 - m) * 2 ^ (32 - m) = a) = mayB a (m : Int) := by
        rw [mayB_eq (by omega), Bool.eq_iff_iff]
        simp only [decide_eq_true_eq]
        have := Nat.div_add_mod a (2 ^ (32 - m))
        rw [Nat.mul_comm] at this
        rw [← cast_mod]
        omega
      generalize a / 2 ^ (32 - m) * 2 ^ (32 - m) = q at *
      simp (disch := omega) [hand]
      refine .to h (.new hb) ?_
      rw [← hdec] at hQ
      rw [cast_eq q a] at hQ
      exact hQ
    · simp (disch := omega) [octroiref02_May_r1, h0, h1]
      refine .to h (.new hb) ?_
      simpa [mayB, h0, h1] using hQ
  · simp (disch := omega) [octroiref02_May_r1, h0]
    refine .to h (.new hb) ?_
    simpa [mayB, h0] using hQ

theorem rless_spec {a b : Nat} {n m : Int} {h : Hp} {Q : Value → Hp → Prop} (hQ : Q (.bool (decide (a < b) || (decide (a = b) && decide (n < m)))) h) :
    Ok Try.prog F_octroiref02_Less #[.agg #[.int .u32 a, .int .i64 n], .agg #[.int .u32 b, .int .i64 m]] h Q := by
  refine octroiref02_Less_ok (by simp) ?_
  unfold octroiref02_Less_D
  simp (disch := omega) [octroiref02_Less_r0]
  intro b1 hb1 b2 hb2
  have hne := upd_none hb2
  by_cases h1 : a < b
  · simp (disch := omega) [octroiref02_Less_r1, hne.1, Ne.symm hne.1, h1]
    exact .to h ((Le.new hb1).trans (.new hb2)) (by simpa [h1] using hQ)
  · by_cases h2 : a = b
    · subst h2
      simp (disch := omega) [octroiref02_Less_r1, hne.1, Ne.symm hne.1]
      exact .to h ((Le.new hb1).trans (.new hb2)) (by simpa using hQ)
    · have h2' : ¬ (a : Int) = (b : Int) := by omega
      simp (disch := omega) [octroiref02_Less_r1, hne.1, Ne.symm hne.1, h1, h2, h2']
      exact .to h ((Le.new hb1).trans (.new hb2)) (by simpa [h1, h2] using hQ)

theorem rhas_spec {a : Nat} {n : Int} {x : Nat} {h : Hp} {Q : Value → Hp → Prop} (ha : a < 2 ^ 32) (hx : x < 2 ^ 32) (hQ : Q (.bool (mayB a n && hasB (a, n.toNat) x)) h) :
    Ok Try.prog F_octroiref02_Has #[.agg #[.int .u32 a, .int .i64 n], .int .u32 x] h Q := by
  refine octroiref02_Has_ok (by simp) ?_
  unfold octroiref02_Has_D
  simp (disch := omega) [octroiref02_Has_r0]
  intro b hb
  simp (disch := omega) [octroiref02_Has_r1]
  have hbb : (h.upd b (.cells #[.int .u32 a, .int .i64 n] 24)) b = some (.cells #[.int .u32 a, .int .i64 n] 24) := by simp
  have l : Le h (h.upd b (.cells #[.int .u32 a, .int .i64 n] 24)) := .new hb
  generalize h.upd b (.cells #[.int .u32 a, .int .i64 n] 24) = g at *
  refine rmay_spec ha ?_
  cases hm : mayB a n with
  | false =>
    simp (disch := omega) [octroiref02_Has_r2, hbb]
    exact .to h l (by simpa [hm] using hQ)
  | true =>
    obtain ⟨h0, h32⟩ := mayB_le hm
    obtain ⟨m, rfl⟩ := Int.eq_ofNat_of_zero_le h0
    simp (disch := omega) [octroiref02_Has_r2, hbb]
    refine rmask_spec (by omega) ?_
    have hand := bits_and_u32 hx (msk_lt m)
    rw [and_msk hx (by omega)] at hand
    have hdec : decide (x / 2 ^ (32 - m) * 2 ^ (32 - m) = a) = hasB (a, m) x := by
      unfold hasB
      have ha2 : a % 2 ^ (32 - m) = 0 := by
        have := (mayB_pok ha hm).1.m
        simpa using this
      have := Nat.div_add_mod a (2 ^ (32 - m))
      rw [ha2, Nat.mul_comm] at this
      rw [Bool.eq_iff_iff]
      simp only [decide_eq_true_eq, beq_iff_eq]
      constructor
      · intro e; rw [← e, Nat.mul_div_cancel _ (Nat.two_pow_pos _)]
      · intro e; rw [e]; omega
    generalize x / 2 ^ (32 - m) * 2 ^ (32 - m) = q at *
    simp (disch := omega) [hand, hbb]
    refine .to h l ?_
    rw [hm] at hQ
    simp only [Int.toNat_natCast, Bool.true_and, ← hdec] at hQ
    rw [cast_eq q a] at hQ
    exact hQ
end Go.Proofs.Ytmbhlbohbpepaaa

/- Whether a route may be: the code's word and the document's. -/
namespace Go.Proofs.Ytmbhlbohbpepaaa
open Go
set_option linter.unusedSimpArgs false
set_option linter.unusedVariables false

def mayR (x : Rt) : Bool := mayB x.a x.l && (decide (0 ≤ x.d) && (decide (x.d < 16) && (decide (0 ≤ x.ds) && (decide (x.ds ≤ 255) && (decide (0 ≤ x.m) && (decide (x.m ≤ 4294967295) && (decide (0 ≤ x.nx) && decide (x.nx ≤ 32))))))))

set_option maxRecDepth 20000 in
set_option maxHeartbeats 2000000 in
theorem mayR_spec {x : Rt} {h : Hp} {Q : Value → Hp → Prop} (hx : x.Good) (hQ : Q (.bool (mayR x)) h) : Ok Try.prog F_rib_may #[rv x] h Q := by
  refine rib_may_ok (by simp) ?_
  unfold rib_may_D
  simp (disch := omega) [rib_may_r0]
  intro b1 hb1
  simp (disch := omega) [rib_may_r1]
  refine may_spec hx.a ?_
  unfold mayR at hQ
  cases c : mayB x.a x.l with
  | false =>
    simp (disch := omega) [c]
    rw [c, Bool.false_and] at hQ
    exact .to _ (.new hb1) hQ
  | true =>
    rw [c, Bool.true_and] at hQ
    by_cases c0 : 0 ≤ x.d
    rotate_left
    · simp (disch := omega) [c, c0]
      rw [show (decide (0 ≤ x.d) && (decide (x.d < 16) && (decide (0 ≤ x.ds) && (decide (x.ds ≤ 255) && (decide (0 ≤ x.m) && (decide (x.m ≤ 4294967295) && (decide (0 ≤ x.nx) && decide (x.nx ≤ 32)))))))) = false by simp [c0]] at hQ
      exact .to _ (.new hb1) hQ
    by_cases c1 : x.d < 16
    rotate_left
    · simp (disch := omega) [c, c0, c1]
      rw [show (decide (0 ≤ x.d) && (decide (x.d < 16) && (decide (0 ≤ x.ds) && (decide (x.ds ≤ 255) && (decide (0 ≤ x.m) && (decide (x.m ≤ 4294967295) && (decide (0 ≤ x.nx) && decide (x.nx ≤ 32)))))))) = false by simp [c1]] at hQ
      exact .to _ (.new hb1) hQ
    by_cases c2 : 0 ≤ x.ds
    rotate_left
    · simp (disch := omega) [c, c0, c1, c2]
      rw [show (decide (0 ≤ x.d) && (decide (x.d < 16) && (decide (0 ≤ x.ds) && (decide (x.ds ≤ 255) && (decide (0 ≤ x.m) && (decide (x.m ≤ 4294967295) && (decide (0 ≤ x.nx) && decide (x.nx ≤ 32)))))))) = false by simp [c2]] at hQ
      exact .to _ (.new hb1) hQ
    by_cases c3 : x.ds ≤ 255
    rotate_left
    · simp (disch := omega) [c, c0, c1, c2, c3]
      rw [show (decide (0 ≤ x.d) && (decide (x.d < 16) && (decide (0 ≤ x.ds) && (decide (x.ds ≤ 255) && (decide (0 ≤ x.m) && (decide (x.m ≤ 4294967295) && (decide (0 ≤ x.nx) && decide (x.nx ≤ 32)))))))) = false by simp [c3]] at hQ
      exact .to _ (.new hb1) hQ
    by_cases c4 : 0 ≤ x.m
    rotate_left
    · simp (disch := omega) [c, c0, c1, c2, c3, c4]
      rw [show (decide (0 ≤ x.d) && (decide (x.d < 16) && (decide (0 ≤ x.ds) && (decide (x.ds ≤ 255) && (decide (0 ≤ x.m) && (decide (x.m ≤ 4294967295) && (decide (0 ≤ x.nx) && decide (x.nx ≤ 32)))))))) = false by simp [c4]] at hQ
      exact .to _ (.new hb1) hQ
    by_cases c5 : x.m ≤ 4294967295
    rotate_left
    · simp (disch := omega) [c, c0, c1, c2, c3, c4, c5]
      rw [show (decide (0 ≤ x.d) && (decide (x.d < 16) && (decide (0 ≤ x.ds) && (decide (x.ds ≤ 255) && (decide (0 ≤ x.m) && (decide (x.m ≤ 4294967295) && (decide (0 ≤ x.nx) && decide (x.nx ≤ 32)))))))) = false by simp [c5]] at hQ
      exact .to _ (.new hb1) hQ
    by_cases c6 : 0 ≤ x.nx
    rotate_left
    · simp (disch := omega) [c, c0, c1, c2, c3, c4, c5, c6]
      rw [show (decide (0 ≤ x.d) && (decide (x.d < 16) && (decide (0 ≤ x.ds) && (decide (x.ds ≤ 255) && (decide (0 ≤ x.m) && (decide (x.m ≤ 4294967295) && (decide (0 ≤ x.nx) && decide (x.nx ≤ 32)))))))) = false by simp [c6]] at hQ
      exact .to _ (.new hb1) hQ
    by_cases c7 : x.nx ≤ 32
    rotate_left
    · simp (disch := omega) [c, c0, c1, c2, c3, c4, c5, c6, c7]
      rw [show (decide (0 ≤ x.d) && (decide (x.d < 16) && (decide (0 ≤ x.ds) && (decide (x.ds ≤ 255) && (decide (0 ≤ x.m) && (decide (x.m ≤ 4294967295) && (decide (0 ≤ x.nx) && decide (x.nx ≤ 32)))))))) = false by simp [c7]] at hQ
      exact .to _ (.new hb1) hQ
    simp (disch := omega) [c, c0, c1, c2, c3, c4, c5, c6, c7]
    rw [show (decide (0 ≤ x.d) && (decide (x.d < 16) && (decide (0 ≤ x.ds) && (decide (x.ds ≤ 255) && (decide (0 ≤ x.m) && (decide (x.m ≤ 4294967295) && (decide (0 ≤ x.nx) && decide (x.nx ≤ 32)))))))) = true by simp [c0, c1, c2, c3, c4, c5, c6, c7]] at hQ
    exact .to _ (.new hb1) hQ

set_option maxRecDepth 20000 in
set_option maxHeartbeats 2000000 in
theorem rmayR_spec {x : Rt} {h : Hp} {Q : Value → Hp → Prop} (hx : x.Good) (hQ : Q (.bool (mayR x)) h) : Ok Try.prog F_octroiref09_May #[rv x] h Q := by
  refine octroiref09_May_ok (by simp) ?_
  unfold octroiref09_May_D
  simp (disch := omega) [octroiref09_May_r0]
  intro b1 hb1
  simp (disch := omega) [octroiref09_May_r1]
  refine rmay_spec hx.a ?_
  unfold mayR at hQ
  cases c : mayB x.a x.l with
  | false =>
    simp (disch := omega) [octroiref09_May_r2, c]
    rw [c, Bool.false_and] at hQ
    exact .to _ (.new hb1) hQ
  | true =>
    rw [c, Bool.true_and] at hQ
    by_cases c0 : 0 ≤ x.d
    rotate_left
    · simp (disch := omega) [octroiref09_May_r2, c, c0]
      rw [show (decide (0 ≤ x.d) && (decide (x.d < 16) && (decide (0 ≤ x.ds) && (decide (x.ds ≤ 255) && (decide (0 ≤ x.m) && (decide (x.m ≤ 4294967295) && (decide (0 ≤ x.nx) && decide (x.nx ≤ 32)))))))) = false by simp [c0]] at hQ
      exact .to _ (.new hb1) hQ
    by_cases c1 : x.d < 16
    rotate_left
    · simp (disch := omega) [octroiref09_May_r2, c, c0, c1]
      rw [show (decide (0 ≤ x.d) && (decide (x.d < 16) && (decide (0 ≤ x.ds) && (decide (x.ds ≤ 255) && (decide (0 ≤ x.m) && (decide (x.m ≤ 4294967295) && (decide (0 ≤ x.nx) && decide (x.nx ≤ 32)))))))) = false by simp [c1]] at hQ
      exact .to _ (.new hb1) hQ
    by_cases c2 : 0 ≤ x.ds
    rotate_left
    · simp (disch := omega) [octroiref09_May_r2, c, c0, c1, c2]
      rw [show (decide (0 ≤ x.d) && (decide (x.d < 16) && (decide (0 ≤ x.ds) && (decide (x.ds ≤ 255) && (decide (0 ≤ x.m) && (decide (x.m ≤ 4294967295) && (decide (0 ≤ x.nx) && decide (x.nx ≤ 32)))))))) = false by simp [c2]] at hQ
      exact .to _ (.new hb1) hQ
    by_cases c3 : x.ds ≤ 255
    rotate_left
    · simp (disch := omega) [octroiref09_May_r2, c, c0, c1, c2, c3]
      rw [show (decide (0 ≤ x.d) && (decide (x.d < 16) && (decide (0 ≤ x.ds) && (decide (x.ds ≤ 255) && (decide (0 ≤ x.m) && (decide (x.m ≤ 4294967295) && (decide (0 ≤ x.nx) && decide (x.nx ≤ 32)))))))) = false by simp [c3]] at hQ
      exact .to _ (.new hb1) hQ
    by_cases c4 : 0 ≤ x.m
    rotate_left
    · simp (disch := omega) [octroiref09_May_r2, c, c0, c1, c2, c3, c4]
      rw [show (decide (0 ≤ x.d) && (decide (x.d < 16) && (decide (0 ≤ x.ds) && (decide (x.ds ≤ 255) && (decide (0 ≤ x.m) && (decide (x.m ≤ 4294967295) && (decide (0 ≤ x.nx) && decide (x.nx ≤ 32)))))))) = false by simp [c4]] at hQ
      exact .to _ (.new hb1) hQ
    by_cases c5 : x.m ≤ 4294967295
    rotate_left
    · simp (disch := omega) [octroiref09_May_r2, c, c0, c1, c2, c3, c4, c5]
      rw [show (decide (0 ≤ x.d) && (decide (x.d < 16) && (decide (0 ≤ x.ds) && (decide (x.ds ≤ 255) && (decide (0 ≤ x.m) && (decide (x.m ≤ 4294967295) && (decide (0 ≤ x.nx) && decide (x.nx ≤ 32)))))))) = false by simp [c5]] at hQ
      exact .to _ (.new hb1) hQ
    by_cases c6 : 0 ≤ x.nx
    rotate_left
    · simp (disch := omega) [octroiref09_May_r2, c, c0, c1, c2, c3, c4, c5, c6]
      rw [show (decide (0 ≤ x.d) && (decide (x.d < 16) && (decide (0 ≤ x.ds) && (decide (x.ds ≤ 255) && (decide (0 ≤ x.m) && (decide (x.m ≤ 4294967295) && (decide (0 ≤ x.nx) && decide (x.nx ≤ 32)))))))) = false by simp [c6]] at hQ
      exact .to _ (.new hb1) hQ
    by_cases c7 : x.nx ≤ 32
    rotate_left
    · simp (disch := omega) [octroiref09_May_r2, c, c0, c1, c2, c3, c4, c5, c6, c7]
      rw [show (decide (0 ≤ x.d) && (decide (x.d < 16) && (decide (0 ≤ x.ds) && (decide (x.ds ≤ 255) && (decide (0 ≤ x.m) && (decide (x.m ≤ 4294967295) && (decide (0 ≤ x.nx) && decide (x.nx ≤ 32)))))))) = false by simp [c7]] at hQ
      exact .to _ (.new hb1) hQ
    simp (disch := omega) [octroiref09_May_r2, c, c0, c1, c2, c3, c4, c5, c6, c7]
    rw [show (decide (0 ≤ x.d) && (decide (x.d < 16) && (decide (0 ≤ x.ds) && (decide (x.ds ≤ 255) && (decide (0 ≤ x.m) && (decide (x.m ≤ 4294967295) && (decide (0 ≤ x.nx) && decide (x.nx ≤ 32)))))))) = true by simp [c0, c1, c2, c3, c4, c5, c6, c7]] at hQ
    exact .to _ (.new hb1) hQ
end Go.Proofs.Ytmbhlbohbpepaaa

/- Maps: taking away, how many, a look at the value alone; lists of pairs. -/
namespace Go.Proofs.Ytmbhlbohbpepaaa
open Go
set_option linter.unusedSimpArgs false
set_option linter.unusedVariables false

def delM {α β : Type} [DecidableEq α] (a : α) : List (α × β) → List (α × β)
  | [] => []
  | x :: xs => if a = x.1 then xs else x :: delM a xs

def Uniq {α β : Type} (m : List (α × β)) : Prop := (m.map (·.1)).Nodup

section
variable {α β : Type} [DecidableEq α]

theorem getM_none {a : α} : ∀ {m : List (α × β)}, getM m a = none ↔ a ∉ m.map (·.1)
  | [] => by simp [getM_nil]
  | x :: xs => by
    rw [getM_cons, List.map_cons, List.mem_cons]
    split
    · rename_i h; simp [h]
    · rename_i h
      rw [getM_none (m := xs)]
      simp [h]

theorem getM_mem {a : α} {v : β} : ∀ {m : List (α × β)}, getM m a = some v → (a, v) ∈ m
  | [], h => by simp [getM_nil] at h
  | x :: xs, h => by
    rw [getM_cons] at h
    split at h
    · rename_i e; simp at h; subst h; subst e; simp
    · exact List.mem_cons_of_mem _ (getM_mem h)

theorem getM_of_mem {a : α} {v : β} : ∀ {m : List (α × β)}, Uniq m → (a, v) ∈ m → getM m a = some v
  | [], _, h => by simp at h
  | x :: xs, u, h => by
    rw [getM_cons]
    unfold Uniq at u
    rw [List.map_cons, List.nodup_cons] at u
    rcases List.mem_cons.1 h with e | e
    · rw [← e]; simp
    · have : a ≠ x.1 := fun q => u.1 (by rw [← q]; exact List.mem_map_of_mem e)
      rw [if_neg this]
      exact getM_of_mem u.2 e

theorem setM_keys {a : α} {v : β} : ∀ {m : List (α × β)}, (setM a v m).map (·.1) = if a ∈ m.map (·.1) then m.map (·.1) else m.map (·.1) ++ [a]
  | [] => by simp [setM]
  | x :: xs => by
    simp only [setM]
    split
    · rename_i e; simp [e]
    · rename_i e
      rw [List.map_cons, setM_keys]
      by_cases h : a ∈ xs.map (·.1)
      · rw [if_pos h, if_pos (by simp only [List.map_cons, List.mem_cons]; exact .inr h)]; rfl
      · rw [if_neg h, if_neg (by simp only [List.map_cons, List.mem_cons, not_or]; exact ⟨e, h⟩)]; rfl

theorem Uniq.set {a : α} {v : β} {m : List (α × β)} (u : Uniq m) : Uniq (setM a v m) := by
  unfold Uniq at *
  rw [setM_keys]
  split
  · exact u
  · rename_i h
    rw [List.nodup_append]
    refine ⟨u, by simp, fun x hx y hy => ?_⟩
    simp at hy; subst hy
    rintro rfl; exact h hx

theorem setM_length {a : α} {v : β} {m : List (α × β)} : (setM a v m).length = if (getM m a).isSome then m.length else m.length + 1 := by
  have := congrArg List.length (setM_keys (a := a) (v := v) (m := m))
  rw [List.length_map] at this
  rw [this]
  by_cases h : a ∈ m.map (·.1)
  · have h2 : getM m a ≠ none := fun q => (getM_none.1 q) h
    rw [if_pos h, if_pos (Option.isSome_iff_ne_none.2 h2), List.length_map]
  · have h2 := getM_none.2 h
    rw [if_neg h, h2]; simp

theorem delM_sub {a : α} : ∀ {m : List (α × β)}, List.Sublist (delM a m) m
  | [] => .slnil
  | x :: xs => by
    simp only [delM]
    split
    · exact List.sublist_cons_self _ _
    · exact List.Sublist.cons_cons _ delM_sub

theorem Uniq.del {a : α} {m : List (α × β)} (u : Uniq m) : Uniq (delM a m) := List.Sublist.nodup (delM_sub.map _) u

theorem getM_delM {a b : α} : ∀ {m : List (α × β)}, Uniq m → getM (delM a m) b = if b = a then none else getM m b
  | [], _ => by simp [delM, getM_nil]
  | x :: xs, u => by
    have u' := u
    unfold Uniq at u
    rw [List.map_cons, List.nodup_cons] at u
    simp only [delM]
    split
    · rename_i e
      by_cases hb : b = a
      · rw [if_pos hb, hb, e]; exact getM_none.2 u.1
      · rw [if_neg hb, getM_cons, if_neg (by rw [← e]; exact hb)]
    · rename_i e
      rw [getM_cons, getM_cons, getM_delM u.2]
      by_cases hb : b = a
      · rw [if_neg (by rw [hb]; exact e), if_pos hb, if_pos hb]
      · rw [if_neg hb]; simp [hb]

theorem delM_length {a : α} : ∀ {m : List (α × β)}, (delM a m).length = if (getM m a).isSome then m.length - 1 else m.length
  | [] => by simp [delM, getM_nil]
  | x :: xs => by
    simp only [delM]
    rw [getM_cons]
    split
    · simp
    · rw [List.length_cons, delM_length]
      cases h : getM xs a with
      | none => simp
      | some v =>
        have := getM_mem h
        have : 0 < xs.length := List.length_pos_of_mem this
        simp; omega
end

section
variable {P : Program} {h : Hp} {α β : Type} [DecidableEq α] {kenc : α → Value} {venc : β → Value}

theorem Ents.length_eq {α β : Type} {kenc : α → Value} {venc : β → Value} {es : List MapEntry} {m : List (α × β)} (H : Ents kenc venc es m) : es.length = m.length := by
  induction H with
  | nil => rfl
  | cons _ _ _ ih => simp [ih]

theorem Ents.erase {es : List MapEntry} {m : List (α × β)} (H : Ents kenc venc es m) {a : α} {v : β} {j : Nat} : findM a m 0 = some (j, v) → Ents kenc venc (es.eraseIdx j) (delM a m) := by
  have key : ∀ (es : List MapEntry) (m : List (α × β)), Ents kenc venc es m → ∀ i j, findM a m i = some (i + j, v) → Ents kenc venc (es.eraseIdx j) (delM a m) := by
    intro es m H
    induction H with
    | nil => intro i j h; cases h
    | @cons e es k v' m h1 h2 h3 ih =>
      intro i j h
      simp only [findM] at h
      split at h
      · rename_i e
        have : j = 0 := by simp only [Option.some.injEq, Prod.mk.injEq] at h; omega
        subst this
        simp only [delM, if_pos e, List.eraseIdx_zero, List.tail_cons]
        exact h3
      · rename_i hne
        have := (findM_some h).1
        obtain ⟨j', rfl⟩ : ∃ j', j = j' + 1 := ⟨j - 1, by omega⟩
        simp only [delM, if_neg hne, List.eraseIdx_cons_succ]
        exact .cons h1 h2 (ih (i + 1) j' (by rw [h]; congr 2; omega))
  intro h
  exact key es m H 0 j (by simpa using h)

theorem delM_none {α β : Type} [DecidableEq α] {a : α} : ∀ {m : List (α × β)}, getM m a = none → delM a m = m
  | [], _ => rfl
  | x :: xs, h => by
    rw [getM_cons] at h
    split at h
    · cases h
    · rename_i e
      simp only [delM, if_neg e]
      rw [delM_none h]

theorem arun_mapDelete {t kt et R : TypeId} {ts : Array TypeId} {r : Nat} {a : α} {m : List (α × β)} {K : Value → Hp → Prop} (ht : ts[0]? = some t) (hu : P.underlying t = some (.map kt et)) (M : MapAt h r kenc venc m)
    (hck : ∀ e, rrun P (Instr.checkKey e 10000 kt (kenc a)) h = some ())
    (hfk : ∀ es : List MapEntry, Ents kenc venc es m → rrun P (Instr.findKey kt (kenc a) es) h = some ((findM a m 0).map fun x => (x.1, venc x.2)))
    (hK : ∀ es clock, Ents kenc venc es.toList (delM a m) → K (.tuple #[]) (h.upd r (.map es clock))) :
    arun P (Builtin.delete_ ts R #[.map (some r), kenc a]) h K := by
  obtain ⟨es, clock, hr, hE⟩ := M
  have set : ∀ o, K (.tuple #[]) (h.upd r o) → arun P (setObj r o >>= fun _ => pure (Value.tuple #[])) h K := fun o hk => ⟨⟨_, hr, rfl⟩, hk⟩
  unfold Builtin.delete_
  rw [ht]
  simp only [List.getElem?_toArray, List.getElem?_cons_zero, List.getElem?_cons_succ]
  rw [arun_bnd_rr (a := .map kt et) (by rw [rr_underlying, hu])]
  simp only [bind_assoc, pure_bind]
  rw [arun_bnd_rr (a := .map es clock) (rr_getObj hr)]
  simp only []
  rw [arun_bnd_rr (a := ()) (hck _), arun_bnd_rr (hfk _ hE)]
  cases hf : findM a m 0 with
  | none =>
    simp only [Option.map_none]
    refine set _ (hK _ _ ?_)
    have : delM a m = m := delM_none (by unfold getM; rw [hf]; rfl)
    rw [this]; exact hE
  | some x =>
    obtain ⟨j, v⟩ := x
    simp only [Option.map_some]
    have hj := (findM_some hf).2
    have hlt : j < es.size := by
      have h1 := (List.getElem?_eq_some_iff.1 hj).1
      have h2 := hE.length_eq
      rw [Array.length_toList] at h2
      omega
    refine set _ (hK _ _ ?_)
    rw [Array.toList_eraseIdxIfInBounds]
    exact hE.erase hf

end

theorem rr_mapLen {P : Program} {h : Hp} {α β : Type} {kenc : α → Value} {venc : β → Value} {t kt et R : TypeId} {ts : Array TypeId} {r : Nat} {m : List (α × β)} (ht : ts[0]? = some t) (hu : P.underlying t = some (.map kt et)) (M : MapAt h r kenc venc m) :
    rrun P (Builtin.len_ ts R #[.map (some r)]) h = some (.int .i64 (m.length : Nat)) := by
  obtain ⟨es, clock, hr, hE⟩ := M
  unfold Builtin.len_
  rw [ht]
  simp only [List.getElem?_toArray, List.getElem?_cons_zero]
  rw [rrun_bnd, rr_underlying, hu, Option.bind_some]
  simp only []
  rw [rrun_bnd, rr_getObj hr, Option.bind_some]
  simp only [rrun_pure]
  rw [← hE.length_eq, Array.length_toList]; rfl

/-! ### Slices as sources -/
theorem SlAt.toSrc {α : Type} {h : Hp} {E sz : Nat} {enc : α → List Value} {v : Value} {xs : List α} (S : SlAt h E sz enc v xs) (hl : ∀ y ∈ xs, (enc y).length = sz ∧ ∀ u ∈ enc y, oneCell u = true) : Src h sz enc v xs := by
  refine ⟨hl, ?_⟩
  rcases S with ⟨rfl, rfl⟩ | ⟨b, cap, c, rfl, hb, h1, h2, h3⟩
  · exact .inl ⟨_, _, rfl, rfl⟩
  · exact .inr ⟨b, 0, cap, c, E, (0, 0), rfl, hb, by have := Nat.mul_le_mul_right sz h1; omega, h3⟩

theorem one_sl {α : Type} {h : Hp} {E sz : Nat} {enc : α → List Value} {b : Nat} {y : α} (hb : h b = some (.cells (enc y).toArray E (0, 0))) (hl : (enc y).length = sz) : SlAt h E sz enc (.slice (some ⟨b, 0, none⟩) 1 1) [y] := by
  refine .inr ⟨b, 1, _, rfl, hb, by simp, by simp [hl], fun i x hx j hj => ?_⟩
  have hi : i = 0 := by have := (List.getElem?_eq_some_iff.1 hx).1; simpa using this
  subst hi
  simp at hx; subst hx
  simp
end Go.Proofs.Ytmbhlbohbpepaaa

/- The table in memory: its map, its trie. -/
namespace Go.Proofs.Ytmbhlbohbpepaaa
open Go
set_option linter.unusedSimpArgs false
set_option linter.unusedVariables false

abbrev RK := (Nat × Int) × Int
def rk (p : RK) : Value := .agg #[.int .u32 (p.1.1 : Nat), .int .i64 p.1.2, .int .i64 p.2]
def rve (x : Rt) : Value := rv x
def Rt.key (x : Rt) : RK := ((x.a, x.l), x.d)

theorem rk_eq {h : Hp} {p q : RK} : rrun Try.prog (Op.equal 65 (rk p) (rk q)) h = some (decide (p = q)) := by
  unfold rk
  rw [keq_59]
  congr 1
  rw [Bool.eq_iff_iff]
  simp only [Bool.and_true, Bool.and_eq_true, decide_eq_true_eq, Prod.ext_iff]
  omega

theorem rk_find {h : Hp} {p : RK} {m : List (RK × Rt)} {es : List MapEntry} (H : Ents rk rve es m) : rrun Try.prog (Instr.findKey 65 (rk p) es) h = some ((findM p m 0).map fun x => (x.1, rve x.2)) :=
  rr_findKey_struct Try.underlying65 (fun q => rk_eq) H

def rz : Rt := ⟨0, 0, 0, 0, 0, 0, 0⟩
theorem rk_look {h : Hp} {r : Nat} {p : RK} {m : List (RK × Rt)} (M : MapAt h r rk rve m) :
    rrun Try.prog (Instr.lookup 59 (.map (some r)) (.agg #[.int .u32 (p.1.1 : Nat), .int .i64 p.1.2, .int .i64 p.2]) true) h = some (.tuple #[rv ((getM m p).getD rz), .bool (getM m p).isSome]) := by
  have := rr_lookup (a := p) (z := rv rz) Try.underlying59 M (fun e => ck_59) (fun es H => rk_find H) (by kernel_rfl)
  unfold rk at this
  rw [this]
  cases getM m p <;> simp [rve]

theorem rk_put {h : Hp} {r : Nat} {a : Nat} {l d : Int} {x : Rt} {m : List (RK × Rt)} {K : Unit → Hp → Prop} (M : MapAt h r rk rve m) (hK : ∀ es clock, Ents rk rve es.toList (setM ((a, l), d) x m) → K () (h.upd r (.map es clock))) :
    arun Try.prog (Instr.mapUpdate 59 (.map (some r)) (.agg #[.int .u32 a, .int .i64 l, .int .i64 d]) (rv x)) h K :=
  arun_mapUpdate (a := ((a, l), d)) (v := x) (kenc := rk) (venc := rve) Try.underlying59 M (fun e => ck_59) (fun es H => rk_find H) sb_59 hK

theorem rk_del {h : Hp} {r : Nat} {a : Nat} {l d : Int} {m : List (RK × Rt)} {K : Value → Hp → Prop} (M : MapAt h r rk rve m) (hK : ∀ es clock, Ents rk rve es.toList (delM ((a, l), d) m) → K (.tuple #[]) (h.upd r (.map es clock))) :
    arun Try.prog (Builtin.delete_ #[59, 65] 0 #[.map (some r), .agg #[.int .u32 a, .int .i64 l, .int .i64 d]]) h K :=
  arun_mapDelete (a := ((a, l), d)) (kenc := rk) (venc := rve) rfl Try.underlying59 M (fun e => ck_59) (fun es H => rk_find H) hK

theorem rk_len {h : Hp} {r : Nat} {m : List (RK × Rt)} {R : TypeId} (M : MapAt h r rk rve m) : rrun Try.prog (Builtin.len_ #[59] R #[.map (some r)]) h = some (.int .i64 (m.length : Nat)) :=
  rr_mapLen (kenc := rk) (venc := rve) rfl Try.underlying59 M
end Go.Proofs.Ytmbhlbohbpepaaa

/- The table's plain law: its map and its trie agree, behind each call. -/
namespace Go.Proofs.Ytmbhlbohbpepaaa
open Go
set_option linter.unusedSimpArgs false
set_option linter.unusedVariables false

def pf (k : RK) : Nat × Nat := (k.1.1, k.1.2.toNat)
def cntP (m : List (RK × Rt)) (p : Nat × Nat) : Nat := (m.map (·.1)).countP fun k => decide (pf k = p)

structure RInv (m : List (RK × Rt)) (T : PL) : Prop where
  uniq : Uniq m
  key : ∀ e ∈ m, e.1 = e.2.key ∧ mayR e.2 = true ∧ e.2.Good
  cnt : ∀ p, getL T p = if cntP m p = 0 then none else some ((cntP m p : Nat) : Int)
  len : m.length ≤ 64
  srt : Srt T

theorem nodup_sub {α : Type} [DecidableEq α] : ∀ {xs ys : List α}, xs.Nodup → (∀ x ∈ xs, x ∈ ys) → xs.length ≤ ys.length
  | [], ys, _, _ => by simp
  | x :: xs, ys, h, s => by
    rw [List.nodup_cons] at h
    have hx := s x (by simp)
    have := nodup_sub (xs := xs) (ys := ys.erase x) h.2 (fun y hy => (List.mem_erase_of_ne (fun e => h.1 (by rw [← e]; exact hy))).2 (s y (by simp [hy])))
    rw [List.length_erase_of_mem hx] at this
    have : 0 < ys.length := List.length_pos_of_mem hx
    simp only [List.length_cons]; omega

theorem Srt.nodup {T : PL} (h : Srt T) : (T.map (·.1)).Nodup := by
  unfold Srt at h
  rw [List.nodup_iff_pairwise_ne, List.pairwise_map]
  exact h.imp (fun {a b} (q : plt a.1 b.1) (e : a.1 = b.1) => plt_irrefl b.1 (by rw [e] at q; exact q))

theorem RInv.tlen {m : List (RK × Rt)} {T : PL} (R : RInv m T) : T.length ≤ m.length := by
  have := nodup_sub (xs := T.map (·.1)) (ys := (m.map (·.1)).map pf) R.srt.nodup (fun p hp => by
    obtain ⟨⟨p', k⟩, hm, rfl⟩ := List.mem_map.1 hp
    have h1 := getL_of_mem R.srt hm
    rw [R.cnt] at h1
    have h2 : cntP m p' ≠ 0 := by intro e; rw [if_pos e] at h1; cases h1
    unfold cntP at h2
    have h3 : 0 < (m.map (·.1)).countP fun k => decide (pf k = p') := by omega
    obtain ⟨k', hk, e⟩ := List.countP_pos_iff.1 h3
    exact List.mem_map.2 ⟨k', hk, by simpa using e⟩)
  simpa using this

theorem cnt_set {m : List (RK × Rt)} {k : RK} {x : Rt} {p : Nat × Nat} : cntP (setM k x m) p = if (getM m k).isSome then cntP m p else cntP m p + (if pf k = p then 1 else 0) := by
  unfold cntP
  rw [setM_keys]
  by_cases h : k ∈ m.map (·.1)
  · have h2 : getM m k ≠ none := fun q => (getM_none.1 q) h
    rw [if_pos h, if_pos (Option.isSome_iff_ne_none.2 h2)]
  · rw [if_neg h, getM_none.2 h, List.countP_append]
    by_cases hp : pf k = p <;> simp [hp]

theorem cnt_del {k : RK} {p : Nat × Nat} : ∀ {m : List (RK × Rt)}, getM m k ≠ none → cntP m p = cntP (delM k m) p + (if pf k = p then 1 else 0)
  | [], h => by simp [getM_nil] at h
  | x :: xs, h => by
    rw [getM_cons] at h
    simp only [delM]
    by_cases e : k = x.1
    · rw [if_pos e]
      unfold cntP
      rw [List.map_cons, List.countP_cons, ← e]
      by_cases hp : pf k = p <;> simp [hp]
    · rw [if_neg e]
      rw [if_neg e] at h
      have := cnt_del (p := p) h
      unfold cntP at *
      rw [List.map_cons, List.map_cons, List.countP_cons, List.countP_cons, this]
      omega

theorem cnt_pos {m : List (RK × Rt)} {k : RK} (h : getM m k ≠ none) : 0 < cntP m (pf k) := by
  rw [cnt_del h, if_pos rfl]; omega

theorem mayR_mayB {x : Rt} (h : mayR x = true) : mayB x.a x.l = true := by
  unfold mayR at h
  simp only [Bool.and_eq_true] at h
  exact h.1

/-- A new route's prefix is counted. -/
theorem RInv.add {m : List (RK × Rt)} {T : PL} {x : Rt} (R : RInv m T) (hm : mayR x = true) (hg : x.Good) (hn : getM m x.key = none) (hl : m.length < 64) :
    RInv (setM x.key x m) (putR 64 T x.a x.l ((getR T x.a x.l).getD 0 + 1)).2 := by
  have hb := mayR_mayB hm
  have hpf : pf x.key = (x.a, x.l.toNat) := rfl
  have hgr : getR T x.a x.l = getL T (pf x.key) := by unfold getR; rw [if_pos hb]; rfl
  have htl := R.tlen
  have hkey : ∀ e ∈ setM x.key x m, e.1 = e.2.key ∧ mayR e.2 = true ∧ e.2.Good := by
    intro e he
    have := getM_of_mem R.uniq.set he
    rw [getM_setM] at this
    split at this
    · rename_i q; simp at this; rw [← this, q]; exact ⟨rfl, hm, hg⟩
    · exact R.key _ (getM_mem this)
  have hlen : (setM x.key x m).length ≤ 64 := by rw [setM_length, hn]; simp; omega
  have base : ∀ q, (if q = pf x.key then some ((getL T (pf x.key)).getD 0 + 1) else getL T q) = if cntP (setM x.key x m) q = 0 then none else some ((cntP (setM x.key x m) q : Nat) : Int) := by
    intro q
    rw [cnt_set, hn]
    simp only [Option.isSome_none, Bool.false_eq_true, if_false]
    by_cases hq : q = pf x.key
    · rw [if_pos hq, if_pos hq.symm, hq, if_neg (by omega), R.cnt]
      split
      · rename_i h0; rw [h0]; rfl
      · simp
    · have hq' : ¬ pf x.key = q := fun e => hq e.symm
      rw [if_neg hq, if_neg hq', R.cnt]; rfl
  unfold putR
  rw [if_pos hb, ← hpf, hgr]
  cases hL : getL T (pf x.key) with
  | none =>
    simp only [Option.isSome_none, Bool.false_eq_true, if_false]
    rw [if_neg (by omega)]
    refine ⟨R.uniq.set, hkey, fun q => ?_, hlen, insL_srt R.srt _ hL⟩
    rw [getL_insL _ _ _ _ hL, ← base q, hL]
  | some n =>
    simp only [Option.isSome_some, if_true]
    refine ⟨R.uniq.set, hkey, fun q => ?_, hlen, setL_srt R.srt _ _⟩
    rw [getL_setL _ _ _ _ (by rw [hL]; simp), ← base q, hL]

/-- A route takes its own place's. -/
theorem RInv.swap {m : List (RK × Rt)} {T : PL} {x : Rt} (R : RInv m T) (hm : mayR x = true) (hg : x.Good) (hn : getM m x.key ≠ none) : RInv (setM x.key x m) T := by
  have hs := Option.isSome_iff_ne_none.2 hn
  refine ⟨R.uniq.set, fun e he => ?_, fun p => ?_, ?_, R.srt⟩
  · have := getM_of_mem R.uniq.set he
    rw [getM_setM] at this
    split at this
    · rename_i q; simp at this; rw [← this, q]; exact ⟨rfl, hm, hg⟩
    · exact R.key _ (getM_mem this)
  · rw [cnt_set, if_pos hs]; exact R.cnt p
  · rw [setM_length, if_pos hs]; exact R.len

/-- One that goes is counted no more. -/
theorem RInv.del {m : List (RK × Rt)} {T : PL} {k : RK} (R : RInv m T) (hn : getM m k ≠ none) :
    RInv (delM k m) (if (getR T k.1.1 k.1.2).getD 0 > 1 then (putR 64 T k.1.1 k.1.2 ((getR T k.1.1 k.1.2).getD 0 - 1)).2 else (takeR T k.1.1 k.1.2).2) := by
  obtain ⟨x, hx⟩ := Option.ne_none_iff_exists'.1 hn
  obtain ⟨hk, hm, hg⟩ := R.key _ (getM_mem hx)
  simp only at hk hm hg
  have hb : mayB k.1.1 k.1.2 = true := by rw [hk]; exact mayR_mayB hm
  have hpf : pf k = (k.1.1, k.1.2.toNat) := rfl
  have hgr : getR T k.1.1 k.1.2 = getL T (pf k) := by unfold getR; rw [if_pos hb]; rfl
  have hc := cnt_pos hn
  have hL : getL T (pf k) = some ((cntP m (pf k) : Nat) : Int) := by rw [R.cnt, if_neg (by omega)]
  have hkey : ∀ e ∈ delM k m, e.1 = e.2.key ∧ mayR e.2 = true ∧ e.2.Good := fun e he => R.key e (delM_sub.subset he)
  have hlen : (delM k m).length ≤ 64 := Nat.le_trans delM_sub.length_le R.len
  have hcd : ∀ q, cntP m q = cntP (delM k m) q + (if pf k = q then 1 else 0) := fun q => cnt_del hn
  rw [hgr, hL]
  simp only [Option.getD_some]
  by_cases h1 : ((cntP m (pf k) : Nat) : Int) > 1
  · rw [if_pos h1]
    unfold putR
    rw [if_pos hb, ← hpf, hL]
    simp only [Option.isSome_some, if_true]
    refine ⟨R.uniq.del, hkey, fun q => ?_, hlen, setL_srt R.srt _ _⟩
    rw [getL_setL _ _ _ _ (by rw [hL]; simp)]
    have := hcd q
    by_cases hq : q = pf k
    · rw [if_pos hq, if_neg (by rw [hq] at this ⊢; rw [if_pos rfl] at this; omega)]
      rw [hq] at this ⊢; rw [if_pos rfl] at this; congr 1; omega
    · rw [if_neg hq, R.cnt]
      rw [if_neg (fun e => hq e.symm)] at this
      rw [this]; rfl
  · rw [if_neg h1]
    unfold takeR
    rw [hgr, hL, ← hpf]
    simp only [Option.isSome_some, if_true]
    refine ⟨R.uniq.del, hkey, fun q => ?_, hlen, R.srt.sublist (delL_sub T _)⟩
    rw [getL_delL R.srt]
    have := hcd q
    by_cases hq : q = pf k
    · rw [if_pos hq, if_pos (by rw [hq] at this ⊢; rw [if_pos rfl] at this; omega)]
    · rw [if_neg hq, R.cnt]
      rw [if_neg (fun e => hq e.symm)] at this
      rw [this]; rfl
end Go.Proofs.Ytmbhlbohbpepaaa

/- The table's calls: New, Put, Take, Refused. -/
namespace Go.Proofs.Ytmbhlbohbpepaaa
open Go
set_option linter.unusedSimpArgs false
set_option linter.unusedVariables false

/-- A table in memory: its bound, how many were refused, its routes, its prefixes, how much it has been written; the blocks that are its own. -/
def RibM (h : Hp) (r : Nat) (most rf : Int) (m : List (RK × Rt)) (T : PL) (k : Nat) (O : List Nat) : Prop :=
  ∃ mr t nb N, h r = some (.cells #[.int .i64 most, .int .i64 rf, .map (some mr), .pointer (some ⟨t, 0, none⟩)] 63 (0, 0)) ∧ MapAt h mr rk rve m ∧ TrieM h t nb 64 T N ∧ N ≤ 1 + 32 * k ∧ 0 ≤ rf ∧ rf ≤ k ∧ O = [r, mr, t, nb] ∧ most ≤ 64 ∧ RInv m T

theorem TrieM.cells {h : Hp} {t nb : Nat} {most : Int} {T : PL} {N : Nat} (M : TrieM h t nb most T N) : (∃ c, h t = some (.cells c 82 (0, 0))) ∧ ∃ c, h nb = some (.cells c 87 (0, 0)) := by
  obtain ⟨ns, cap, c, A, _⟩ := M
  exact ⟨⟨_, A.t⟩, ⟨_, A.nb⟩⟩

theorem TrieM.srt' {h : Hp} {t nb : Nat} {most : Int} {L : PL} {N : Nat} (M : TrieM h t nb most L N) : Srt L ∧ ∀ x ∈ L, Pok x.1 := by
  obtain ⟨ns, cap, c, T, R, _⟩ := M; exact ⟨R.srt, R.pok⟩

structure RibNe (h : Hp) (r mr t nb : Nat) : Prop where
  rm : r ≠ mr
  rt : r ≠ t
  rn : r ≠ nb
  mt : mr ≠ t
  mn : mr ≠ nb
  tn : t ≠ nb

theorem ribNe {h : Hp} {r mr t nb : Nat} {c : Array Value} {m : List (RK × Rt)} {most : Int} {T : PL} {N : Nat} (hr : h r = some (.cells c 63 (0, 0))) (hm : MapAt h mr rk rve m) (M : TrieM h t nb most T N) : RibNe h r mr t nb := by
  obtain ⟨es, cl, em, _⟩ := hm
  obtain ⟨⟨c1, e1⟩, ⟨c2, e2⟩⟩ := M.cells
  refine ⟨?_, ?_, ?_, ?_, ?_, M.ne⟩ <;> intro q <;> subst q
  · rw [hr] at em; cases em
  · rw [hr] at e1; cases e1
  · rw [hr] at e2; cases e2
  · rw [em] at e1; cases e1
  · rw [em] at e2; cases e2

theorem RibM.keep {h h' : Hp} {r : Nat} {most rf : Int} {m : List (RK × Rt)} {T : PL} {k : Nat} {O : List Nat} (M : RibM h r most rf m T k O) (l : ∀ x o, x ∈ O → h x = some o → h' x = some o) : RibM h' r most rf m T k O := by
  obtain ⟨mr, t, nb, N, hr, ⟨es, cl, em, hE⟩, hT, hN, h0, hk, rfl, hmo, R⟩ := M
  exact ⟨mr, t, nb, N, l _ _ (by simp) hr, ⟨es, cl, l _ _ (by simp) em, hE⟩, hT.mono (fun o e => l _ _ (by simp) e) (fun o e => l _ _ (by simp) e) (Nat.le_refl _), hN, h0, hk, rfl, hmo, R⟩

theorem RibM.le {h h' : Hp} {r : Nat} {most rf : Int} {m : List (RK × Rt)} {T : PL} {k : Nat} {O : List Nat} (M : RibM h r most rf m T k O) (l : Le h h') : RibM h' r most rf m T k O := M.keep fun _ _ _ e => l _ _ e

theorem RibM.alive {h : Hp} {r : Nat} {most rf : Int} {m : List (RK × Rt)} {T : PL} {k : Nat} {O : List Nat} (M : RibM h r most rf m T k O) : ∀ x, x ∈ O → ∃ o, h x = some o := by
  obtain ⟨mr, t, nb, N, hr, ⟨es, cl, em, hE⟩, hT, hN, h0, hk, rfl, hmo, R⟩ := M
  obtain ⟨⟨c1, e1⟩, ⟨c2, e2⟩⟩ := hT.cells
  intro x hx
  simp only [List.mem_cons, List.not_mem_nil, or_false] at hx
  rcases hx with rfl | rfl | rfl | rfl
  · exact ⟨_, hr⟩
  · exact ⟨_, em⟩
  · exact ⟨_, e1⟩
  · exact ⟨_, e2⟩

theorem RibM.inv {h : Hp} {r : Nat} {most rf : Int} {m : List (RK × Rt)} {T : PL} {k : Nat} {O : List Nat} (M : RibM h r most rf m T k O) : RInv m T := by
  obtain ⟨mr, t, nb, N, hr, ⟨es, cl, em, hE⟩, hT, hN, h0, hk, rfl, hmo, R⟩ := M
  exact R

section
variable {h : Hp} {r : Nat} {most rf : Int} {m : List (RK × Rt)} {T : PL} {k : Nat} {O : List Nat} {Q : Value → Hp → Prop}

theorem rnewM (hQ : ∀ r h' O, Le h h' → (∀ x, x ∈ O → h x = none) → RibM h' r (min most 64) 0 [] [] 0 O → Q (.pointer (some ⟨r, 0, none⟩)) h') : Ok Try.prog F_rib_New #[.int .i64 most] h Q := by
  refine rib_New_ok (by simp) ?_
  unfold rib_New_D
  simp (disch := omega) [rib_New_r0, rib_New_r1]
  refine arun_makeMap (fun b hb => ?_)
  have l1 : Le h (h.upd b (.map #[] 0)) := .new hb
  have eb : (h.upd b (.map #[] 0)) b = some (.map #[] 0) := upd_same
  generalize h.upd b (.map #[] 0) = g1 at *
  refine tNewM (fun t nb g2 ht hnb l2 M2 => ?_)
  have eb2 := l2 _ _ eb
  simp (disch := omega)
  intro r hr
  have l3 := Le.new (o := .cells #[.int .i64 (min most 64), .int .i64 0, .map (some b), .pointer (some ⟨t, 0, none⟩)] 63) hr
  refine .to _ (.refl _) (hQ r _ [r, b, t, nb] ((l1.trans l2).trans l3) ?_ ⟨b, t, nb, 1, upd_same, ⟨#[], 0, l3 _ _ eb2, .nil⟩, M2.le l3 (Nat.le_refl _), by omega, by omega, by omega, rfl, by omega, ⟨by simp [Uniq], by simp, fun p => by simp [cntP, getL], by simp, by simp [Srt]⟩⟩)
  intro x hx
  simp only [List.mem_cons, List.not_mem_nil, or_false] at hx
  rcases hx with rfl | rfl | rfl | rfl
  · exact none_of_le (l1.trans l2) hr
  · exact hb
  · exact none_of_le l1 ht
  · exact none_of_le l1 hnb

theorem rrefM (M : RibM h r most rf m T k O) (hQ : Q (.int .i64 rf) h) : Ok Try.prog F_rib_Rib_Refused #[.pointer (some ⟨r, 0, none⟩)] h Q := by
  obtain ⟨mr, t, nb, N, hr, _⟩ := M
  refine rib_Rib_Refused_ok (by simp) ?_
  unfold rib_Rib_Refused_D
  simp (disch := omega) [rib_Rib_Refused_r0, rib_Rib_Refused_r1, hr]
  exact .to _ (.refl _) hQ
end
end Go.Proofs.Ytmbhlbohbpepaaa

/- The table's Put. -/
namespace Go.Proofs.Ytmbhlbohbpepaaa
open Go
set_option linter.unusedSimpArgs false
set_option linter.unusedVariables false

def putS (most rf : Int) (m : List (RK × Rt)) (x : Rt) : Int × Int × List (RK × Rt) :=
  if mayR x = false then (1, rf, m) else if getM m x.key = none ∧ most ≤ (m.length : Int) then (4, rf + 1, m) else (0, rf, setM x.key x m)

theorem RibM.more {h : Hp} {r : Nat} {most rf : Int} {m : List (RK × Rt)} {T : PL} {k k' : Nat} {O : List Nat} (M : RibM h r most rf m T k O) (hk : k ≤ k') : RibM h r most rf m T k' O := by
  obtain ⟨mr, t, nb, N, hr, hm, hT, hN, h0, hk, rfl, hmo, R⟩ := M
  exact ⟨mr, t, nb, N, hr, hm, hT, by omega, h0, by omega, rfl, hmo, R⟩

abbrev rcl (x : Rt) : Obj := .cells #[.int .u32 (x.a : Nat), .int .i64 x.l, .int .i64 x.d, .int .i64 x.ds, .int .i64 x.m, .int .i64 x.nx, .int .u16 (x.tg : Nat)] 27

section
variable {h : Hp} {r : Nat} {most rf : Int} {m : List (RK × Rt)} {T : PL} {k : Nat} {O : List Nat} {x : Rt} {Q : Value → Hp → Prop}

/-- The last step of Put: the route is put into the map. -/
theorem rput_end {mr t nb N : Nat} {T' : PL} (hr : h r = some (.cells #[.int .i64 most, .int .i64 rf, .map (some mr), .pointer (some ⟨t, 0, none⟩)] 63 (0, 0))) (hm : MapAt h mr rk rve m) (hT : TrieM h t nb 64 T' N) (hN : N ≤ 1 + 32 * k) (h0 : 0 ≤ rf) (h1 : rf ≤ k) (hmo : most ≤ 64)
    (R : RInv (setM x.key x m) T') (es : Array MapEntry) (cl : Nat) (hE : Ents rk rve es.toList (setM x.key x m)) : Fr h (h.upd mr (.map es cl)) [r, mr, t, nb] [r, mr, t, nb] ∧ RibM (h.upd mr (.map es cl)) r most rf (setM x.key x m) T' k [r, mr, t, nb] := by
  have ne := ribNe hr hm hT
  refine ⟨.upd (by simp), mr, t, nb, N, ?_, ⟨es, cl, upd_same, hE⟩, hT.mono (fun o e => ?_) (fun o e => ?_) (Nat.le_refl _), hN, h0, h1, rfl, hmo, R⟩
  · rw [upd_ne ne.rm]; exact hr
  · rw [upd_ne (Ne.symm ne.mt)]; exact e
  · rw [upd_ne (Ne.symm ne.mn)]; exact e

theorem Chg.fr {h h' : Hp} {t nb nb' r mr : Nat} (C : Chg h h' t nb nb') : Fr h h' [r, mr, t, nb] [r, mr, t, nb'] := by
  refine ⟨fun x o e n => ?_, fun x e => ?_⟩
  · simp only [List.mem_cons, List.not_mem_nil, or_false, not_or] at n
    exact C.keep x o e n.2.2.1 n.2.2.2
  · simp only [List.mem_cons, List.not_mem_nil, or_false] at e ⊢
    rcases e with e | e | e | e
    · exact .inl (.inl e)
    · exact .inl (.inr (.inl e))
    · exact .inl (.inr (.inr (.inl e)))
    · rcases C.fresh with q | q
      · exact .inl (.inr (.inr (.inr (by rw [e, q]))))
      · exact .inr (by rw [e]; exact q)

set_option maxRecDepth 20000 in
set_option maxHeartbeats 2000000 in
theorem rputM (M : RibM h r most rf m T k O) (hx : x.Good) (hk : k ≤ 30000)
    (hQ : ∀ h' O' T', Fr h h' O O' → RibM h' r most (putS most rf m x).2.1 (putS most rf m x).2.2 T' (k + 1) O' → Q (.int .i64 (putS most rf m x).1) h') : Ok Try.prog F_rib_Rib_Put #[.pointer (some ⟨r, 0, none⟩), rv x] h Q := by
  refine rib_Rib_Put_ok (by simp) ?_
  unfold rib_Rib_Put_D
  simp (disch := omega) [rib_Rib_Put_r0]
  intro b3 hb3
  have L1 : Le h (h.upd b3 (rcl x)) := .new hb3
  have f3 : (h.upd b3 (rcl x)) b3 = some (rcl x) := upd_same
  generalize h.upd b3 (rcl x) = g1 at *
  simp (disch := omega) [rib_Rib_Put_r1, f3]
  intro b5 hb5
  simp (disch := omega)
  have L2 := Le.new (o := .cells #[.int .u32 (x.a : Nat), .int .i64 x.l, .int .i64 x.d] 65) hb5
  have f5 : (g1.upd b5 (.cells #[.int .u32 (x.a : Nat), .int .i64 x.l, .int .i64 x.d] 65)) b5 = some (.cells #[.int .u32 (x.a : Nat), .int .i64 x.l, .int .i64 x.d] 65) := upd_same
  replace f3 := L2 _ _ f3
  have L12 := L1.trans L2
  have o3 : b3 ∉ O := fun q => by obtain ⟨o, e⟩ := M.alive _ q; rw [hb3] at e; cases e
  have o5 : b5 ∉ O := fun q => by obtain ⟨o, e⟩ := (M.le L1).alive _ q; rw [hb5] at e; cases e
  clear L1 L2 hb5
  generalize g1.upd b5 (.cells #[.int .u32 (x.a : Nat), .int .i64 x.l, .int .i64 x.d] 65) = g2 at *
  obtain ⟨mr, t, nb, N, hr, hm, hT, hN, h0, h1, hO, hmo, R⟩ := M.le L12
  obtain ⟨y, hy⟩ : ∃ y, y = (getM m x.key).getD rz := ⟨_, rfl⟩
  obtain ⟨s, hs⟩ : ∃ s, s = (getM m x.key).isSome := ⟨_, rfl⟩
  have lk := fun h M => rk_look (p := x.key) (h := h) (r := mr) (m := m) M
  rw [← hy, ← hs] at lk
  simp only [Rt.key] at lk
  have lk2 := lk _ hm
  simp (disch := omega) [rib_Rib_Put_r2, hr, f5, lk2]
  intro b6 hb6
  have lk6 := lk (g2.upd b6 (.cells #[.int .u32 0, .int .i64 0, .int .i64 0, .int .i64 0, .int .i64 0, .int .i64 0, .int .u16 0] 27)) (by
    obtain ⟨es, cl, em, hE⟩ := hm
    exact ⟨es, cl, by rw [upd_ne (ne_new em hb6)]; exact em, hE⟩)
  have n5 : b5 ≠ b6 := ne_new f5 hb6
  have n3 : b3 ≠ b6 := ne_new f3 hb6
  have nr : r ≠ b6 := ne_new hr hb6
  simp (disch := omega) [lk6, hr, f5, n5, nr]
  clear lk6 lk lk2
  have L3 := Le.new (o := rcl y) hb6
  replace f3 := L3 _ _ f3
  replace f5 := L3 _ _ f5
  have L := L12.trans L3
  clear L12 L3 hr hm hT hb6 nr n5 n3
  generalize g2.upd b6 (rcl y) = g3 at *
  have M3 := M.le L
  have M3' := M3
  obtain ⟨mr', t', nb', N', hr, hm, hT, hN', _, _, hO', _, _⟩ := M3'
  rw [hO] at hO'
  simp only [List.cons.injEq, true_and, and_true] at hO'
  obtain ⟨rfl, rfl, rfl⟩ := hO'
  have al := M3.alive
  rw [hO] at al hQ o3 o5
  have ne := ribNe hr hm hT
  simp (disch := omega) [rib_Rib_Put_r3, f3]
  refine mayR_spec hx ?_
  by_cases hmay : mayR x = false
  · have e : putS most rf m x = (1, rf, m) := by unfold putS; rw [if_pos hmay]
    rw [e] at hQ
    simp only [] at hQ
    simp (disch := omega) [rib_Rib_Put_r4, hmay]
    exact .to _ (.refl _) (hQ _ _ T (.of_le L fun _ q => .inl q) (by rw [← hO]; exact M3.more (by omega)))
  have hmay' : mayR x = true := by simpa using hmay
  have ml := rk_len (R := 3) hm
  simp (disch := omega) [hmay']
  have hlen := R.len
  cases s with
  | true =>
    have hsm : getM m x.key ≠ none := Option.isSome_iff_ne_none.1 hs.symm
    have e : putS most rf m x = (0, rf, setM x.key x m) := by unfold putS; rw [hmay', if_neg (by simp), if_neg (fun q => hsm q.1)]
    rw [e] at hQ
    simp only [] at hQ
    simp (disch := omega) [rib_Rib_Put_r5, rib_Rib_Put_r8]
    simp (disch := omega) [rib_Rib_Put_r11, rib_Rib_Put_r12, hr, f3, f5]
    refine rk_put hm (fun es cl hE => ?_)
    obtain ⟨F, M'⟩ := rput_end (x := x) (k := k + 1) hr hm hT (by omega) h0 (by omega) hmo (R.swap hmay' hx hsm) es cl hE
    exact .to _ (.refl _) (hQ _ _ _ ((Fr.of_le L fun _ q => .inl q).trans F) M')
  | false =>
    have hsm : getM m x.key = none := Option.not_isSome_iff_eq_none.1 (by rw [← hs]; simp)
    by_cases hfull : most ≤ (m.length : Int)
    · have e : putS most rf m x = (4, rf + 1, m) := by unfold putS; rw [hmay', if_neg (by simp), if_pos ⟨hsm, hfull⟩]
      rw [e] at hQ
      simp only [] at hQ
      simp (disch := omega) [rib_Rib_Put_r5, hr, ml, hfull]
      simp (disch := omega) [rib_Rib_Put_r6, rib_Rib_Put_r7, hr, wrap_i64]
      refine .to _ (.refl _) (hQ _ _ T ((Fr.of_le L fun _ q => .inl q).trans (.upd (by simp))) ⟨mr, t, nb, N', upd_same, ?_, hT.mono (fun o e => ?_) (fun o e => ?_) (Nat.le_refl _), by omega, by omega, by omega, rfl, hmo, R⟩)
      · obtain ⟨es, cl, em, hE⟩ := hm
        exact ⟨es, cl, by rw [upd_ne (Ne.symm ne.rm)]; exact em, hE⟩
      · rw [upd_ne (Ne.symm ne.rt)]; exact e
      · rw [upd_ne (Ne.symm ne.rn)]; exact e
    · have e : putS most rf m x = (0, rf, setM x.key x m) := by unfold putS; rw [hmay', if_neg (by simp), if_neg (fun q => hfull q.2)]
      rw [e] at hQ
      simp only [] at hQ
      have hfull' : ¬ most ≤ (m.length : Int) := hfull
      simp (disch := omega) [rib_Rib_Put_r5, hr, ml, hfull]
      simp (disch := omega) [rib_Rib_Put_r8]
      simp (disch := omega) [rib_Rib_Put_r9, hr, f3]
      refine tGetM hT hx.a ?_
      simp (disch := omega)
      have hadd := R.add hmay' hx hsm (by omega)
      have hcn : (getR T x.a x.l).getD 0 ≤ 64 ∧ 0 ≤ (getR T x.a x.l).getD 0 := by
        have hgr : getR T x.a x.l = getL T (pf x.key) := by unfold getR; rw [if_pos (mayR_mayB hmay')]; rfl
        rw [hgr, R.cnt]
        have : cntP m (pf x.key) ≤ m.length := by unfold cntP; have := List.countP_le_length (p := fun k => decide (pf k = pf x.key)) (l := m.map (·.1)); simpa using this
        split <;> simp <;> omega
      generalize (getR T x.a x.l).getD 0 = n at *
      simp (disch := omega) [rib_Rib_Put_r10, hr, f3, wrap_i64]
      refine tPutM hT hx.a (by omega) (fun g4 nb4 C4 T4 => ?_)
      have F4 : Fr g3 g4 [r, mr, t, nb] [r, mr, t, nb4] := C4.fr
      have hr4 := C4.keep _ _ hr ne.rt ne.rn
      have hm4 : MapAt g4 mr rk rve m := by
        obtain ⟨es, cl, em, hE⟩ := hm
        exact ⟨es, cl, C4.keep _ _ em ne.mt ne.mn, hE⟩
      have f34 := F4.keep _ _ f3 o3
      have f54 := F4.keep _ _ f5 o5
      simp (disch := omega) [rib_Rib_Put_r11, rib_Rib_Put_r12, hr4, f34, f54]
      refine rk_put hm4 (fun es cl hE => ?_)
      obtain ⟨F, M'⟩ := rput_end (x := x) (k := k + 1) hr4 hm4 T4 (by omega) h0 (by omega) hmo hadd es cl hE
      exact .to _ (.refl _) (hQ _ _ _ (((Fr.of_le L fun _ q => .inl q).trans F4).trans F) M')
end
end Go.Proofs.Ytmbhlbohbpepaaa

/- The table's Take. -/
namespace Go.Proofs.Ytmbhlbohbpepaaa
open Go
set_option linter.unusedSimpArgs false
set_option linter.unusedVariables false

section
variable {h : Hp} {r : Nat} {most rf : Int} {m : List (RK × Rt)} {T : PL} {k : Nat} {O : List Nat} {a : Nat} {l d : Int} {Q : Value → Hp → Prop}

set_option maxRecDepth 20000 in
set_option maxHeartbeats 2000000 in
theorem rtakeM (M : RibM h r most rf m T k O) (ha : a < 2 ^ 32) (hk : k ≤ 30000)
    (hQ5 : getM m ((a, l), d) = none → ∀ h', Le h h' → RibM h' r most rf m T k O → Q (.int .i64 5) h')
    (hQ0 : getM m ((a, l), d) ≠ none → ∀ h' O' T', Fr h h' O O' → RibM h' r most rf (delM ((a, l), d) m) T' (k + 1) O' → Q (.int .i64 0) h') :
    Ok Try.prog F_rib_Rib_Take #[.pointer (some ⟨r, 0, none⟩), .agg #[.int .u32 (a : Nat), .int .i64 l], .int .i64 d] h Q := by
  refine rib_Rib_Take_ok (by simp) ?_
  unfold rib_Rib_Take_D
  simp (disch := omega) [rib_Rib_Take_r0]
  intro b4 hb4
  have L1 : Le h (h.upd b4 (.cells #[.int .u32 (a : Nat), .int .i64 l] 24)) := .new hb4
  have f4 : (h.upd b4 (.cells #[.int .u32 (a : Nat), .int .i64 l] 24)) b4 = some (.cells #[.int .u32 (a : Nat), .int .i64 l] 24) := upd_same
  generalize h.upd b4 (.cells #[.int .u32 (a : Nat), .int .i64 l] 24) = g1 at *
  simp (disch := omega) [rib_Rib_Take_r1, f4]
  intro b7 hb7
  simp (disch := omega)
  have L2 := Le.new (o := .cells #[.int .u32 (a : Nat), .int .i64 l, .int .i64 d] 65) hb7
  have f7 : (g1.upd b7 (.cells #[.int .u32 (a : Nat), .int .i64 l, .int .i64 d] 65)) b7 = some (.cells #[.int .u32 (a : Nat), .int .i64 l, .int .i64 d] 65) := upd_same
  replace f4 := L2 _ _ f4
  have L12 := L1.trans L2
  have o4 : b4 ∉ O := fun q => by obtain ⟨o, e⟩ := M.alive _ q; rw [hb4] at e; cases e
  have o7 : b7 ∉ O := fun q => by obtain ⟨o, e⟩ := (M.le L1).alive _ q; rw [hb7] at e; cases e
  clear L1 L2 hb7
  generalize g1.upd b7 (.cells #[.int .u32 (a : Nat), .int .i64 l, .int .i64 d] 65) = g2 at *
  obtain ⟨mr, t, nb, N, hr, hm, hT, hN, h0, h1, hO, hmo, R⟩ := M.le L12
  obtain ⟨y, hy⟩ : ∃ y, y = (getM m ((a, l), d)).getD rz := ⟨_, rfl⟩
  obtain ⟨s, hs⟩ : ∃ s, s = (getM m ((a, l), d)).isSome := ⟨_, rfl⟩
  have lk := fun h M => rk_look (p := ((a, l), d)) (h := h) (r := mr) (m := m) M
  rw [← hy, ← hs] at lk
  simp only [] at lk
  have lk2 := lk _ hm
  simp (disch := omega) [rib_Rib_Take_r2, hr, f7, lk2]
  intro b6 hb6
  have lk6 := lk (g2.upd b6 (.cells #[.int .u32 0, .int .i64 0, .int .i64 0, .int .i64 0, .int .i64 0, .int .i64 0, .int .u16 0] 27)) (by
    obtain ⟨es, cl, em, hE⟩ := hm
    exact ⟨es, cl, by rw [upd_ne (ne_new em hb6)]; exact em, hE⟩)
  have n7 : b7 ≠ b6 := ne_new f7 hb6
  have n4 : b4 ≠ b6 := ne_new f4 hb6
  have nr : r ≠ b6 := ne_new hr hb6
  simp (disch := omega) [lk6, hr, f7, n7, nr]
  clear lk6 lk lk2
  have L3 := Le.new (o := rcl y) hb6
  replace f4 := L3 _ _ f4
  replace f7 := L3 _ _ f7
  have L := L12.trans L3
  clear L12 L3 hr hm hT hb6 nr n7 n4
  generalize g2.upd b6 (rcl y) = g3 at *
  have M3 := M.le L
  have M3' := M3
  obtain ⟨mr', t', nb', N', hr, hm, hT, hN', _, _, hO', _, _⟩ := M3'
  rw [hO] at hO'
  simp only [List.cons.injEq, true_and, and_true] at hO'
  obtain ⟨rfl, rfl, rfl⟩ := hO'
  rw [hO] at hQ0 o4 o7
  have ne := ribNe hr hm hT
  cases s with
  | false =>
    have hsm : getM m ((a, l), d) = none := Option.not_isSome_iff_eq_none.1 (by rw [← hs]; simp)
    simp (disch := omega) [rib_Rib_Take_r3, rib_Rib_Take_r4]
    exact .to _ (.refl _) (hQ5 hsm _ L M3)
  | true =>
    have hsm : getM m ((a, l), d) ≠ none := Option.isSome_iff_ne_none.1 hs.symm
    simp (disch := omega) [rib_Rib_Take_r3]
    simp (disch := omega) [rib_Rib_Take_r5, hr, f7]
    refine rk_del hm (fun es cl hE => ?_)
    have F4 : Fr g3 (g3.upd mr (.map es cl)) [r, mr, t, nb] [r, mr, t, nb] := .upd (by simp)
    have hr4 : (g3.upd mr (.map es cl)) r = _ := (upd_ne ne.rm).trans hr
    have hm4 : MapAt (g3.upd mr (.map es cl)) mr rk rve (delM ((a, l), d) m) := ⟨es, cl, upd_same, hE⟩
    have hT4 : TrieM (g3.upd mr (.map es cl)) t nb 64 T N' := hT.mono (fun o e => by rw [upd_ne (Ne.symm ne.mt)]; exact e) (fun o e => by rw [upd_ne (Ne.symm ne.mn)]; exact e) (Nat.le_refl _)
    have f44 := F4.keep _ _ f4 o4
    generalize g3.upd mr (.map es cl) = g4 at *
    have ne4 := ribNe hr4 hm4 hT4
    simp (disch := omega) [rib_Rib_Take_r6, hr4, f44]
    refine tGetM hT4 ha ?_
    have hdel := R.del hsm
    simp only [] at hdel
    have hcn : (getR T a l).getD 0 ≤ 64 := by
      unfold getR
      split
      · rw [R.cnt]
        have : cntP m (a, l.toNat) ≤ m.length := by unfold cntP; have := List.countP_le_length (p := fun k => decide (pf k = (a, l.toNat))) (l := m.map (·.1)); simpa using this
        have := R.len
        split <;> simp; omega
      · simp
    by_cases h1n : (getR T a l).getD 0 > 1
    · rw [if_pos h1n] at hdel
      have h1n' : 1 < (getR T a l).getD 0 := h1n
      generalize (getR T a l).getD 0 = n at *
      simp (disch := omega) [rib_Rib_Take_r7, h1n']
      simp (disch := omega) [rib_Rib_Take_r8, hr4, f44, wrap_i64]
      refine tPutM hT4 ha (by omega) (fun g5 nb5 C5 T5 => ?_)
      have hr5 := C5.keep _ _ hr4 ne4.rt ne4.rn
      have F5 : Fr g4 g5 [r, mr, t, nb] [r, mr, t, nb5] := C5.fr
      have hm5 : MapAt g5 mr rk rve (delM ((a, l), d) m) := by
        obtain ⟨es, cl, em, hE⟩ := hm4
        exact ⟨es, cl, C5.keep _ _ em ne4.mt ne4.mn, hE⟩
      simp (disch := omega) [rib_Rib_Take_r10]
      exact .to _ (.refl _) (hQ0 hsm _ _ _ (((Fr.of_le L fun _ q => .inl q).trans F4).trans F5) ⟨mr, t, nb5, _, hr5, hm5, T5, by omega, h0, by omega, rfl, hmo, hdel⟩)
    · rw [if_neg h1n] at hdel
      have h1n' : ¬ 1 < (getR T a l).getD 0 := h1n
      simp (disch := omega) [rib_Rib_Take_r7, h1n']
      simp (disch := omega) [rib_Rib_Take_r9, hr4, f44]
      refine tTakeM hT4 ha (by omega) (fun g5 C5 T5 => ?_)
      have hr5 := C5.keep _ _ hr4 ne4.rt ne4.rn
      have F5 : Fr g4 g5 [r, mr, t, nb] [r, mr, t, nb] := C5.fr
      have hm5 : MapAt g5 mr rk rve (delM ((a, l), d) m) := by
        obtain ⟨es, cl, em, hE⟩ := hm4
        exact ⟨es, cl, C5.keep _ _ em ne4.mt ne4.mn, hE⟩
      simp (disch := omega) [rib_Rib_Take_r10]
      exact .to _ (.refl _) (hQ0 hsm _ _ _ (((Fr.of_le L fun _ q => .inl q).trans F4).trans F5) ⟨mr, t, nb, _, hr5, hm5, T5, by omega, h0, by omega, rfl, hmo, hdel⟩)
end
end Go.Proofs.Ytmbhlbohbpepaaa

/- The table's answers: of, Best. -/
namespace Go.Proofs.Ytmbhlbohbpepaaa
open Go
set_option linter.unusedSimpArgs false
set_option linter.unusedVariables false

theorem rt_len (L : List Rt) : ∀ y ∈ L, y.enc.length = 7 ∧ ∀ u ∈ y.enc, oneCell u = true := fun y _ => ⟨rfl, by simp [Rt.enc]⟩

theorem cat_routes {h : Hp} {v w : Value} {xs ys : List Rt} {k : Value → Hp → Prop} (S : SlAt h T_api_Route 7 Rt.enc v xs) (R0 : Src h 7 Rt.enc w ys) (hbd : xs.length + ys.length ≤ 1000000)
    (K : ∀ v' h', SlAt h' T_api_Route 7 Rt.enc v' (xs ++ ys) → Grew h h' v v' → k v' h') : arun Try.prog (Builtin.append_ #[39, 39] 39 #[v, w]) h k :=
  arun_cat und_39 und_39 size_27 bytes_27 zero_27 (by decide) rfl S R0 (by omega) K

def ofN (m : List (RK × Rt)) (a : Nat) (l : Int) (n : Nat) : List Rt := (List.range n).filterMap fun (d : Nat) => getM m ((a, l), (d : Int))

theorem ofN_succ (m : List (RK × Rt)) (a : Nat) (l : Int) (n : Nat) : ofN m a l (n + 1) = ofN m a l n ++ (getM m ((a, l), (n : Int))).toList := by
  unfold ofN
  rw [List.range_succ, List.filterMap_append]
  congr 1

theorem ofN_length (m : List (RK × Rt)) (a : Nat) (l : Int) (n : Nat) : (ofN m a l n).length ≤ n := by
  unfold ofN
  have := List.length_filterMap_le (fun d : Nat => getM m ((a, l), (d : Int))) (List.range n)
  simpa using this

section
variable {h : Hp} {r : Nat} {most rf : Int} {m : List (RK × Rt)} {T : PL} {k : Nat} {O : List Nat} {a : Nat} {l : Int} {Q : Value → Hp → Prop}

def OfInv (h0 : Hp) (r b3 : Nat) (m : List (RK × Rt)) (a : Nat) (l : Int) (mm : Nat) (env : Env) (g : Hp) : Prop :=
  ∃ (i : Nat) (v : Value), i + mm = 16 ∧ env 0 = .pointer (some ⟨r, 0, none⟩) ∧ env 3 = .pointer (some ⟨b3, 0, none⟩) ∧ env 5 = v ∧ env 9 = .int .i64 (i : Nat) ∧ Le h0 g ∧ SlAt g T_api_Route 7 Rt.enc v (ofN m a l i) ∧ ∀ b, blkOf v = some b → h0 b = none

set_option maxRecDepth 20000 in
set_option maxHeartbeats 2000000 in
theorem rofM (M : RibM h r most rf m T k O) (hQ : ∀ v h', Le h h' → SlAt h' T_api_Route 7 Rt.enc v (ofN m a l 16) → (∀ b, blkOf v = some b → h b = none) → Q v h') :
    Ok Try.prog F_rib_Rib_of #[.pointer (some ⟨r, 0, none⟩), .agg #[.int .u32 (a : Nat), .int .i64 l]] h Q := by
  refine rib_Rib_of_ok (by simp) ?_
  unfold rib_Rib_of_D
  simp (disch := omega) [rib_Rib_of_r0, rib_Rib_of_r1, rib_Rib_of_r2]
  intro b3 hb3
  have L1 : Le h (h.upd b3 (.cells #[.int .u32 (a : Nat), .int .i64 l] 24)) := .new hb3
  have f3 : (h.upd b3 (.cells #[.int .u32 (a : Nat), .int .i64 l] 24)) b3 = some (.cells #[.int .u32 (a : Nat), .int .i64 l] 24) := upd_same
  generalize h.upd b3 (.cells #[.int .u32 (a : Nat), .int .i64 l] 24) = g1 at *
  have M1 := M.le L1
  refine ⟨OfInv g1 r b3 m a l, ⟨16, 0, .slice none 0 0, by omega, by simp, by simp, by simp, by simp, .refl _, .inl ⟨rfl, rfl⟩, by simp [blkOf]⟩, ?_⟩
  rintro mm env g ⟨i, v, him, e0, e3, e5, e9, lg, S, nv⟩
  unfold rib_Rib_of_L0
  by_cases hm0 : mm = 0
  · have : i = 16 := by omega
    subst this
    simp (disch := omega) [rib_Rib_of_r3, rib_Rib_of_r9, e0, e3, e5, e9]
    exact .to _ (.refl _) (hQ v _ (L1.trans lg) S (fun b e => none_of_le L1 (nv b e)))
  · have hi : i < 16 := by omega
    have hi' : (i : Int) < 16 := by omega
    obtain ⟨mr, t, nb, N, hr, hm, hT, hN, h0, h1, hO, hmo, R⟩ := M1.le lg
    have f3' := lg _ _ f3
    obtain ⟨y, hy⟩ : ∃ y, y = (getM m ((a, l), (i : Int))).getD rz := ⟨_, rfl⟩
    obtain ⟨s, hs⟩ : ∃ s, s = (getM m ((a, l), (i : Int))).isSome := ⟨_, rfl⟩
    have lk := fun h M => rk_look (p := ((a, l), (i : Int))) (h := h) (r := mr) (m := m) M
    rw [← hy, ← hs] at lk
    simp only [] at lk
    have lk2 := lk _ hm
    simp (disch := omega) [rib_Rib_of_r3, rib_Rib_of_r4, rib_Rib_of_r5, e0, e3, e5, e9, hi, hi', hr, f3', lk2]
    intro b7 hb7
    have lk7 := lk (g.upd b7 (.cells #[.int .u32 0, .int .i64 0, .int .i64 0, .int .i64 0, .int .i64 0, .int .i64 0, .int .u16 0] 27)) (by
      obtain ⟨es, cl, em, hE⟩ := hm
      exact ⟨es, cl, by rw [upd_ne (ne_new em hb7)]; exact em, hE⟩)
    have n3 : b3 ≠ b7 := ne_new f3' hb7
    have nr : r ≠ b7 := ne_new hr hb7
    simp (disch := omega) [lk7, hr, f3', n3, nr]
    clear lk lk2 lk7
    have L7 := Le.new (o := rcl y) hb7
    have f7 : (g.upd b7 (rcl y)) b7 = some (rcl y) := upd_same
    have S7 := S.le' L7
    replace lg := lg.trans L7
    clear L7 hr hm hT f3' n3 nr
    generalize g.upd b7 (rcl y) = g7 at *
    have tk := ofN_succ m a l i
    cases s with
    | false =>
      have hsm : getM m ((a, l), (i : Int)) = none := Option.not_isSome_iff_eq_none.1 (by rw [← hs]; simp)
      rw [hsm, Option.toList_none, List.append_nil] at tk
      simp (disch := omega) [rib_Rib_of_r6, rib_Rib_of_r8, e0, e3, e5, e9, wrap_i64]
      exact ⟨mm - 1, by omega, i + 1, v, by omega, by simp [e0], by simp [e3], by simp [e5], by simp, lg, by rw [tk]; exact S7, nv⟩
    | true =>
      obtain ⟨z, hz⟩ := Option.isSome_iff_exists.1 hs.symm
      rw [hz] at hy tk
      simp only [Option.getD_some] at hy
      subst hy
      simp (disch := omega) [rib_Rib_of_r6, rib_Rib_of_r7, e0, e3, e5, e9, f7]
      intro b8 hb8
      have L8 := Le.new (o := rcl y) hb8
      have f8 : (g7.upd b8 (rcl y)) b8 = some (rcl y) := upd_same
      have S8 := S7.le' L8
      have o8 : SlAt (g7.upd b8 (rcl y)) T_api_Route 7 Rt.enc (.slice (some ⟨b8, 0, none⟩) 1 1) [y] := one_sl f8 rfl
      have := ofN_length m a l i
      refine cat_routes S8 (o8.toSrc (rt_len _)) (by simp; omega) (fun v' g' S' G => ?_)
      simp (disch := omega) [rib_Rib_of_r8, e0, e3, e5, e9, wrap_i64]
      refine ⟨mm - 1, by omega, i + 1, v', by omega, by simp [e0], by simp [e3], by simp, by simp, fun x o e => G.keep x o (L8 _ _ (lg _ _ e)) (fun q => ?_), by rw [tk]; exact S', fun b e => ?_⟩
      · rw [nv x q.symm] at e; cases e
      · rcases G.fresh with q | q
        · exact nv b (by rw [← q]; exact e)
        · exact none_of_le (lg.trans L8) (q b e)
end
end Go.Proofs.Ytmbhlbohbpepaaa

/- The table's answers: MinFunc, Best. -/
namespace Go.Proofs.Ytmbhlbohbpepaaa
open Go
set_option linter.unusedSimpArgs false
set_option linter.unusedVariables false

def minR (c : Rt) : List Rt → Rt
  | [] => c
  | x :: xs => minR (if cmpR x c < 0 then x else c) xs

def bestL : List Rt → Option Rt
  | [] => none
  | x :: xs => some (minR x xs)

theorem minR_snoc {x : Rt} : ∀ {xs : List Rt} {c : Rt}, minR c (xs ++ [x]) = if cmpR x (minR c xs) < 0 then x else minR c xs
  | [], c => rfl
  | y :: ys, c => by simp only [List.cons_append, minR]; exact minR_snoc

theorem minR_mem : ∀ {xs : List Rt} {c : Rt}, minR c xs = c ∨ minR c xs ∈ xs
  | [], c => .inl rfl
  | x :: xs, c => by
    simp only [minR]
    rcases minR_mem (xs := xs) (c := if cmpR x c < 0 then x else c) with h | h
    · rw [h]; split
      · exact .inr (by simp)
      · exact .inl rfl
    · exact .inr (List.mem_cons_of_mem _ h)

theorem rt_at {h : Hp} {v : Value} {xs : List Rt} {i : Nat} {x : Rt} (S : SlAt h T_api_Route 7 Rt.enc v xs) (hx : xs[i]? = some x) :
    ∃ b cap c, v = .slice (some ⟨b, 0, none⟩) xs.length cap ∧ h b = some (.cells c T_api_Route (0, 0)) ∧ c[i * 7]? = some (.int .u32 (x.a : Nat)) ∧ c[i * 7 + 1]? = some (.int .i64 x.l) ∧ c[i * 7 + 2]? = some (.int .i64 x.d) ∧ c[i * 7 + 3]? = some (.int .i64 x.ds) ∧
      c[i * 7 + 4]? = some (.int .i64 x.m) ∧ c[i * 7 + 5]? = some (.int .i64 x.nx) ∧ c[i * 7 + 6]? = some (.int .u16 (x.tg : Nat)) := by
  obtain ⟨b, cap, c, e, hb, H⟩ := SlAt.at' S hx
  exact ⟨b, cap, c, e, hb, H 0 (by omega), H 1 (by omega), H 2 (by omega), H 3 (by omega), H 4 (by omega), H 5 (by omega), H 6 (by omega)⟩

abbrev rls (x : Rt) : List Value := [.int .u32 (x.a : Nat), .int .i64 x.l, .int .i64 x.d, .int .i64 x.ds, .int .i64 x.m, .int .i64 x.nx, .int .u16 (x.tg : Nat)]

section
variable {h : Hp} {Q : Value → Hp → Prop}

def MinInv (h0 : Hp) (x : Rt) (xs : List Rt) (v : Value) (b4 b5 : Nat) (mm : Nat) (env : Env) (g : Hp) : Prop :=
  ∃ i : Nat, 1 ≤ i ∧ i + mm = xs.length + 1 ∧ env 0 = v ∧ env 1 = .func (.func F_rib_compare) #[] #[] ∧ env 4 = .pointer (some ⟨b4, 0, none⟩) ∧ env 5 = .pointer (some ⟨b5, 0, none⟩) ∧ env 6 = .int .i64 (i : Nat) ∧ Le h0 g ∧
    (∃ z, g b4 = some (rcl z)) ∧ g b5 = some (rcl (minR x (xs.take (i - 1))))

set_option maxRecDepth 20000 in
set_option maxHeartbeats 2000000 in
theorem min_spec {v : Value} {x : Rt} {xs : List Rt} (S : SlAt h T_api_Route 7 Rt.enc v (x :: xs)) (hg : ∀ y ∈ x :: xs, y.Good) (hl : xs.length ≤ 100000) (hQ : ∀ h', Le h h' → Q (rv (minR x xs)) h') :
    Ok Try.prog F_slices_MinFunc_api_Route_api_Route #[v, .func (.func F_rib_compare) #[] #[]] h Q := by
  refine slices_MinFunc_api_Route_api_Route_ok (by simp) ?_
  unfold slices_MinFunc_api_Route_api_Route_D
  simp (disch := omega) [slices_MinFunc_api_Route_api_Route_r0]
  intro b4 hb4
  have L1 : Le h (h.upd b4 (.cells #[.int .u32 0, .int .i64 0, .int .i64 0, .int .i64 0, .int .i64 0, .int .i64 0, .int .u16 0] 27)) := .new hb4
  have f4 : ∃ z, (h.upd b4 (.cells #[.int .u32 0, .int .i64 0, .int .i64 0, .int .i64 0, .int .i64 0, .int .i64 0, .int .u16 0] 27)) b4 = some (rcl z) := ⟨rz, upd_same⟩
  generalize h.upd b4 (.cells #[.int .u32 0, .int .i64 0, .int .i64 0, .int .i64 0, .int .i64 0, .int .i64 0, .int .u16 0] 27) = g1 at *
  have S1 := S.le' L1
  obtain ⟨b, cap, c, hv, hb, hc⟩ := SlAt.at' S1 (i := 0) (x := x) rfl
  have c0 : ∀ j, j < 7 → c[j]? = x.enc[j]? := fun j hj => by have := hc j hj; simpa using this
  have e0 := c0 0 (by omega)
  have e1 := c0 1 (by omega)
  have e2 := c0 2 (by omega)
  have e3 := c0 3 (by omega)
  have e4 := c0 4 (by omega)
  have e5 := c0 5 (by omega)
  have e6 := c0 6 (by omega)
  simp [Rt.enc] at e0 e1 e2 e3 e4 e5 e6
  rw [List.length_cons] at hv
  have hlt : ¬ ((xs.length + 1 : Nat) : Int) < 1 := by omega
  subst hv
  have hpos : (0 : Int) < (xs.length + 1 : Nat) := by omega
  have hpos' : (0 : Int) < (xs.length : Int) + 1 := by omega
  have hlt' : ¬ (xs.length : Int) + 1 < 1 := by omega
  simp (disch := omega) [slices_MinFunc_api_Route_api_Route_r1, slices_MinFunc_api_Route_api_Route_r3, hb, e0, e1, e2, e3, e4, e5, e6, hlt, hlt']
  intro b5 hb5
  have n45 : b4 ≠ b5 := by obtain ⟨z, e⟩ := f4; exact ne_new e hb5
  simp (disch := omega) [slices_MinFunc_api_Route_api_Route_r4]
  have L5 := Le.new (o := rcl x) hb5
  have S5 := S1.le' L5
  refine ⟨MinInv g1 x xs (.slice (some ⟨b, 0, none⟩) (xs.length + 1) cap) b4 b5, ⟨xs.length, 1, by omega, by omega, by simp, by simp, by simp, by simp, by simp, L5, ?_, by simp [minR]⟩, ?_⟩
  · obtain ⟨z, e⟩ := f4; exact ⟨z, L5 _ _ e⟩
  clear hb e0 e1 e2 e3 e4 e5 e6 c0 hc
  rintro mm env g ⟨i, hi1, him, e0, ee1, e4, e5, e6, lg, ⟨z, f4'⟩, f5⟩
  unfold slices_MinFunc_api_Route_api_Route_L0
  by_cases hm : mm = 0
  · have : i = xs.length + 1 := by omega
    subst this
    rw [Nat.add_sub_cancel, List.take_of_length_le (Nat.le_refl _)] at f5
    simp (disch := omega) [slices_MinFunc_api_Route_api_Route_r5, slices_MinFunc_api_Route_api_Route_r9, e0, ee1, e4, e5, e6, f5]
    rw [stA_of (vals := rls (minR x xs)) f4' rfl rfl]
    simp (disch := omega) [e0, e4, e5]
    refine .to h ?_ (hQ _ (.refl _))
    exact Le.put (L1.trans lg) hb4
  · obtain ⟨y, hy⟩ : ∃ y, (x :: xs)[i]? = some y := ⟨_, List.getElem?_eq_getElem (by simp; omega)⟩
    obtain ⟨b', cap', c', hv, hb', q0, q1, q2, q3, q4, q5, q6⟩ := rt_at (S1.le' lg) hy
    simp only [List.length_cons, Value.slice.injEq, Option.some.injEq, Addr.mk.injEq, true_and, and_true] at hv
    obtain ⟨rfl, rfl⟩ := hv
    have hi' : (i : Int) < (xs.length + 1 : Nat) := by omega
    have hi2 : (i : Int) < (xs.length : Int) + 1 := by omega
    have hi3 : i < xs.length + 1 := by omega
    have gy := hg y (List.mem_of_getElem? hy)
    have gm : (minR x (xs.take (i - 1))).Good := by
      rcases minR_mem (xs := xs.take (i - 1)) (c := x) with e | e
      · rw [e]; exact hg x (by simp)
      · exact hg _ (List.mem_cons_of_mem _ (List.mem_of_mem_take e))
    have hys : xs[i - 1]? = some y := by
      obtain ⟨j, rfl⟩ : ∃ j, i = j + 1 := ⟨i - 1, by omega⟩
      simpa using hy
    have tk : minR x (xs.take (i + 1 - 1)) = if cmpR y (minR x (xs.take (i - 1))) < 0 then y else minR x (xs.take (i - 1)) := by
      rw [show i + 1 - 1 = (i - 1) + 1 by omega, List.take_add_one, hys, Option.toList_some, minR_snoc]
    generalize minR x (xs.take (i - 1)) = cur at *
    simp (disch := omega) [slices_MinFunc_api_Route_api_Route_r5, slices_MinFunc_api_Route_api_Route_r6, e0, ee1, e4, e5, e6, f5, hb', q0, q1, q2, q3, q4, q5, q6, hi', hi2, hi3]
    refine cmpR_spec gy gm ?_
    by_cases hlt : cmpR y cur < 0
    · rw [if_pos hlt] at tk
      simp (disch := omega) [slices_MinFunc_api_Route_api_Route_r7, slices_MinFunc_api_Route_api_Route_r8, e0, ee1, e4, e5, e6, f5, hb', q0, q1, q2, q3, q4, q5, q6, hi', hi2, hi3, hlt]
      rw [stA_of (vals := rls y) f5 rfl rfl]
      simp (disch := omega) [slices_MinFunc_api_Route_api_Route_r8, e0, ee1, e4, e5, e6, wrap_i64]
      refine ⟨mm - 1, by omega, i + 1, by omega, by omega, by simp [e0], by simp [ee1], by simp [e4], by simp [e5], by simp, Le.put lg hb5, ⟨z, ?_⟩, ?_⟩
      · rw [upd_ne n45]; exact f4'
      · rw [tk, upd_same]
    · rw [if_neg hlt] at tk
      simp (disch := omega) [slices_MinFunc_api_Route_api_Route_r8, e0, ee1, e4, e5, e6, hlt, wrap_i64]
      exact ⟨mm - 1, by omega, i + 1, by omega, by omega, by simp [e0], by simp [ee1], by simp [e4], by simp [e5], by simp, lg, ⟨z, f4'⟩, by rw [tk]; exact f5⟩
end
end Go.Proofs.Ytmbhlbohbpepaaa

/- The table's answers: Best, Find, All. -/
namespace Go.Proofs.Ytmbhlbohbpepaaa
open Go
set_option linter.unusedSimpArgs false
set_option linter.unusedVariables false

def bestR (m : List (RK × Rt)) (a : Nat) (l : Int) : Option Rt := bestL (ofN m a l 16)
def findR (m : List (RK × Rt)) (T : PL) (addr : Nat) : Option Rt := match findL T addr with | none => none | some p => bestR m p.1.1 (p.1.2 : Nat)
def allR (m : List (RK × Rt)) (T : List (Nat × Nat)) : List Rt := T.flatMap fun p => ofN m p.1 (p.2 : Nat) 16

theorem ofN_mem {m : List (RK × Rt)} {a : Nat} {l : Int} {n : Nat} {x : Rt} (h : x ∈ ofN m a l n) : ∃ d : Nat, d < n ∧ getM m ((a, l), (d : Int)) = some x := by
  unfold ofN at h
  obtain ⟨d, hd, e⟩ := List.mem_filterMap.1 h
  exact ⟨d, List.mem_range.1 hd, e⟩

theorem RInv.good {m : List (RK × Rt)} {T : PL} (R : RInv m T) {a : Nat} {l : Int} {n : Nat} {x : Rt} (h : x ∈ ofN m a l n) : x.Good := by
  obtain ⟨d, _, e⟩ := ofN_mem h
  exact (R.key _ (getM_mem e)).2.2

section
variable {h : Hp} {r : Nat} {most rf : Int} {m : List (RK × Rt)} {T : PL} {k : Nat} {O : List Nat} {a : Nat} {l : Int} {Q : Value → Hp → Prop}

set_option maxRecDepth 20000 in
set_option maxHeartbeats 2000000 in
theorem rbestM (M : RibM h r most rf m T k O) (hQ : ∀ h', Le h h' → Q (.tuple #[rv ((bestR m a l).getD rz), .bool (bestR m a l).isSome]) h') :
    Ok Try.prog F_rib_Rib_Best #[.pointer (some ⟨r, 0, none⟩), .agg #[.int .u32 (a : Nat), .int .i64 l]] h Q := by
  refine rib_Rib_Best_ok (by simp) ?_
  unfold rib_Rib_Best_D
  simp (disch := omega) [rib_Rib_Best_r0]
  intro b3 hb3 b4 hb4
  obtain ⟨n43, hb4'⟩ := upd_none hb4
  have L1 : Le h ((h.upd b3 (.cells #[.int .u32 (a : Nat), .int .i64 l] 24)).upd b4 (.cells #[.int .u32 0, .int .i64 0, .int .i64 0, .int .i64 0, .int .i64 0, .int .i64 0, .int .u16 0] 27)) := (Le.new hb3).trans (Le.new hb4)
  have f3 : ((h.upd b3 (.cells #[.int .u32 (a : Nat), .int .i64 l] 24)).upd b4 (.cells #[.int .u32 0, .int .i64 0, .int .i64 0, .int .i64 0, .int .i64 0, .int .i64 0, .int .u16 0] 27)) b3 = some (.cells #[.int .u32 (a : Nat), .int .i64 l] 24) := by rw [upd_ne (Ne.symm n43), upd_same]
  have f4 : ((h.upd b3 (.cells #[.int .u32 (a : Nat), .int .i64 l] 24)).upd b4 (.cells #[.int .u32 0, .int .i64 0, .int .i64 0, .int .i64 0, .int .i64 0, .int .i64 0, .int .u16 0] 27)) b4 = some (rcl rz) := upd_same
  generalize (h.upd b3 (.cells #[.int .u32 (a : Nat), .int .i64 l] 24)).upd b4 (.cells #[.int .u32 0, .int .i64 0, .int .i64 0, .int .i64 0, .int .i64 0, .int .i64 0, .int .u16 0] 27) = g1 at *
  have M1 := M.le L1
  simp (disch := omega) [rib_Rib_Best_r1, f3]
  refine rofM M1 (fun v g2 l2 S nv => ?_)
  replace f4 := l2 _ _ f4
  have hlen := ofN_length m a l 16
  unfold bestR at hQ
  cases hL : ofN m a l 16 with
  | nil =>
    rw [hL] at S hQ
    obtain ⟨p, cap, hv⟩ := S.shape'
    simp only [List.length_nil] at hv
    subst hv
    simp only [bestL, Option.getD_none, Option.isSome_none] at hQ
    simp (disch := omega) [rib_Rib_Best_r2, rib_Rib_Best_r3]
    rw [stA_of (vals := [.int .u32 0, .int .i64 0, .int .i64 0, .int .i64 0, .int .i64 0, .int .i64 0, .int .u16 0]) f4 rfl rfl]
    simp (disch := omega)
    exact .to h (Le.put (L1.trans l2) hb4') (hQ _ (.refl _))
  | cons x xs =>
    rw [hL] at S hQ hlen
    obtain ⟨p, cap, hv⟩ := S.shape'
    rw [List.length_cons] at hv hlen
    subst hv
    simp only [bestL, Option.getD_some, Option.isSome_some] at hQ
    have h0 : ¬ ((xs.length + 1 : Nat) : Int) = 0 := by omega
    have h0' : ¬ ((xs.length : Nat) : Int) + 1 = 0 := by omega
    simp (disch := omega) [rib_Rib_Best_r2, rib_Rib_Best_r4, h0, h0']
    refine min_spec S (fun y hy => M.inv.good (a := a) (l := l) (n := 16) (by rw [hL]; exact hy)) (by omega) (fun g3 l3 => ?_)
    replace f4 := l3 _ _ f4
    simp (disch := omega)
    rw [stA_of (vals := rls (minR x xs)) f4 rfl rfl]
    simp (disch := omega)
    exact .to h (Le.put ((L1.trans l2).trans l3) hb4') (hQ _ (.refl _))
end
end Go.Proofs.Ytmbhlbohbpepaaa

/- The table's answers: Find, All. -/
namespace Go.Proofs.Ytmbhlbohbpepaaa
open Go
set_option linter.unusedSimpArgs false
set_option linter.unusedVariables false

theorem RibM.trie {h : Hp} {r : Nat} {most rf : Int} {m : List (RK × Rt)} {T : PL} {k : Nat} {O : List Nat} (M : RibM h r most rf m T k O) :
    ∃ mr t nb N, h r = some (.cells #[.int .i64 most, .int .i64 rf, .map (some mr), .pointer (some ⟨t, 0, none⟩)] 63 (0, 0)) ∧ TrieM h t nb 64 T N := by
  obtain ⟨mr, t, nb, N, hr, hm, hT, _⟩ := M
  exact ⟨mr, t, nb, N, hr, hT⟩

section
variable {h : Hp} {r : Nat} {most rf : Int} {m : List (RK × Rt)} {T : PL} {k : Nat} {O : List Nat} {Q : Value → Hp → Prop}

set_option maxRecDepth 20000 in
set_option maxHeartbeats 2000000 in
theorem rfindM {addr : Nat} (M : RibM h r most rf m T k O) (ha : addr < 2 ^ 32) (hQ : ∀ h', Le h h' → Q (.tuple #[rv ((findR m T addr).getD rz), .bool (findR m T addr).isSome]) h') :
    Ok Try.prog F_rib_Rib_Find #[.pointer (some ⟨r, 0, none⟩), .int .u32 (addr : Nat)] h Q := by
  refine rib_Rib_Find_ok (by simp) ?_
  unfold rib_Rib_Find_D
  simp (disch := omega) [rib_Rib_Find_r0]
  intro b4 hb4
  have L1 : Le h (h.upd b4 (.cells #[.int .u32 0, .int .i64 0, .int .i64 0, .int .i64 0, .int .i64 0, .int .i64 0, .int .u16 0] 27)) := .new hb4
  have f4 : (h.upd b4 (.cells #[.int .u32 0, .int .i64 0, .int .i64 0, .int .i64 0, .int .i64 0, .int .i64 0, .int .u16 0] 27)) b4 = some (rcl rz) := upd_same
  generalize h.upd b4 (.cells #[.int .u32 0, .int .i64 0, .int .i64 0, .int .i64 0, .int .i64 0, .int .i64 0, .int .u16 0] 27) = g1 at *
  have M1 := M.le L1
  obtain ⟨mr, t, nb, N, hr, hT⟩ := M1.trie
  simp (disch := omega) [rib_Rib_Find_r1, hr]
  refine tFindM hT ha ?_
  simp (disch := omega)
  intro b6 hb6
  simp (disch := omega)
  have L6 := Le.new (o := .cells #[.int .u32 (fa (findL T addr)), .int .i64 (fl (findL T addr))] 24) hb6
  have f6 : (g1.upd b6 (.cells #[.int .u32 (fa (findL T addr)), .int .i64 (fl (findL T addr))] 24)) b6 = some (.cells #[.int .u32 (fa (findL T addr)), .int .i64 (fl (findL T addr))] 24) := upd_same
  replace f4 := L6 _ _ f4
  have M6 := M1.le L6
  generalize g1.upd b6 (.cells #[.int .u32 (fa (findL T addr)), .int .i64 (fl (findL T addr))] 24) = g2 at *
  unfold findR at hQ
  cases hF : findL T addr with
  | none =>
    rw [hF] at hQ
    simp only [Option.getD_none, Option.isSome_none] at hQ
    simp (disch := omega) [rib_Rib_Find_r2, rib_Rib_Find_r3]
    rw [stA_of (vals := [.int .u32 0, .int .i64 0, .int .i64 0, .int .i64 0, .int .i64 0, .int .i64 0, .int .u16 0]) f4 rfl rfl]
    simp (disch := omega)
    exact .to h (Le.put (L1.trans L6) hb4) (hQ _ (.refl _))
  | some p =>
    rw [hF] at hQ f6
    simp only [] at hQ
    simp only [fa, fl] at f6
    simp (disch := omega) [rib_Rib_Find_r2, rib_Rib_Find_r4, f6, fa, fl]
    refine rbestM M6 (fun g3 l3 => ?_)
    replace f4 := l3 _ _ f4
    simp (disch := omega)
    rw [stA_of (vals := rls ((bestR m p.1.1 (p.1.2 : Nat)).getD rz)) f4 rfl rfl]
    simp (disch := omega)
    exact .to h (Le.put ((L1.trans L6).trans l3) hb4) (hQ _ (.refl _))

def AllInv (h0 : Hp) (r : Nat) (m : List (RK × Rt)) (ps : List (Nat × Nat)) (w : Value) (mm : Nat) (env : Env) (g : Hp) : Prop :=
  ∃ (i : Nat) (v : Value), i + mm = ps.length ∧ env 0 = .pointer (some ⟨r, 0, none⟩) ∧ env 3 = v ∧ env 10 = w ∧ env 11 = .int .i64 (ps.length : Nat) ∧ env 12 = .int .i64 (i : Nat) ∧ Le h0 g ∧ SlAt g T_api_Route 7 Rt.enc v (allR m (ps.take i)) ∧ ∀ b, blkOf v = some b → h0 b = none

theorem allR_length (m : List (RK × Rt)) : ∀ (ps : List (Nat × Nat)), (allR m ps).length ≤ 16 * ps.length
  | [] => by simp [allR]
  | p :: ps => by
    have h1 := allR_length m ps
    have h2 := ofN_length m p.1 (p.2 : Nat) 16
    have e : allR m (p :: ps) = ofN m p.1 (p.2 : Nat) 16 ++ allR m ps := by simp [allR]
    rw [e, List.length_append, List.length_cons]; omega

set_option maxRecDepth 20000 in
set_option maxHeartbeats 2000000 in
theorem rallM (M : RibM h r most rf m T k O) (hQ : ∀ v h', Le h h' → SlAt h' T_api_Route 7 Rt.enc v (allR m (T.map (·.1))) → (∀ b, blkOf v = some b → h b = none) → Q v h') :
    Ok Try.prog F_rib_Rib_All #[.pointer (some ⟨r, 0, none⟩)] h Q := by
  refine rib_Rib_All_ok (by simp) ?_
  unfold rib_Rib_All_D
  obtain ⟨mr, t, nb, N, hr, hT⟩ := M.trie
  simp (disch := omega) [rib_Rib_All_r0, rib_Rib_All_r1, rib_Rib_All_r2, hr]
  refine tAllM hT (fun w g1 W l1 nw => ?_)
  obtain ⟨p, cap, hw⟩ := W.shape'
  have L1 : Le h g1 := l1
  have M1 := M.le L1
  have htl := M.inv.tlen
  have hml := M.inv.len
  have hps : (T.map (·.1)).length ≤ 64 := by rw [List.length_map]; omega
  generalize T.map (·.1) = ps at *
  simp (disch := omega) [hw]
  refine ⟨AllInv g1 r m ps w, ⟨ps.length, 0, .slice none 0 0, by omega, by simp, by simp, by simp [hw], by simp, by simp, .refl _, .inl ⟨rfl, rfl⟩, by simp [blkOf]⟩, ?_⟩
  rintro mm env g ⟨i, v, him, e0, e3, e10, e11, e12, lg, S, nv⟩
  unfold rib_Rib_All_L0
  by_cases hm0 : mm = 0
  · have : i = ps.length := by omega
    subst this
    rw [List.take_length] at S
    simp (disch := omega) [rib_Rib_All_r3, rib_Rib_All_r7, e0, e3, e10, e11, e12]
    exact .to _ (.refl _) (hQ v _ (L1.trans lg) S (fun b e => none_of_le L1 (nv b e)))
  · obtain ⟨q, hq⟩ : ∃ q, ps[i]? = some q := ⟨_, List.getElem?_eq_getElem (by omega)⟩
    obtain ⟨b, cap', c, hw', hb, hc⟩ := SlAt.at' W hq
    have c0 := hc 0 (by omega)
    have c1 := hc 1 (by omega)
    simp [pe] at c0 c1
    have hb' := lg _ _ hb
    have hi : i < ps.length := by omega
    rw [hw'] at e10
    simp (disch := omega) [rib_Rib_All_r3, rib_Rib_All_r4, e0, e3, e10, e11, e12, hi, hb', c0, c1]
    intro b5 hb5
    simp (disch := omega)
    have L5 := Le.new (o := .cells #[.int .u32 (q.1 : Nat), .int .i64 (q.2 : Nat)] 24) hb5
    have f5 : (g.upd b5 (.cells #[.int .u32 (q.1 : Nat), .int .i64 (q.2 : Nat)] 24)) b5 = some (.cells #[.int .u32 (q.1 : Nat), .int .i64 (q.2 : Nat)] 24) := upd_same
    have M5 := (M1.le lg).le L5
    have S5 := S.le' L5
    have lg5 := lg.trans L5
    generalize g.upd b5 (.cells #[.int .u32 (q.1 : Nat), .int .i64 (q.2 : Nat)] 24) = g5 at *
    simp (disch := omega) [rib_Rib_All_r5, e0, e3, e10, e11, e12, f5]
    refine rofM M5 (fun v2 g6 l6 S6 nv2 => ?_)
    have hl1 := allR_length m (ps.take i)
    have hl2 := ofN_length m q.1 (q.2 : Nat) 16
    rw [List.length_take] at hl1
    refine cat_routes (S5.le' l6) (S6.toSrc (rt_len _)) (by omega) (fun v3 g7 S7 G => ?_)
    have tk : allR m (ps.take (i + 1)) = allR m (ps.take i) ++ ofN m q.1 (q.2 : Nat) 16 := by
      rw [List.take_add_one, hq]; simp [allR]
    simp (disch := omega) [rib_Rib_All_r6, e0, e3, e10, e11, e12, wrap_i64]
    refine ⟨mm - 1, by omega, i + 1, v3, by omega, by simp [e0], by simp, by simp [e10, hw'], by simp [e11], by simp, fun x o e => G.keep x o (l6 _ _ (lg5 _ _ e)) (fun q => ?_), by rw [tk]; exact S7, fun b e => ?_⟩
    · rw [nv x q.symm] at e; cases e
    · rcases G.fresh with q | q
      · exact nv b (by rw [← q]; exact e)
      · exact none_of_le (lg5.trans l6) (q b e)
end
end Go.Proofs.Ytmbhlbohbpepaaa

/- The table's plain law: all routes, in order. -/
namespace Go.Proofs.Ytmbhlbohbpepaaa
open Go
set_option linter.unusedSimpArgs false
set_option linter.unusedVariables false

def rpf (x : Rt) : Nat × Nat := (x.a, x.l.toNat)
def rlt (x y : Rt) : Prop := plt (rpf x) (rpf y) ∨ rpf x = rpf y ∧ x.d < y.d

theorem rlt_irrefl (x : Rt) : ¬ rlt x x := by
  rintro (h | ⟨_, h⟩)
  · exact plt_irrefl _ h
  · omega
theorem rlt_asymm {x y : Rt} (h : rlt x y) : ¬ rlt y x := by
  rintro (h2 | ⟨e2, h2⟩)
  · rcases h with h | ⟨e, h⟩
    · exact plt_asymm h h2
    · rw [e] at h2; exact plt_irrefl _ h2
  · rcases h with h | ⟨e, h⟩
    · rw [e2] at h; exact plt_irrefl _ h
    · omega
theorem rlt_trans {x y z : Rt} (h : rlt x y) (h' : rlt y z) : rlt x z := by
  rcases h with h | ⟨e, h⟩
  · rcases h' with h' | ⟨e', h'⟩
    · exact .inl (plt_trans h h')
    · exact .inl (by rw [← e']; exact h)
  · rcases h' with h' | ⟨e', h'⟩
    · exact .inl (by rw [e]; exact h')
    · exact .inr ⟨e.trans e', by omega⟩

theorem pw_ext {α : Type} {R : α → α → Prop} (irr : ∀ x, ¬ R x x) (asym : ∀ {x y}, R x y → ¬ R y x) : ∀ {l l' : List α}, l.Pairwise R → l'.Pairwise R → (∀ q, q ∈ l ↔ q ∈ l') → l = l'
  | [], [], _, _, _ => rfl
  | [], y :: ys, _, _, h => by have := (h y).2 (by simp); simp at this
  | x :: xs, [], _, _, h => by have := (h x).1 (by simp); simp at this
  | x :: xs, y :: ys, p, p', h => by
    rw [List.pairwise_cons] at p p'
    have e : x = y := by
      have h1 := (h x).1 (by simp)
      have h2 := (h y).2 (by simp)
      rcases List.mem_cons.1 h1 with e | m1
      · exact e
      · rcases List.mem_cons.1 h2 with e | m2
        · exact e.symm
        · exact (asym (p.1 y m2) (p'.1 x m1)).elim
    subst e
    congr 1
    refine pw_ext irr asym p.2 p'.2 fun q => ⟨fun m => ?_, fun m => ?_⟩
    · rcases List.mem_cons.1 ((h q).1 (List.mem_cons_of_mem _ m)) with e | m'
      · subst e; exact (irr _ (p.1 _ m)).elim
      · exact m'
    · rcases List.mem_cons.1 ((h q).2 (List.mem_cons_of_mem _ m)) with e | m'
      · subst e; exact (irr _ (p'.1 _ m)).elim
      · exact m'

theorem mayR_parts {x : Rt} (h : mayR x = true) : mayB x.a x.l = true ∧ 0 ≤ x.d ∧ x.d < 16 ∧ 0 ≤ x.ds ∧ x.ds ≤ 255 ∧ 0 ≤ x.m ∧ x.m ≤ 4294967295 ∧ 0 ≤ x.nx ∧ x.nx ≤ 32 := by
  unfold mayR at h
  simp only [Bool.and_eq_true, decide_eq_true_eq] at h
  exact h

theorem mayB_nn {a : Nat} {n : Int} (h : mayB a n = true) : 0 ≤ n ∧ n ≤ 32 := by
  unfold mayB at h
  simp only [Bool.and_eq_true, decide_eq_true_eq] at h
  exact h.1

theorem ofN_mem_iff {m : List (RK × Rt)} {T : PL} (R : RInv m T) {a : Nat} {l : Int} {x : Rt} : x ∈ ofN m a l 16 ↔ getM m x.key = some x ∧ x.a = a ∧ x.l = l := by
  constructor
  · intro h
    obtain ⟨d, _, e⟩ := ofN_mem h
    have hk := (R.key _ (getM_mem e)).1
    simp only [Rt.key, Prod.mk.injEq] at hk
    obtain ⟨⟨rfl, rfl⟩, hd⟩ := hk
    exact ⟨by unfold Rt.key; rw [← hd]; exact e, rfl, rfl⟩
  · rintro ⟨h, rfl, rfl⟩
    obtain ⟨_, hm, hg⟩ := R.key _ (getM_mem h)
    simp only [] at hm hg
    obtain ⟨_, h0, h1, _⟩ := mayR_parts hm
    unfold ofN
    refine List.mem_filterMap.2 ⟨x.d.toNat, List.mem_range.2 (by omega), ?_⟩
    rw [show ((x.d.toNat : Nat) : Int) = x.d by omega]
    exact h

theorem RInv.has_pf {m : List (RK × Rt)} {T : PL} (R : RInv m T) {p : Nat × Nat} : p ∈ T.map (·.1) ↔ ∃ x, getM m x.key = some x ∧ rpf x = p := by
  constructor
  · intro h
    obtain ⟨⟨p', n⟩, hm, rfl⟩ := List.mem_map.1 h
    have h1 := getL_of_mem R.srt hm
    rw [R.cnt] at h1
    have h2 : cntP m p' ≠ 0 := by intro e; rw [if_pos e] at h1; cases h1
    unfold cntP at h2
    obtain ⟨k', hk, e⟩ := List.countP_pos_iff.1 (Nat.pos_of_ne_zero h2)
    obtain ⟨⟨k2, x⟩, hx, rfl⟩ := List.mem_map.1 hk
    have hkey := (R.key _ hx).1
    simp only at hkey e
    refine ⟨x, ?_, ?_⟩
    · rw [← hkey]; exact getM_of_mem R.uniq hx
    · subst hkey; exact of_decide_eq_true e
  · rintro ⟨x, hx, rfl⟩
    have := cnt_pos (m := m) (k := x.key) (by rw [hx]; simp)
    have h2 : getL T (rpf x) ≠ none := by
      rw [R.cnt]
      have e : pf x.key = rpf x := rfl
      rw [e] at this
      rw [if_neg (by omega)]; simp
    obtain ⟨n, hn⟩ := Option.ne_none_iff_exists'.1 h2
    exact List.mem_map.2 ⟨_, getL_mem hn, rfl⟩

theorem allR_mem {m : List (RK × Rt)} {T : PL} (R : RInv m T) {x : Rt} : x ∈ allR m (T.map (·.1)) ↔ getM m x.key = some x := by
  unfold allR
  rw [List.mem_flatMap]
  constructor
  · rintro ⟨p, _, h⟩
    exact ((ofN_mem_iff R).1 h).1
  · intro h
    obtain ⟨_, hm, hg⟩ := R.key _ (getM_mem h)
    simp only [] at hm hg
    have := (mayB_nn (mayR_mayB hm)).1
    exact ⟨rpf x, R.has_pf.2 ⟨x, h, rfl⟩, (ofN_mem_iff R).2 ⟨h, rfl, by simp only [rpf]; omega⟩⟩

theorem ofN_sorted {m : List (RK × Rt)} {T : PL} (R : RInv m T) {a : Nat} {l : Int} {n : Nat} : (ofN m a l n).Pairwise fun x y => x.d < y.d := by
  unfold ofN
  rw [List.pairwise_filterMap]
  refine List.pairwise_lt_range.imp fun {i j} hij x hx y hy => ?_
  have h1 := (R.key _ (getM_mem hx)).1
  have h2 := (R.key _ (getM_mem hy)).1
  simp only [Rt.key, Prod.mk.injEq] at h1 h2
  omega

theorem allR_sorted {m : List (RK × Rt)} {T : PL} (R : RInv m T) : (allR m (T.map (·.1))).Pairwise rlt := by
  unfold allR
  rw [List.pairwise_flatMap]
  have key : ∀ {p : Nat × Nat} {x : Rt}, x ∈ ofN m p.1 (p.2 : Nat) 16 → rpf x = p := by
    intro p x h
    obtain ⟨_, e1, e2⟩ := (ofN_mem_iff R).1 h
    unfold rpf
    rw [e1, e2]; simp
  refine ⟨fun p _ => (ofN_sorted R).imp_of_mem fun {x y} hx hy h => .inr ⟨by rw [key hx, key hy], h⟩, ?_⟩
  rw [List.pairwise_map]
  have := R.srt
  unfold Srt at this
  refine this.imp fun {p q} hpq x hx y hy => .inl ?_
  rw [key hx, key hy]; exact hpq

theorem allR_length_eq {m : List (RK × Rt)} {T : PL} (R : RInv m T) : (allR m (T.map (·.1))).length = m.length := by
  have nd : (allR m (T.map (·.1))).Nodup := by
    rw [List.nodup_iff_pairwise_ne]
    exact (allR_sorted R).imp fun {a b} h e => by subst e; exact rlt_irrefl _ h
  have nd2 : (m.map (·.2)).Nodup := by
    have u := R.uniq
    unfold Uniq at u
    rw [List.nodup_iff_pairwise_ne, List.pairwise_map] at u ⊢
    refine u.imp_of_mem fun {x y} hx hy h e => h ?_
    rw [(R.key _ hx).1, (R.key _ hy).1, e]
  have h1 := nodup_sub nd (ys := m.map (·.2)) (fun x hx => List.mem_map.2 ⟨_, getM_mem ((allR_mem R).1 hx), rfl⟩)
  have h2 := nodup_sub nd2 (ys := allR m (T.map (·.1))) (fun x hx => by
    obtain ⟨e, he, rfl⟩ := List.mem_map.1 hx
    refine (allR_mem R).2 ?_
    rw [← (R.key _ he).1]
    exact getM_of_mem R.uniq he)
  rw [List.length_map] at h1 h2
  omega

/-- What two tables with the same routes answer is the same. -/
theorem allR_ext {m m' : List (RK × Rt)} {T T' : PL} (R : RInv m T) (R' : RInv m' T') (h : ∀ k, getM m k = getM m' k) : allR m (T.map (·.1)) = allR m' (T'.map (·.1)) :=
  pw_ext rlt_irrefl rlt_asymm (allR_sorted R) (allR_sorted R') fun x => by rw [allR_mem R, allR_mem R', h]
end Go.Proofs.Ytmbhlbohbpepaaa

/- The chapter's example; which of two routes comes ahead. -/
namespace Go.Proofs.Ytmbhlbohbpepaaa
open Go
set_option linter.unusedSimpArgs false
set_option linter.unusedVariables false

def aw1 : Rt := ⟨0, 0, 0, 120, 5, 0, 0⟩
def aw2 : Rt := ⟨0, 0, 1, 1, 1, 0, 4⟩

theorem dep_4 : dep 4 = 1 := by rw [dep_pos (by decide), show 4 &&& (4 - 1) = 0 from rfl, dep_zero]

theorem awput1 : putS 5 0 [] aw1 = (0, 0, [(aw1.key, aw1)]) := by decide +kernel
theorem awput2 : putS 5 0 [(aw1.key, aw1)] aw2 = (0, 0, [(aw1.key, aw1), (aw2.key, aw2)]) := by decide +kernel
theorem awof : ofN [(aw1.key, aw1), (aw2.key, aw2)] 0 0 16 = [aw1, aw2] := by decide +kernel
theorem awbest : bestR [(aw1.key, aw1), (aw2.key, aw2)] 0 0 = some aw1 := by
  unfold bestR
  rw [awof]
  have : cmpR aw2 aw1 = 1 := by
    unfold cmpR aw1 aw2
    simp only [dep_4, dep_zero]
    decide
  simp only [bestL, minR, this]
  decide

set_option maxRecDepth 20000 in
set_option maxHeartbeats 2000000 in
theorem awake_spec {h : Hp} {Q : Value → Hp → Prop} (hQ : ∀ h', Le h h' → Q (.bool true) h') : Ok Try.prog F_octroilaw09_awake #[] h Q := by
  refine octroilaw09_awake_ok (by simp) ?_
  unfold octroilaw09_awake_D
  simp (disch := omega) [octroilaw09_awake_r0, octroilaw09_awake_r1]
  refine rnewM (fun r h1 O1 l1 n1 M1 => ?_)
  simp (disch := omega) [octroilaw09_awake_r2, octroilaw09_awake_r4]
  refine rputM (x := aw1) M1 ⟨by decide, by decide⟩ (by omega) (fun h2 O2 T2 F2 M2 => ?_)
  have l2 := F2.le l1 n1
  have n2 := F2.new l1 n1
  rw [show min (5 : Int) 64 = 5 by decide, awput1] at M2 ⊢
  simp only [] at M2
  simp (disch := omega) [octroilaw09_awake_r5]
  refine rputM (x := aw2) M2 ⟨by decide, by decide⟩ (by omega) (fun h3 O3 T3 F3 M3 => ?_)
  have l3 := F3.le l2 n2
  rw [awput2] at M3 ⊢
  simp only [] at M3
  simp (disch := omega) [octroilaw09_awake_r6]
  refine rbestM (a := 0) (l := 0) M3 (fun h4 l4 => ?_)
  rw [awbest]
  simp only [Option.getD_some, Option.isSome_some, aw1]
  simp (disch := omega)
  intro b4 hb4
  have M5 := (M3.le l4).le (.new (o := rcl aw1) hb4)
  have L5 := (l3.trans l4).trans (.new (o := rcl aw1) hb4)
  have f5 : (h4.upd b4 (rcl aw1)) b4 = some (rcl aw1) := upd_same
  simp only [aw1] at f5 M5 L5
  simp (disch := omega)
  simp (disch := omega) [octroilaw09_awake_r7]
  refine rallM M5 (fun v h5 l5 S nv => ?_)
  obtain ⟨p, cap, hv⟩ := S.shape'
  rw [allR_length_eq M5.inv] at hv
  subst hv
  simp (disch := omega)
  exact .to _ (.refl _) (hQ _ (L5.trans l5))

/-- One comes ahead of another: in words. -/
def lexR (x y : Rt) : Prop := dep x.tg < dep y.tg ∨ (dep x.tg = dep y.tg ∧ (x.ds < y.ds ∨ (x.ds = y.ds ∧ (x.m < y.m ∨ (x.m = y.m ∧ (x.d < y.d ∨ (x.d = y.d ∧ (x.nx < y.nx ∨ (x.nx = y.nx ∧ x.tg < y.tg)))))))))

theorem orI_lt {a b : Int} {l : List Int} : orI (cmpI a b :: l) < 0 ↔ a < b ∨ (a = b ∧ orI l < 0) := by
  unfold cmpI
  simp only [orI]
  by_cases h1 : a < b
  · simp [h1]
  · by_cases h2 : b < a
    · simp [h1, h2]; omega
    · have : a = b := by omega
      simp [this]

theorem cmpR_lt {x y : Rt} : cmpR x y < 0 ↔ lexR x y := by
  unfold cmpR lexR
  rw [orI_lt, orI_lt, orI_lt, orI_lt, orI_lt, orI_lt]
  have : ¬ orI [] < 0 := by decide
  simp only [this, and_false, or_false]
  omega

theorem rcl_two {h : Hp} {b1 b2 : Nat} {x y : Rt} (n : b2 ≠ b1) : (h.upd b1 (rcl x)).upd b2 (rcl y) b1 = some (rcl x) ∧ (h.upd b1 (rcl x)).upd b2 (rcl y) b2 = some (rcl y) := ⟨by rw [upd_ne (Ne.symm n), upd_same], upd_same⟩

set_option maxRecDepth 20000 in
set_option maxHeartbeats 2000000 in
theorem rbetter_spec {x y : Rt} {h : Hp} {Q : Value → Hp → Prop} (hx : x.Good) (hy : y.Good) (hQ : Q (.bool (decide (cmpR x y < 0))) h) : Ok Try.prog F_octroiref09_Better #[rv x, rv y] h Q := by
  refine octroiref09_Better_ok (by simp) ?_
  unfold octroiref09_Better_D
  simp (disch := omega) [octroiref09_Better_r0]
  intro b1 hb1 b2 hb2
  obtain ⟨n12, hb2'⟩ := upd_none hb2
  have l : Le h ((h.upd b1 (rcl x)).upd b2 (rcl y)) := (Le.new hb1).trans (Le.new hb2)
  obtain ⟨f1, f2⟩ := rcl_two (h := h) (x := x) (y := y) n12
  generalize (h.upd b1 (rcl x)).upd b2 (rcl y) = g at *
  have key : ∀ (b : Bool), (b = true ↔ lexR x y) → Q (.bool b) h := fun b e => by
    have : decide (cmpR x y < 0) = b := by rw [Bool.eq_iff_iff, decide_eq_true_eq, cmpR_lt, e]
    rw [← this]; exact hQ
  unfold lexR at key
  simp (disch := omega) [octroiref09_Better_r1, f1, f2]
  refine rdepth_spec hx.tg ?_
  simp (disch := omega) [octroiref09_Better_r2, f1, f2]
  refine rdepth_spec hy.tg ?_
  by_cases c1 : dep x.tg = dep y.tg
  · by_cases c2 : x.ds = y.ds
    · by_cases c3 : x.m = y.m
      · by_cases c4 : x.d = y.d
        · by_cases c5 : x.nx = y.nx
          · simp (disch := omega) [octroiref09_Better_r3, octroiref09_Better_r5, octroiref09_Better_r7, octroiref09_Better_r9, octroiref09_Better_r11, octroiref09_Better_r13, f1, f2, c1, c2, c3, c4, c5]
            exact .to _ l (key _ (by rw [decide_eq_true_eq]; omega))
          · simp (disch := omega) [octroiref09_Better_r3, octroiref09_Better_r5, octroiref09_Better_r7, octroiref09_Better_r9, octroiref09_Better_r11, octroiref09_Better_r12, f1, f2, c1, c2, c3, c4, c5]
            exact .to _ l (key _ (by rw [decide_eq_true_eq]; omega))
        · simp (disch := omega) [octroiref09_Better_r3, octroiref09_Better_r5, octroiref09_Better_r7, octroiref09_Better_r9, octroiref09_Better_r10, f1, f2, c1, c2, c3, c4]
          exact .to _ l (key _ (by rw [decide_eq_true_eq]; omega))
      · simp (disch := omega) [octroiref09_Better_r3, octroiref09_Better_r5, octroiref09_Better_r7, octroiref09_Better_r8, f1, f2, c1, c2, c3]
        exact .to _ l (key _ (by rw [decide_eq_true_eq]; omega))
    · simp (disch := omega) [octroiref09_Better_r3, octroiref09_Better_r5, octroiref09_Better_r6, f1, f2, c1, c2]
      exact .to _ l (key _ (by rw [decide_eq_true_eq]; omega))
  · have c1' : ¬ ((dep x.tg : Nat) : Int) = ((dep y.tg : Nat) : Int) := by omega
    simp (disch := omega) [octroiref09_Better_r3, octroiref09_Better_r4, f1, f2, c1, c1']
    exact .to _ l (key _ (by rw [decide_eq_true_eq]; omega))

set_option maxRecDepth 20000 in
set_option maxHeartbeats 2000000 in
theorem RibBetter_walk {h : Hp} {x y : Rt} (hx : x.Good) (hy : y.Good) : Ok Try.prog F_octroilaw09_RibBetter #[rv x, rv y] h (fun r g => r = .bool true ∧ Le h g) := by
  refine octroilaw09_RibBetter_ok (by simp) ?_
  unfold octroilaw09_RibBetter_D
  simp (disch := omega) [octroilaw09_RibBetter_r0]
  intro b1 hb1 b2 hb2
  obtain ⟨n12, hb2'⟩ := upd_none hb2
  have l : Le h ((h.upd b1 (rcl x)).upd b2 (rcl y)) := (Le.new hb1).trans (Le.new hb2)
  obtain ⟨f1, f2⟩ := rcl_two (h := h) (x := x) (y := y) n12
  simp (disch := omega) [octroilaw09_RibBetter_r1]
  generalize (h.upd b1 (rcl x)).upd b2 (rcl y) = g at *
  refine awake_spec (fun g1 l1 => ?_)
  replace f1 := l1 _ _ f1
  replace f2 := l1 _ _ f2
  simp (disch := omega) [octroilaw09_RibBetter_r2, f1]
  refine rmayR_spec hx ?_
  simp (disch := omega) [octroilaw09_RibBetter_r3, f2]
  refine rmayR_spec hy ?_
  cases c1 : mayR x with
  | false =>
    simp (disch := omega) [octroilaw09_RibBetter_r4, octroilaw09_RibBetter_r5]
    exact .to _ (.refl _) ⟨rfl, l.trans l1⟩
  | true =>
    cases c2 : mayR y with
    | false =>
      simp (disch := omega) [octroilaw09_RibBetter_r4, octroilaw09_RibBetter_r5]
      exact .to _ (.refl _) ⟨rfl, l.trans l1⟩
    | true =>
      simp (disch := omega) [octroilaw09_RibBetter_r4, octroilaw09_RibBetter_r6, f1, f2]
      refine better_spec hx hy ?_
      simp (disch := omega) [f1, f2]
      refine rbetter_spec hx hy ?_
      simp (disch := omega)
      exact .to _ (.refl _) ⟨rfl, l.trans l1⟩

set_option maxRecDepth 20000 in
set_option maxHeartbeats 2000000 in
theorem RibDepths_walk {h : Hp} {x y : Rt} (hx : x.Good) (hy : y.Good) : Ok Try.prog F_octroilaw09_RibDepths #[rv x, rv y] h (fun r g => r = .bool true ∧ Le h g) := by
  refine octroilaw09_RibDepths_ok (by simp) ?_
  unfold octroilaw09_RibDepths_D
  simp (disch := omega) [octroilaw09_RibDepths_r0]
  intro b1 hb1 b2 hb2
  obtain ⟨n12, hb2'⟩ := upd_none hb2
  have l : Le h ((h.upd b1 (rcl x)).upd b2 (rcl y)) := (Le.new hb1).trans (Le.new hb2)
  obtain ⟨f1, f2⟩ := rcl_two (h := h) (x := x) (y := y) n12
  simp (disch := omega) [octroilaw09_RibDepths_r1]
  generalize (h.upd b1 (rcl x)).upd b2 (rcl y) = g at *
  refine awake_spec (fun g1 l1 => ?_)
  replace f1 := l1 _ _ f1
  replace f2 := l1 _ _ f2
  simp (disch := omega) [octroilaw09_RibDepths_r2, f1, f2]
  refine depth_spec hx.tg ?_
  simp (disch := omega) [f1, f2]
  refine depth_spec hy.tg ?_
  by_cases c : dep x.tg < dep y.tg
  · have c' : ¬ dep y.tg ≤ dep x.tg := by omega
    have c2 : cmpR x y < 0 := cmpR_lt.2 (.inl c)
    have c3 : ¬ cmpR y x < 0 := fun q => by have := cmpR_lt.1 q; unfold lexR at this; omega
    simp (disch := omega) [octroilaw09_RibDepths_r4, f1, f2, c']
    refine better_spec hx hy ?_
    simp (disch := omega) [f1, f2, c2]
    refine better_spec hy hx ?_
    simp (disch := omega) [c3]
    exact .to _ (.refl _) ⟨rfl, l.trans l1⟩
  · have c' : dep y.tg ≤ dep x.tg := by omega
    simp (disch := omega) [octroilaw09_RibDepths_r3, c']
    exact .to _ (.refl _) ⟨rfl, l.trans l1⟩
end Go.Proofs.Ytmbhlbohbpepaaa

/- The best of a prefix: in words. -/
namespace Go.Proofs.Ytmbhlbohbpepaaa
open Go
set_option linter.unusedSimpArgs false
set_option linter.unusedVariables false

theorem lexR_ntrans {x y z : Rt} (h : lexR x z) : lexR x y ∨ lexR y z := by
  unfold lexR at *; omega
theorem lexR_asymm {x y : Rt} (h : lexR x y) : ¬ lexR y x := by
  unfold lexR at *; omega
theorem lexR_tri {x y : Rt} (h : ¬ lexR x y) (h2 : ¬ lexR y x) : x.d = y.d ∧ x.ds = y.ds ∧ x.m = y.m ∧ x.nx = y.nx ∧ x.tg = y.tg := by
  unfold lexR at *; omega

theorem minR_min : ∀ {xs : List Rt} {c y : Rt}, y ∈ c :: xs → ¬ lexR y (minR c xs)
  | [], c, y, h => by
    simp at h; subst h
    exact fun q => lexR_asymm q q
  | x :: xs, c, y, h => by
    simp only [minR]
    rw [List.mem_cons, List.mem_cons] at h
    by_cases hx : cmpR x c < 0
    · rw [if_pos hx]
      have ih := fun y h => minR_min (xs := xs) (c := x) (y := y) h
      rcases h with rfl | h | h
      · intro q
        exact ih x (by simp) (by
          have := cmpR_lt.1 hx
          rcases lexR_ntrans (y := minR x xs) this with a | a
          · exact a
          · exact (lexR_asymm q a).elim)
      · exact ih y (by simp [h])
      · exact ih y (by simp [h])
    · rw [if_neg hx]
      have ih := fun y h => minR_min (xs := xs) (c := c) (y := y) h
      rcases h with rfl | h | h
      · exact ih y (by simp)
      · subst h
        intro q
        rcases lexR_ntrans (y := c) q with a | a
        · exact hx (cmpR_lt.2 a)
        · exact ih c (by simp) a
      · exact ih y (by simp [h])

/-- What is taken for a prefix. -/
def IsBest (m : List (RK × Rt)) (a : Nat) (l : Int) (b : Rt) : Prop := getM m b.key = some b ∧ b.a = a ∧ b.l = l ∧ ∀ y, getM m y.key = some y → y.a = a → y.l = l → ¬ lexR y b

theorem best_is {m : List (RK × Rt)} {T : PL} (R : RInv m T) {a : Nat} {l : Int} {b : Rt} (h : bestR m a l = some b) : IsBest m a l b := by
  unfold bestR at h
  cases hL : ofN m a l 16 with
  | nil => rw [hL] at h; cases h
  | cons x xs =>
    rw [hL] at h
    simp only [bestL, Option.some.injEq] at h
    have hb : b ∈ ofN m a l 16 := by
      rw [hL, ← h]
      rcases minR_mem (xs := xs) (c := x) with e | e
      · rw [e]; simp
      · exact List.mem_cons_of_mem _ e
    obtain ⟨h1, h2, h3⟩ := (ofN_mem_iff R).1 hb
    refine ⟨h1, h2, h3, fun y hy ha hl => ?_⟩
    have := (ofN_mem_iff R).2 ⟨hy, ha, hl⟩
    rw [hL] at this
    rw [← h]
    exact minR_min this

theorem best_none {m : List (RK × Rt)} {T : PL} (R : RInv m T) {a : Nat} {l : Int} (h : bestR m a l = none) {y : Rt} (hy : getM m y.key = some y) : ¬ (y.a = a ∧ y.l = l) := by
  rintro ⟨ha, hl⟩
  have := (ofN_mem_iff R).2 ⟨hy, ha, hl⟩
  unfold bestR at h
  cases hL : ofN m a l 16 with
  | nil => rw [hL] at this; cases this
  | cons x xs => rw [hL] at h; cases h

theorem best_some {m : List (RK × Rt)} {T : PL} (R : RInv m T) {y : Rt} (hy : getM m y.key = some y) : ∃ b, bestR m y.a y.l = some b := by
  cases h : bestR m y.a y.l with
  | none => exact (best_none R h hy ⟨rfl, rfl⟩).elim
  | some b => exact ⟨b, rfl⟩

theorem best_uniq {m m' : List (RK × Rt)} (hm : ∀ k, getM m k = getM m' k) {a : Nat} {l : Int} {b b' : Rt} (h : IsBest m a l b) (h' : IsBest m' a l b') : b = b' := by
  obtain ⟨h1, h2, h3, h4⟩ := h
  obtain ⟨g1, g2, g3, g4⟩ := h'
  have e1 := h4 b' (by rw [hm]; exact g1) g2 g3
  have e2 := g4 b (by rw [← hm]; exact h1) h2 h3
  obtain ⟨q1, q2, q3, q4, q5⟩ := lexR_tri e2 e1
  cases b; cases b'
  simp only at *
  subst_vars
  rfl

theorem best_ext {m m' : List (RK × Rt)} {T T' : PL} (R : RInv m T) (R' : RInv m' T') (hm : ∀ k, getM m k = getM m' k) (a : Nat) (l : Int) : bestR m a l = bestR m' a l := by
  cases h : bestR m a l with
  | none =>
    cases h' : bestR m' a l with
    | none => rfl
    | some b =>
      obtain ⟨g1, g2, g3, _⟩ := best_is R' h'
      exact (best_none R h (y := b) (by rw [hm]; exact g1) ⟨g2, g3⟩).elim
  | some b =>
    cases h' : bestR m' a l with
    | none =>
      obtain ⟨g1, g2, g3, _⟩ := best_is R h
      exact (best_none R' h' (y := b) (by rw [← hm]; exact g1) ⟨g2, g3⟩).elim
    | some b' => rw [best_uniq hm (best_is R h) (best_is R' h')]

theorem keys_ext {m m' : List (RK × Rt)} {T T' : PL} (R : RInv m T) (R' : RInv m' T') (hm : ∀ k, getM m k = getM m' k) : T.map (·.1) = T'.map (·.1) := by
  refine sorted_ext (List.pairwise_map.2 R.srt) (List.pairwise_map.2 R'.srt) fun q => ?_
  rw [R.has_pf, R'.has_pf]
  simp only [hm]
end Go.Proofs.Ytmbhlbohbpepaaa

/- RibOrder: of two routes just one comes ahead: the walk. -/
namespace Go.Proofs.Ytmbhlbohbpepaaa
open Go
set_option linter.unusedSimpArgs false
set_option linter.unusedVariables false

def Rt.at (y x : Rt) : Rt := { y with a := x.a, l := x.l }

theorem lexR_total {x y : Rt} (h : ¬ (x.d = y.d ∧ x.ds = y.ds ∧ x.m = y.m ∧ x.nx = y.nx ∧ x.tg = y.tg)) : (lexR x y ∧ ¬ lexR y x) ∨ (¬ lexR x y ∧ lexR y x) := by
  unfold lexR; omega
theorem lexR_irrefl {x y : Rt} (h : x.d = y.d ∧ x.ds = y.ds ∧ x.m = y.m ∧ x.nx = y.nx ∧ x.tg = y.tg) : ¬ lexR x y ∧ ¬ lexR y x := by
  obtain ⟨h1, h2, h3, h4, h5⟩ := h
  unfold lexR; rw [h1, h2, h3, h4, h5]; omega
theorem lexR_trans {x y z : Rt} (h : lexR x y) (h2 : lexR y z) : lexR x z := by
  unfold lexR at *; omega

theorem Rt.at_good {x y : Rt} (hx : x.Good) (hy : y.Good) : (y.at x).Good := ⟨hx.a, hy.tg⟩

set_option maxRecDepth 20000 in
set_option maxHeartbeats 4000000 in
theorem RibOrder_walk {h : Hp} {x y z : Rt} (hx : x.Good) (hy : y.Good) (hz : z.Good) : Ok Try.prog F_octroilaw09_RibOrder #[rv x, rv y, rv z] h (fun r g => r = .bool true ∧ Le h g) := by
  refine octroilaw09_RibOrder_ok (by simp) ?_
  unfold octroilaw09_RibOrder_D
  simp (disch := omega) [octroilaw09_RibOrder_r0]
  intro b1 hb1 b2 hb2 b3 hb3
  obtain ⟨n12, hb2'⟩ := upd_none hb2
  obtain ⟨n32, hb3'⟩ := upd_none hb3
  obtain ⟨n31, hb3''⟩ := upd_none hb3'
  have l : Le h (((h.upd b1 (rcl x)).upd b2 (rcl y)).upd b3 (rcl z)) := ((Le.new hb1).trans (Le.new hb2)).trans (Le.new hb3)
  have f1 : (((h.upd b1 (rcl x)).upd b2 (rcl y)).upd b3 (rcl z)) b1 = some (rcl x) := by rw [upd_ne (Ne.symm n31), upd_ne (Ne.symm n12), upd_same]
  have f2 : (((h.upd b1 (rcl x)).upd b2 (rcl y)).upd b3 (rcl z)) b2 = some (rcl y) := by rw [upd_ne (Ne.symm n32), upd_same]
  have f3 : (((h.upd b1 (rcl x)).upd b2 (rcl y)).upd b3 (rcl z)) b3 = some (rcl z) := upd_same
  simp (disch := omega) [octroilaw09_RibOrder_r1]
  generalize ((h.upd b1 (rcl x)).upd b2 (rcl y)).upd b3 (rcl z) = g at *
  refine awake_spec (fun g1 l1 => ?_)
  replace f1 := l1 _ _ f1
  replace f2 := l1 _ _ f2
  replace f3 := l1 _ _ f3
  simp (disch := omega) [octroilaw09_RibOrder_r2, f1]
  refine rmayR_spec hx ?_
  simp (disch := omega) [octroilaw09_RibOrder_r3, f2]
  refine rmayR_spec hy ?_
  simp (disch := omega) [octroilaw09_RibOrder_r4, f3]
  refine rmayR_spec hz ?_
  cases c1 : mayR x with
  | false =>
    simp (disch := omega) [octroilaw09_RibOrder_r5, octroilaw09_RibOrder_r6]
    exact .to _ (.refl _) ⟨rfl, l.trans l1⟩
  | true =>
  cases c2 : mayR y with
  | false =>
    simp (disch := omega) [octroilaw09_RibOrder_r5, octroilaw09_RibOrder_r6]
    exact .to _ (.refl _) ⟨rfl, l.trans l1⟩
  | true =>
  cases c3 : mayR z with
  | false =>
    simp (disch := omega) [octroilaw09_RibOrder_r5, octroilaw09_RibOrder_r6]
    exact .to _ (.refl _) ⟨rfl, l.trans l1⟩
  | true =>
  simp (disch := omega) [octroilaw09_RibOrder_r5]
  simp (disch := omega) [octroilaw09_RibOrder_r7, f1, f2]
  simp (disch := omega) [octroilaw09_RibOrder_r8, f1, f3, Ne.symm n12, n12, n32, Ne.symm n32]
  have lg : Le h ((g1.upd b2 (rcl (y.at x))).upd b3 (rcl (z.at x))) := by
    intro i o e
    have := l1 _ _ (l _ _ e)
    rw [upd_ne, upd_ne]
    · exact this
    · rintro rfl; rw [hb2'] at e; cases e
    · rintro rfl; rw [hb3''] at e; cases e
  have k1 : ((g1.upd b2 (rcl (y.at x))).upd b3 (rcl (z.at x))) b1 = some (rcl x) := by rw [upd_ne (Ne.symm n31), upd_ne (Ne.symm n12)]; exact f1
  have k2 : ((g1.upd b2 (rcl (y.at x))).upd b3 (rcl (z.at x))) b2 = some (rcl (y.at x)) := by rw [upd_ne (Ne.symm n32), upd_same]
  have k3 : ((g1.upd b2 (rcl (y.at x))).upd b3 (rcl (z.at x))) b3 = some (rcl (z.at x)) := upd_same
  have hy' := Rt.at_good hx hy
  have hz' := Rt.at_good hx hz
  change octroilaw09_RibOrder_r9 _ ((g1.upd b2 (rcl (y.at x))).upd b3 (rcl (z.at x))) _
  have ya : (y.at x).a = x.a := rfl
  have yl : (y.at x).l = x.l := rfl
  generalize (g1.upd b2 (rcl (y.at x))).upd b3 (rcl (z.at x)) = g2 at *
  generalize y.at x = y' at *
  generalize z.at x = z' at *
  simp (disch := omega) [octroilaw09_RibOrder_r9, k1, k2]
  refine better_spec hx hy' ?_
  simp (disch := omega) [octroilaw09_RibOrder_r10, k2, k3]
  refine better_spec hy' hz' ?_
  by_cases he : x.d = y'.d ∧ x.ds = y'.ds ∧ x.m = y'.m ∧ x.nx = y'.nx ∧ x.tg = y'.tg
  · obtain ⟨i1, i2⟩ := lexR_irrefl he
    have j1 : ¬ cmpR x y' < 0 := fun q => i1 (cmpR_lt.1 q)
    have j2 : ¬ cmpR y' x < 0 := fun q => i2 (cmpR_lt.1 q)
    have e' : y' = x := by
      obtain ⟨h1, h2, h3, h4, h5⟩ := he
      cases x; cases y'; simp only at *; subst_vars; rfl
    subst e'
    simp (disch := omega) [octroilaw09_RibOrder_r11, k1, k2]
    simp (disch := omega) [octroilaw09_RibOrder_r12, k1, k2, j1]
    refine better_spec hx hx ?_
    simp (disch := omega) [j1]
    exact .to _ (.refl _) ⟨rfl, lg⟩
  · simp (disch := omega) [octroilaw09_RibOrder_r11, k1, k2, ya, yl]
    refine brv_of (fun e => (he (by simp at e; omega)).elim) (fun _ => ?_)
    have tot := lexR_total he
    rw [← cmpR_lt, ← cmpR_lt] at tot
    simp (disch := omega) [octroilaw09_RibOrder_r13, k1, k2]
    refine better_spec hy' hx ?_
    rcases tot with ⟨t1, t2⟩ | ⟨t1, t2⟩
    · by_cases t3 : cmpR y' z' < 0
      · have t4 : cmpR x z' < 0 := cmpR_lt.2 (lexR_trans (cmpR_lt.1 t1) (cmpR_lt.1 t3))
        simp (disch := omega) [k1, k3, t1, t2, t3]
        refine better_spec hx hz' ?_
        simp (disch := omega) [t4]
        exact .to _ (.refl _) ⟨rfl, lg⟩
      · simp (disch := omega) [k1, k3, t1, t2, t3]
        exact .to _ (.refl _) ⟨rfl, lg⟩
    · simp (disch := omega) [k1, k3, t1, t2]
      exact .to _ (.refl _) ⟨rfl, lg⟩
end Go.Proofs.Ytmbhlbohbpepaaa

/- RibGone: a route that is taken away is not taken any more for its prefix: the walk. -/
namespace Go.Proofs.Ytmbhlbohbpepaaa
open Go
set_option linter.unusedSimpArgs false
set_option linter.unusedVariables false

/-- A table of one's own, behind an older heap. -/
structure ROwn (h0 g : Hp) (r : Nat) (most rf : Int) (m : List (RK × Rt)) (T : PL) (k : Nat) (O : List Nat) : Prop where
  m : RibM g r most rf m T k O
  le : Le h0 g
  new : ∀ x, x ∈ O → h0 x = none

theorem ROwn.fr {h0 g g' : Hp} {r : Nat} {most rf rf' : Int} {m m' : List (RK × Rt)} {T T' : PL} {k k' : Nat} {O O' : List Nat} (A : ROwn h0 g r most rf m T k O) (F : Fr g g' O O') (M : RibM g' r most rf' m' T' k' O') : ROwn h0 g' r most rf' m' T' k' O' :=
  ⟨M, F.le A.le A.new, F.new A.le A.new⟩
theorem ROwn.le2 {h0 g g' : Hp} {r : Nat} {most rf : Int} {m : List (RK × Rt)} {T : PL} {k : Nat} {O : List Nat} (A : ROwn h0 g r most rf m T k O) (l : Le g g') : ROwn h0 g' r most rf m T k O := ⟨A.m.le l, A.le.trans l, A.new⟩

/-- A box of the older heap is written. -/
theorem ROwn.box {h0 g : Hp} {r : Nat} {most rf : Int} {m : List (RK × Rt)} {T : PL} {k : Nat} {O : List Nat} {b : Nat} {o o' : Obj} (A : ROwn h0 g r most rf m T k O) (hb : h0 b = some o) : ROwn (h0.upd b o') (g.upd b o') r most rf m T k O := by
  have nb : ∀ x, x ∈ O → x ≠ b := fun x hx e => by have := A.new x hx; rw [e, hb] at this; cases this
  refine ⟨A.m.keep fun x o e e2 => by rw [upd_ne (nb x e)]; exact e2, fun x o e => ?_, fun x hx => by rw [upd_ne (nb x hx)]; exact A.new x hx⟩
  by_cases hx : x = b
  · subst hx; rw [upd_same] at e ⊢; exact e
  · rw [upd_ne hx] at e ⊢; exact A.le _ _ e

theorem rtake0 {h : Hp} {r : Nat} {most rf : Int} {m : List (RK × Rt)} {T : PL} {k : Nat} {O : List Nat} {a : Nat} {l d : Int} {Q : Value → Hp → Prop} (M : RibM h r most rf m T k O) (ha : a < 2 ^ 32) (hk : k ≤ 30000) (hn : getM m ((a, l), d) ≠ none)
    (hQ : ∀ h' O' T', Fr h h' O O' → RibM h' r most rf (delM ((a, l), d) m) T' (k + 1) O' → Q (.int .i64 0) h') :
    Ok Try.prog F_rib_Rib_Take #[.pointer (some ⟨r, 0, none⟩), .agg #[.int .u32 (a : Nat), .int .i64 l], .int .i64 d] h Q :=
  rtakeM M ha hk (fun e => (hn e).elim) (fun _ => hQ)

/-- Two routes to a prefix: one is taken, then the other, then none. -/
theorem gone_law {x y : Rt} {T : PL} (hxy : x.key ≠ y.key) (ha : y.a = x.a) (hl : y.l = x.l) (R : RInv (setM y.key y (setM x.key x [])) T) :
    ∃ b c, ((b = x ∧ c = y) ∨ (b = y ∧ c = x)) ∧ bestR (setM y.key y (setM x.key x [])) x.a x.l = some b ∧ ¬ cmpR c b < 0 ∧ (b.a = x.a ∧ b.l = x.l ∧ c.a = x.a ∧ c.l = x.l) ∧ getM (setM y.key y (setM x.key x [])) b.key ≠ none ∧
      (∀ T2, RInv (delM b.key (setM y.key y (setM x.key x []))) T2 → bestR (delM b.key (setM y.key y (setM x.key x []))) x.a x.l = some c ∧ getM (delM b.key (setM y.key y (setM x.key x []))) c.key ≠ none ∧
        ∀ T3, (RInv (delM c.key (delM b.key (setM y.key y (setM x.key x [])))) T3 → bestR (delM c.key (delM b.key (setM y.key y (setM x.key x [])))) x.a x.l = none ∧ (delM c.key (delM b.key (setM y.key y (setM x.key x [])))).length = 0)) := by
  generalize hm : setM y.key y (setM x.key x []) = m at *
  have hget : ∀ k, getM m k = if k = y.key then some y else if k = x.key then some x else none := fun k => by rw [← hm, getM_setM, getM_setM]; rfl
  have gx : getM m x.key = some x := by rw [hget, if_neg hxy, if_pos rfl]
  have gy : getM m y.key = some y := by rw [hget, if_pos rfl]
  obtain ⟨b, hb⟩ := best_some R gx
  obtain ⟨b1, b2, b3, b4⟩ := best_is R hb
  have key : ∀ c : Rt, ((b = x ∧ c = y) ∨ (b = y ∧ c = x)) → ∃ b c, ((b = x ∧ c = y) ∨ (b = y ∧ c = x)) ∧ bestR m x.a x.l = some b ∧ ¬ cmpR c b < 0 ∧ (b.a = x.a ∧ b.l = x.l ∧ c.a = x.a ∧ c.l = x.l) ∧ getM m b.key ≠ none ∧
      (∀ T2, RInv (delM b.key m) T2 → bestR (delM b.key m) x.a x.l = some c ∧ getM (delM b.key m) c.key ≠ none ∧ ∀ T3, (RInv (delM c.key (delM b.key m)) T3 → bestR (delM c.key (delM b.key m)) x.a x.l = none ∧ (delM c.key (delM b.key m)).length = 0)) := by
    intro c hc
    have hcb : c.key ≠ b.key := by rcases hc with ⟨rfl, rfl⟩ | ⟨rfl, rfl⟩; exact Ne.symm hxy; exact hxy
    have gc : getM m c.key = some c := by rcases hc with ⟨rfl, rfl⟩ | ⟨rfl, rfl⟩; exact gy; exact gx
    have ca : c.a = x.a ∧ c.l = x.l := by rcases hc with ⟨_, rfl⟩ | ⟨_, rfl⟩; exact ⟨ha, hl⟩; exact ⟨rfl, rfl⟩
    have only : ∀ z, getM m z.key = some z → z = b ∨ z = c := by
      intro z hz
      rw [hget] at hz
      split at hz
      · cases hz; rcases hc with ⟨rfl, rfl⟩ | ⟨rfl, rfl⟩; exact .inr rfl; exact .inl rfl
      · split at hz
        · cases hz; rcases hc with ⟨rfl, rfl⟩ | ⟨rfl, rfl⟩; exact .inl rfl; exact .inr rfl
        · cases hz
    refine ⟨b, c, hc, hb, fun q => b4 c gc ca.1 ca.2 (cmpR_lt.1 q), ⟨b2, b3, ca.1, ca.2⟩, by rw [b1]; simp, fun T2 R2 => ?_⟩
    have gc2 : getM (delM b.key m) c.key = some c := by rw [getM_delM R.uniq, if_neg hcb]; exact gc
    refine ⟨?_, by rw [gc2]; simp, fun T3 R3 => ?_⟩
    · obtain ⟨z, hz⟩ := best_some R2 gc2
      rw [ca.1, ca.2] at hz
      obtain ⟨z1, _⟩ := best_is R2 hz
      rw [getM_delM R.uniq] at z1
      split at z1
      · cases z1
      · rename_i hne
        rcases only z z1 with rfl | rfl
        · exact (hne rfl).elim
        · exact hz
    · constructor
      · cases hz : bestR (delM c.key (delM b.key m)) x.a x.l with
        | none => rfl
        | some z =>
          obtain ⟨z1, _⟩ := best_is R3 hz
          rw [getM_delM R2.uniq] at z1
          split at z1
          · cases z1
          · rename_i hne
            rw [getM_delM R.uniq] at z1
            split at z1
            · cases z1
            · rename_i hne2
              rcases only z z1 with rfl | rfl
              · exact (hne2 rfl).elim
              · exact (hne rfl).elim
      · rw [delM_length, gc2, delM_length, b1, ← hm, setM_length, setM_length]
        simp [getM_setM, getM_nil, Ne.symm hxy]
  rw [hget] at b1
  split at b1
  · cases b1; exact key x (.inr ⟨rfl, rfl⟩)
  · split at b1
    · cases b1; exact key y (.inl ⟨rfl, rfl⟩)
    · cases b1
end Go.Proofs.Ytmbhlbohbpepaaa

/- Rules that keep simp out of what is done behind an operation that it can't work off: to be imported by texts that want it. -/
namespace Go.Proofs.Ytmbhlbohbpepaaa
open Go

section
variable {P : Program} {h : Hp}
@[congr] theorem rdv_stop {o o' : Option Value} {k : Value → Prop} {r : Unit → Prop} (e : o = o') (_t : ∀ u : Unit, (True ∧ True) = r u) : rdv o k = rdv o' k := by rw [e]
@[congr] theorem rd_stop {s s' : Sem Value} {k : Value → Prop} {r : Unit → Prop} (e : s = s') (_t : ∀ u : Unit, (True ∧ True) = r u) : rd P s h k = rd P s' h k := by rw [e]
@[congr] theorem arun_stop {α : Type} {s s' : Sem α} {k : α → Hp → Prop} {r : Unit → Prop} (e : s = s') (_t : ∀ u : Unit, (True ∧ True) = r u) : arun P s h k = arun P s' h k := by rw [e]
@[congr] theorem Ok_stop {f : Nat} {a a' : Array Value} {k : Value → Hp → Prop} {r : Unit → Prop} (e : a = a') (_t : ∀ u : Unit, (True ∧ True) = r u) : Ok P f a h k = Ok P f a' h k := by rw [e]
@[congr] theorem callV_stop {v v' : Value} {a a' : Array Value} {k : Value → Hp → Prop} {r : Unit → Prop} (e0 : v = v') (e : a = a') (_t : ∀ u : Unit, (True ∧ True) = r u) : callV P v a h k = callV P v' a' h k := by rw [e0, e]
@[congr] theorem nck_stop {x x' : Value} {q : Prop} {r : Unit → Prop} (e : x = x') (_t : ∀ u : Unit, (True ∧ True) = r u) : nck x q = nck x' q := by rw [e]
@[congr] theorem gd_stop {c c' : Bool} {ex : Hp → (Value → Hp → Prop) → Prop} {k : Value → Hp → Prop} {r : Unit → Prop} (e : c = c') (_t : ∀ u : Unit, (True ∧ True) = r u) : gd c ex h k = gd c' ex h k := by rw [e]
@[congr] theorem stw_stop {c c' : Option Value} {f f' : Bool} {q : Prop} {r : Unit → Prop} (e : c = c') (e2 : f = f') (_t : ∀ u : Unit, (True ∧ True) = r u) : stw c f q = stw c' f' q := by rw [e, e2]
@[congr] theorem brv_stop {v v' : Value} {x y : Prop} {r : Unit → Prop} (e : v = v') (_t : ∀ u : Unit, (True ∧ True) = r u) : brv v x y = brv v' x y := by rw [e]
@[congr] theorem stA_stop {h h' : Hp} {b o : Nat} {l l' : List Value} {k : Hp → Prop} {r : Unit → Prop} (e0 : h = h') (e : l = l') (_t : ∀ u : Unit, (True ∧ True) = r u) : stA h b o l k = stA h' b o l' k := by rw [e0, e]
end
end Go.Proofs.Ytmbhlbohbpepaaa

/- What is found for an address: in words. -/
namespace Go.Proofs.Ytmbhlbohbpepaaa
open Go
set_option linter.unusedSimpArgs false
set_option linter.unusedVariables false

theorem has_cut {a l x : Nat} (h : a % 2 ^ (32 - l) = 0) : hasB (a, l) x = true ↔ a = cutA x l := by
  unfold hasB cutA
  simp only [beq_iff_eq]
  have e : a = a / 2 ^ (32 - l) * 2 ^ (32 - l) := by
    have := Nat.div_add_mod a (2 ^ (32 - l))
    rw [h, Nat.mul_comm] at this; omega
  constructor
  · intro q; rw [q]; exact e
  · intro q
    rw [e] at q
    exact (Nat.eq_of_mul_eq_mul_right (Nat.two_pow_pos _) q).symm

theorem rpf_mod {x : Rt} (h : mayR x = true) : (rpf x).1 % 2 ^ (32 - (rpf x).2) = 0 := by
  have := mayR_mayB h
  unfold mayB at this
  simp only [Bool.and_eq_true, beq_iff_eq] at this
  exact this.2

theorem rpf_len {x : Rt} (h : mayR x = true) : ((rpf x).2 : Int) = x.l := by
  have := (mayB_nn (mayR_mayB h)).1
  unfold rpf; simp only; omega

theorem find_is {m : List (RK × Rt)} {T : PL} (R : RInv m T) {addr : Nat} {b : Rt} (h : findR m T addr = some b) :
    IsBest m b.a b.l b ∧ hasB (rpf b) addr = true ∧ ∀ y, getM m y.key = some y → hasB (rpf y) addr = true → y.l ≤ b.l := by
  unfold findR at h
  have F := found_find T addr
  cases hF : findL T addr with
  | none => rw [hF] at h; cases h
  | some p =>
    rw [hF] at h F
    simp only at h
    have B := best_is R h
    obtain ⟨b1, b2, b3, b4⟩ := B
    have hmb : mayR b = true := (R.key _ (getM_mem b1)).2.1
    have hlb := rpf_len hmb
    have er : rpf b = p.1 := by unfold rpf; rw [b2, b3]; simp
    cases F with
    | some x f1 f2 f3 =>
      refine ⟨⟨b1, rfl, rfl, by rw [b2, b3]; exact b4⟩, ?_, fun y hy hya => ?_⟩
      · have hm := rpf_mod hmb
        rw [er] at hm ⊢
        exact (has_cut hm).2 f2
      · have hmy : mayR y = true := (R.key _ (getM_mem hy)).2.1
        have hp := R.has_pf.2 ⟨y, hy, rfl⟩
        obtain ⟨z, hz, ez⟩ := List.mem_map.1 hp
        have h2 := (has_cut (rpf_mod hmy)).1 hya
        have h3 := f3 z hz (by rw [ez]; exact h2)
        rw [ez] at h3
        have := rpf_len hmy
        rw [b3]; omega

theorem find_none {m : List (RK × Rt)} {T : PL} (R : RInv m T) {addr : Nat} (h : findR m T addr = none) {y : Rt} (hy : getM m y.key = some y) : hasB (rpf y) addr = false := by
  unfold findR at h
  have F := found_find T addr
  have hmy : mayR y = true := (R.key _ (getM_mem hy)).2.1
  have hp := R.has_pf.2 ⟨y, hy, rfl⟩
  obtain ⟨z, hz, ez⟩ := List.mem_map.1 hp
  cases hF : findL T addr with
  | none =>
    rw [hF] at F
    cases F with
    | none f1 =>
      cases hb : hasB (rpf y) addr with
      | false => rfl
      | true => exact (f1 z hz (by rw [ez]; exact (has_cut (rpf_mod hmy)).1 hb)).elim
  | some p =>
    rw [hF] at h F
    simp only at h
    cases F with
    | some x f1 f2 f3 =>
      have hp2 : p.1 ∈ T.map (·.1) := List.mem_map.2 ⟨p, f1, rfl⟩
      obtain ⟨w, hw, ew⟩ := R.has_pf.1 hp2
      have hmw : mayR w = true := (R.key _ (getM_mem hw)).2.1
      have hlw := rpf_len hmw
      have e1 : w.a = p.1.1 := by rw [← ew]; rfl
      have e2 : w.l = (p.1.2 : Nat) := by rw [← ew]; exact hlw.symm
      exact (best_none R h hw ⟨e1, e2⟩).elim

/-- Two tables with the same routes find the same. -/
theorem find_ext {m m' : List (RK × Rt)} {T T' : PL} (R : RInv m T) (R' : RInv m' T') (hm : ∀ k, getM m k = getM m' k) (addr : Nat) : findR m T addr = findR m' T' addr := by
  cases h : findR m T addr with
  | none =>
    cases h' : findR m' T' addr with
    | none => rfl
    | some b =>
      obtain ⟨⟨g1, _⟩, g2, _⟩ := find_is R' h'
      have := find_none R h (y := b) (by rw [hm]; exact g1)
      rw [this] at g2; cases g2
  | some b =>
    obtain ⟨B1, B2, B3⟩ := find_is R h
    cases h' : findR m' T' addr with
    | none =>
      have := find_none R' h' (y := b) (by rw [← hm]; exact B1.1)
      rw [this] at B2; cases B2
    | some b' =>
      obtain ⟨C1, C2, C3⟩ := find_is R' h'
      have l1 := B3 b' (by rw [hm]; exact C1.1) C2
      have l2 := C3 b (by rw [← hm]; exact B1.1) B2
      have el : b.l = b'.l := by omega
      have mb : mayR b = true := (R.key _ (getM_mem B1.1)).2.1
      have mb' : mayR b' = true := (R'.key _ (getM_mem C1.1)).2.1
      have q1 := (has_cut (rpf_mod mb)).1 B2
      have q2 := (has_cut (rpf_mod mb')).1 C2
      have el2 : (rpf b).2 = (rpf b').2 := by unfold rpf; rw [el]
      have ea : b.a = b'.a := by
        have : (rpf b).1 = (rpf b').1 := by rw [q1, q2, el2]
        exact this
      rw [best_uniq hm B1 (by rw [ea, el]; exact C1)]
end Go.Proofs.Ytmbhlbohbpepaaa
