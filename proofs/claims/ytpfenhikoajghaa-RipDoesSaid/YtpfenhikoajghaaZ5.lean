/- Appending another slice's elements; a slice's part. -/
import Derived.Test.YtpfenhikoajghaaChecked
import Derived.Shelf.SlSortCmp.WholeK
import Derived.Shelf.Small.Bits
import Derived.Test.YtpfenhikoajghaaZ4

set_option linter.unusedSimpArgs false
set_option linter.unusedVariables false

namespace Go.Proofs.Ytpfenhikoajghaa
open Go
set_option linter.unusedSimpArgs false
set_option linter.unusedVariables false

/-- What an append of many leaves as it was. -/
structure Grew (h h' : Hp) (v v' : Value) : Prop where
  keep : ∀ y o, h y = some o → some y ≠ blkOf v → h' y = some o
  fresh : blkOf v' = blkOf v ∨ ∀ b, blkOf v' = some b → h b = none

/-- A slice that may be a part of a block, to be read from. -/
def Src {α : Type} (h : Hp) (sz : Nat) (enc : α → List Value) (v : Value) (ys : List α) : Prop :=
  (∀ y ∈ ys, (enc y).length = sz ∧ ∀ u ∈ enc y, oneCell u = true) ∧
  ((∃ a cap, v = .slice a 0 cap ∧ ys = []) ∨ ∃ b o cap c E fr, v = .slice (some ⟨b, o, none⟩) ys.length cap ∧ h b = some (.cells c E fr) ∧ o + ys.length * sz ≤ c.size ∧ Enc c o sz enc ys)

theorem Src.part {α : Type} {h : Hp} {sz : Nat} {enc : α → List Value} {ys : List α} {b o : Nat} {c : Array Value} {E : TypeId} {fr : Nat × Nat} (i n cap' : Nat) (hn : i + n ≤ ys.length)
    (hl : ∀ y ∈ ys, (enc y).length = sz ∧ ∀ u ∈ enc y, oneCell u = true) (hb : h b = some (.cells c E fr)) (hs : o + ys.length * sz ≤ c.size) (he : Enc c o sz enc ys) :
    Src h sz enc (.slice (some ⟨b, o + i * sz, none⟩) n cap') ((ys.drop i).take n) := by
  refine ⟨fun y hy => hl y (List.mem_of_mem_drop (List.mem_of_mem_take hy)), .inr ⟨b, o + i * sz, cap', c, E, fr, ?_, hb, ?_, ?_⟩⟩
  · have : ((ys.drop i).take n).length = n := by simp; omega
    rw [this]
  · have e : ((ys.drop i).take n).length = n := by simp; omega
    have h1 : (i + n) * sz ≤ ys.length * sz := Nat.mul_le_mul_right _ hn
    rw [Nat.add_mul] at h1
    rw [e]; omega
  · intro k x hx j hj
    have hk : k < n := by
      have := (List.getElem?_eq_some_iff.1 hx).1
      simp at this; omega
    rw [List.getElem?_take, if_pos hk, List.getElem?_drop] at hx
    have := he (i + k) x hx j hj
    rw [← this]
    congr 1
    rw [Nat.add_mul]; omega

section
variable {P : Program} {h : Hp}

theorem src_cells {α : Type} {sz n o : Nat} {enc : α → List Value} {ys : List α} {c : Array Value} (hn : n = ys.length) (hl : ∀ y ∈ ys, (enc y).length = sz ∧ ∀ u ∈ enc y, oneCell u = true) (hs : o + ys.length * sz ≤ c.size) (he : Enc c o sz enc ys) :
    ((c.toList.drop o).take (n * sz)).length = n * sz ∧ (∀ i y, ys[i]? = some y → ∀ j, j < sz → ((c.toList.drop o).take (n * sz))[i * sz + j]? = (enc y)[j]?) ∧ ∀ u ∈ (c.toList.drop o).take (n * sz), oneCell u = true := by
  subst hn
  have hget : ∀ i y, ys[i]? = some y → ∀ j, j < sz → ((c.toList.drop o).take (ys.length * sz))[i * sz + j]? = (enc y)[j]? := by
    intro i y hy j hj
    have hi := (List.getElem?_eq_some_iff.1 hy).1
    have h1 : (i + 1) * sz ≤ ys.length * sz := Nat.mul_le_mul_right _ hi
    rw [Nat.add_mul, Nat.one_mul] at h1
    rw [List.getElem?_take, if_pos (by omega), List.getElem?_drop, ← Nat.add_assoc, Array.getElem?_toList]
    exact he i y hy j hj
  refine ⟨by simp; omega, hget, fun u hu => ?_⟩
  obtain ⟨k, hk, rfl⟩ := List.getElem_of_mem hu
  have hk' : k < ys.length * sz := by simp at hk; omega
  have hsz : 0 < sz := by
    rcases Nat.eq_zero_or_pos sz with e | e
    · subst e; simp at hk'
    · exact e
  have hi : k / sz < ys.length := Nat.div_lt_of_lt_mul (by rw [Nat.mul_comm]; exact hk')
  have hy : ys[k / sz]? = some ys[k / sz] := List.getElem?_eq_getElem hi
  have hj := Nat.mod_lt k hsz
  have e := hget (k / sz) _ hy (k % sz) hj
  have e2 : k / sz * sz + k % sz = k := by rw [Nat.mul_comm]; exact Nat.div_add_mod k sz
  rw [e2, List.getElem?_eq_getElem hk] at e
  have hm := hl _ (List.mem_of_getElem? hy)
  exact hm.2 _ (List.mem_of_getElem? e.symm)

theorem Enc.cat {α : Type} {c c' : Array Value} {sz : Nat} {enc : α → List Value} {xs ys : List α} (H : Enc c 0 sz enc xs)
    (h1 : ∀ i, i < xs.length * sz → c'[i]? = c[i]?) (h2 : ∀ i y, ys[i]? = some y → ∀ j, j < sz → c'[xs.length * sz + (i * sz + j)]? = (enc y)[j]?) : Enc c' 0 sz enc (xs ++ ys) := by
  intro i x hx j hj
  rcases Nat.lt_or_ge i xs.length with hi | hi
  · rw [List.getElem?_append_left hi] at hx
    rw [← H i x hx j hj]
    have h3 : (i + 1) * sz ≤ xs.length * sz := Nat.mul_le_mul_right _ hi
    rw [Nat.add_mul, Nat.one_mul] at h3
    exact h1 _ (by omega)
  · rw [List.getElem?_append_right hi] at hx
    have := h2 _ x hx j hj
    rw [← this]
    congr 1
    obtain ⟨d, rfl⟩ : ∃ d, i = xs.length + d := ⟨i - xs.length, by omega⟩
    rw [Nat.add_sub_cancel_left, Nat.add_mul]; omega

theorem arun_cat {α : Type} {sT xT R E E2 sz bytes : Nat} {z : Value} (hs : P.underlying sT = some (.slice E)) (hx : P.underlying xT = some (.slice E2))
    (hsz : (P.info? E).map (·.size) = some sz) (hby : (P.info? E).map (·.bytes) = some bytes) (hz : (P.info? E).bind (·.zero) = some z) (hb0 : 0 < bytes) (hzs : z.cells.size = sz)
    {enc : α → List Value} {v w : Value} {xs ys : List α} {k : Value → Hp → Prop} (S : SlAt h E sz enc v xs) (R0 : Src h sz enc w ys) (hbd : (2 * (xs.length + ys.length) + 770) * bytes ≤ 2 ^ 48)
    (K : ∀ v' h', SlAt h' E sz enc v' (xs ++ ys) → Grew h h' v v' → k v' h') : arun P (Builtin.append_ #[sT, xT] R #[v, w]) h k := by
  obtain ⟨hl, R1⟩ := R0
  have hzc : ∀ n, (Builtin.zeroCells z.cells n).size = n * sz := by intro n; simp [Builtin.zeroCells, hzs]
  -- the new cells
  obtain ⟨a2, c2, new, rfl, hnew, n1, n2, n3⟩ : ∃ a2 c2 new, w = .slice a2 ys.length c2 ∧ rrun P (Builtin.firstCells sz ys.length (.slice a2 ys.length c2)) h = some (List.toArray new) ∧ new.length = ys.length * sz ∧
      (∀ i y, ys[i]? = some y → ∀ j, j < sz → new[i * sz + j]? = (enc y)[j]?) ∧ ∀ u ∈ new, oneCell u = true := by
    rcases R1 with ⟨a, cap, rfl, rfl⟩ | ⟨b, o, cap, c, _, fr, rfl, hb, h1, h2⟩
    · refine ⟨a, cap, [], rfl, ?_, by simp, fun i y hy => by simp at hy, by simp⟩
      cases a with
      | none => rfl
      | some a =>
        show rrun P (loadCells a (0 * sz)) h = _
        rw [Nat.zero_mul]; rfl
    · obtain ⟨q1, q2, q3⟩ := src_cells (n := ys.length) rfl hl h1 h2
      refine ⟨_, cap, _, rfl, ?_, q1, q2, q3⟩
      show rrun P (loadCells ⟨b, o, none⟩ (ys.length * sz)) h = _
      rw [rr_loadCells, ldN_of hb _ _ h1]; rfl
  rcases S with ⟨rfl, rfl⟩ | ⟨b, cap, c, rfl, hb, h1, h2, h3⟩
  · refine arun_append hs hx hsz hby hz hb0 hnew (fun h0 => ?_) (fun hlt => ⟨?_, #[], rfl, fun cap' b hc hb => ?_⟩)
    · have : ys = [] := List.eq_nil_of_length_eq_zero (by omega)
      subst this
      exact K _ _ (.inl ⟨rfl, rfl⟩) ⟨fun _ _ h _ => h, .inl rfl⟩
    · refine Nat.le_trans (Nat.mul_le_mul_right bytes ?_) hbd
      have := nextcap_le hlt
      simp only [List.length_nil]; omega
    · refine K _ _ (.inr ⟨b, cap', _, by simp, if_pos rfl, by simpa using hc, ?_, ?_⟩) ⟨fun y o hy _ => ?_, .inr fun b' hb' => ?_⟩
      · obtain ⟨d, rfl⟩ : ∃ d, cap' = ys.length + d := ⟨cap' - ys.length, by omega⟩
        simp only [Array.size_append, hzc, List.size_toArray, n1]
        have : ys.length + d - ys.length = d := by omega
        simp only [List.length_nil, Nat.zero_add, this, Nat.add_mul]
        exact Nat.le_of_eq (by simp)
      · refine Enc.cat (c := #[]) (fun i x hx => by cases hx) (fun i hi => absurd hi (by simp)) (fun i y hy j hj => ?_)
        have hi := (List.getElem?_eq_some_iff.1 hy).1
        have h3 : (i + 1) * sz ≤ ys.length * sz := Nat.mul_le_mul_right _ hi
        rw [Nat.add_mul, Nat.one_mul] at h3
        rw [Array.getElem?_append_left (by simp [n1]; omega)]
        have := n2 i y hy j hj
        simpa using this
      · have : y ≠ b := by rintro rfl; rw [hb] at hy; cases hy
        simp [Hp.upd, this, hy]
      · cases hb'; exact hb
  · refine arun_append hs hx hsz hby hz hb0 hnew (fun hle => ?_) (fun hlt => ⟨?_, ((c.toList.drop 0).take (xs.length * sz)).toArray, ?_, fun cap' b' hc hb' => ?_⟩)
    · simp only [add_none]
      rw [arun_storeCells_eq]
      have hsz2 : xs.length * sz + ys.length * sz ≤ c.size := by
        have : (xs.length + ys.length) * sz ≤ cap * sz := Nat.mul_le_mul_right _ hle
        rw [Nat.add_mul] at this
        omega
      refine stN_write _ _ c h hb (by simp [n1]; omega) (by simpa using n3) ?_
      refine K _ _ (.inr ⟨b, cap, _, by simp, if_pos rfl, by simpa using hle, by rw [writeL_size]; exact h2, ?_⟩) ⟨fun y o hy hne => ?_, .inl rfl⟩
      · refine Enc.cat h3 (fun i hi => ?_) (fun i y hy j hj => ?_)
        · rw [writeL_get _ _ _ _ (by simp [n1]; omega), if_neg (by omega)]
        · have hi := (List.getElem?_eq_some_iff.1 hy).1
          have h4 : (i + 1) * sz ≤ ys.length * sz := Nat.mul_le_mul_right _ hi
          rw [Nat.add_mul, Nat.one_mul] at h4
          rw [writeL_get _ _ _ _ (by simp [n1]; omega), if_pos (by simp [n1]; omega)]
          have e : xs.length * sz + (i * sz + j) - (xs.length * sz + 0) = i * sz + j := by omega
          simp only [Nat.zero_add, e]; exact n2 i y hy j hj
      · have : y ≠ b := by rintro rfl; exact hne rfl
        simp [Hp.upd, this, hy]
    · refine Nat.le_trans (Nat.mul_le_mul_right bytes ?_) hbd
      have := nextcap_le hlt
      omega
    · show rrun P (loadCells ⟨b, 0, none⟩ (xs.length * sz)) h = _
      have : xs.length * sz ≤ c.size := Nat.le_trans (Nat.mul_le_mul_right _ h1) h2
      rw [rr_loadCells, ldN_of hb _ _ (by omega)]; rfl
    · have hold : ((c.toList.drop 0).take (xs.length * sz)).toArray.size = xs.length * sz := by
        have : xs.length * sz ≤ c.size := Nat.le_trans (Nat.mul_le_mul_right _ h1) h2
        simp; omega
      refine K _ _ (.inr ⟨b', cap', _, by simp, if_pos rfl, by simpa using hc, ?_, ?_⟩) ⟨fun y o hy _ => ?_, .inr fun b2 hb2 => ?_⟩
      · simp only [Array.size_append, hzc, List.size_toArray, n1]
        have e : cap' = xs.length + (ys.length + (cap' - (xs.length + ys.length))) := by omega
        have e2 : ((c.toList.drop 0).take (xs.length * sz)).length = xs.length * sz := by simpa using hold
        rw [e2]
        conv => lhs; rw [e]
        rw [Nat.add_mul, Nat.add_mul]; omega
      · refine Enc.cat h3 (fun i hi => ?_) (fun i y hy j hj => ?_)
        · rw [Array.getElem?_append_left (by simp only [Array.size_append, hold]; omega), Array.getElem?_append_left (by rw [hold]; exact hi)]
          simp [List.getElem?_take, hi]
        · have hi := (List.getElem?_eq_some_iff.1 hy).1
          have h4 : (i + 1) * sz ≤ ys.length * sz := Nat.mul_le_mul_right _ hi
          rw [Nat.add_mul, Nat.one_mul] at h4
          rw [Array.getElem?_append_left (by simp only [Array.size_append, hold, List.size_toArray, n1]; omega), Array.getElem?_append_right (by rw [hold]; omega), hold]
          have e : xs.length * sz + (i * sz + j) - xs.length * sz = i * sz + j := by omega
          rw [e]
          have := n2 i y hy j hj
          simpa using this
      · have : y ≠ b' := by rintro rfl; rw [hb'] at hy; cases hy
        simp [Hp.upd, this, hy]
      · cases hb2; exact hb'

/-! ### A part of a slice -/
theorem rr_sliceBound {n : Nat} {i : Int} {k : BoundsCode} (h0 : 0 ≤ i) (h1 : i ≤ (n : Int)) : rrun P (Instr.sliceBound (.int .i64 i) n k) h = some i.toNat := by
  unfold Instr.sliceBound
  simp only [rrun_bnd, asIntOf, rrun_pure, Option.bind_some]
  rw [if_pos ⟨h0, h1⟩]; rfl

/-- x[i:], within a block. -/
theorem rr_slice_from {t e : TypeId} {sz b o len cap : Nat} {i : Int} (hu : P.underlying t = some (.slice e)) (hs : (P.info? e).map (·.size) = some sz) (h0 : 0 ≤ i) (h1 : i ≤ (len : Int)) (h2 : i < (cap : Int)) :
    rrun P (Instr.sliceAt t (.slice (some ⟨b, o, none⟩) len cap) (some (.int .i64 i)) none none) h = some (.slice (some ⟨b, o + i.toNat * sz, none⟩) (len - i.toNat) (cap - i.toNat)) := by
  unfold Instr.sliceAt
  rw [rrun_bnd, rr_underlying, hu, Option.bind_some]
  simp only
  unfold Instr.slice
  rw [rrun_bnd, rr_underlying, hu, Option.bind_some]
  simp only
  have hb : rrun P (Instr.sliceBounds true len cap (some (.int .i64 i)) none none) h = some (i.toNat, len, cap) := by
    unfold Instr.sliceBounds
    simp only [rrun_bnd, rrun_pure, Option.bind_some]
    rw [rr_sliceBound h0 h1]; rfl
  rw [rrun_bnd, hb, Option.bind_some]
  simp only [rrun_bnd, rr_sizeOf, hs, Option.bind_some, rrun_pure]
  rw [if_neg (by omega)]
  simp only [Option.map_some, add_none]

/-- x[i:] where nothing is left, whatever the address. -/
theorem rr_slice_end {t e : TypeId} {sz : Nat} {a : Option Addr} {len cap : Nat} {i : Int} (hu : P.underlying t = some (.slice e)) (hs : (P.info? e).map (·.size) = some sz) (h1 : i = (len : Int)) :
    ∃ a' cap', rrun P (Instr.sliceAt t (.slice a len cap) (some (.int .i64 i)) none none) h = some (.slice a' 0 cap') := by
  unfold Instr.sliceAt
  rw [rrun_bnd, rr_underlying, hu, Option.bind_some]
  simp only
  unfold Instr.slice
  rw [rrun_bnd, rr_underlying, hu, Option.bind_some]
  simp only
  have hb : rrun P (Instr.sliceBounds true len cap (some (.int .i64 i)) none none) h = some (i.toNat, len, cap) := by
    unfold Instr.sliceBounds
    simp only [rrun_bnd, rrun_pure, Option.bind_some]
    rw [rr_sliceBound (by omega) (by omega)]; rfl
  rw [rrun_bnd, hb, Option.bind_some]
  simp only [rrun_bnd, rr_sizeOf, hs, Option.bind_some, rrun_pure]
  have e0 : len - i.toNat = 0 := by omega
  rw [e0]
  exact ⟨_, _, rfl⟩

/-- x[:i]. -/
theorem rr_slice_to {t e : TypeId} {sz len cap : Nat} {a : Addr} {i : Int} (hu : P.underlying t = some (.slice e)) (hs : (P.info? e).map (·.size) = some sz) (h0 : 0 ≤ i) (h1 : i ≤ (cap : Int)) :
    rrun P (Instr.sliceAt t (.slice (some a) len cap) none (some (.int .i64 i)) none) h = some (.slice (some a) i.toNat cap) := by
  unfold Instr.sliceAt
  rw [rrun_bnd, rr_underlying, hu, Option.bind_some]
  simp only
  unfold Instr.slice
  rw [rrun_bnd, rr_underlying, hu, Option.bind_some]
  simp only
  have hb : rrun P (Instr.sliceBounds true len cap none (some (.int .i64 i)) none) h = some (0, i.toNat, cap) := by
    unfold Instr.sliceBounds
    simp only [rrun_bnd, rrun_pure, Option.bind_some]
    simp only [if_true]
    rw [rr_sliceBound h0 h1]; rfl
  rw [rrun_bnd, hb, Option.bind_some]
  simp only [rrun_bnd, rr_sizeOf, hs, Option.bind_some, rrun_pure, Nat.zero_mul, Nat.sub_zero, Option.map_some]
  split
  · rfl
  · rfl
end
end Go.Proofs.Ytpfenhikoajghaa

/- Maps: what they hold, a look, a store. -/
namespace Go.Proofs.Ytpfenhikoajghaa
open Go
set_option linter.unusedSimpArgs false
set_option linter.unusedVariables false

/-- A map's entries read so, in the order in which they lie. -/
inductive Ents {α β : Type} (kenc : α → Value) (venc : β → Value) : List MapEntry → List (α × β) → Prop where
  | nil : Ents kenc venc [] []
  | cons {e : MapEntry} {es : List MapEntry} {k : α} {v : β} {m : List (α × β)} : e.key = kenc k → e.val = venc v → Ents kenc venc es m → Ents kenc venc (e :: es) ((k, v) :: m)

def findM {α β : Type} [DecidableEq α] (a : α) : List (α × β) → Nat → Option (Nat × β)
  | [], _ => none
  | x :: xs, i => if a = x.1 then some (i, x.2) else findM a xs (i + 1)

theorem Ents.get {α β : Type} {kenc : α → Value} {venc : β → Value} {es : List MapEntry} {m : List (α × β)} (H : Ents kenc venc es m) : ∀ {i : Nat} {x : α × β}, m[i]? = some x → ∃ e, es[i]? = some e ∧ e.key = kenc x.1 ∧ e.val = venc x.2 := by
  induction H with
  | nil => intro i x h; simp at h
  | @cons e es k v m h1 h2 _ ih =>
    intro i x h
    cases i with
    | zero => simp at h; subst h; exact ⟨e, rfl, h1, h2⟩
    | succ i => simpa using ih (by simpa using h)

section
variable {P : Program} {h : Hp} {α β : Type} [DecidableEq α] {kenc : α → Value} {venc : β → Value}

theorem rr_findAsking {kt : TypeId} {a : α} (heq : ∀ b, rrun P (Op.equal kt (kenc a) (kenc b)) h = some (decide (a = b))) : ∀ {es : List MapEntry} {m : List (α × β)}, Ents kenc venc es m → ∀ i,
    rrun P (Instr.findAsking kt (kenc a) es i) h = some ((findM a m i).map fun x => (x.1, venc x.2)) := by
  intro es m H
  induction H with
  | nil => intro i; rfl
  | @cons e es k v m h1 h2 _ ih =>
    intro i
    unfold Instr.findAsking
    rw [rrun_bnd, h1, heq, Option.bind_some]
    by_cases hab : a = k
    · simp [hab, findM, h2, rrun_pure]
    · simp [hab, findM, ih]

theorem rr_findKey_struct {kt : TypeId} {fs : Array Field} {a : α} (hu : P.underlying kt = some (.struct fs)) (heq : ∀ b, rrun P (Op.equal kt (kenc a) (kenc b)) h = some (decide (a = b))) {es : List MapEntry} {m : List (α × β)} (H : Ents kenc venc es m) :
    rrun P (Instr.findKey kt (kenc a) es) h = some ((findM a m 0).map fun x => (x.1, venc x.2)) := by
  unfold Instr.findKey
  rw [rrun_bnd, rr_underlying, hu, Option.bind_some]
  cases H with
  | nil => rfl
  | cons h1 h2 h3 => exact rr_findAsking heq (.cons h1 h2 h3) 0

def getM (m : List (α × β)) (a : α) : Option β := (findM a m 0).map (·.2)

def MapAt (h : Hp) (r : Nat) (kenc : α → Value) (venc : β → Value) (m : List (α × β)) : Prop := ∃ es clock, h r = some (.map es clock) ∧ Ents kenc venc es.toList m

theorem rr_lookup {t kt et : TypeId} {r : Nat} {a : α} {m : List (α × β)} {z : Value} (hu : P.underlying t = some (.map kt et)) (M : MapAt h r kenc venc m) (hck : ∀ e, rrun P (Instr.checkKey e 10000 kt (kenc a)) h = some ())
    (hfk : ∀ es : List MapEntry, Ents kenc venc es m → rrun P (Instr.findKey kt (kenc a) es) h = some ((findM a m 0).map fun x => (x.1, venc x.2))) (hz : (P.info? et).bind (·.zero) = some z) :
    rrun P (Instr.lookup t (.map (some r)) (kenc a) true) h = some (.tuple #[match getM m a with | some v => venc v | none => z, .bool (getM m a).isSome]) := by
  obtain ⟨es, clock, hr, hE⟩ := M
  unfold Instr.lookup
  rw [rrun_bnd, rr_underlying, hu, Option.bind_some]
  simp only []
  have hg : rrun P (getObj r) h = some (.map es clock) := by
    unfold getObj
    simp only [rrun, hr, isRow]
  simp only [rrun_bnd, hg, Option.bind_some, rrun_pure, hck, hfk _ hE]
  unfold getM
  cases findM a m 0 with
  | none =>
    have e : ∀ (s : Sem Value) (f : Value → Value), rrun P (f <$> s) h = (rrun P s h).map f := by
      intro s f
      have : f <$> s = s >>= fun x => pure (f x) := by simp
      rw [this, rrun_bnd]
      cases rrun P s h <;> rfl
    simp [rrun_bnd, rrun_pure, e, rr_zeroValue hz]
  | some x => simp [rrun_bnd, rrun_pure]

def setM (a : α) (v : β) : List (α × β) → List (α × β)
  | [] => [(a, v)]
  | x :: xs => if a = x.1 then (a, v) :: xs else x :: setM a v xs

theorem findM_some {a : α} : ∀ {m : List (α × β)} {i j : Nat} {v : β}, findM a m i = some (j, v) → i ≤ j ∧ m[j - i]? = some (a, v)
  | [], i, j, v, h => by cases h
  | x :: xs, i, j, v, h => by
    simp only [findM] at h
    split at h
    · rename_i e; cases h; rw [Nat.sub_self]; exact ⟨Nat.le_refl _, by simp [e]⟩
    · obtain ⟨h1, h2⟩ := findM_some h
      refine ⟨by omega, ?_⟩
      have e : j - i = (j - (i + 1)) + 1 := by omega
      rw [e]; simpa using h2

theorem Ents.push {es : List MapEntry} {m : List (α × β)} (H : Ents kenc venc es m) {a : α} {v : β} {c : Nat} : findM a m 0 = none → Ents kenc venc (es ++ [{ key := kenc a, val := venc v, born := c }]) (setM a v m) := by
  have key : ∀ (es : List MapEntry) (m : List (α × β)), Ents kenc venc es m → ∀ i, findM a m i = none → Ents kenc venc (es ++ [{ key := kenc a, val := venc v, born := c }]) (setM a v m) := by
    intro es m H
    induction H with
    | nil => intro i _; exact .cons rfl rfl .nil
    | @cons e es k v' m h1 h2 _ ih =>
      intro i h
      simp only [findM] at h
      split at h
      · cases h
      · rename_i hne
        simp only [setM, if_neg hne, List.cons_append]
        exact .cons h1 h2 (ih _ h)
  exact key es m H 0

theorem Ents.modify {es : List MapEntry} {m : List (α × β)} (H : Ents kenc venc es m) {a : α} {v v0 : β} {j : Nat} : findM a m 0 = some (j, v0) → Ents kenc venc (es.modify j fun e => { e with key := kenc a, val := venc v }) (setM a v m) := by
  have key : ∀ (es : List MapEntry) (m : List (α × β)), Ents kenc venc es m → ∀ i, findM a m i = some (i + j, v0) → Ents kenc venc (es.modify j fun e => { e with key := kenc a, val := venc v }) (setM a v m) := by
    intro es m H
    induction H generalizing j with
    | nil => intro i h; cases h
    | @cons e es k v' m h1 h2 h3 ih =>
      intro i h
      simp only [findM] at h
      split at h
      · rename_i e
        have : j = 0 := by
          simp only [Option.some.injEq, Prod.mk.injEq] at h; omega
        subst this
        simp only [setM, if_pos e]
        exact .cons rfl rfl h3
      · rename_i hne
        have := (findM_some h).1
        obtain ⟨j', rfl⟩ : ∃ j', j = j' + 1 := ⟨j - 1, by omega⟩
        simp only [setM, if_neg hne, List.modify_succ_cons]
        refine .cons h1 h2 (ih (j := j') (i + 1) ?_)
        rw [h]; congr 2; omega
  intro h
  exact key es m H 0 (by simpa using h)

theorem rr_getObj {r : Nat} {es : Array MapEntry} {clock : Nat} (hr : h r = some (.map es clock)) : rrun P (getObj r) h = some (.map es clock) := by
  unfold getObj
  simp only [rrun, hr, isRow]

theorem arun_mapUpdate {t kt et : TypeId} {r : Nat} {a : α} {v : β} {m : List (α × β)} {K : Unit → Hp → Prop} (hu : P.underlying t = some (.map kt et)) (M : MapAt h r kenc venc m) (hck : ∀ e, rrun P (Instr.checkKey e 10000 kt (kenc a)) h = some ())
    (hfk : ∀ es : List MapEntry, Ents kenc venc es m → rrun P (Instr.findKey kt (kenc a) es) h = some ((findM a m 0).map fun x => (x.1, venc x.2))) (hsb : Instr.sameBits 10000 (kenc a) (kenc a) = true)
    (hK : ∀ es clock, Ents kenc venc es.toList (setM a v m) → K () (h.upd r (.map es clock))) :
    arun P (Instr.mapUpdate t (.map (some r)) (kenc a) (venc v)) h K := by
  obtain ⟨es, clock, hr, hE⟩ := M
  unfold Instr.mapUpdate
  rw [arun_bnd_rr (a := .map kt et) (by rw [rr_underlying, hu])]
  simp only []
  rw [arun_bnd_rr (a := .map es clock) (rr_getObj hr)]
  simp only []
  rw [arun_bnd_rr (a := ()) (hck _), arun_bnd_rr (hfk _ hE)]
  have set : ∀ o, K () (h.upd r o) → arun P (setObj r o) h K := fun o hk => ⟨⟨_, hr, rfl⟩, hk⟩
  cases hf : findM a m 0 with
  | none =>
    simp only [Option.map_none]
    refine set _ (hK _ _ ?_)
    rw [Array.toList_push]
    exact hE.push hf
  | some x =>
    obtain ⟨j, v0⟩ := x
    simp only [Option.map_some]
    obtain ⟨e, he, hke, _⟩ := hE.get (i := j) (x := (a, v0)) (by have := (findM_some hf).2; simpa using this)
    have hes : es[j]? = some e := by simpa using he
    have hks : rrun P (Instr.keyThatStays (((es[j]?).map (·.key)).getD (kenc a)) (kenc a)) h = some (kenc a) := by
      rw [hes]
      unfold Instr.keyThatStays
      simp only [Option.map_some, Option.getD_some, hke, hsb, if_true]
      rfl
    rw [arun_bnd_rr hks]
    refine set _ (hK _ _ ?_)
    rw [Array.toList_modify]
    exact hE.modify hf

theorem arun_makeMap {t : TypeId} {K : Value → Hp → Prop} (hK : ∀ b, h b = none → K (.map (some b)) (h.upd b (.map #[] 0))) : arun P (Instr.makeMap t none) h K := hK
end
end Go.Proofs.Ytpfenhikoajghaa

/- Room for more; bytes as a string. -/
namespace Go.Proofs.Ytpfenhikoajghaa
open Go
set_option linter.unusedSimpArgs false
set_option linter.unusedVariables false
section
variable {P : Program} {h : Hp}

/-- append(nil, make(T, n)...), n above 0. -/
theorem arun_extend_nil {sT xT R E sz bytes n : Nat} {k : IntKind} {z : Value} (hs : P.underlying sT = some (.slice E)) (hx : P.underlying xT = some (.int k))
    (hsz : (P.info? E).map (·.size) = some sz) (hby : (P.info? E).map (·.bytes) = some bytes) (hz : (P.info? E).bind (·.zero) = some z) (hb0 : 0 < bytes) (hs0 : 0 < sz) (hzs : z.cells.size = sz)
    {K : Value → Hp → Prop} (hn : 0 < n) (hbd : (2 * n + 770) * bytes ≤ 2 ^ 48)
    (hK : ∀ b cap c, h b = none → n ≤ cap → c.size = cap * sz → K (.slice (some ⟨b, 0, none⟩) n cap) (h.upd b (.cells c E))) :
    arun P (Builtin.append_ #[sT, xT] R #[.slice none 0 0, .int .i64 (n : Int)]) h K := by
  obtain ⟨info, hinfo⟩ : ∃ i, P.info? E = some i := by
    cases hi : P.info? E with
    | none => simp [hi] at hsz
    | some i => exact ⟨i, rfl⟩
  have hbi : info.bytes = bytes := by simpa [hinfo] using hby
  have hzc : ∀ n, (Builtin.zeroCells z.cells n).size = n * sz := by intro n; simp [Builtin.zeroCells, hzs]
  have hn48 : n * bytes ≤ 2 ^ 48 := Nat.le_trans (Nat.mul_le_mul_right _ (by omega)) hbd
  have hnle : n ≤ 2 ^ 48 := Nat.le_trans (Nat.le_mul_of_pos_right _ hb0) hn48
  unfold Builtin.append_
  simp only [aget_0, aget_1]
  rw [arun_bnd_rr (a := .slice E) (by rw [rr_underlying, hs])]
  simp only []
  have hw : IntKind.i64.wrap (n : Int) = (n : Int) := wrap_i64 (by omega) (by omega)
  have hinf : rrun P (typeInfo E) h = some info := by rw [rr_info, hinfo]
  have hmul : ¬ ((n : Int) * (info.bytes : Int) > 2 ^ 48) := by
    rw [hbi]
    have : ((n * bytes : Nat) : Int) ≤ ((2 ^ 48 : Nat) : Int) := Int.ofNat_le.2 hn48
    simp only [Int.natCast_mul] at this
    omega
  have hcap := nextcap_le (n := 0 + n) (c := 0) (by omega)
  have hcapb : ¬ (Builtin.nextslicecap (0 + n) 0 * info.bytes > 2 ^ 48) := by
    rw [hbi]
    have : Builtin.nextslicecap (0 + n) 0 * bytes ≤ (2 * n + 770) * bytes := Nat.mul_le_mul_right _ (by omega)
    omega
  have hmax : IntKind.i64.max = 9223372036854775807 := by decide
  rw [arun_bnd_rr (a := sz) (by rw [rr_sizeOf, hsz]), arun_bnd_rr (a := .int k) (by rw [rr_underlying, hx])]
  simp only []
  rw [arun_bnd_rr (a := true) rfl]
  simp only [if_true]
  rw [arun_bnd_rr (a := (n : Int)) rfl]
  simp only [hw]
  rw [if_neg (by omega), arun_bnd_rr hinf, if_neg hmul, arun_bnd_rr (a := ((n : Int)).toNat) rfl]
  simp only [Int.toNat_natCast]
  rw [if_neg (by omega), arun_bnd_rr hinf, if_neg (by rw [hmax]; rintro ⟨h1, _⟩; omega), arun_bnd_rr hinf, if_neg hcapb]
  refine arun_bind _ _ ?_
  show arun P (Sem.choose _ Sem.pure) h _
  unfold arun
  rw [if_neg (by simp [Question.forced])]
  intro t
  show arun P (Sem.bind _ _) h _
  refine arun_bind _ _ (arun_of_rrun _ hinf ?_)
  refine arun_bind _ _ ?_
  rw [arun_askRoom]
  refine arun_bind _ _ (arun_of_rrun _ (a := #[]) rfl ?_)
  refine arun_bind _ _ (arun_of_rrun _ (a := Builtin.zeroCells z.cells n) ?_ ?_)
  · have h0 : ¬ n * sz = 0 := by
      have := Nat.mul_pos hn hs0
      omega
    simp only [Bool.not_true, Bool.false_eq_true, if_false]
    rw [if_neg h0, rrun_bnd, rr_zeroValue hz]; rfl
  refine arun_bind _ _ (arun_of_rrun _ (rr_zeroValue hz) ?_)
  intro b hb
  have key : ∀ cap', n ≤ cap' → K (.slice (some ⟨b, 0, none⟩) (0 + n) cap') (h.upd b (.cells (#[] ++ Builtin.zeroCells z.cells n ++ Builtin.zeroCells z.cells (cap' - (0 + n))) E)) := by
    intro cap' hc
    rw [Nat.zero_add]
    refine hK b cap' _ hb hc ?_
    obtain ⟨d, rfl⟩ : ∃ d, cap' = n + d := ⟨cap' - n, by omega⟩
    simp only [Array.size_append, hzc, Nat.add_sub_cancel_left, Nat.add_mul]
    simp
  exact key _ (by simp only [Question.cut]; omega)
end
end Go.Proofs.Ytpfenhikoajghaa

/- Frames: what a call may change, what it owns behind; slices' shapes. -/
namespace Go.Proofs.Ytpfenhikoajghaa
open Go
set_option linter.unusedSimpArgs false

/-- All blocks but those of O stay; those of O' are of O or new. -/
structure Fr (h h' : Hp) (O O' : List Nat) : Prop where
  keep : ∀ x o, h x = some o → x ∉ O → h' x = some o
  own : ∀ x, x ∈ O' → x ∈ O ∨ h x = none

theorem Fr.refl (h : Hp) (O : List Nat) : Fr h h O O := ⟨fun _ _ e _ => e, fun _ e => .inl e⟩

theorem Fr.trans {h h1 h2 : Hp} {O O1 O2 : List Nat} (a : Fr h h1 O O1) (b : Fr h1 h2 O1 O2) : Fr h h2 O O2 := by
  refine ⟨fun x o e n => b.keep x o (a.keep x o e n) (fun m => ?_), fun x m => ?_⟩
  · rcases a.own x m with q | q
    · exact n q
    · rw [e] at q; cases q
  · rcases b.own x m with q | q
    · exact a.own x q
    · cases e : h x with
      | none => exact .inr rfl
      | some o =>
        by_cases hO : x ∈ O
        · exact .inl hO
        · rw [a.keep x o e hO] at q; cases q

theorem Fr.of_le {h h' : Hp} {O O' : List Nat} (l : Le h h') (f : ∀ x, x ∈ O' → x ∈ O ∨ h x = none) : Fr h h' O O' := ⟨fun x o e _ => l x o e, f⟩

/-- What is owned is not of an older heap: that stays. -/
theorem Fr.le {g h h' : Hp} {O O' : List Nat} (a : Fr h h' O O') (l : Le g h) (n : ∀ x, x ∈ O → g x = none) : Le g h' := fun x o e => a.keep x o (l x o e) (fun m => by rw [n x m] at e; cases e)

theorem upd_ne {h : Hp} {b x : Nat} {o : Obj} (n : x ≠ b) : (h.upd b o) x = h x := by rw [upd_get, if_neg n]
theorem upd_same {h : Hp} {b : Nat} {o : Obj} : (h.upd b o) b = some o := by rw [upd_get, if_pos rfl]

/-- A write into an own block. -/
theorem Fr.upd {h : Hp} {O : List Nat} {b : Nat} {o : Obj} (m : b ∈ O) : Fr h (h.upd b o) O O :=
  ⟨fun x _ e n => by rw [upd_ne]; exact e; rintro rfl; exact n m, fun _ e => .inl e⟩

theorem none_of_le {h g : Hp} {b : Nat} (L : Le h g) (hb : g b = none) : h b = none := by
  cases hh : h b with
  | none => rfl
  | some o => rw [L _ _ hh] at hb; cases hb

theorem Fr.new {g h h' : Hp} {O O' : List Nat} (a : Fr h h' O O') (l : Le g h) (n : ∀ x, x ∈ O → g x = none) : ∀ x, x ∈ O' → g x = none := fun x m => by
  rcases a.own x m with q | q
  · exact n x q
  · exact none_of_le l q

/-- Another one's blocks stay its own. -/
theorem Fr.apart {h h' : Hp} {O O' R : List Nat} (a : Fr h h' O O') (al : ∀ x, x ∈ R → ∃ o, h x = some o) (d : ∀ x, x ∈ R → x ∉ O) : ∀ x, x ∈ R → x ∉ O' := fun x m m' => by
  rcases a.own x m' with q | q
  · exact d x m q
  · obtain ⟨o, e⟩ := al x m; rw [e] at q; cases q

theorem Fr.alive {h h' : Hp} {O O' R : List Nat} (a : Fr h h' O O') (al : ∀ x, x ∈ R → ∃ o, h x = some o) (d : ∀ x, x ∈ R → x ∉ O) : ∀ x, x ∈ R → ∃ o, h' x = some o := fun x m => by
  obtain ⟨o, e⟩ := al x m
  exact ⟨o, a.keep x o e (d x m)⟩

theorem Grew.fr {h h' : Hp} {v v' : Value} (G : Grew h h' v v') : Fr h h' (blkOf v).toList (blkOf v').toList := by
  refine ⟨fun x o e n => G.keep x o e (fun q => n (by rw [← q]; simp)), fun x m => ?_⟩
  rcases G.fresh with q | q
  · rw [q] at m; exact .inl m
  · exact .inr (q x (by simpa using m))

section
variable {α : Type} {h h' : Hp} {E sz : Nat} {enc : α → List Value} {v : Value} {xs : List α}

theorem SlAt.at' {i : Nat} {x : α} (S : SlAt h E sz enc v xs) (hx : xs[i]? = some x) :
    ∃ b cap c, v = .slice (some ⟨b, 0, none⟩) xs.length cap ∧ h b = some (.cells c E (0, 0)) ∧ ∀ j, j < sz → c[i * sz + j]? = (enc x)[j]? := by
  rcases S with ⟨_, rfl⟩ | ⟨b, cap, c, rfl, hb, h1, h2, h3⟩
  · simp at hx
  · exact ⟨b, cap, c, rfl, hb, fun j hj => by have := h3 i x hx j hj; rwa [Nat.zero_add] at this⟩

theorem SlAt.shape' (S : SlAt h E sz enc v xs) : ∃ p cap, v = .slice p xs.length cap := by
  rcases S with ⟨rfl, rfl⟩ | ⟨b, cap, c, rfl, _⟩
  · exact ⟨_, _, rfl⟩
  · exact ⟨_, _, rfl⟩

theorem SlAt.le' (S : SlAt h E sz enc v xs) (l : Le h h') : SlAt h' E sz enc v xs := S.keep (fun _ _ _ e => l _ _ e)

theorem SlAt.alive (S : SlAt h E sz enc v xs) {b : Nat} (hb : blkOf v = some b) : ∃ o, h b = some o := by
  rcases S with ⟨rfl, rfl⟩ | ⟨b, cap, c, rfl, hb', _⟩
  · cases hb
  · cases hb; exact ⟨_, hb'⟩

theorem SlAt.fr {O O' : List Nat} (S : SlAt h E sz enc v xs) (F : Fr h h' O O') (n : ∀ b, blkOf v = some b → b ∉ O) : SlAt h' E sz enc v xs := S.keep (fun b o e q => F.keep b o q (n b e))

/-- The first ones of a slice. -/
theorem SlAt.take {b cap : Nat} (S : SlAt h E sz enc (.slice (some ⟨b, 0, none⟩) xs.length cap) xs) (n : Nat) (hn : n ≤ xs.length) : SlAt h E sz enc (.slice (some ⟨b, 0, none⟩) n cap) (xs.take n) := by
  rcases S with ⟨e, rfl⟩ | ⟨b', cap', c, e, hb, h1, h2, h3⟩
  · cases e
  · cases e
    refine .inr ⟨_, _, c, by rw [List.length_take, Nat.min_eq_left hn], hb, by rw [List.length_take]; omega, h2, fun i x hx j hj => h3 i x ?_ j hj⟩
    rw [List.getElem?_take] at hx
    split at hx
    · exact hx
    · cases hx
end

/-- x[i:j], within a block. -/
theorem rr_slice_part {P : Program} {h : Hp} {t e : TypeId} {sz b o len cap : Nat} {i j : Int} (hu : P.underlying t = some (.slice e)) (hs : (P.info? e).map (·.size) = some sz) (h0 : 0 ≤ i) (h1 : i ≤ j) (h2 : j ≤ (cap : Int)) (h3 : i < (cap : Int)) :
    rrun P (Instr.sliceAt t (.slice (some ⟨b, o, none⟩) len cap) (some (.int .i64 i)) (some (.int .i64 j)) none) h = some (.slice (some ⟨b, o + i.toNat * sz, none⟩) (j.toNat - i.toNat) (cap - i.toNat)) := by
  unfold Instr.sliceAt
  rw [rrun_bnd, rr_underlying, hu, Option.bind_some]
  simp only
  unfold Instr.slice
  rw [rrun_bnd, rr_underlying, hu, Option.bind_some]
  simp only
  have hb : rrun P (Instr.sliceBounds true len cap (some (.int .i64 i)) (some (.int .i64 j)) none) h = some (i.toNat, j.toNat, cap) := by
    unfold Instr.sliceBounds
    simp only [rrun_bnd, rrun_pure, Option.bind_some, if_true]
    rw [rr_sliceBound (by omega) h2, Option.bind_some, rr_sliceBound h0 (by omega)]; rfl
  rw [rrun_bnd, hb, Option.bind_some]
  simp only [rrun_bnd, rr_sizeOf, hs, Option.bind_some, rrun_pure]
  rw [if_neg (by omega)]
  simp only [Option.map_some, add_none]

theorem sq_rg {r s : Env → Hp → (Env → Hp → Prop) → Prop} {D : Den} : sq (rg r) (sq (rg s) D) = sq (rg fun env h K => r env h fun env h => s env h K) D := rfl

/-! ### One more element -/
theorem arun_snoc {P : Program} {α : Type} {sT xT R E E2 E3 sz bytes : Nat} {z : Value} (hs : P.underlying sT = some (.slice E)) (hx : P.underlying xT = some (.slice E2))
    (hsz : (P.info? E).map (·.size) = some sz) (hby : (P.info? E).map (·.bytes) = some bytes) (hz : (P.info? E).bind (·.zero) = some z) (hb0 : 0 < bytes) (hzs : z.cells.size = sz)
    {h : Hp} {enc : α → List Value} {v : Value} {xs : List α} {y : α} {k : Nat → Value → Hp → Prop} (S : SlAt h E sz enc v xs) (hl : (enc y).length = sz) (ho : ∀ u ∈ enc y, oneCell u = true) (hbd : (2 * (xs.length + 1) + 770) * bytes ≤ 2 ^ 48)
    (K : ∀ b v' h', SlAt h' E sz enc v' (xs ++ [y]) → Grew h h' v v' → h b = none → k b v' h') :
    ∀ b, h b = none → arun P (Builtin.append_ #[sT, xT] R #[v, .slice (some ⟨b, 0, none⟩) 1 1]) (h.upd b (.cells (enc y).toArray E3 (0, 0))) (k b) := by
  intro b hb
  have L : Le h (h.upd b (.cells (enc y).toArray E3 (0, 0))) := .new hb
  refine arun_cat hs hx hsz hby hz hb0 hzs (S.keep fun _ _ _ e => L _ _ e) (ys := [y]) ⟨by simpa using ⟨hl, ho⟩, .inr ⟨b, 0, 1, _, _, _, rfl, upd_same, by simp [hl], fun i x hx j hj => ?_⟩⟩ hbd (fun v' h' S' G => K b v' h' S' ⟨fun x o e n => G.keep x o (L _ _ e) n, ?_⟩ hb)
  · rcases i with _ | i
    · simp at hx; subst hx; simp
    · simp at hx
  · rcases G.fresh with q | q
    · exact .inl q
    · exact .inr fun b' e => none_of_le L (q b' e)

/-! ### Maps: what is found -/
theorem findM_map {α β : Type} [DecidableEq α] {a : α} : ∀ (m : List (α × β)) (i j : Nat), (findM a m i).map (·.2) = (findM a m j).map (·.2)
  | [], _, _ => rfl
  | x :: xs, i, j => by
    simp only [findM]
    split
    · rfl
    · exact findM_map xs _ _

theorem getM_nil {α β : Type} [DecidableEq α] {a : α} : getM ([] : List (α × β)) a = none := rfl
theorem getM_cons {α β : Type} [DecidableEq α] {a : α} {x : α × β} {xs : List (α × β)} : getM (x :: xs) a = if a = x.1 then some x.2 else getM xs a := by
  unfold getM
  simp only [findM]
  split
  · rfl
  · exact findM_map _ _ _

theorem getM_setM {α β : Type} [DecidableEq α] {a b : α} {v : β} : ∀ {m : List (α × β)}, getM (setM a v m) b = if b = a then some v else getM m b
  | [] => by simp [setM, getM_cons, getM_nil]
  | x :: xs => by
    simp only [setM]
    split
    · rename_i e
      rw [getM_cons, getM_cons]
      by_cases hb : b = a
      · simp [hb]
      · rw [if_neg hb, if_neg hb, if_neg (by rw [← e]; exact hb)]
    · rename_i e
      rw [getM_cons, getM_cons, getM_setM]
      by_cases hb : b = a
      · rw [if_neg (by rw [hb]; exact e), if_pos hb, if_pos hb]
      · rw [if_neg hb]; simp [hb]
end Go.Proofs.Ytpfenhikoajghaa

/- Printed by wip/kit/gen.py out of the translation: what operations of these types come to. -/
namespace Go.Proofs.Ytpfenhikoajghaa
open Go

set_option maxRecDepth 100000

abbrev F_octroilaw16_RipWays : Nat := 3
abbrev F_octroilaw16_RipFull : Nat := 4
abbrev F_octroilaw16_RipDoes : Nat := 5
abbrev F_octroilaw16_RipTags : Nat := 6
abbrev F_octroilaw16_RipPoison : Nat := 7
abbrev F_octroilaw16_RipOwns : Nat := 8
abbrev F_octroilaw16_awake : Nat := 9
abbrev F_rip_New : Nat := 10
abbrev F_rip_Rip_Hear : Nat := 11
abbrev F_rip_Rip_Len : Nat := 12
abbrev F_rip_Rip_All : Nat := 13
abbrev F_octroilaw16_Few : Nat := 14
abbrev F_octroiref16_New : Nat := 15
abbrev F_octroilaw16_Does : Nat := 16
abbrev F_octroilaw16_refDoes : Nat := 17
abbrev F_octroiref09_Same : Nat := 18
abbrev F_octroiref16_Rip_All : Nat := 19
abbrev F_octroiref16_Same : Nat := 20
abbrev F_rip_Rip_Tell : Nat := 21
abbrev F_octroiref16_Rip_Tell : Nat := 22
abbrev F_tags_Has : Nat := 23
abbrev F_rip_Rip_Own : Nat := 24
abbrev F_rip_Rip_Drop : Nat := 25
abbrev F_rip_Rip_Tick : Nat := 26
abbrev F_prefix_May : Nat := 27
abbrev F_metric_Hops : Nat := 28
abbrev F_rip_route_hear : Nat := 29
abbrev F_rip_Rip_order : Nat := 30
abbrev F_rip_route_reached : Nat := 31
abbrev F_rip_Rip_Lose : Nat := 32
abbrev F_octroiref16_Rip_Own : Nat := 33
abbrev F_octroiref16_Rip_Drop : Nat := 34
abbrev F_octroiref16_Rip_Hear : Nat := 35
abbrev F_octroiref16_Rip_Tick : Nat := 36
abbrev F_octroiref16_Rip_Lose : Nat := 37
abbrev F_tags_may : Nat := 38
abbrev F_rip_route_spoil : Nat := 39
abbrev F_prefix_Mask : Nat := 40
abbrev F_num_Add : Nat := 41
abbrev F_slices_SortedFunc_api_Prefix : Nat := 42
abbrev F_maps_Keys_map_api_Prefix_rip_route_api_Prefix_rip_route : Nat := 43
abbrev F_rip_Rip_order_1 : Nat := 44
abbrev F_prefix_Less : Nat := 45
abbrev F_octroiref02_May : Nat := 46
abbrev F_octroiref03_Has : Nat := 47
abbrev F_octroiref16_Rip_at : Nat := 48
abbrev F_octroiref16_Rip_put : Nat := 49
abbrev F_octroiref16_Rip_garbage : Nat := 50
abbrev F_octroiref01_Add : Nat := 51
abbrev F_octroiref16_Rip_known : Nat := 52
abbrev F_slices_Collect_api_Prefix : Nat := 53
abbrev F_slices_SortFunc_api_Prefix_api_Prefix : Nat := 54
abbrev F_maps_Keys_map_api_Prefix_rip_route_api_Prefix_rip_route_1 : Nat := 55
abbrev F_octroiref02_Mask : Nat := 56
abbrev F_octroiref03_is : Nat := 57
abbrev F_octroiref03_bit : Nat := 58
abbrev F_octroiref02_Less : Nat := 59
abbrev F_slices_AppendSeq_api_Prefix_api_Prefix : Nat := 60
abbrev F_slices_pdqsortCmpFunc_api_Prefix : Nat := 61
abbrev F_math_bits_Len : Nat := 62
abbrev F_slices_insertionSortCmpFunc_api_Prefix : Nat := 63
abbrev F_math_bits_Len32 : Nat := 71
abbrev F_math_bits_Len64 : Nat := 72
abbrev F_slices_siftDownCmpFunc_api_Prefix : Nat := 73
abbrev T_api_Prefix : Nat := 24
abbrev T_api_Errno : Nat := 28
abbrev T_api_RipEntry : Nat := 33
abbrev T_api_Route : Nat := 38
abbrev T_octroilaw16_Op : Nat := 48
abbrev T_octroiref16_Rip : Nat := 56
abbrev T_rip_Rip : Nat := 67
abbrev T_rip_route : Nat := 73
abbrev T_octroiref16_Route : Nat := 78
@[simp] theorem al_24 {h : Hp} {k : Value → Hp → Prop} : arun Try.prog (Instr.alloc 24 true (.tuple #[])) h k = nw h (.cells #[Value.int .u32 0, Value.int .i64 0] 24) fun b h => k (.pointer (some ⟨b, 0, none⟩)) h := arun_alloc (v := Value.agg #[Value.int .u32 0, Value.int .i64 0]) (by kernel_rfl)
@[simp] theorem al_33 {h : Hp} {k : Value → Hp → Prop} : arun Try.prog (Instr.alloc 33 true (.tuple #[])) h k = nw h (.cells #[Value.int .u32 0, Value.int .i64 0, Value.int .u16 0, Value.int .u32 0, Value.int .i64 0] 33) fun b h => k (.pointer (some ⟨b, 0, none⟩)) h := arun_alloc (v := Value.agg #[Value.int .u32 0, Value.int .i64 0, Value.int .u16 0, Value.int .u32 0, Value.int .i64 0]) (by kernel_rfl)
@[simp] theorem al_78 {h : Hp} {k : Value → Hp → Prop} : arun Try.prog (Instr.alloc 78 true (.tuple #[])) h k = nw h (.cells #[Value.int .u32 0, Value.int .i64 0, Value.int .i64 0, Value.int .u16 0, Value.int .i64 0, Value.int .i64 0] 78) fun b h => k (.pointer (some ⟨b, 0, none⟩)) h := arun_alloc (v := Value.agg #[Value.int .u32 0, Value.int .i64 0, Value.int .i64 0, Value.int .u16 0, Value.int .i64 0, Value.int .i64 0]) (by kernel_rfl)
theorem und_35 : Try.prog.underlying 35 = some (.slice 38) := by kernel_rfl
theorem size_38 : (Try.prog.info? 38).map (·.size) = some 7 := by kernel_rfl
theorem bytes_38 : (Try.prog.info? 38).map (·.bytes) = some 56 := by kernel_rfl
theorem zero_38 : (Try.prog.info? 38).bind (·.zero) = some (Value.agg #[Value.int .u32 0, Value.int .i64 0, Value.int .i64 0, Value.int .i64 0, Value.int .i64 0, Value.int .i64 0, Value.int .u16 0]) := by kernel_rfl
theorem push_api_Route {α : Type} {R b2 o2 c2 : Nat} {enc : α → List Value} {v : Value} {xs : List α} {y : α} {h : Hp} {k : Value → Hp → Prop} (S : SlAt h 38 7 enc v xs) (hy : ldN h b2 o2 7 = some (enc y)) (hyl : (enc y).length = 7) (hone : ∀ u ∈ enc y, oneCell u = true) (hbd : (2 * xs.length + 770) * 56 ≤ 2 ^ 48) (K : ∀ b c cap, (some b = blkOf v ∨ h b = none) → xs.length + 1 ≤ cap → cap * 7 ≤ c.size → Enc c 0 7 enc (xs ++ [y]) → k (.slice (some ⟨b, 0, none⟩) (xs.length + 1) cap) (h.upd b (.cells c 38 (0, 0)))) :
    arun Try.prog (Builtin.append_ #[35, 35] R #[v, .slice (some ⟨b2, o2, none⟩) 1 c2]) h k := arun_push und_35 und_35 size_38 bytes_38 zero_38 (by decide) rfl S hy hyl hone hbd K
theorem cat_api_Route {α : Type} {R : Nat} {enc : α → List Value} {v w : Value} {xs ys : List α} {h : Hp} {k : Value → Hp → Prop} (S : SlAt h 38 7 enc v xs) (R0 : Src h 7 enc w ys) (hbd : (2 * (xs.length + ys.length) + 770) * 56 ≤ 2 ^ 48) (K : ∀ v' h', SlAt h' 38 7 enc v' (xs ++ ys) → Grew h h' v v' → k v' h') :
    arun Try.prog (Builtin.append_ #[35, 35] R #[v, w]) h k := arun_cat und_35 und_35 size_38 bytes_38 zero_38 (by decide) rfl S R0 hbd K
theorem snoc_api_Route {α : Type} {R E3 : Nat} {enc : α → List Value} {v : Value} {xs : List α} {y : α} {h : Hp} {k : Nat → Value → Hp → Prop} (S : SlAt h 38 7 enc v xs) (hl : (enc y).length = 7) (ho : ∀ u ∈ enc y, oneCell u = true) (hbd : (2 * (xs.length + 1) + 770) * 56 ≤ 2 ^ 48) (K : ∀ b v' h', SlAt h' 38 7 enc v' (xs ++ [y]) → Grew h h' v v' → h b = none → k b v' h') :
    ∀ b, h b = none → arun Try.prog (Builtin.append_ #[35, 35] R #[v, .slice (some ⟨b, 0, none⟩) 1 1]) (h.upd b (.cells (enc y).toArray E3 (0, 0))) (k b) := arun_snoc und_35 und_35 size_38 bytes_38 zero_38 (by decide) rfl S hl ho hbd K
theorem und_52 : Try.prog.underlying 52 = some (.slice 33) := by kernel_rfl
theorem size_33 : (Try.prog.info? 33).map (·.size) = some 5 := by kernel_rfl
theorem bytes_33 : (Try.prog.info? 33).map (·.bytes) = some 32 := by kernel_rfl
theorem zero_33 : (Try.prog.info? 33).bind (·.zero) = some (Value.agg #[Value.int .u32 0, Value.int .i64 0, Value.int .u16 0, Value.int .u32 0, Value.int .i64 0]) := by kernel_rfl
theorem push_api_RipEntry {α : Type} {R b2 o2 c2 : Nat} {enc : α → List Value} {v : Value} {xs : List α} {y : α} {h : Hp} {k : Value → Hp → Prop} (S : SlAt h 33 5 enc v xs) (hy : ldN h b2 o2 5 = some (enc y)) (hyl : (enc y).length = 5) (hone : ∀ u ∈ enc y, oneCell u = true) (hbd : (2 * xs.length + 770) * 32 ≤ 2 ^ 48) (K : ∀ b c cap, (some b = blkOf v ∨ h b = none) → xs.length + 1 ≤ cap → cap * 5 ≤ c.size → Enc c 0 5 enc (xs ++ [y]) → k (.slice (some ⟨b, 0, none⟩) (xs.length + 1) cap) (h.upd b (.cells c 33 (0, 0)))) :
    arun Try.prog (Builtin.append_ #[52, 52] R #[v, .slice (some ⟨b2, o2, none⟩) 1 c2]) h k := arun_push und_52 und_52 size_33 bytes_33 zero_33 (by decide) rfl S hy hyl hone hbd K
theorem cat_api_RipEntry {α : Type} {R : Nat} {enc : α → List Value} {v w : Value} {xs ys : List α} {h : Hp} {k : Value → Hp → Prop} (S : SlAt h 33 5 enc v xs) (R0 : Src h 5 enc w ys) (hbd : (2 * (xs.length + ys.length) + 770) * 32 ≤ 2 ^ 48) (K : ∀ v' h', SlAt h' 33 5 enc v' (xs ++ ys) → Grew h h' v v' → k v' h') :
    arun Try.prog (Builtin.append_ #[52, 52] R #[v, w]) h k := arun_cat und_52 und_52 size_33 bytes_33 zero_33 (by decide) rfl S R0 hbd K
theorem snoc_api_RipEntry {α : Type} {R E3 : Nat} {enc : α → List Value} {v : Value} {xs : List α} {y : α} {h : Hp} {k : Nat → Value → Hp → Prop} (S : SlAt h 33 5 enc v xs) (hl : (enc y).length = 5) (ho : ∀ u ∈ enc y, oneCell u = true) (hbd : (2 * (xs.length + 1) + 770) * 32 ≤ 2 ^ 48) (K : ∀ b v' h', SlAt h' 33 5 enc v' (xs ++ [y]) → Grew h h' v v' → h b = none → k b v' h') :
    ∀ b, h b = none → arun Try.prog (Builtin.append_ #[52, 52] R #[v, .slice (some ⟨b, 0, none⟩) 1 1]) (h.upd b (.cells (enc y).toArray E3 (0, 0))) (k b) := arun_snoc und_52 und_52 size_33 bytes_33 zero_33 (by decide) rfl S hl ho hbd K
theorem und_54 : Try.prog.underlying 54 = some (.slice 78) := by kernel_rfl
theorem size_78 : (Try.prog.info? 78).map (·.size) = some 6 := by kernel_rfl
theorem bytes_78 : (Try.prog.info? 78).map (·.bytes) = some 48 := by kernel_rfl
theorem zero_78 : (Try.prog.info? 78).bind (·.zero) = some (Value.agg #[Value.int .u32 0, Value.int .i64 0, Value.int .i64 0, Value.int .u16 0, Value.int .i64 0, Value.int .i64 0]) := by kernel_rfl
theorem push_octroiref16_Route {α : Type} {R b2 o2 c2 : Nat} {enc : α → List Value} {v : Value} {xs : List α} {y : α} {h : Hp} {k : Value → Hp → Prop} (S : SlAt h 78 6 enc v xs) (hy : ldN h b2 o2 6 = some (enc y)) (hyl : (enc y).length = 6) (hone : ∀ u ∈ enc y, oneCell u = true) (hbd : (2 * xs.length + 770) * 48 ≤ 2 ^ 48) (K : ∀ b c cap, (some b = blkOf v ∨ h b = none) → xs.length + 1 ≤ cap → cap * 6 ≤ c.size → Enc c 0 6 enc (xs ++ [y]) → k (.slice (some ⟨b, 0, none⟩) (xs.length + 1) cap) (h.upd b (.cells c 78 (0, 0)))) :
    arun Try.prog (Builtin.append_ #[54, 54] R #[v, .slice (some ⟨b2, o2, none⟩) 1 c2]) h k := arun_push und_54 und_54 size_78 bytes_78 zero_78 (by decide) rfl S hy hyl hone hbd K
theorem cat_octroiref16_Route {α : Type} {R : Nat} {enc : α → List Value} {v w : Value} {xs ys : List α} {h : Hp} {k : Value → Hp → Prop} (S : SlAt h 78 6 enc v xs) (R0 : Src h 6 enc w ys) (hbd : (2 * (xs.length + ys.length) + 770) * 48 ≤ 2 ^ 48) (K : ∀ v' h', SlAt h' 78 6 enc v' (xs ++ ys) → Grew h h' v v' → k v' h') :
    arun Try.prog (Builtin.append_ #[54, 54] R #[v, w]) h k := arun_cat und_54 und_54 size_78 bytes_78 zero_78 (by decide) rfl S R0 hbd K
theorem snoc_octroiref16_Route {α : Type} {R E3 : Nat} {enc : α → List Value} {v : Value} {xs : List α} {y : α} {h : Hp} {k : Nat → Value → Hp → Prop} (S : SlAt h 78 6 enc v xs) (hl : (enc y).length = 6) (ho : ∀ u ∈ enc y, oneCell u = true) (hbd : (2 * (xs.length + 1) + 770) * 48 ≤ 2 ^ 48) (K : ∀ b v' h', SlAt h' 78 6 enc v' (xs ++ [y]) → Grew h h' v v' → h b = none → k b v' h') :
    ∀ b, h b = none → arun Try.prog (Builtin.append_ #[54, 54] R #[v, .slice (some ⟨b, 0, none⟩) 1 1]) (h.upd b (.cells (enc y).toArray E3 (0, 0))) (k b) := arun_snoc und_54 und_54 size_78 bytes_78 zero_78 (by decide) rfl S hl ho hbd K
theorem und_74 : Try.prog.underlying 74 = some (.slice 24) := by kernel_rfl
theorem size_24 : (Try.prog.info? 24).map (·.size) = some 2 := by kernel_rfl
theorem bytes_24 : (Try.prog.info? 24).map (·.bytes) = some 16 := by kernel_rfl
theorem zero_24 : (Try.prog.info? 24).bind (·.zero) = some (Value.agg #[Value.int .u32 0, Value.int .i64 0]) := by kernel_rfl
theorem push_api_Prefix {α : Type} {R b2 o2 c2 : Nat} {enc : α → List Value} {v : Value} {xs : List α} {y : α} {h : Hp} {k : Value → Hp → Prop} (S : SlAt h 24 2 enc v xs) (hy : ldN h b2 o2 2 = some (enc y)) (hyl : (enc y).length = 2) (hone : ∀ u ∈ enc y, oneCell u = true) (hbd : (2 * xs.length + 770) * 16 ≤ 2 ^ 48) (K : ∀ b c cap, (some b = blkOf v ∨ h b = none) → xs.length + 1 ≤ cap → cap * 2 ≤ c.size → Enc c 0 2 enc (xs ++ [y]) → k (.slice (some ⟨b, 0, none⟩) (xs.length + 1) cap) (h.upd b (.cells c 24 (0, 0)))) :
    arun Try.prog (Builtin.append_ #[74, 74] R #[v, .slice (some ⟨b2, o2, none⟩) 1 c2]) h k := arun_push und_74 und_74 size_24 bytes_24 zero_24 (by decide) rfl S hy hyl hone hbd K
theorem cat_api_Prefix {α : Type} {R : Nat} {enc : α → List Value} {v w : Value} {xs ys : List α} {h : Hp} {k : Value → Hp → Prop} (S : SlAt h 24 2 enc v xs) (R0 : Src h 2 enc w ys) (hbd : (2 * (xs.length + ys.length) + 770) * 16 ≤ 2 ^ 48) (K : ∀ v' h', SlAt h' 24 2 enc v' (xs ++ ys) → Grew h h' v v' → k v' h') :
    arun Try.prog (Builtin.append_ #[74, 74] R #[v, w]) h k := arun_cat und_74 und_74 size_24 bytes_24 zero_24 (by decide) rfl S R0 hbd K
theorem snoc_api_Prefix {α : Type} {R E3 : Nat} {enc : α → List Value} {v : Value} {xs : List α} {y : α} {h : Hp} {k : Nat → Value → Hp → Prop} (S : SlAt h 24 2 enc v xs) (hl : (enc y).length = 2) (ho : ∀ u ∈ enc y, oneCell u = true) (hbd : (2 * (xs.length + 1) + 770) * 16 ≤ 2 ^ 48) (K : ∀ b v' h', SlAt h' 24 2 enc v' (xs ++ [y]) → Grew h h' v v' → h b = none → k b v' h') :
    ∀ b, h b = none → arun Try.prog (Builtin.append_ #[74, 74] R #[v, .slice (some ⟨b, 0, none⟩) 1 1]) (h.upd b (.cells (enc y).toArray E3 (0, 0))) (k b) := arun_snoc und_74 und_74 size_24 bytes_24 zero_24 (by decide) rfl S hl ho hbd K
@[simp] theorem bd_24_0_1 {h : Hp} {x0 : Int} {x1 : Int} : rrun Try.prog (Instr.build 24 #[(0, Value.int .u32 x0), (1, Value.int .i64 x1)]) h = some (.agg #[Value.int .u32 x0, Value.int .i64 x1]) := by kernel_rfl
@[simp] theorem bd_33_0_1_3 {h : Hp} {x0_0 : Int} {x0_1 : Int} {x1 : Int} {x3 : Int} : rrun Try.prog (Instr.build 33 #[(0, Value.agg #[Value.int .u32 x0_0, Value.int .i64 x0_1]), (1, Value.int .u16 x1), (3, Value.int .i64 x3)]) h = some (.agg #[Value.int .u32 x0_0, Value.int .i64 x0_1, Value.int .u16 x1, Value.int .u32 0, Value.int .i64 x3]) := by kernel_rfl
@[simp] theorem bd_33_0_3 {h : Hp} {x0_0 : Int} {x0_1 : Int} {x3 : Int} : rrun Try.prog (Instr.build 33 #[(0, Value.agg #[Value.int .u32 x0_0, Value.int .i64 x0_1]), (3, Value.int .i64 x3)]) h = some (.agg #[Value.int .u32 x0_0, Value.int .i64 x0_1, Value.int .u16 0, Value.int .u32 0, Value.int .i64 x3]) := by kernel_rfl
@[simp] theorem bd_38_0_1_2_3_4_5 {h : Hp} {x0_0 : Int} {x0_1 : Int} {x1 : Int} {x2 : Int} {x3 : Int} {x4 : Int} {x5 : Int} : rrun Try.prog (Instr.build 38 #[(0, Value.agg #[Value.int .u32 x0_0, Value.int .i64 x0_1]), (1, Value.int .i64 x1), (2, Value.int .i64 x2), (3, Value.int .i64 x3), (4, Value.int .i64 x4), (5, Value.int .u16 x5)]) h = some (.agg #[Value.int .u32 x0_0, Value.int .i64 x0_1, Value.int .i64 x1, Value.int .i64 x2, Value.int .i64 x3, Value.int .i64 x4, Value.int .u16 x5]) := by kernel_rfl
@[simp] theorem bd_56_0_1 {h : Hp} {x0 : Int} {x1 : Int} : rrun Try.prog (Instr.build 56 #[(0, Value.int .i64 x0), (1, Value.int .i64 x1)]) h = some (.agg #[Value.int .i64 x0, Value.int .i64 x1, Value.slice none 0 0]) := by kernel_rfl
@[simp] theorem bd_67_0_1_2 {h : Hp} {x0 : Int} {x1 : Int} {x2 : Option Nat} : rrun Try.prog (Instr.build 67 #[(0, Value.int .i64 x0), (1, Value.int .i64 x1), (2, Value.map x2)]) h = some (.agg #[Value.int .i64 x0, Value.int .i64 x1, Value.map x2]) := by kernel_rfl
@[simp] theorem bd_73_0_1_2_3 {h : Hp} {x0 : Int} {x1 : Int} {x2 : Int} {x3 : Int} : rrun Try.prog (Instr.build 73 #[(0, Value.int .i64 x0), (1, Value.int .i64 x1), (2, Value.int .i64 x2), (3, Value.int .u16 x3)]) h = some (.agg #[Value.int .i64 x0, Value.int .i64 x1, Value.int .i64 x2, Value.int .u16 x3]) := by kernel_rfl
@[simp] theorem bd_73_0_3 {h : Hp} {x0 : Int} {x3 : Int} : rrun Try.prog (Instr.build 73 #[(0, Value.int .i64 x0), (3, Value.int .u16 x3)]) h = some (.agg #[Value.int .i64 x0, Value.int .i64 0, Value.int .i64 0, Value.int .u16 x3]) := by kernel_rfl
@[simp] theorem bd_78_0_1_2 {h : Hp} {x0_0 : Int} {x0_1 : Int} {x1 : Int} {x2 : Int} : rrun Try.prog (Instr.build 78 #[(0, Value.agg #[Value.int .u32 x0_0, Value.int .i64 x0_1]), (1, Value.int .i64 x1), (2, Value.int .u16 x2)]) h = some (.agg #[Value.int .u32 x0_0, Value.int .i64 x0_1, Value.int .i64 x1, Value.int .u16 x2, Value.int .i64 0, Value.int .i64 0]) := by kernel_rfl
@[simp] theorem bd_78_0_1_2_3_4 {h : Hp} {x0_0 : Int} {x0_1 : Int} {x1 : Int} {x2 : Int} {x3 : Int} {x4 : Int} : rrun Try.prog (Instr.build 78 #[(0, Value.agg #[Value.int .u32 x0_0, Value.int .i64 x0_1]), (1, Value.int .i64 x1), (2, Value.int .u16 x2), (3, Value.int .i64 x3), (4, Value.int .i64 x4)]) h = some (.agg #[Value.int .u32 x0_0, Value.int .i64 x0_1, Value.int .i64 x1, Value.int .u16 x2, Value.int .i64 x3, Value.int .i64 x4]) := by kernel_rfl
@[simp] theorem bs_35_1_0 {h : Hp} {x0_0_0 : Int} {x0_0_1 : Int} {x0_1 : Int} {x0_2 : Int} {x0_3 : Int} {x0_4 : Int} {x0_5 : Int} {k : Value → Hp → Prop} : arun Try.prog (Instr.buildSlice 35 1 #[(0, Value.agg #[Value.int .u32 x0_0_0, Value.int .i64 x0_0_1, Value.int .i64 x0_1, Value.int .i64 x0_2, Value.int .i64 x0_3, Value.int .i64 x0_4, Value.int .u16 x0_5])]) h k = nw h (.cells #[Value.int .u32 x0_0_0, Value.int .i64 x0_0_1, Value.int .i64 x0_1, Value.int .i64 x0_2, Value.int .i64 x0_3, Value.int .i64 x0_4, Value.int .u16 x0_5] 38) fun b h => k (.slice (some ⟨b, 0, none⟩) 1 1) h := by kernel_rfl
@[simp] theorem bs_52_1_0 {h : Hp} {x0_0_0 : Int} {x0_0_1 : Int} {x0_1 : Int} {x0_2 : Int} {x0_3 : Int} {k : Value → Hp → Prop} : arun Try.prog (Instr.buildSlice 52 1 #[(0, Value.agg #[Value.int .u32 x0_0_0, Value.int .i64 x0_0_1, Value.int .u16 x0_1, Value.int .u32 x0_2, Value.int .i64 x0_3])]) h k = nw h (.cells #[Value.int .u32 x0_0_0, Value.int .i64 x0_0_1, Value.int .u16 x0_1, Value.int .u32 x0_2, Value.int .i64 x0_3] 33) fun b h => k (.slice (some ⟨b, 0, none⟩) 1 1) h := by kernel_rfl
@[simp] theorem bs_54_1_0 {h : Hp} {x0_0_0 : Int} {x0_0_1 : Int} {x0_1 : Int} {x0_2 : Int} {x0_3 : Int} {x0_4 : Int} {k : Value → Hp → Prop} : arun Try.prog (Instr.buildSlice 54 1 #[(0, Value.agg #[Value.int .u32 x0_0_0, Value.int .i64 x0_0_1, Value.int .i64 x0_1, Value.int .u16 x0_2, Value.int .i64 x0_3, Value.int .i64 x0_4])]) h k = nw h (.cells #[Value.int .u32 x0_0_0, Value.int .i64 x0_0_1, Value.int .i64 x0_1, Value.int .u16 x0_2, Value.int .i64 x0_3, Value.int .i64 x0_4] 78) fun b h => k (.slice (some ⟨b, 0, none⟩) 1 1) h := by kernel_rfl
@[simp] theorem bs_74_1_0 {h : Hp} {x0_0 : Int} {x0_1 : Int} {k : Value → Hp → Prop} : arun Try.prog (Instr.buildSlice 74 1 #[(0, Value.agg #[Value.int .u32 x0_0, Value.int .i64 x0_1])]) h k = nw h (.cells #[Value.int .u32 x0_0, Value.int .i64 x0_1] 24) fun b h => k (.slice (some ⟨b, 0, none⟩) 1 1) h := by kernel_rfl
@[simp] theorem cv_108_5 {h : Hp} {x : Int} : rrun Try.prog (convert 108 5 (.int .u64 x)) h = some (.int .u8 (IntKind.u8.wrap x)) := by kernel_rfl
@[simp] theorem cv_22_3 {h : Hp} {x : Int} : rrun Try.prog (convert 22 3 (.int .u32 x)) h = some (.int .i64 (IntKind.i64.wrap x)) := by kernel_rfl
@[simp] theorem cv_22_5 {h : Hp} {x : Int} : rrun Try.prog (convert 22 5 (.int .u32 x)) h = some (.int .u8 (IntKind.u8.wrap x)) := by kernel_rfl
@[simp] theorem cv_3_22 {h : Hp} {x : Int} : rrun Try.prog (convert 3 22 (.int .i64 x)) h = some (.int .u32 (IntKind.u32.wrap x)) := by kernel_rfl
@[simp] theorem cv_3_40 {h : Hp} {x : Int} : rrun Try.prog (convert 3 40 (.int .i64 x)) h = some (.int .u64 (IntKind.u64.wrap x)) := by kernel_rfl
@[simp] theorem cv_31_3 {h : Hp} {x : Int} : rrun Try.prog (convert 31 3 (.int .u16 x)) h = some (.int .i64 (IntKind.i64.wrap x)) := by kernel_rfl
@[simp] theorem cv_40_22 {h : Hp} {x : Int} : rrun Try.prog (convert 40 22 (.int .u64 x)) h = some (.int .u32 (IntKind.u32.wrap x)) := by kernel_rfl
@[simp] theorem cv_5_3 {h : Hp} {x : Int} : rrun Try.prog (convert 5 3 (.int .u8 x)) h = some (.int .i64 (IntKind.i64.wrap x)) := by kernel_rfl
theorem eql_24_raw {h : Hp} {x y : Operand} {p_0 : Int} {p_1 : Int} {q_0 : Int} {q_1 : Int} : rrun Try.prog (bop .eql 24 x y (Value.agg #[Value.int .u32 p_0, Value.int .i64 p_1]) (Value.agg #[Value.int .u32 q_0, Value.int .i64 q_1])) h = some (.bool ((decide (p_0 = q_0) && (decide (p_1 = q_1) && true)))) :=
  rr_eql_struct Try.underlying24 (by kernel_rfl) (by kernel_rfl) (rr_eqf_cons (a := Value.int .u32 p_0) (b := Value.int .u32 q_0) (by rfl) (by kernel_rfl) (by kernel_rfl) (by kernel_rfl) (rr_eqf_cons (a := Value.int .i64 p_1) (b := Value.int .i64 q_1) (by rfl) (by kernel_rfl) (by kernel_rfl) (by kernel_rfl) rr_eqf_nil))
@[simp] theorem eql_24 {h : Hp} {x y : Operand} {p_0 : Int} {p_1 : Int} {q_0 : Int} {q_1 : Int} : rrun Try.prog (bop .eql 24 x y (Value.agg #[Value.int .u32 p_0, Value.int .i64 p_1]) (Value.agg #[Value.int .u32 q_0, Value.int .i64 q_1])) h = some (.bool ((decide (p_0 = q_0) && (decide (p_1 = q_1))))) := by
  rw [eql_24_raw]; simp only [Bool.and_true]
@[simp] theorem eql_26_sn {h : Hp} {x y : Operand} {a : Addr} : rrun Try.prog (bop .eql 26 x y (.pointer (some a)) (.pointer none)) h = some (.bool false) := by kernel_rfl
@[simp] theorem eql_26_nn {h : Hp} {x y : Operand} {p : Option Addr} : rrun Try.prog (bop .eql 26 x y (.pointer none) (.pointer p)) h = some (.bool (p.isNone)) := by kernel_rfl
@[simp] theorem eql_4 {h : Hp} {x y : Operand} {a b : Bool} : rrun Try.prog (bop .eql 4 x y (.bool a) (.bool b)) h = some (.bool (decide (a = b))) := by kernel_rfl
@[simp] theorem eql_70_sn {h : Hp} {x y : Operand} {a : Addr} : rrun Try.prog (bop .eql 70 x y (.pointer (some a)) (.pointer none)) h = some (.bool false) := by kernel_rfl
@[simp] theorem eql_70_nn {h : Hp} {x y : Operand} {p : Option Addr} : rrun Try.prog (bop .eql 70 x y (.pointer none) (.pointer p)) h = some (.bool (p.isNone)) := by kernel_rfl
@[simp] theorem neq_26_sn {h : Hp} {x y : Operand} {a : Addr} : rrun Try.prog (bop .neq 26 x y (.pointer (some a)) (.pointer none)) h = some (.bool true) := by kernel_rfl
@[simp] theorem neq_26_nn {h : Hp} {x y : Operand} {p : Option Addr} : rrun Try.prog (bop .neq 26 x y (.pointer none) (.pointer p)) h = some (.bool (!p.isNone)) := by kernel_rfl
theorem neq_33_raw {h : Hp} {x y : Operand} {p_0_0 : Int} {p_0_1 : Int} {p_1 : Int} {p_2 : Int} {p_3 : Int} {q_0_0 : Int} {q_0_1 : Int} {q_1 : Int} {q_2 : Int} {q_3 : Int} : rrun Try.prog (bop .neq 33 x y (Value.agg #[Value.int .u32 p_0_0, Value.int .i64 p_0_1, Value.int .u16 p_1, Value.int .u32 p_2, Value.int .i64 p_3]) (Value.agg #[Value.int .u32 q_0_0, Value.int .i64 q_0_1, Value.int .u16 q_1, Value.int .u32 q_2, Value.int .i64 q_3])) h = some (.bool (!((decide (p_0_0 = q_0_0) && (decide (p_0_1 = q_0_1) && true)) && (decide (p_1 = q_1) && (decide (p_2 = q_2) && (decide (p_3 = q_3) && true)))))) :=
  rr_neq_struct Try.underlying33 (by kernel_rfl) (by kernel_rfl) (rr_eqf_cons (a := Value.agg #[Value.int .u32 p_0_0, Value.int .i64 p_0_1]) (b := Value.agg #[Value.int .u32 q_0_0, Value.int .i64 q_0_1]) (by rfl) (by kernel_rfl) (by kernel_rfl) ((rr_equalIn_struct Try.underlying24 (by kernel_rfl)).trans (rr_eqf_cons (a := Value.int .u32 p_0_0) (b := Value.int .u32 q_0_0) (by rfl) (by kernel_rfl) (by kernel_rfl) (by kernel_rfl) (rr_eqf_cons (a := Value.int .i64 p_0_1) (b := Value.int .i64 q_0_1) (by rfl) (by kernel_rfl) (by kernel_rfl) (by kernel_rfl) rr_eqf_nil))) (rr_eqf_cons (a := Value.int .u16 p_1) (b := Value.int .u16 q_1) (by rfl) (by kernel_rfl) (by kernel_rfl) (by kernel_rfl) (rr_eqf_cons (a := Value.int .u32 p_2) (b := Value.int .u32 q_2) (by rfl) (by kernel_rfl) (by kernel_rfl) (by kernel_rfl) (rr_eqf_cons (a := Value.int .i64 p_3) (b := Value.int .i64 q_3) (by rfl) (by kernel_rfl) (by kernel_rfl) (by kernel_rfl) rr_eqf_nil))))
@[simp] theorem neq_33 {h : Hp} {x y : Operand} {p_0_0 : Int} {p_0_1 : Int} {p_1 : Int} {p_2 : Int} {p_3 : Int} {q_0_0 : Int} {q_0_1 : Int} {q_1 : Int} {q_2 : Int} {q_3 : Int} : rrun Try.prog (bop .neq 33 x y (Value.agg #[Value.int .u32 p_0_0, Value.int .i64 p_0_1, Value.int .u16 p_1, Value.int .u32 p_2, Value.int .i64 p_3]) (Value.agg #[Value.int .u32 q_0_0, Value.int .i64 q_0_1, Value.int .u16 q_1, Value.int .u32 q_2, Value.int .i64 q_3])) h = some (.bool (!((decide (p_0_0 = q_0_0) && (decide (p_0_1 = q_0_1))) && (decide (p_1 = q_1) && (decide (p_2 = q_2) && (decide (p_3 = q_3))))))) := by
  rw [neq_33_raw]; simp only [Bool.and_true]
theorem neq_38_raw {h : Hp} {x y : Operand} {p_0_0 : Int} {p_0_1 : Int} {p_1 : Int} {p_2 : Int} {p_3 : Int} {p_4 : Int} {p_5 : Int} {q_0_0 : Int} {q_0_1 : Int} {q_1 : Int} {q_2 : Int} {q_3 : Int} {q_4 : Int} {q_5 : Int} : rrun Try.prog (bop .neq 38 x y (Value.agg #[Value.int .u32 p_0_0, Value.int .i64 p_0_1, Value.int .i64 p_1, Value.int .i64 p_2, Value.int .i64 p_3, Value.int .i64 p_4, Value.int .u16 p_5]) (Value.agg #[Value.int .u32 q_0_0, Value.int .i64 q_0_1, Value.int .i64 q_1, Value.int .i64 q_2, Value.int .i64 q_3, Value.int .i64 q_4, Value.int .u16 q_5])) h = some (.bool (!((decide (p_0_0 = q_0_0) && (decide (p_0_1 = q_0_1) && true)) && (decide (p_1 = q_1) && (decide (p_2 = q_2) && (decide (p_3 = q_3) && (decide (p_4 = q_4) && (decide (p_5 = q_5) && true)))))))) :=
  rr_neq_struct Try.underlying38 (by kernel_rfl) (by kernel_rfl) (rr_eqf_cons (a := Value.agg #[Value.int .u32 p_0_0, Value.int .i64 p_0_1]) (b := Value.agg #[Value.int .u32 q_0_0, Value.int .i64 q_0_1]) (by rfl) (by kernel_rfl) (by kernel_rfl) ((rr_equalIn_struct Try.underlying24 (by kernel_rfl)).trans (rr_eqf_cons (a := Value.int .u32 p_0_0) (b := Value.int .u32 q_0_0) (by rfl) (by kernel_rfl) (by kernel_rfl) (by kernel_rfl) (rr_eqf_cons (a := Value.int .i64 p_0_1) (b := Value.int .i64 q_0_1) (by rfl) (by kernel_rfl) (by kernel_rfl) (by kernel_rfl) rr_eqf_nil))) (rr_eqf_cons (a := Value.int .i64 p_1) (b := Value.int .i64 q_1) (by rfl) (by kernel_rfl) (by kernel_rfl) (by kernel_rfl) (rr_eqf_cons (a := Value.int .i64 p_2) (b := Value.int .i64 q_2) (by rfl) (by kernel_rfl) (by kernel_rfl) (by kernel_rfl) (rr_eqf_cons (a := Value.int .i64 p_3) (b := Value.int .i64 q_3) (by rfl) (by kernel_rfl) (by kernel_rfl) (by kernel_rfl) (rr_eqf_cons (a := Value.int .i64 p_4) (b := Value.int .i64 q_4) (by rfl) (by kernel_rfl) (by kernel_rfl) (by kernel_rfl) (rr_eqf_cons (a := Value.int .u16 p_5) (b := Value.int .u16 q_5) (by rfl) (by kernel_rfl) (by kernel_rfl) (by kernel_rfl) rr_eqf_nil))))))
@[simp] theorem neq_38 {h : Hp} {x y : Operand} {p_0_0 : Int} {p_0_1 : Int} {p_1 : Int} {p_2 : Int} {p_3 : Int} {p_4 : Int} {p_5 : Int} {q_0_0 : Int} {q_0_1 : Int} {q_1 : Int} {q_2 : Int} {q_3 : Int} {q_4 : Int} {q_5 : Int} : rrun Try.prog (bop .neq 38 x y (Value.agg #[Value.int .u32 p_0_0, Value.int .i64 p_0_1, Value.int .i64 p_1, Value.int .i64 p_2, Value.int .i64 p_3, Value.int .i64 p_4, Value.int .u16 p_5]) (Value.agg #[Value.int .u32 q_0_0, Value.int .i64 q_0_1, Value.int .i64 q_1, Value.int .i64 q_2, Value.int .i64 q_3, Value.int .i64 q_4, Value.int .u16 q_5])) h = some (.bool (!((decide (p_0_0 = q_0_0) && (decide (p_0_1 = q_0_1))) && (decide (p_1 = q_1) && (decide (p_2 = q_2) && (decide (p_3 = q_3) && (decide (p_4 = q_4) && (decide (p_5 = q_5))))))))) := by
  rw [neq_38_raw]; simp only [Bool.and_true]
@[simp] theorem neq_4 {h : Hp} {x y : Operand} {a b : Bool} : rrun Try.prog (bop .neq 4 x y (.bool a) (.bool b)) h = some (.bool (!decide (a = b))) := by kernel_rfl
@[simp] theorem neq_70_sn {h : Hp} {x y : Operand} {a : Addr} : rrun Try.prog (bop .neq 70 x y (.pointer (some a)) (.pointer none)) h = some (.bool true) := by kernel_rfl
@[simp] theorem neq_70_nn {h : Hp} {x y : Operand} {p : Option Addr} : rrun Try.prog (bop .neq 70 x y (.pointer none) (.pointer p)) h = some (.bool (!p.isNone)) := by kernel_rfl
@[simp] theorem fa_24_0 {h : Hp} {b o : Nat} : rrun Try.prog (Instr.fieldAt 24 (.pointer (some ⟨b, o, none⟩)) 0) h = some (.pointer (some ⟨b, o, none⟩)) := by kernel_rfl
@[simp] theorem fa_24_1 {h : Hp} {b o : Nat} : rrun Try.prog (Instr.fieldAt 24 (.pointer (some ⟨b, o, none⟩)) 1) h = some (.pointer (some ⟨b, o + 1, none⟩)) := by kernel_rfl
@[simp] theorem fa_33_0 {h : Hp} {b o : Nat} : rrun Try.prog (Instr.fieldAt 33 (.pointer (some ⟨b, o, none⟩)) 0) h = some (.pointer (some ⟨b, o, none⟩)) := by kernel_rfl
@[simp] theorem fa_33_1 {h : Hp} {b o : Nat} : rrun Try.prog (Instr.fieldAt 33 (.pointer (some ⟨b, o, none⟩)) 1) h = some (.pointer (some ⟨b, o + 2, none⟩)) := by kernel_rfl
@[simp] theorem fa_33_3 {h : Hp} {b o : Nat} : rrun Try.prog (Instr.fieldAt 33 (.pointer (some ⟨b, o, none⟩)) 3) h = some (.pointer (some ⟨b, o + 4, none⟩)) := by kernel_rfl
@[simp] theorem fa_38_0 {h : Hp} {b o : Nat} : rrun Try.prog (Instr.fieldAt 38 (.pointer (some ⟨b, o, none⟩)) 0) h = some (.pointer (some ⟨b, o, none⟩)) := by kernel_rfl
@[simp] theorem fa_38_3 {h : Hp} {b o : Nat} : rrun Try.prog (Instr.fieldAt 38 (.pointer (some ⟨b, o, none⟩)) 3) h = some (.pointer (some ⟨b, o + 4, none⟩)) := by kernel_rfl
@[simp] theorem fa_38_4 {h : Hp} {b o : Nat} : rrun Try.prog (Instr.fieldAt 38 (.pointer (some ⟨b, o, none⟩)) 4) h = some (.pointer (some ⟨b, o + 5, none⟩)) := by kernel_rfl
@[simp] theorem fa_38_5 {h : Hp} {b o : Nat} : rrun Try.prog (Instr.fieldAt 38 (.pointer (some ⟨b, o, none⟩)) 5) h = some (.pointer (some ⟨b, o + 6, none⟩)) := by kernel_rfl
@[simp] theorem fa_48_0 {h : Hp} {b o : Nat} : rrun Try.prog (Instr.fieldAt 48 (.pointer (some ⟨b, o, none⟩)) 0) h = some (.pointer (some ⟨b, o, none⟩)) := by kernel_rfl
@[simp] theorem fa_48_1 {h : Hp} {b o : Nat} : rrun Try.prog (Instr.fieldAt 48 (.pointer (some ⟨b, o, none⟩)) 1) h = some (.pointer (some ⟨b, o + 1, none⟩)) := by kernel_rfl
@[simp] theorem fa_48_2 {h : Hp} {b o : Nat} : rrun Try.prog (Instr.fieldAt 48 (.pointer (some ⟨b, o, none⟩)) 2) h = some (.pointer (some ⟨b, o + 2, none⟩)) := by kernel_rfl
@[simp] theorem fa_48_3 {h : Hp} {b o : Nat} : rrun Try.prog (Instr.fieldAt 48 (.pointer (some ⟨b, o, none⟩)) 3) h = some (.pointer (some ⟨b, o + 3, none⟩)) := by kernel_rfl
@[simp] theorem fa_48_4 {h : Hp} {b o : Nat} : rrun Try.prog (Instr.fieldAt 48 (.pointer (some ⟨b, o, none⟩)) 4) h = some (.pointer (some ⟨b, o + 4, none⟩)) := by kernel_rfl
@[simp] theorem fa_48_5 {h : Hp} {b o : Nat} : rrun Try.prog (Instr.fieldAt 48 (.pointer (some ⟨b, o, none⟩)) 5) h = some (.pointer (some ⟨b, o + 5, none⟩)) := by kernel_rfl
@[simp] theorem fa_48_6 {h : Hp} {b o : Nat} : rrun Try.prog (Instr.fieldAt 48 (.pointer (some ⟨b, o, none⟩)) 6) h = some (.pointer (some ⟨b, o + 7, none⟩)) := by kernel_rfl
@[simp] theorem fa_56_0 {h : Hp} {b o : Nat} : rrun Try.prog (Instr.fieldAt 56 (.pointer (some ⟨b, o, none⟩)) 0) h = some (.pointer (some ⟨b, o, none⟩)) := by kernel_rfl
@[simp] theorem fa_56_1 {h : Hp} {b o : Nat} : rrun Try.prog (Instr.fieldAt 56 (.pointer (some ⟨b, o, none⟩)) 1) h = some (.pointer (some ⟨b, o + 1, none⟩)) := by kernel_rfl
@[simp] theorem fa_56_2 {h : Hp} {b o : Nat} : rrun Try.prog (Instr.fieldAt 56 (.pointer (some ⟨b, o, none⟩)) 2) h = some (.pointer (some ⟨b, o + 2, none⟩)) := by kernel_rfl
@[simp] theorem fa_67_0 {h : Hp} {b o : Nat} : rrun Try.prog (Instr.fieldAt 67 (.pointer (some ⟨b, o, none⟩)) 0) h = some (.pointer (some ⟨b, o, none⟩)) := by kernel_rfl
@[simp] theorem fa_67_1 {h : Hp} {b o : Nat} : rrun Try.prog (Instr.fieldAt 67 (.pointer (some ⟨b, o, none⟩)) 1) h = some (.pointer (some ⟨b, o + 1, none⟩)) := by kernel_rfl
@[simp] theorem fa_67_2 {h : Hp} {b o : Nat} : rrun Try.prog (Instr.fieldAt 67 (.pointer (some ⟨b, o, none⟩)) 2) h = some (.pointer (some ⟨b, o + 2, none⟩)) := by kernel_rfl
@[simp] theorem fa_73_0 {h : Hp} {b o : Nat} : rrun Try.prog (Instr.fieldAt 73 (.pointer (some ⟨b, o, none⟩)) 0) h = some (.pointer (some ⟨b, o, none⟩)) := by kernel_rfl
@[simp] theorem fa_73_1 {h : Hp} {b o : Nat} : rrun Try.prog (Instr.fieldAt 73 (.pointer (some ⟨b, o, none⟩)) 1) h = some (.pointer (some ⟨b, o + 1, none⟩)) := by kernel_rfl
@[simp] theorem fa_73_2 {h : Hp} {b o : Nat} : rrun Try.prog (Instr.fieldAt 73 (.pointer (some ⟨b, o, none⟩)) 2) h = some (.pointer (some ⟨b, o + 2, none⟩)) := by kernel_rfl
@[simp] theorem fa_73_3 {h : Hp} {b o : Nat} : rrun Try.prog (Instr.fieldAt 73 (.pointer (some ⟨b, o, none⟩)) 3) h = some (.pointer (some ⟨b, o + 3, none⟩)) := by kernel_rfl
@[simp] theorem fa_78_0 {h : Hp} {b o : Nat} : rrun Try.prog (Instr.fieldAt 78 (.pointer (some ⟨b, o, none⟩)) 0) h = some (.pointer (some ⟨b, o, none⟩)) := by kernel_rfl
@[simp] theorem fa_78_1 {h : Hp} {b o : Nat} : rrun Try.prog (Instr.fieldAt 78 (.pointer (some ⟨b, o, none⟩)) 1) h = some (.pointer (some ⟨b, o + 2, none⟩)) := by kernel_rfl
@[simp] theorem fa_78_2 {h : Hp} {b o : Nat} : rrun Try.prog (Instr.fieldAt 78 (.pointer (some ⟨b, o, none⟩)) 2) h = some (.pointer (some ⟨b, o + 3, none⟩)) := by kernel_rfl
@[simp] theorem fa_78_3 {h : Hp} {b o : Nat} : rrun Try.prog (Instr.fieldAt 78 (.pointer (some ⟨b, o, none⟩)) 3) h = some (.pointer (some ⟨b, o + 4, none⟩)) := by kernel_rfl
@[simp] theorem fa_78_4 {h : Hp} {b o : Nat} : rrun Try.prog (Instr.fieldAt 78 (.pointer (some ⟨b, o, none⟩)) 4) h = some (.pointer (some ⟨b, o + 5, none⟩)) := by kernel_rfl
@[simp] theorem ia_35 {h : Hp} {b o n c : Nat} {i : Int} (h0 : 0 ≤ i) (h1 : i < (n : Int)) : rrun Try.prog (Instr.indexAt 35 (.slice (some ⟨b, o, none⟩) n c) (.int .i64 i)) h = some (.pointer (some ⟨b, o + i.toNat * 7, none⟩)) := rr_indexAt_slice und_35 size_38 h0 h1
theorem und_42 : Try.prog.underlying 42 = some (.slice 48) := by kernel_rfl
theorem size_48 : (Try.prog.info? 48).map (·.size) = some 8 := by kernel_rfl
@[simp] theorem ia_42 {h : Hp} {b o n c : Nat} {i : Int} (h0 : 0 ≤ i) (h1 : i < (n : Int)) : rrun Try.prog (Instr.indexAt 42 (.slice (some ⟨b, o, none⟩) n c) (.int .i64 i)) h = some (.pointer (some ⟨b, o + i.toNat * 8, none⟩)) := rr_indexAt_slice und_42 size_48 h0 h1
@[simp] theorem ia_52 {h : Hp} {b o n c : Nat} {i : Int} (h0 : 0 ≤ i) (h1 : i < (n : Int)) : rrun Try.prog (Instr.indexAt 52 (.slice (some ⟨b, o, none⟩) n c) (.int .i64 i)) h = some (.pointer (some ⟨b, o + i.toNat * 5, none⟩)) := rr_indexAt_slice und_52 size_33 h0 h1
@[simp] theorem ia_54 {h : Hp} {b o n c : Nat} {i : Int} (h0 : 0 ≤ i) (h1 : i < (n : Int)) : rrun Try.prog (Instr.indexAt 54 (.slice (some ⟨b, o, none⟩) n c) (.int .i64 i)) h = some (.pointer (some ⟨b, o + i.toNat * 6, none⟩)) := rr_indexAt_slice und_54 size_78 h0 h1
@[simp] theorem ia_74 {h : Hp} {b o n c : Nat} {i : Int} (h0 : 0 ≤ i) (h1 : i < (n : Int)) : rrun Try.prog (Instr.indexAt 74 (.slice (some ⟨b, o, none⟩) n c) (.int .i64 i)) h = some (.pointer (some ⟨b, o + i.toNat * 2, none⟩)) := rr_indexAt_slice und_74 size_24 h0 h1
@[simp] theorem ld_22 {h : Hp} {a : Addr} : rrun Try.prog (Instr.loadAt 22 (.pointer (some a))) h = h.cell? a := rr_load_one (by kernel_rfl)
@[simp] theorem ld_24 {h : Hp} {b o : Nat} : rrun Try.prog (Instr.loadAt 24 (.pointer (some ⟨b, o, none⟩))) h = (ldN h b o 2).map fun l => .agg l.toArray := rr_load_agg (by kernel_rfl) (by kernel_rfl)
@[simp] theorem ld_3 {h : Hp} {a : Addr} : rrun Try.prog (Instr.loadAt 3 (.pointer (some a))) h = h.cell? a := rr_load_one (by kernel_rfl)
@[simp] theorem ld_31 {h : Hp} {a : Addr} : rrun Try.prog (Instr.loadAt 31 (.pointer (some a))) h = h.cell? a := rr_load_one (by kernel_rfl)
@[simp] theorem ld_33 {h : Hp} {b o : Nat} : rrun Try.prog (Instr.loadAt 33 (.pointer (some ⟨b, o, none⟩))) h = (ldN h b o 5).map fun l => .agg l.toArray := rr_load_agg (by kernel_rfl) (by kernel_rfl)
@[simp] theorem ld_38 {h : Hp} {b o : Nat} : rrun Try.prog (Instr.loadAt 38 (.pointer (some ⟨b, o, none⟩))) h = (ldN h b o 7).map fun l => .agg l.toArray := rr_load_agg (by kernel_rfl) (by kernel_rfl)
@[simp] theorem ld_48 {h : Hp} {b o : Nat} : rrun Try.prog (Instr.loadAt 48 (.pointer (some ⟨b, o, none⟩))) h = (ldN h b o 8).map fun l => .agg l.toArray := rr_load_agg (by kernel_rfl) (by kernel_rfl)
@[simp] theorem ld_54 {h : Hp} {a : Addr} : rrun Try.prog (Instr.loadAt 54 (.pointer (some a))) h = h.cell? a := rr_load_one (by kernel_rfl)
@[simp] theorem ld_65 {h : Hp} {a : Addr} : rrun Try.prog (Instr.loadAt 65 (.pointer (some a))) h = h.cell? a := rr_load_one (by kernel_rfl)
@[simp] theorem ld_74 {h : Hp} {a : Addr} : rrun Try.prog (Instr.loadAt 74 (.pointer (some a))) h = h.cell? a := rr_load_one (by kernel_rfl)
@[simp] theorem ld_78 {h : Hp} {b o : Nat} : rrun Try.prog (Instr.loadAt 78 (.pointer (some ⟨b, o, none⟩))) h = (ldN h b o 6).map fun l => .agg l.toArray := rr_load_agg (by kernel_rfl) (by kernel_rfl)
@[simp] theorem ln_35 {h : Hp} {a : Option Addr} {n c : Nat} : rrun Try.prog (Builtin.len_ #[35] 3 #[.slice a n c]) h = some (.int .i64 n) := by kernel_rfl
@[simp] theorem ln_42 {h : Hp} {a : Option Addr} {n c : Nat} : rrun Try.prog (Builtin.len_ #[42] 3 #[.slice a n c]) h = some (.int .i64 n) := by kernel_rfl
@[simp] theorem ln_52 {h : Hp} {a : Option Addr} {n c : Nat} : rrun Try.prog (Builtin.len_ #[52] 3 #[.slice a n c]) h = some (.int .i64 n) := by kernel_rfl
@[simp] theorem ln_54 {h : Hp} {a : Option Addr} {n c : Nat} : rrun Try.prog (Builtin.len_ #[54] 3 #[.slice a n c]) h = some (.int .i64 n) := by kernel_rfl
@[simp] theorem ln_65 {h : Hp} {r : Nat} {es : Array MapEntry} {cl : Nat} (hm : h r = some (.map es cl)) : rrun Try.prog (Builtin.len_ #[65] 3 #[.map (some r)]) h = some (.int .i64 es.size) := by
  have e : rrun Try.prog (Builtin.len_ #[65] 3 #[.map (some r)]) h = rrun Try.prog (Sem.getObj r fun o => match o with | .map es _ => .pure (.int .i64 es.size) | _ => stuck "len: map expected") h := by kernel_rfl
  rw [e]; simp only [rrun, hm, isRow]
@[simp] theorem ln_74 {h : Hp} {a : Option Addr} {n c : Nat} : rrun Try.prog (Builtin.len_ #[74] 3 #[.slice a n c]) h = some (.int .i64 n) := by kernel_rfl
theorem ck_65 {h : Hp} {e : Bool} {p_0 : Int} {p_1 : Int} : rrun Try.prog (Instr.checkKey e 10000 24 (Value.agg #[Value.int .u32 p_0, Value.int .i64 p_1])) h = some () := by kernel_rfl
theorem sb_65 {p_0 : Int} {p_1 : Int} : Instr.sameBits 10000 (Value.agg #[Value.int .u32 p_0, Value.int .i64 p_1]) (Value.agg #[Value.int .u32 p_0, Value.int .i64 p_1]) = true := by simp [Instr.sameBits]
theorem keq_65 {h : Hp} {p_0 : Int} {p_1 : Int} {q_0 : Int} {q_1 : Int} : rrun Try.prog (Op.equal 24 (Value.agg #[Value.int .u32 p_0, Value.int .i64 p_1]) (Value.agg #[Value.int .u32 q_0, Value.int .i64 q_1])) h = some (decide (p_0 = q_0) && (decide (p_1 = q_1) && true)) := by
  rw [show Op.equal 24 (Value.agg #[Value.int .u32 p_0, Value.int .i64 p_1]) (Value.agg #[Value.int .u32 q_0, Value.int .i64 q_1]) = Op.equalIn (9999 + 1) 24 (Value.agg #[Value.int .u32 p_0, Value.int .i64 p_1]) (Value.agg #[Value.int .u32 q_0, Value.int .i64 q_1]) from rfl, rr_equalIn_struct Try.underlying24 (by kernel_rfl)]
  exact (rr_eqf_cons (a := Value.int .u32 p_0) (b := Value.int .u32 q_0) (by rfl) (by kernel_rfl) (by kernel_rfl) (by kernel_rfl) (rr_eqf_cons (a := Value.int .i64 p_1) (b := Value.int .i64 q_1) (by rfl) (by kernel_rfl) (by kernel_rfl) (by kernel_rfl) rr_eqf_nil))
@[simp] theorem st_24 {h : Hp} {b o : Nat} {x_0 : Int} {x_1 : Int} {k : Unit → Hp → Prop} : arun Try.prog (Instr.storeAt 24 (.pointer (some ⟨b, o, none⟩)) (Value.agg #[Value.int .u32 x_0, Value.int .i64 x_1])) h k = stN h b o [Value.int .u32 x_0, Value.int .i64 x_1] (k ()) := arun_store_eq size_24 rfl
theorem size_3 : (Try.prog.info? 3).map (·.size) = some 1 := by kernel_rfl
@[simp] theorem st_3 {h : Hp} {b o : Nat} {x : Int} {k : Unit → Hp → Prop} : arun Try.prog (Instr.storeAt 3 (.pointer (some ⟨b, o, none⟩)) (Value.int .i64 x)) h k = stN h b o [Value.int .i64 x] (k ()) := arun_store_eq size_3 rfl
theorem size_31 : (Try.prog.info? 31).map (·.size) = some 1 := by kernel_rfl
@[simp] theorem st_31 {h : Hp} {b o : Nat} {x : Int} {k : Unit → Hp → Prop} : arun Try.prog (Instr.storeAt 31 (.pointer (some ⟨b, o, none⟩)) (Value.int .u16 x)) h k = stN h b o [Value.int .u16 x] (k ()) := arun_store_eq size_31 rfl
@[simp] theorem st_33 {h : Hp} {b o : Nat} {x_0_0 : Int} {x_0_1 : Int} {x_1 : Int} {x_2 : Int} {x_3 : Int} {k : Unit → Hp → Prop} : arun Try.prog (Instr.storeAt 33 (.pointer (some ⟨b, o, none⟩)) (Value.agg #[Value.int .u32 x_0_0, Value.int .i64 x_0_1, Value.int .u16 x_1, Value.int .u32 x_2, Value.int .i64 x_3])) h k = stA h b o [Value.int .u32 x_0_0, Value.int .i64 x_0_1, Value.int .u16 x_1, Value.int .u32 x_2, Value.int .i64 x_3] (k ()) := arun_store_eq size_33 rfl
theorem size_54 : (Try.prog.info? 54).map (·.size) = some 1 := by kernel_rfl
@[simp] theorem st_54 {h : Hp} {b o : Nat} {xa : Option Addr} {xn xc : Nat} {k : Unit → Hp → Prop} : arun Try.prog (Instr.storeAt 54 (.pointer (some ⟨b, o, none⟩)) (Value.slice xa xn xc)) h k = stN h b o [Value.slice xa xn xc] (k ()) := arun_store_eq size_54 rfl
theorem size_73 : (Try.prog.info? 73).map (·.size) = some 4 := by kernel_rfl
@[simp] theorem st_73 {h : Hp} {b o : Nat} {x_0 : Int} {x_1 : Int} {x_2 : Int} {x_3 : Int} {k : Unit → Hp → Prop} : arun Try.prog (Instr.storeAt 73 (.pointer (some ⟨b, o, none⟩)) (Value.agg #[Value.int .i64 x_0, Value.int .i64 x_1, Value.int .i64 x_2, Value.int .u16 x_3])) h k = stN h b o [Value.int .i64 x_0, Value.int .i64 x_1, Value.int .i64 x_2, Value.int .u16 x_3] (k ()) := arun_store_eq size_73 rfl
theorem size_74 : (Try.prog.info? 74).map (·.size) = some 1 := by kernel_rfl
@[simp] theorem st_74 {h : Hp} {b o : Nat} {xa : Option Addr} {xn xc : Nat} {k : Unit → Hp → Prop} : arun Try.prog (Instr.storeAt 74 (.pointer (some ⟨b, o, none⟩)) (Value.slice xa xn xc)) h k = stN h b o [Value.slice xa xn xc] (k ()) := arun_store_eq size_74 rfl
@[simp] theorem st_78 {h : Hp} {b o : Nat} {x_0_0 : Int} {x_0_1 : Int} {x_1 : Int} {x_2 : Int} {x_3 : Int} {x_4 : Int} {k : Unit → Hp → Prop} : arun Try.prog (Instr.storeAt 78 (.pointer (some ⟨b, o, none⟩)) (Value.agg #[Value.int .u32 x_0_0, Value.int .i64 x_0_1, Value.int .i64 x_1, Value.int .u16 x_2, Value.int .i64 x_3, Value.int .i64 x_4])) h k = stA h b o [Value.int .u32 x_0_0, Value.int .i64 x_0_1, Value.int .i64 x_1, Value.int .u16 x_2, Value.int .i64 x_3, Value.int .i64 x_4] (k ()) := arun_store_eq size_78 rfl
end Go.Proofs.Ytpfenhikoajghaa

/- Strings out of bytes, and their comparison. -/
namespace Go.Proofs.Ytpfenhikoajghaa
open Go
set_option linter.unusedSimpArgs false

def be (x : Nat) : List Value := [.int .u8 (x : Nat)]
def mkB (xs : List Nat) : ByteArray := xs.foldl (fun r n => r.push (UInt8.ofNat n)) ByteArray.empty

section
variable {P : Program} {h : Hp}

@[simp] theorem rr_eql_str {t : TypeId} {x y : Operand} {a b : ByteArray} : rrun P (bop .eql t x y (.string a) (.string b)) h = some (.bool (a.toList == b.toList)) := rfl
@[simp] theorem rr_neq_str {t : TypeId} {x y : Operand} {a b : ByteArray} : rrun P (bop .neq t x y (.string a) (.string b)) h = some (.bool (!(a.toList == b.toList))) := rfl

theorem rr_forIn_bytes (f : Value → ByteArray → Sem (ForInStep ByteArray)) (hf : ∀ (n : Nat) (r : ByteArray), rrun P (f (.int .u8 (n : Nat)) r) h = some (.yield (r.push (UInt8.ofNat n)))) :
    ∀ (ns : List Nat) (s : ByteArray), rrun P (forIn (ns.map fun n => Value.int .u8 (n : Nat)) s f) h = some (ns.foldl (fun r n => r.push (UInt8.ofNat n)) s) := by
  intro ns
  induction ns with
  | nil => intro s; simp [rrun_pure]
  | cons n ns ih =>
    intro s
    simp only [List.map_cons, List.forIn_cons, rrun_bnd, hf, Option.bind_some, List.foldl_cons]
    exact ih _

theorem rr_bytesToString {b o len cap : Nat} {xs : List Nat} (hl : ldN h b o len = some (xs.map fun n => Value.int .u8 (n : Nat))) : rrun P (Conv.bytesToString (.slice (some ⟨b, o, none⟩) len cap)) h = some (.string (mkB xs)) := by
  unfold Conv.bytesToString
  simp only [rrun_bnd]
  rw [rr_loadCells, hl]
  simp only [Option.map_some, Option.bind_some, List.forIn_toArray, rrun_bnd]
  rw [rr_forIn_bytes _ (by intro n r; simp [rrun_pure])]
  simp [rrun_pure, mkB]

theorem rr_convert_bytes {src dst e : TypeId} {v : Value} {E : TypeId} {xs : List Nat} (hs : P.underlying src = some (.slice e)) (he : P.underlying e = some (.int .u8)) (hd : P.underlying dst = some .string) (S : SlAt h E 1 be v xs) :
    rrun P (convert src dst v) h = some (.string (mkB xs)) := by
  have key : ∀ a l c, rrun P (convert src dst (.slice a l c)) h = rrun P (Conv.bytesToString (.slice a l c)) h := by
    intro a l c
    unfold convert
    simp only [rrun_bnd, rr_underlying, hs, hd, he, Option.bind_some]
  rcases S with ⟨rfl, rfl⟩ | ⟨b, cap, c, rfl, hb, h1, h2, h3⟩
  · rw [key]; rfl
  · rw [key]
    refine rr_bytesToString ?_
    rw [ldN_of hb _ _ (by omega)]
    congr 1
    refine List.ext_getElem? fun i => ?_
    rw [List.getElem?_take, List.getElem?_map, Nat.mul_one] at *
    split
    · rename_i hi
      obtain ⟨x, hx⟩ : ∃ x, xs[i]? = some x := ⟨_, List.getElem?_eq_getElem hi⟩
      have := h3 i x hx 0 (by omega)
      rw [hx]
      simpa [be] using this
    · rename_i hi
      rw [List.getElem?_eq_none (by omega)]; rfl

theorem arun_convert_bytes {src dst e : TypeId} {v : Value} {E : TypeId} {xs : List Nat} {K : Value → Hp → Prop} (hs : P.underlying src = some (.slice e)) (he : P.underlying e = some (.int .u8)) (hd : P.underlying dst = some .string) (S : SlAt h E 1 be v xs)
    (hK : K (.string (mkB xs)) h) : arun P (convert src dst v) h K := arun_of_rrun _ (rr_convert_bytes hs he hd S) hK
end
end Go.Proofs.Ytpfenhikoajghaa

/- Maps: taking away, how many, a look at the value alone; lists of pairs. -/
namespace Go.Proofs.Ytpfenhikoajghaa
open Go
set_option linter.unusedSimpArgs false
set_option linter.unusedVariables false

def delM {α β : Type} [DecidableEq α] (a : α) : List (α × β) → List (α × β)
  | [] => []
  | x :: xs => if a = x.1 then xs else x :: delM a xs

def Uniq {α β : Type} (m : List (α × β)) : Prop := (m.map (·.1)).Nodup

section
variable {α β : Type} [DecidableEq α]

theorem getM_none {a : α} : ∀ {m : List (α × β)}, getM m a = none ↔ a ∉ m.map (·.1)
  | [] => by simp [getM_nil]
  | x :: xs => by
    rw [getM_cons, List.map_cons, List.mem_cons]
    split
    · rename_i h; simp [h]
    · rename_i h
      rw [getM_none (m := xs)]
      simp [h]

theorem getM_mem {a : α} {v : β} : ∀ {m : List (α × β)}, getM m a = some v → (a, v) ∈ m
  | [], h => by simp [getM_nil] at h
  | x :: xs, h => by
    rw [getM_cons] at h
    split at h
    · rename_i e; simp at h; subst h; subst e; simp
    · exact List.mem_cons_of_mem _ (getM_mem h)

theorem getM_of_mem {a : α} {v : β} : ∀ {m : List (α × β)}, Uniq m → (a, v) ∈ m → getM m a = some v
  | [], _, h => by simp at h
  | x :: xs, u, h => by
    rw [getM_cons]
    unfold Uniq at u
    rw [List.map_cons, List.nodup_cons] at u
    rcases List.mem_cons.1 h with e | e
    · rw [← e]; simp
    · have : a ≠ x.1 := fun q => u.1 (by rw [← q]; exact List.mem_map_of_mem e)
      rw [if_neg this]
      exact getM_of_mem u.2 e

theorem setM_keys {a : α} {v : β} : ∀ {m : List (α × β)}, (setM a v m).map (·.1) = if a ∈ m.map (·.1) then m.map (·.1) else m.map (·.1) ++ [a]
  | [] => by simp [setM]
  | x :: xs => by
    simp only [setM]
    split
    · rename_i e; simp [e]
    · rename_i e
      rw [List.map_cons, setM_keys]
      by_cases h : a ∈ xs.map (·.1)
      · rw [if_pos h, if_pos (by simp only [List.map_cons, List.mem_cons]; exact .inr h)]; rfl
      · rw [if_neg h, if_neg (by simp only [List.map_cons, List.mem_cons, not_or]; exact ⟨e, h⟩)]; rfl

theorem Uniq.set {a : α} {v : β} {m : List (α × β)} (u : Uniq m) : Uniq (setM a v m) := by
  unfold Uniq at *
  rw [setM_keys]
  split
  · exact u
  · rename_i h
    rw [List.nodup_append]
    refine ⟨u, by simp, fun x hx y hy => ?_⟩
    simp at hy; subst hy
    rintro rfl; exact h hx

theorem setM_length {a : α} {v : β} {m : List (α × β)} : (setM a v m).length = if (getM m a).isSome then m.length else m.length + 1 := by
  have := congrArg List.length (setM_keys (a := a) (v := v) (m := m))
  rw [List.length_map] at this
  rw [this]
  by_cases h : a ∈ m.map (·.1)
  · have h2 : getM m a ≠ none := fun q => (getM_none.1 q) h
    rw [if_pos h, if_pos (Option.isSome_iff_ne_none.2 h2), List.length_map]
  · have h2 := getM_none.2 h
    rw [if_neg h, h2]; simp

theorem delM_sub {a : α} : ∀ {m : List (α × β)}, List.Sublist (delM a m) m
  | [] => .slnil
  | x :: xs => by
    simp only [delM]
    split
    · exact List.sublist_cons_self _ _
    · exact List.Sublist.cons_cons _ delM_sub

theorem Uniq.del {a : α} {m : List (α × β)} (u : Uniq m) : Uniq (delM a m) := List.Sublist.nodup (delM_sub.map _) u

theorem getM_delM {a b : α} : ∀ {m : List (α × β)}, Uniq m → getM (delM a m) b = if b = a then none else getM m b
  | [], _ => by simp [delM, getM_nil]
  | x :: xs, u => by
    have u' := u
    unfold Uniq at u
    rw [List.map_cons, List.nodup_cons] at u
    simp only [delM]
    split
    · rename_i e
      by_cases hb : b = a
      · rw [if_pos hb, hb, e]; exact getM_none.2 u.1
      · rw [if_neg hb, getM_cons, if_neg (by rw [← e]; exact hb)]
    · rename_i e
      rw [getM_cons, getM_cons, getM_delM u.2]
      by_cases hb : b = a
      · rw [if_neg (by rw [hb]; exact e), if_pos hb, if_pos hb]
      · rw [if_neg hb]; simp [hb]

theorem delM_length {a : α} : ∀ {m : List (α × β)}, (delM a m).length = if (getM m a).isSome then m.length - 1 else m.length
  | [] => by simp [delM, getM_nil]
  | x :: xs => by
    simp only [delM]
    rw [getM_cons]
    split
    · simp
    · rw [List.length_cons, delM_length]
      cases h : getM xs a with
      | none => simp
      | some v =>
        have := getM_mem h
        have : 0 < xs.length := List.length_pos_of_mem this
        simp; omega
end

section
variable {P : Program} {h : Hp} {α β : Type} [DecidableEq α] {kenc : α → Value} {venc : β → Value}

theorem Ents.length_eq {α β : Type} {kenc : α → Value} {venc : β → Value} {es : List MapEntry} {m : List (α × β)} (H : Ents kenc venc es m) : es.length = m.length := by
  induction H with
  | nil => rfl
  | cons _ _ _ ih => simp [ih]

theorem Ents.erase {es : List MapEntry} {m : List (α × β)} (H : Ents kenc venc es m) {a : α} {v : β} {j : Nat} : findM a m 0 = some (j, v) → Ents kenc venc (es.eraseIdx j) (delM a m) := by
  have key : ∀ (es : List MapEntry) (m : List (α × β)), Ents kenc venc es m → ∀ i j, findM a m i = some (i + j, v) → Ents kenc venc (es.eraseIdx j) (delM a m) := by
    intro es m H
    induction H with
    | nil => intro i j h; cases h
    | @cons e es k v' m h1 h2 h3 ih =>
      intro i j h
      simp only [findM] at h
      split at h
      · rename_i e
        have : j = 0 := by simp only [Option.some.injEq, Prod.mk.injEq] at h; omega
        subst this
        simp only [delM, if_pos e, List.eraseIdx_zero, List.tail_cons]
        exact h3
      · rename_i hne
        have := (findM_some h).1
        obtain ⟨j', rfl⟩ : ∃ j', j = j' + 1 := ⟨j - 1, by omega⟩
        simp only [delM, if_neg hne, List.eraseIdx_cons_succ]
        exact .cons h1 h2 (ih (i + 1) j' (by rw [h]; congr 2; omega))
  intro h
  exact key es m H 0 j (by simpa using h)

theorem delM_none {α β : Type} [DecidableEq α] {a : α} : ∀ {m : List (α × β)}, getM m a = none → delM a m = m
  | [], _ => rfl
  | x :: xs, h => by
    rw [getM_cons] at h
    split at h
    · cases h
    · rename_i e
      simp only [delM, if_neg e]
      rw [delM_none h]

theorem arun_mapDelete {t kt et R : TypeId} {ts : Array TypeId} {r : Nat} {a : α} {m : List (α × β)} {K : Value → Hp → Prop} (ht : ts[0]? = some t) (hu : P.underlying t = some (.map kt et)) (M : MapAt h r kenc venc m)
    (hck : ∀ e, rrun P (Instr.checkKey e 10000 kt (kenc a)) h = some ())
    (hfk : ∀ es : List MapEntry, Ents kenc venc es m → rrun P (Instr.findKey kt (kenc a) es) h = some ((findM a m 0).map fun x => (x.1, venc x.2)))
    (hK : ∀ es clock, Ents kenc venc es.toList (delM a m) → K (.tuple #[]) (h.upd r (.map es clock))) :
    arun P (Builtin.delete_ ts R #[.map (some r), kenc a]) h K := by
  obtain ⟨es, clock, hr, hE⟩ := M
  have set : ∀ o, K (.tuple #[]) (h.upd r o) → arun P (setObj r o >>= fun _ => pure (Value.tuple #[])) h K := fun o hk => ⟨⟨_, hr, rfl⟩, hk⟩
  unfold Builtin.delete_
  rw [ht]
  simp only [List.getElem?_toArray, List.getElem?_cons_zero, List.getElem?_cons_succ]
  rw [arun_bnd_rr (a := .map kt et) (by rw [rr_underlying, hu])]
  simp only [bind_assoc, pure_bind]
  rw [arun_bnd_rr (a := .map es clock) (rr_getObj hr)]
  simp only []
  rw [arun_bnd_rr (a := ()) (hck _), arun_bnd_rr (hfk _ hE)]
  cases hf : findM a m 0 with
  | none =>
    simp only [Option.map_none]
    refine set _ (hK _ _ ?_)
    have : delM a m = m := delM_none (by unfold getM; rw [hf]; rfl)
    rw [this]; exact hE
  | some x =>
    obtain ⟨j, v⟩ := x
    simp only [Option.map_some]
    have hj := (findM_some hf).2
    have hlt : j < es.size := by
      have h1 := (List.getElem?_eq_some_iff.1 hj).1
      have h2 := hE.length_eq
      rw [Array.length_toList] at h2
      omega
    refine set _ (hK _ _ ?_)
    rw [Array.toList_eraseIdxIfInBounds]
    exact hE.erase hf

end

theorem rr_mapLen {P : Program} {h : Hp} {α β : Type} {kenc : α → Value} {venc : β → Value} {t kt et R : TypeId} {ts : Array TypeId} {r : Nat} {m : List (α × β)} (ht : ts[0]? = some t) (hu : P.underlying t = some (.map kt et)) (M : MapAt h r kenc venc m) :
    rrun P (Builtin.len_ ts R #[.map (some r)]) h = some (.int .i64 (m.length : Nat)) := by
  obtain ⟨es, clock, hr, hE⟩ := M
  unfold Builtin.len_
  rw [ht]
  simp only [List.getElem?_toArray, List.getElem?_cons_zero]
  rw [rrun_bnd, rr_underlying, hu, Option.bind_some]
  simp only []
  rw [rrun_bnd, rr_getObj hr, Option.bind_some]
  simp only [rrun_pure]
  rw [← hE.length_eq, Array.length_toList]; rfl

/-! ### Slices as sources -/
theorem SlAt.toSrc {α : Type} {h : Hp} {E sz : Nat} {enc : α → List Value} {v : Value} {xs : List α} (S : SlAt h E sz enc v xs) (hl : ∀ y ∈ xs, (enc y).length = sz ∧ ∀ u ∈ enc y, oneCell u = true) : Src h sz enc v xs := by
  refine ⟨hl, ?_⟩
  rcases S with ⟨rfl, rfl⟩ | ⟨b, cap, c, rfl, hb, h1, h2, h3⟩
  · exact .inl ⟨_, _, rfl, rfl⟩
  · exact .inr ⟨b, 0, cap, c, E, (0, 0), rfl, hb, by have := Nat.mul_le_mul_right sz h1; omega, h3⟩

theorem one_sl {α : Type} {h : Hp} {E sz : Nat} {enc : α → List Value} {b : Nat} {y : α} (hb : h b = some (.cells (enc y).toArray E (0, 0))) (hl : (enc y).length = sz) : SlAt h E sz enc (.slice (some ⟨b, 0, none⟩) 1 1) [y] := by
  refine .inr ⟨b, 1, _, rfl, hb, by simp, by simp [hl], fun i x hx j hj => ?_⟩
  have hi : i = 0 := by have := (List.getElem?_eq_some_iff.1 hx).1; simpa using this
  subst hi
  simp at hx; subst hx
  simp
end Go.Proofs.Ytpfenhikoajghaa

/- Rules that keep simp out of what is done behind an operation that it can't work off: to be imported by texts that want it. -/
namespace Go.Proofs.Ytpfenhikoajghaa
open Go

section
variable {P : Program} {h : Hp}
@[congr] theorem rdv_stop {o o' : Option Value} {k : Value → Prop} {r : Unit → Prop} (e : o = o') (_t : ∀ u : Unit, (True ∧ True) = r u) : rdv o k = rdv o' k := by rw [e]
@[congr] theorem rd_stop {s s' : Sem Value} {k : Value → Prop} {r : Unit → Prop} (e : s = s') (_t : ∀ u : Unit, (True ∧ True) = r u) : rd P s h k = rd P s' h k := by rw [e]
@[congr] theorem arun_stop {α : Type} {s s' : Sem α} {k : α → Hp → Prop} {r : Unit → Prop} (e : s = s') (_t : ∀ u : Unit, (True ∧ True) = r u) : arun P s h k = arun P s' h k := by rw [e]
@[congr] theorem Ok_stop {f : Nat} {a a' : Array Value} {k : Value → Hp → Prop} {r : Unit → Prop} (e : a = a') (_t : ∀ u : Unit, (True ∧ True) = r u) : Ok P f a h k = Ok P f a' h k := by rw [e]
@[congr] theorem callV_stop {v v' : Value} {a a' : Array Value} {k : Value → Hp → Prop} {r : Unit → Prop} (e0 : v = v') (e : a = a') (_t : ∀ u : Unit, (True ∧ True) = r u) : callV P v a h k = callV P v' a' h k := by rw [e0, e]
@[congr] theorem nck_stop {x x' : Value} {q : Prop} {r : Unit → Prop} (e : x = x') (_t : ∀ u : Unit, (True ∧ True) = r u) : nck x q = nck x' q := by rw [e]
@[congr] theorem gd_stop {c c' : Bool} {ex : Hp → (Value → Hp → Prop) → Prop} {k : Value → Hp → Prop} {r : Unit → Prop} (e : c = c') (_t : ∀ u : Unit, (True ∧ True) = r u) : gd c ex h k = gd c' ex h k := by rw [e]
@[congr] theorem stw_stop {c c' : Option Value} {f f' : Bool} {q : Prop} {r : Unit → Prop} (e : c = c') (e2 : f = f') (_t : ∀ u : Unit, (True ∧ True) = r u) : stw c f q = stw c' f' q := by rw [e, e2]
@[congr] theorem brv_stop {v v' : Value} {x y : Prop} {r : Unit → Prop} (e : v = v') (_t : ∀ u : Unit, (True ∧ True) = r u) : brv v x y = brv v' x y := by rw [e]
@[congr] theorem stA_stop {h h' : Hp} {b o : Nat} {l l' : List Value} {k : Hp → Prop} {r : Unit → Prop} (e0 : h = h') (e : l = l') (_t : ∀ u : Unit, (True ∧ True) = r u) : stA h b o l k = stA h' b o l' k := by rw [e0, e]
end
end Go.Proofs.Ytpfenhikoajghaa

/- Maps with integer keys; a range over a map, whatever order is drawn. -/
namespace Go.Proofs.Ytpfenhikoajghaa
open Go
set_option linter.unusedSimpArgs false
set_option linter.unusedVariables false

section
variable {P : Program} {h : Hp} {α β : Type} [DecidableEq α] {kenc : α → Value} {venc : β → Value}

theorem findNow_int {kd kd' : IntKind} {f : α → Int} (hf : ∀ x y, f x = f y → x = y) {a : α} : ∀ {es : List MapEntry} {m : List (α × β)} (i : Nat), Ents (fun x => .int kd (f x)) venc es m →
    Instr.findNow (.int kd') (.int kd (f a)) es i = some ((findM a m i).map fun x => (x.1, venc x.2)) := by
  intro es m i H
  induction H generalizing i with
  | nil => rfl
  | @cons e es k v m h1 h2 _ ih =>
    unfold Instr.findNow
    have hs : Instr.sameNow (.int kd') (.int kd (f a)) e.key = some (f a == f k) := by
      rw [h1]; simp [Instr.sameNow]
    rw [hs]
    by_cases hak : a = k
    · subst hak; simp [findM, h2]
    · have : (f a == f k) = false := by simp; exact fun e => hak (hf _ _ e)
      rw [this]
      simp only [findM, if_neg hak]
      exact ih _

theorem rr_findKey_int {kt : TypeId} {kd kd' : IntKind} {f : α → Int} (hf : ∀ x y, f x = f y → x = y) {a : α} (hu : P.underlying kt = some (.int kd')) {es : List MapEntry} {m : List (α × β)} (H : Ents (fun x => .int kd (f x)) venc es m) :
    rrun P (Instr.findKey kt (.int kd (f a)) es) h = some ((findM a m 0).map fun x => (x.1, venc x.2)) := by
  unfold Instr.findKey
  rw [rrun_bnd, rr_underlying, hu, Option.bind_some, findNow_int hf 0 H]
  rfl

/-! ### When entries came -/
def BornOk (es : List MapEntry) (clock : Nat) : Prop := (es.map (·.born)).Nodup ∧ ∀ e ∈ es, e.born < clock

def MapB (h : Hp) (r : Nat) (kenc : α → Value) (venc : β → Value) (m : List (α × β)) : Prop := ∃ es clock, h r = some (.map es clock) ∧ Ents kenc venc es.toList m ∧ BornOk es.toList clock

omit [DecidableEq α] in
theorem MapB.at {r : Nat} {m : List (α × β)} (M : MapB h r kenc venc m) : MapAt h r kenc venc m := by
  obtain ⟨es, clock, h1, h2, _⟩ := M; exact ⟨es, clock, h1, h2⟩

omit [DecidableEq α] in
theorem MapB.keep {h' : Hp} {r : Nat} {m : List (α × β)} (M : MapB h r kenc venc m) (e : h' r = h r) : MapB h' r kenc venc m := by
  obtain ⟨es, clock, h1, h2, h3⟩ := M; exact ⟨es, clock, by rw [e]; exact h1, h2, h3⟩

omit [DecidableEq α] in
theorem MapB.le {h' : Hp} {r : Nat} {m : List (α × β)} (M : MapB h r kenc venc m) (e : Le h h') : MapB h' r kenc venc m := by
  obtain ⟨es, clock, h1, h2, h3⟩ := M; exact ⟨es, clock, e _ _ h1, h2, h3⟩

omit [DecidableEq α] in
theorem MapB.alive {r : Nat} {m : List (α × β)} (M : MapB h r kenc venc m) : ∃ o, h r = some o := by
  obtain ⟨es, clock, h1, _⟩ := M; exact ⟨_, h1⟩

theorem BornOk.push {es : List MapEntry} {c : Nat} (B : BornOk es c) {k v : Value} : BornOk (es ++ [{ key := k, val := v, born := c }]) (c + 1) := by
  refine ⟨?_, fun e he => ?_⟩
  · rw [List.map_append, List.nodup_append]
    refine ⟨B.1, by simp, fun x hx y hy => ?_⟩
    obtain ⟨e, he, rfl⟩ := List.mem_map.1 hx
    simp at hy; subst hy
    exact Nat.ne_of_lt (B.2 e he)
  · rcases List.mem_append.1 he with q | q
    · exact Nat.lt_succ_of_lt (B.2 e q)
    · simp at q; subst q; exact Nat.lt_succ_self _

theorem map_modify_same {γ δ : Type} (g : γ → δ) (f : γ → γ) (hg : ∀ x, g (f x) = g x) : ∀ (l : List γ) (j : Nat), (l.modify j f).map g = l.map g
  | [], j => by simp
  | x :: xs, 0 => by simp [hg]
  | x :: xs, j + 1 => by simp [map_modify_same g f hg xs j]

theorem BornOk.modify {es : List MapEntry} {c j : Nat} (B : BornOk es c) {f : MapEntry → MapEntry} (hf : ∀ e, (f e).born = e.born) : BornOk (es.modify j f) c := by
  have e := map_modify_same (·.born) f hf es j
  refine ⟨by rw [e]; exact B.1, fun x hx => ?_⟩
  have : x.born ∈ (es.modify j f).map (·.born) := List.mem_map_of_mem hx
  rw [e] at this
  obtain ⟨y, hy, q⟩ := List.mem_map.1 this
  rw [← q]; exact B.2 y hy

theorem BornOk.sub {es es' : List MapEntry} {c : Nat} (B : BornOk es c) (s : List.Sublist es' es) : BornOk es' c :=
  ⟨List.Sublist.nodup (s.map _) B.1, fun e he => B.2 e (s.subset he)⟩

theorem arun_mapUpdateB {t kt et : TypeId} {r : Nat} {a : α} {v : β} {m : List (α × β)} {K : Unit → Hp → Prop} (hu : P.underlying t = some (.map kt et)) (M : MapB h r kenc venc m) (hck : ∀ e, rrun P (Instr.checkKey e 10000 kt (kenc a)) h = some ())
    (hfk : ∀ es : List MapEntry, Ents kenc venc es m → rrun P (Instr.findKey kt (kenc a) es) h = some ((findM a m 0).map fun x => (x.1, venc x.2))) (hsb : Instr.sameBits 10000 (kenc a) (kenc a) = true)
    (hK : ∀ es clock, MapB (h.upd r (.map es clock)) r kenc venc (setM a v m) → K () (h.upd r (.map es clock))) :
    arun P (Instr.mapUpdate t (.map (some r)) (kenc a) (venc v)) h K := by
  obtain ⟨es, clock, hr, hE, hB⟩ := M
  unfold Instr.mapUpdate
  rw [arun_bnd_rr (a := .map kt et) (by rw [rr_underlying, hu])]
  simp only []
  rw [arun_bnd_rr (a := .map es clock) (rr_getObj hr)]
  simp only []
  rw [arun_bnd_rr (a := ()) (hck _), arun_bnd_rr (hfk _ hE)]
  have set : ∀ o, K () (h.upd r o) → arun P (setObj r o) h K := fun o hk => ⟨⟨_, hr, rfl⟩, hk⟩
  have kk : ∀ es clock, Ents kenc venc es.toList (setM a v m) → BornOk es.toList clock → K () (h.upd r (.map es clock)) := fun es clock q1 q2 =>
    hK es clock ⟨es, clock, upd_same, q1, q2⟩
  cases hf : findM a m 0 with
  | none =>
    simp only [Option.map_none]
    refine set _ (kk _ _ ?_ ?_)
    · rw [Array.toList_push]; exact hE.push hf
    · rw [Array.toList_push]; exact hB.push
  | some x =>
    obtain ⟨j, v0⟩ := x
    simp only [Option.map_some]
    obtain ⟨e, he, hke, _⟩ := hE.get (i := j) (x := (a, v0)) (by have := (findM_some hf).2; simpa using this)
    have hes : es[j]? = some e := by simpa using he
    have hks : rrun P (Instr.keyThatStays (((es[j]?).map (·.key)).getD (kenc a)) (kenc a)) h = some (kenc a) := by
      rw [hes]
      unfold Instr.keyThatStays
      simp only [Option.map_some, Option.getD_some, hke, hsb, if_true]
      rfl
    rw [arun_bnd_rr hks]
    refine set _ (kk _ _ ?_ ?_)
    · rw [Array.toList_modify]; exact hE.modify hf
    · rw [Array.toList_modify]; exact hB.modify (fun _ => rfl)

theorem arun_mapDeleteB {t kt et R : TypeId} {ts : Array TypeId} {r : Nat} {a : α} {m : List (α × β)} {K : Value → Hp → Prop} (ht : ts[0]? = some t) (hu : P.underlying t = some (.map kt et)) (M : MapB h r kenc venc m)
    (hck : ∀ e, rrun P (Instr.checkKey e 10000 kt (kenc a)) h = some ())
    (hfk : ∀ es : List MapEntry, Ents kenc venc es m → rrun P (Instr.findKey kt (kenc a) es) h = some ((findM a m 0).map fun x => (x.1, venc x.2)))
    (hK : ∀ es clock, MapB (h.upd r (.map es clock)) r kenc venc (delM a m) → K (.tuple #[]) (h.upd r (.map es clock))) :
    arun P (Builtin.delete_ ts R #[.map (some r), kenc a]) h K := by
  obtain ⟨es, clock, hr, hE, hB⟩ := M
  have set : ∀ o, K (.tuple #[]) (h.upd r o) → arun P (setObj r o >>= fun _ => pure (Value.tuple #[])) h K := fun o hk => ⟨⟨_, hr, rfl⟩, hk⟩
  have kk : ∀ es clock, Ents kenc venc es.toList (delM a m) → BornOk es.toList clock → K (.tuple #[]) (h.upd r (.map es clock)) := fun es clock q1 q2 =>
    hK es clock ⟨es, clock, upd_same, q1, q2⟩
  unfold Builtin.delete_
  rw [ht]
  simp only [List.getElem?_toArray, List.getElem?_cons_zero, List.getElem?_cons_succ]
  rw [arun_bnd_rr (a := .map kt et) (by rw [rr_underlying, hu])]
  simp only [bind_assoc, pure_bind]
  rw [arun_bnd_rr (a := .map es clock) (rr_getObj hr)]
  simp only []
  rw [arun_bnd_rr (a := ()) (hck _), arun_bnd_rr (hfk _ hE)]
  cases hf : findM a m 0 with
  | none =>
    simp only [Option.map_none]
    have : delM a m = m := delM_none (by unfold getM; rw [hf]; rfl)
    exact set _ (kk _ _ (by rw [this]; exact hE) hB)
  | some x =>
    obtain ⟨j, v⟩ := x
    simp only [Option.map_some]
    refine set _ (kk _ _ ?_ ?_)
    · rw [Array.toList_eraseIdxIfInBounds]; exact hE.erase hf
    · rw [Array.toList_eraseIdxIfInBounds]; exact hB.sub (List.eraseIdx_sublist _ _)

omit [DecidableEq α] in
theorem arun_makeMapB {t : TypeId} {K : Value → Hp → Prop} (hK : ∀ b, h b = none → MapB (h.upd b (.map #[] 0)) b kenc venc [] → K (.map (some b)) (h.upd b (.map #[] 0))) : arun P (Instr.makeMap t none) h K :=
  fun b hb => hK b hb ⟨#[], 0, upd_same, .nil, by simp [BornOk]⟩

/-! ### A range over a map -/
def seenOf (es : Array MapEntry) (is : List Nat) : Array Nat := (is.map fun i => ((es[i]?).map (·.born)).getD 0).toArray

/-- An iterator that has handed out these places, in this order. -/
def IterAt (h : Hp) (it r : Nat) (kenc : α → Value) (venc : β → Value) (m : List (α × β)) (is : List Nat) : Prop :=
  ∃ es clock, h r = some (.map es clock) ∧ h it = some (.mapIter (some r) clock (seenOf es is) clock) ∧ Ents kenc venc es.toList m ∧ BornOk es.toList clock ∧ is.Nodup ∧ ∀ i ∈ is, i < m.length

omit [DecidableEq α] in
theorem IterAt.keep {h' : Hp} {it r : Nat} {m : List (α × β)} {is : List Nat} (I : IterAt h it r kenc venc m is) (e1 : h' r = h r) (e2 : h' it = h it) : IterAt h' it r kenc venc m is := by
  obtain ⟨es, clock, h1, h2, h3⟩ := I; exact ⟨es, clock, by rw [e1]; exact h1, by rw [e2]; exact h2, h3⟩

omit [DecidableEq α] in
theorem IterAt.le {h' : Hp} {it r : Nat} {m : List (α × β)} {is : List Nat} (I : IterAt h it r kenc venc m is) (l : Le h h') : IterAt h' it r kenc venc m is := by
  obtain ⟨es, clock, h1, h2, h3⟩ := I; exact ⟨es, clock, l _ _ h1, l _ _ h2, h3⟩

omit [DecidableEq α] in
theorem IterAt.map {it r : Nat} {m : List (α × β)} {is : List Nat} (I : IterAt h it r kenc venc m is) : MapB h r kenc venc m := by
  obtain ⟨es, clock, h1, h2, h3, h4, _⟩ := I; exact ⟨es, clock, h1, h3, h4⟩

omit [DecidableEq α] in
theorem IterAt.ne {it r : Nat} {m : List (α × β)} {is : List Nat} (I : IterAt h it r kenc venc m is) : it ≠ r := by
  obtain ⟨es, clock, h1, h2, _⟩ := I
  rintro rfl; rw [h1] at h2; cases h2

omit [DecidableEq α] in
theorem arun_range {t kt et : TypeId} {r : Nat} {m : List (α × β)} {K : Value → Hp → Prop} (hu : P.underlying t = some (.map kt et)) (M : MapB h r kenc venc m)
    (hK : ∀ b o, h b = none → IterAt (h.upd b o) b r kenc venc m [] → K (.pointer (some ⟨b, 0, none⟩)) (h.upd b o)) : arun P (Instr.range t (.map (some r))) h K := by
  obtain ⟨es, clock, hr, hE, hB⟩ := M
  unfold Instr.range
  rw [arun_bnd_rr (a := .map kt et) (by rw [rr_underlying, hu])]
  simp only [bind_assoc, pure_bind]
  rw [arun_bnd_rr (a := .map es clock) (rr_getObj hr)]
  simp only [pure_bind]
  intro b hb
  refine hK b _ hb ⟨es, clock, ?_, upd_same, hE, hB, by simp, by simp⟩
  rw [upd_ne (by rintro rfl; rw [hr] at hb; cases hb)]; exact hr

omit [DecidableEq α] in
theorem born_inj {es : Array MapEntry} {c : Nat} (B : BornOk es.toList c) {i j : Nat} {e e' : MapEntry} (hi : es[i]? = some e) (hj : es[j]? = some e') (q : e.born = e'.born) : i = j := by
  have h1 : (es.toList.map (·.born))[i]? = some e.born := by rw [List.getElem?_map]; simp [hi]
  have h2 : (es.toList.map (·.born))[j]? = some e.born := by rw [List.getElem?_map]; simp [hj, q]
  exact (List.getElem?_inj (List.getElem?_eq_some_iff.1 h1).1 B.1).1 (by rw [h1, h2])

omit [DecidableEq α] in
theorem mem_seen {es : Array MapEntry} {c : Nat} (B : BornOk es.toList c) {is : List Nat} (hl : ∀ i ∈ is, i < es.size) {i : Nat} {e : MapEntry} (hi : es[i]? = some e) : (seenOf es is).contains e.born = decide (i ∈ is) := by
  rw [Bool.eq_iff_iff, decide_eq_true_eq, Array.contains_iff_mem]
  unfold seenOf
  rw [List.mem_toArray, List.mem_map]
  constructor
  · rintro ⟨j, hj, q⟩
    have hj' : es[j]? = some (es[j]'(hl j hj)) := Array.getElem?_eq_getElem (hl j hj)
    rw [hj', Option.map_some, Option.getD_some] at q
    rw [← born_inj B hj' hi q]; exact hj
  · intro hm; exact ⟨i, hm, by rw [hi]; rfl⟩

theorem seenOf_push {es : Array MapEntry} {is : List Nat} {i : Nat} {e : MapEntry} (hi : es[i]? = some e) : (seenOf es is).push e.born = seenOf es (is ++ [i]) := by
  unfold seenOf; simp [hi]

omit [DecidableEq α] in
theorem arun_next {it r : Nat} {m : List (α × β)} {is : List Nat} {ty : TypeId} {K : Value → Hp → Prop} (I : IterAt h it r kenc venc m is) (hend : (∀ i, i < m.length → i ∈ is) → K (.tuple #[.bool false]) h)
    (hstep : ∀ i x o, m[i]? = some x → i ∉ is → IterAt (h.upd it o) it r kenc venc m (is ++ [i]) → K (.tuple #[.bool true, kenc x.1, venc x.2]) (h.upd it o)) :
    arun P (Instr.next (.pointer (some ⟨it, 0, none⟩)) false ty) h K := by
  have hne := I.ne
  obtain ⟨es, clock, hr, hi, hE, hB, hN, hl⟩ := I
  have hlen : es.size = m.length := by have := hE.length_eq; rwa [Array.length_toList] at this
  have hgi : rrun P (getObj it) h = some (.mapIter (some r) clock (seenOf es is) clock) := by unfold getObj; simp only [rrun, hi, isRow]
  unfold Instr.next
  simp only []
  rw [arun_bnd_rr hgi]
  simp only []
  rw [arun_bnd_rr (a := .map es clock) (rr_getObj hr)]
  simp only []
  have hall : (!(seenOf es is).isEmpty && !es.isEmpty && es.all (fun x => decide (x.born ≥ clock))) = false := by
    by_cases h0 : es.size = 0
    · have : es = #[] := Array.eq_empty_of_size_eq_zero h0
      subst this; simp
    · have : es.all (fun x => decide (x.born ≥ clock)) = false := by
        rw [Array.all_eq_false]
        refine ⟨0, by omega, ?_⟩
        have := hB.2 es[0] (by simp)
        simp; omega
      rw [this]; simp
  have hc0 : (!(seenOf es is).isEmpty && !es.isEmpty && es.all fun x => decide (x.born ≥ clock)) = false := hall
  rw [if_neg (by rw [hc0]; simp)]
  generalize hL : (es.filter fun e => !(seenOf es is).contains e.born) = L
  have hmemL : ∀ e ∈ L, e.born < clock := by
    intro e he; rw [← hL] at he; simp at he; exact hB.2 e (by simpa using he.1)
  have e1 : L.filter (fun x => decide (x.born < clock)) = L := Array.filter_eq_self.2 (fun x hx => by simpa using hmemL x hx)
  have e2 : L.filter (fun x => decide (x.born ≥ clock)) = #[] := by
    rw [Array.filter_eq_empty_iff]
    intro x hx
    have := hmemL x hx
    simp; omega
  simp only [e1, e2, Array.append_empty]
  by_cases h0 : L.size = 0
  · have hLe : L = #[] := Array.eq_empty_of_size_eq_zero h0
    subst hLe
    simp only [Array.isEmpty_empty, if_true, Array.map_empty, Array.append_empty]
    show arun P (.choose (.mapNext 1) _) h K
    unfold arun
    simp only [Question.forced, Nat.le_refl, decide_true, if_true]
    refine hend fun i hi => ?_
    have hi' : i < es.size := by omega
    have hei : es[i]? = some es[i] := Array.getElem?_eq_getElem hi'
    have := mem_seen hB (is := is) (fun j hj => by rw [hlen]; exact hl j hj) hei
    rw [Array.filter_eq_empty_iff] at hL
    have h2 := hL es[i] (by simp)
    rw [this] at h2
    simpa using h2
  · have hne' : L.isEmpty = false := by simp [Array.isEmpty, h0]
    have step : ∀ j, j < L.size → ∃ e, L[j]? = some e ∧ K (.tuple #[.bool true, e.key, e.val]) (h.upd it (.mapIter (some r) clock ((seenOf es is).push e.born) clock)) := by
      intro j hj
      refine ⟨L[j], Array.getElem?_eq_getElem hj, ?_⟩
      have hm : L[j] ∈ (es.filter fun e => !(seenOf es is).contains e.born) := by rw [hL]; exact Array.getElem_mem hj
      generalize L[j] = e at hm
      rw [Array.mem_filter] at hm
      obtain ⟨i, hi1, hi2⟩ := Array.mem_iff_getElem.1 hm.1
      have hei : es[i]? = some e := by rw [Array.getElem?_eq_getElem hi1, hi2]
      have hns : i ∉ is := by
        have h2 := hm.2
        rw [mem_seen hB (is := is) (fun j hj => by rw [hlen]; exact hl j hj) hei] at h2
        simpa using h2
      have hil : i < m.length := by omega
      obtain ⟨e', he', hk, hv⟩ := hE.get (i := i) (x := m[i]) (List.getElem?_eq_getElem hil)
      have : e' = e := by
        have : es[i]? = some e' := by simpa using he'
        rw [hei] at this; simpa using this.symm
      subst this
      rw [hk, hv]
      refine hstep i m[i] _ (List.getElem?_eq_getElem hil) hns ⟨es, clock, by rw [upd_ne hne.symm]; exact hr, by rw [upd_same, seenOf_push hei], hE, hB, ?_, ?_⟩
      · rw [List.nodup_append]; exact ⟨hN, by simp, fun x hx y hy => by simp at hy; subst hy; rintro rfl; exact hns hx⟩
      · intro j hj
        rcases List.mem_append.1 hj with q | q
        · exact hl j q
        · simp at q; subst q; exact hil
    simp only [hne', Bool.false_eq_true, if_false, Array.empty_append, Array.size_map]
    show arun P (.choose (.mapNext L.size) _) h K
    unfold arun
    have fin : ∀ j, j < L.size → arun P (match (L.map some)[j]? with
        | some (some e) => (do setObj it (.mapIter (some r) clock ((seenOf es is).push e.born) clock); pure (.tuple #[.bool true, e.key, e.val]))
        | some none => pure (.tuple #[.bool false])
        | none => stuck "Next: no such candidate") h K := by
      intro j hj
      obtain ⟨e, he, hk⟩ := step j hj
      rw [Array.getElem?_map, he, Option.map_some]
      exact ⟨⟨_, hi, rfl⟩, hk⟩
    by_cases hf : L.size ≤ 1
    · simp only [Question.forced, hf, decide_true, if_true]
      exact fin 0 (by omega)
    · simp only [Question.forced, hf, decide_false, Bool.false_eq_true, if_false]
      intro t
      exact fin _ (Nat.mod_lt _ (by omega))

omit [DecidableEq α] in
theorem arun_entry {it r : Nat} {m : List (α × β)} {is : List Nat} {i : Nat} {x : α × β} {K : Value → Hp → Prop} (I : IterAt h it r kenc venc m (is ++ [i])) (hx : m[i]? = some x) (hK : K (.tuple #[kenc x.1, venc x.2]) h) :
    arun P (Instr.entry (.pointer (some ⟨it, 0, none⟩))) h K := by
  obtain ⟨es, clock, hr, hi, hE, hB, hN, hl⟩ := I
  obtain ⟨e, he, hk, hv⟩ := hE.get hx
  have hei : es[i]? = some e := by simpa using he
  have hgi : rrun P (getObj it) h = some (.mapIter (some r) clock (seenOf es (is ++ [i])) clock) := by unfold getObj; simp only [rrun, hi, isRow]
  have hf : es.find? (·.born == e.born) = some e := by
    cases hq : es.find? (·.born == e.born) with
    | none =>
      rw [Array.find?_eq_none] at hq
      have := hq e (Array.mem_of_getElem? hei)
      simp at this
    | some e' =>
      have hb := Array.find?_some hq
      have hm := Array.mem_of_find?_eq_some hq
      obtain ⟨j, hj1, hj2⟩ := Array.mem_iff_getElem.1 hm
      have hej : es[j]? = some e' := by rw [Array.getElem?_eq_getElem hj1, hj2]
      have := born_inj hB hej hei (by simpa using hb)
      subst this
      rw [hej] at hei; exact hei
  unfold Instr.entry
  simp only []
  rw [arun_bnd_rr hgi]
  simp only []
  rw [← seenOf_push hei, Array.back?_push]
  simp only []
  rw [arun_bnd_rr (a := .map es clock) (rr_getObj hr)]
  simp only [bne_self_eq_false, Bool.false_eq_true, if_false, hf]
  rw [← hk, ← hv] at hK
  exact hK
end

/-! ### What has been visited -/
def vis {γ : Type} (m : List γ) (is : List Nat) : List γ := is.filterMap (m[·]?)

theorem vis_nil {γ : Type} (m : List γ) : vis m [] = [] := rfl
theorem vis_snoc {γ : Type} {m : List γ} {is : List Nat} {i : Nat} {x : γ} (h : m[i]? = some x) : vis m (is ++ [i]) = vis m is ++ [x] := by
  unfold vis; simp [h]

theorem vis_range {γ : Type} : ∀ (m : List γ), vis m (List.range m.length) = m
  | [] => rfl
  | x :: xs => by
    have := vis_range xs
    unfold vis at *
    rw [List.length_cons, List.range_succ_eq_map, List.filterMap_cons]
    simp only [List.getElem?_cons_zero, List.filterMap_map]
    congr 1

theorem vis_perm {γ : Type} {m : List γ} {is : List Nat} (hn : is.Nodup) (hl : ∀ i ∈ is, i < m.length) (ha : ∀ i, i < m.length → i ∈ is) : (vis m is).Perm m := by
  have h1 : is.Perm (List.range m.length) := (List.perm_ext_iff_of_nodup hn List.nodup_range).2 (fun i => by rw [List.mem_range]; exact ⟨hl i, ha i⟩)
  have h2 := h1.filterMap (m[·]?)
  have h3 := vis_range m
  unfold vis at *
  rw [h3] at h2; exact h2

theorem vis_sub {γ : Type} {m : List γ} {is : List Nat} : ∀ x ∈ vis m is, x ∈ m := by
  intro x hx
  unfold vis at hx
  obtain ⟨i, _, e⟩ := List.mem_filterMap.1 hx
  exact List.mem_of_getElem? e

theorem vis_length {γ : Type} {m : List γ} {is : List Nat} : (vis m is).length ≤ is.length := List.length_filterMap_le _ _

theorem IterAt.nodup {h : Hp} {α β : Type} {kenc : α → Value} {venc : β → Value} {it r : Nat} {m : List (α × β)} {is : List Nat} (I : IterAt h it r kenc venc m is) : is.Nodup ∧ ∀ i ∈ is, i < m.length := by
  obtain ⟨es, cl, _, _, _, _, h1, h2⟩ := I; exact ⟨h1, h2⟩

theorem nodup_bound {is : List Nat} {n : Nat} (hn : is.Nodup) (hl : ∀ i ∈ is, i < n) : is.length ≤ n := by
  have h1 := List.Nodup.length_le_of_subset hn (l₂ := List.range n) (fun i hi => List.mem_range.2 (hl i hi))
  simpa using h1

theorem IterAt.len {h : Hp} {α β : Type} {kenc : α → Value} {venc : β → Value} {it r : Nat} {m : List (α × β)} {is : List Nat} (I : IterAt h it r kenc venc m is) : is.length ≤ m.length := nodup_bound I.nodup.1 I.nodup.2
end Go.Proofs.Ytpfenhikoajghaa

/- A range over a map out of which entries may be taken, or whose values may be set anew, on the way. -/
namespace Go.Proofs.Ytpfenhikoajghaa
open Go
set_option linter.unusedSimpArgs false
set_option linter.unusedVariables false

section
variable {P : Program} {h : Hp} {α β : Type} [DecidableEq α] {kenc : α → Value} {venc : β → Value}

/-- What an iterator has seen, of the entries that are there, is what it has handed out. -/
def SeenOk (es : List MapEntry) (ks : List α) (seen : Array Nat) (V : List α) : Prop :=
  ∀ (i : Nat) (e : MapEntry) (k : α), es[i]? = some e → ks[i]? = some k → seen.contains e.born = decide (k ∈ V) ∧ (V.getLast? = some k → seen.back? = some e.born)

/-- An iterator that has handed out these keys, over a map that now holds these. -/
def IterS (h : Hp) (it r : Nat) (kenc : α → Value) (venc : β → Value) (m : List (α × β)) (V : List α) : Prop :=
  Uniq m ∧ ∃ (es : Array MapEntry) (clock : Nat) (seen : Array Nat), h r = some (.map es clock) ∧ h it = some (.mapIter (some r) clock seen clock) ∧ Ents kenc venc es.toList m ∧ BornOk es.toList clock ∧
    (∀ b ∈ seen, b < clock) ∧ SeenOk es.toList (m.map (·.1)) seen V

omit [DecidableEq α] in
theorem IterS.keep [DecidableEq α] {h' : Hp} {it r : Nat} {m : List (α × β)} {V : List α} (I : IterS h it r kenc venc m V) (e1 : h' r = h r) (e2 : h' it = h it) : IterS h' it r kenc venc m V := by
  obtain ⟨u, es, clock, seen, h1, h2, h3⟩ := I; exact ⟨u, es, clock, seen, by rw [e1]; exact h1, by rw [e2]; exact h2, h3⟩

theorem IterS.le {h' : Hp} {it r : Nat} {m : List (α × β)} {V : List α} (I : IterS h it r kenc venc m V) (l : Le h h') : IterS h' it r kenc venc m V := by
  obtain ⟨u, es, clock, seen, h1, h2, h3⟩ := I; exact ⟨u, es, clock, seen, l _ _ h1, l _ _ h2, h3⟩

theorem IterS.map {it r : Nat} {m : List (α × β)} {V : List α} (I : IterS h it r kenc venc m V) : MapB h r kenc venc m := by
  obtain ⟨u, es, clock, seen, h1, h2, h3, h4, _⟩ := I; exact ⟨es, clock, h1, h3, h4⟩

theorem IterS.ne {it r : Nat} {m : List (α × β)} {V : List α} (I : IterS h it r kenc venc m V) : it ≠ r := by
  obtain ⟨u, es, clock, seen, h1, h2, _⟩ := I
  rintro rfl; rw [h1] at h2; cases h2

theorem IterS.alive {it r : Nat} {m : List (α × β)} {V : List α} (I : IterS h it r kenc venc m V) : (∃ o, h r = some o) ∧ ∃ o, h it = some o := by
  obtain ⟨u, es, clock, seen, h1, h2, _⟩ := I; exact ⟨⟨_, h1⟩, ⟨_, h2⟩⟩

theorem arun_rangeS {t kt et : TypeId} {r : Nat} {m : List (α × β)} {K : Value → Hp → Prop} (hu : P.underlying t = some (.map kt et)) (M : MapB h r kenc venc m) (u : Uniq m)
    (hK : ∀ b o, h b = none → IterS (h.upd b o) b r kenc venc m [] → K (.pointer (some ⟨b, 0, none⟩)) (h.upd b o)) : arun P (Instr.range t (.map (some r))) h K := by
  obtain ⟨es, clock, hr, hE, hB⟩ := M
  unfold Instr.range
  rw [arun_bnd_rr (a := .map kt et) (by rw [rr_underlying, hu])]
  simp only [bind_assoc, pure_bind]
  rw [arun_bnd_rr (a := .map es clock) (rr_getObj hr)]
  simp only [pure_bind]
  intro b hb
  refine hK b _ hb ⟨u, es, clock, #[], ?_, upd_same, hE, hB, by simp, fun i e k he hk => by simp⟩
  rw [upd_ne (by rintro rfl; rw [hr] at hb; cases hb)]; exact hr

theorem arun_nextS {it r : Nat} {m : List (α × β)} {V : List α} {ty : TypeId} {K : Value → Hp → Prop} (I : IterS h it r kenc venc m V) (hend : (∀ x ∈ m, x.1 ∈ V) → K (.tuple #[.bool false]) h)
    (hstep : ∀ x o, x ∈ m → x.1 ∉ V → IterS (h.upd it o) it r kenc venc m (V ++ [x.1]) → K (.tuple #[.bool true, kenc x.1, venc x.2]) (h.upd it o)) :
    arun P (Instr.next (.pointer (some ⟨it, 0, none⟩)) false ty) h K := by
  have hne := I.ne
  obtain ⟨u, es, clock, seen, hr, hi, hE, hB, hL0, hS⟩ := I
  have hlen : es.size = m.length := by have := hE.length_eq; rwa [Array.length_toList] at this
  have hgi : rrun P (getObj it) h = some (.mapIter (some r) clock seen clock) := by unfold getObj; simp only [rrun, hi, isRow]
  unfold Instr.next
  simp only []
  rw [arun_bnd_rr hgi]
  simp only []
  rw [arun_bnd_rr (a := .map es clock) (rr_getObj hr)]
  simp only []
  have hc0 : (!seen.isEmpty && !es.isEmpty && es.all fun x => decide (x.born ≥ clock)) = false := by
    by_cases h0 : es.size = 0
    · have : es = #[] := Array.eq_empty_of_size_eq_zero h0
      subst this; simp
    · have : es.all (fun x => decide (x.born ≥ clock)) = false := by
        rw [Array.all_eq_false]
        refine ⟨0, by omega, ?_⟩
        have := hB.2 es[0] (by simp)
        simp; omega
      rw [this]; simp
  rw [if_neg (by rw [hc0]; simp)]
  generalize hL : (es.filter fun e => !seen.contains e.born) = L
  have hmemL : ∀ e ∈ L, e.born < clock := by
    intro e he; rw [← hL] at he; simp at he; exact hB.2 e (by simpa using he.1)
  have e1 : L.filter (fun x => decide (x.born < clock)) = L := Array.filter_eq_self.2 (fun x hx => by simpa using hmemL x hx)
  have e2 : L.filter (fun x => decide (x.born ≥ clock)) = #[] := by
    rw [Array.filter_eq_empty_iff]
    intro x hx
    have := hmemL x hx
    simp; omega
  simp only [e1, e2, Array.append_empty]
  by_cases h0 : L.size = 0
  · have hLe : L = #[] := Array.eq_empty_of_size_eq_zero h0
    subst hLe
    simp only [Array.isEmpty_empty, if_true, Array.map_empty, Array.append_empty]
    show arun P (.choose (.mapNext 1) _) h K
    unfold arun
    simp only [Question.forced, Nat.le_refl, decide_true, if_true]
    refine hend fun x hx => ?_
    obtain ⟨i, hi', rfl⟩ := List.mem_iff_getElem.1 hx
    have hi2 : i < es.size := by omega
    have hei : es.toList[i]? = some es[i] := by simp [Array.getElem?_eq_getElem hi2]
    have hk : (m.map (·.1))[i]? = some m[i].1 := by rw [List.getElem?_map, List.getElem?_eq_getElem hi']; rfl
    have := (hS i _ _ hei hk).1
    rw [Array.filter_eq_empty_iff] at hL
    have h2 := hL es[i] (by simp)
    rw [this] at h2
    simpa using h2
  · have hne' : L.isEmpty = false := by simp [Array.isEmpty, h0]
    have step : ∀ j, j < L.size → ∃ e, L[j]? = some e ∧ K (.tuple #[.bool true, e.key, e.val]) (h.upd it (.mapIter (some r) clock (seen.push e.born) clock)) := by
      intro j hj
      refine ⟨L[j], Array.getElem?_eq_getElem hj, ?_⟩
      have hm : L[j] ∈ (es.filter fun e => !seen.contains e.born) := by rw [hL]; exact Array.getElem_mem hj
      generalize L[j] = e at hm
      rw [Array.mem_filter] at hm
      obtain ⟨i, hi1, hi2⟩ := Array.mem_iff_getElem.1 hm.1
      have hei : es[i]? = some e := by rw [Array.getElem?_eq_getElem hi1, hi2]
      have hei' : es.toList[i]? = some e := by simpa using hei
      have hil : i < m.length := by omega
      obtain ⟨e', he', hk, hv⟩ := hE.get (i := i) (x := m[i]) (List.getElem?_eq_getElem hil)
      have : e' = e := by rw [hei'] at he'; simpa using he'.symm
      subst this
      have hki : (m.map (·.1))[i]? = some m[i].1 := by rw [List.getElem?_map, List.getElem?_eq_getElem hil]; rfl
      have hns : m[i].1 ∉ V := by
        have h2 := hm.2
        rw [(hS i _ _ hei' hki).1] at h2
        simpa using h2
      rw [hk, hv]
      refine hstep m[i] _ (List.getElem_mem hil) hns ⟨u, es, clock, _, by rw [upd_ne hne.symm]; exact hr, upd_same, hE, hB, ?_, ?_⟩
      · intro b hb
        rcases Array.mem_push.1 hb with q | q
        · exact hL0 b q
        · subst q; exact hB.2 e' (List.mem_of_getElem? hei')
      · intro i' e2 k2 h1 h2
        have hcon : (seen.push e'.born).contains e2.born = (seen.contains e2.born || decide (e2.born = e'.born)) := by
          rw [Bool.eq_iff_iff, Array.contains_iff_mem, Array.mem_push, Bool.or_eq_true, Array.contains_iff_mem, decide_eq_true_eq]
        have hsame : e2.born = e'.born ↔ k2 = m[i].1 := by
          constructor
          · intro q
            have := born_inj hB (by simpa using h1) hei q
            subst this
            rw [hki] at h2; simpa using h2.symm
          · intro q
            subst q
            have hnd : (m.map (·.1)).Nodup := u
            have hi3 : i' = i := (List.getElem?_inj (List.getElem?_eq_some_iff.1 h2).1 hnd).1 (by rw [h2, hki])
            subst hi3
            rw [hei'] at h1; simp at h1; rw [h1]
        refine ⟨?_, fun q => ?_⟩
        · rw [hcon, (hS i' e2 k2 h1 h2).1, Bool.eq_iff_iff]
          simp only [Bool.or_eq_true, decide_eq_true_eq, List.mem_append, List.mem_singleton, hsame]
        · simp at q
          rw [Array.back?_push, hsame.2 q.symm]
    simp only [hne', Bool.false_eq_true, if_false, Array.empty_append, Array.size_map]
    show arun P (.choose (.mapNext L.size) _) h K
    unfold arun
    have fin : ∀ j, j < L.size → arun P (match (L.map some)[j]? with
        | some (some e) => (do setObj it (.mapIter (some r) clock (seen.push e.born) clock); pure (.tuple #[.bool true, e.key, e.val]))
        | some none => pure (.tuple #[.bool false])
        | none => stuck "Next: no such candidate") h K := by
      intro j hj
      obtain ⟨e, he, hk⟩ := step j hj
      rw [Array.getElem?_map, he, Option.map_some]
      exact ⟨⟨_, hi, rfl⟩, hk⟩
    by_cases hf : L.size ≤ 1
    · simp only [Question.forced, hf, decide_true, if_true]
      exact fin 0 (by omega)
    · simp only [Question.forced, hf, decide_false, Bool.false_eq_true, if_false]
      intro t
      exact fin _ (Nat.mod_lt _ (by omega))

theorem arun_entryS {it r : Nat} {m : List (α × β)} {V : List α} {x : α × β} {K : Value → Hp → Prop} (I : IterS h it r kenc venc m (V ++ [x.1])) (hx : x ∈ m) (hK : K (.tuple #[kenc x.1, venc x.2]) h) :
    arun P (Instr.entry (.pointer (some ⟨it, 0, none⟩))) h K := by
  obtain ⟨u, es, clock, seen, hr, hi, hE, hB, hL0, hS⟩ := I
  obtain ⟨i, hil, hxi⟩ := List.mem_iff_getElem.1 hx
  have hxi' : m[i]? = some x := by rw [List.getElem?_eq_getElem hil, hxi]
  obtain ⟨e, he, hk, hv⟩ := hE.get hxi'
  have hei : es[i]? = some e := by simpa using he
  have hki : (m.map (·.1))[i]? = some x.1 := by rw [List.getElem?_map, hxi']; rfl
  have hback := (hS i e x.1 he hki).2 (by simp)
  have hgi : rrun P (getObj it) h = some (.mapIter (some r) clock seen clock) := by unfold getObj; simp only [rrun, hi, isRow]
  have hf : es.find? (·.born == e.born) = some e := by
    cases hq : es.find? (·.born == e.born) with
    | none =>
      rw [Array.find?_eq_none] at hq
      have := hq e (Array.mem_of_getElem? hei)
      simp at this
    | some e' =>
      have hb := Array.find?_some hq
      have hm := Array.mem_of_find?_eq_some hq
      obtain ⟨j, hj1, hj2⟩ := Array.mem_iff_getElem.1 hm
      have hej : es[j]? = some e' := by rw [Array.getElem?_eq_getElem hj1, hj2]
      have := born_inj hB hej hei (by simpa using hb)
      subst this
      rw [hej] at hei; exact hei
  unfold Instr.entry
  simp only []
  rw [arun_bnd_rr hgi]
  simp only []
  rw [hback]
  simp only []
  rw [arun_bnd_rr (a := .map es clock) (rr_getObj hr)]
  simp only [bne_self_eq_false, Bool.false_eq_true, if_false, hf]
  rw [← hk, ← hv] at hK
  exact hK

theorem delM_erase {a : α} {v : β} : ∀ {m : List (α × β)} {i j : Nat}, findM a m i = some (i + j, v) → delM a m = m.eraseIdx j
  | [], _, _, h => by cases h
  | x :: xs, i, j, h => by
    simp only [findM] at h
    split at h
    · rename_i e
      have : j = 0 := by simp only [Option.some.injEq, Prod.mk.injEq] at h; omega
      subst this
      simp only [delM, if_pos e, List.eraseIdx_zero, List.tail_cons]
    · rename_i hne
      have := (findM_some h).1
      obtain ⟨j', rfl⟩ : ∃ j', j = j' + 1 := ⟨j - 1, by omega⟩
      simp only [delM, if_neg hne, List.eraseIdx_cons_succ]
      rw [delM_erase (i := i + 1) (j := j') (by rw [h]; congr 2; omega)]

theorem SeenOk.erase {es : List MapEntry} {ks : List α} {seen : Array Nat} {V : List α} {j : Nat} (S : SeenOk es ks seen V) : SeenOk (es.eraseIdx j) (ks.eraseIdx j) seen V := by
  intro i e k h1 h2
  rw [List.getElem?_eraseIdx] at h1 h2
  by_cases hij : i < j
  · rw [if_pos hij] at h1 h2; exact S i e k h1 h2
  · rw [if_neg hij] at h1 h2; exact S (i + 1) e k h1 h2

theorem SeenOk.modify {es : List MapEntry} {ks : List α} {seen : Array Nat} {V : List α} {j : Nat} {f : MapEntry → MapEntry} (hf : ∀ e, (f e).born = e.born) (S : SeenOk es ks seen V) : SeenOk (es.modify j f) ks seen V := by
  intro i e k h1 h2
  rw [List.getElem?_modify] at h1
  cases he : es[i]? with
  | none => rw [he] at h1; cases h1
  | some e0 =>
    rw [he] at h1
    have hb : e.born = e0.born := by
      simp at h1; subst h1; split
      · exact hf _
      · rfl
    rw [hb]; exact S i e0 k he h2

theorem arun_mapDeleteS {t kt et R : TypeId} {ts : Array TypeId} {it r : Nat} {a : α} {m : List (α × β)} {V : List α} {K : Value → Hp → Prop} (ht : ts[0]? = some t) (hu : P.underlying t = some (.map kt et)) (I : IterS h it r kenc venc m V)
    (hck : ∀ e, rrun P (Instr.checkKey e 10000 kt (kenc a)) h = some ())
    (hfk : ∀ es : List MapEntry, Ents kenc venc es m → rrun P (Instr.findKey kt (kenc a) es) h = some ((findM a m 0).map fun x => (x.1, venc x.2)))
    (hK : ∀ o, IterS (h.upd r o) it r kenc venc (delM a m) V → K (.tuple #[]) (h.upd r o)) :
    arun P (Builtin.delete_ ts R #[.map (some r), kenc a]) h K := by
  have hne := I.ne
  obtain ⟨u, es, clock, seen, hr, hi, hE, hB, hL0, hS⟩ := I
  have set : ∀ o, K (.tuple #[]) (h.upd r o) → arun P (setObj r o >>= fun _ => pure (Value.tuple #[])) h K := fun o hk => ⟨⟨_, hr, rfl⟩, hk⟩
  have kk : ∀ es' : Array MapEntry, Ents kenc venc es'.toList (delM a m) → BornOk es'.toList clock → SeenOk es'.toList ((delM a m).map (·.1)) seen V → K (.tuple #[]) (h.upd r (.map es' clock)) := fun es' q1 q2 q3 =>
    hK _ ⟨u.del, es', clock, seen, upd_same, by rw [upd_ne hne]; exact hi, q1, q2, hL0, q3⟩
  unfold Builtin.delete_
  rw [ht]
  simp only [List.getElem?_toArray, List.getElem?_cons_zero, List.getElem?_cons_succ]
  rw [arun_bnd_rr (a := .map kt et) (by rw [rr_underlying, hu])]
  simp only [bind_assoc, pure_bind]
  rw [arun_bnd_rr (a := .map es clock) (rr_getObj hr)]
  simp only []
  rw [arun_bnd_rr (a := ()) (hck _), arun_bnd_rr (hfk _ hE)]
  cases hf : findM a m 0 with
  | none =>
    simp only [Option.map_none]
    have hd : delM a m = m := delM_none (by unfold getM; rw [hf]; rfl)
    exact set _ (kk _ (by rw [hd]; exact hE) hB (by rw [hd]; exact hS))
  | some x =>
    obtain ⟨j, v⟩ := x
    simp only [Option.map_some]
    refine set _ (kk _ ?_ ?_ ?_)
    · rw [Array.toList_eraseIdxIfInBounds]; exact hE.erase hf
    · rw [Array.toList_eraseIdxIfInBounds]; exact hB.sub (List.eraseIdx_sublist _ _)
    · rw [Array.toList_eraseIdxIfInBounds, delM_erase (i := 0) (j := j) (v := v) (by simpa using hf)]
      have : (m.eraseIdx j).map (·.1) = (m.map (·.1)).eraseIdx j := by
        refine List.ext_getElem? fun i => ?_
        rw [List.getElem?_map, List.getElem?_eraseIdx, List.getElem?_eraseIdx, List.getElem?_map, List.getElem?_map]
        split <;> rfl
      rw [this]
      exact hS.erase

/-- A value set anew, of a key that is there. -/
theorem arun_mapUpdateS {t kt et : TypeId} {it r : Nat} {a : α} {v : β} {m : List (α × β)} {V : List α} {K : Unit → Hp → Prop} (hu : P.underlying t = some (.map kt et)) (I : IterS h it r kenc venc m V) (hin : (getM m a).isSome = true)
    (hck : ∀ e, rrun P (Instr.checkKey e 10000 kt (kenc a)) h = some ())
    (hfk : ∀ es : List MapEntry, Ents kenc venc es m → rrun P (Instr.findKey kt (kenc a) es) h = some ((findM a m 0).map fun x => (x.1, venc x.2)))
    (hsb : Instr.sameBits 10000 (kenc a) (kenc a) = true)
    (hK : ∀ o, IterS (h.upd r o) it r kenc venc (setM a v m) V → K () (h.upd r o)) :
    arun P (Instr.mapUpdate t (.map (some r)) (kenc a) (venc v)) h K := by
  have hne := I.ne
  obtain ⟨u, es, clock, seen, hr, hi, hE, hB, hL0, hS⟩ := I
  have set : ∀ o, K () (h.upd r o) → arun P (setObj r o) h K := fun o hk => ⟨⟨_, hr, rfl⟩, hk⟩
  unfold Instr.mapUpdate
  rw [arun_bnd_rr (a := .map kt et) (by rw [rr_underlying, hu])]
  simp only [bind_assoc, pure_bind]
  rw [arun_bnd_rr (a := .map es clock) (rr_getObj hr)]
  simp only []
  rw [arun_bnd_rr (a := ()) (hck _), arun_bnd_rr (hfk _ hE)]
  cases hf : findM a m 0 with
  | none => unfold getM at hin; rw [hf] at hin; cases hin
  | some x =>
    obtain ⟨j, v0⟩ := x
    simp only [Option.map_some]
    obtain ⟨e, he, hke, _⟩ := hE.get (i := j) (x := (a, v0)) (by have := (findM_some hf).2; simpa using this)
    have hes : es[j]? = some e := by simpa using he
    have hks : rrun P (Instr.keyThatStays (((es[j]?).map (·.key)).getD (kenc a)) (kenc a)) h = some (kenc a) := by
      rw [hes]
      unfold Instr.keyThatStays
      simp only [Option.map_some, Option.getD_some, hke, hsb, if_true]
      rfl
    rw [arun_bnd_rr hks]
    refine set _ (hK _ ⟨u.set, _, clock, seen, upd_same, by rw [upd_ne hne]; exact hi, ?_, ?_, hL0, ?_⟩)
    · rw [Array.toList_modify]; exact hE.modify hf
    · rw [Array.toList_modify]; exact hB.modify (fun _ => rfl)
    · rw [Array.toList_modify]
      have hk : (setM a v m).map (·.1) = m.map (·.1) := by
        rw [setM_keys, if_pos]
        unfold getM at hin
        cases hg : getM m a with
        | none => unfold getM at hg; rw [hf] at hg; cases hg
        | some v => exact List.mem_map_of_mem (getM_mem hg)
      rw [hk]
      exact hS.modify (fun _ => rfl)
end
end Go.Proofs.Ytpfenhikoajghaa

/- The frame of a call: what it need not know stays. -/
namespace Go.Proofs.Ytpfenhikoajghaa
open Go

/-- A heap laid over what the smaller one did not know. -/
def Hp.over (h' h g : Hp) : Hp := fun b => match h b, g b with
  | none, some o => some o
  | _, _ => h' b

theorem over_view {h h' g : Hp} {w w' : World} (l : Le h g) (Vg : View g w) (V' : View h' w') (K : Keep h w h' w') : View (h'.over h g) w' ∧ Keep g w (h'.over h g) w' := by
  constructor
  · intro b o e
    unfold Hp.over at e
    split at e
    · rename_i o2 h1 h2
      cases e
      rw [K.old b (Vg.lt h2) h1]; exact Vg b o h2
    · exact V' b o e
  · refine ⟨K.os, K.tape, K.output, K.size, fun b hb hn => ?_, fun b hb hn => ?_, K.drawn⟩
    · refine K.old b hb ?_
      cases hh : h b with
      | none => rfl
      | some o => rw [l b o hh] at hn; cases hn
    · have h0 : h b = none := by
        cases hh : h b with
        | none => rfl
        | some o => rw [l b o hh] at hn; cases hn
      unfold Hp.over
      simp only [h0, hn]
      exact K.dom b hb h0

theorem Ok.frame {P : Program} {f : FuncId} {args : Array Value} {h g : Hp} {Q : Value → Hp → Prop} (a : Ok P f args h Q) (l : Le h g) : Ok P f args g fun v g' => ∃ h', Q v h' ∧ g' = h'.over h g ∧ ∀ b o, g b = some o → h b = none → h' b = none :=
  ⟨a.1, fun w V => (a.2 w (fun b o e => V b o (l b o e))).mono fun _ w' ⟨v, h', e, V', K, q⟩ => by
    obtain ⟨V2, K2⟩ := over_view l V V' K
    exact ⟨v, _, e, V2, K2, h', q, rfl, fun b o hg hn => K.dom b (V.lt hg) hn⟩⟩

theorem YOk.frame {P : Program} {y : Nat} {args : Array Value} {h g : Hp} {Q : Value → Hp → Prop} (a : YOk P y args h Q) (l : Le h g) : YOk P y args g fun v g' => ∃ h', Q v h' ∧ g' = h'.over h g ∧ ∀ b o, g b = some o → h b = none → h' b = none := fun w V => by
  obtain ⟨f, tmps, asg, bd, e, r⟩ := a w (fun b o e => V b o (l b o e))
  refine ⟨f, tmps, asg, bd, e, r.mono fun _ w' ⟨v, h', e, V', K, q⟩ => ?_⟩
  obtain ⟨V2, K2⟩ := over_view l V V' K
  exact ⟨v, _, e, V2, K2, h', q, rfl, fun b o hg hn => K.dom b (V.lt hg) hn⟩

theorem over_out {h' h g : Hp} {b : Nat} (hb : h b = none) {o : Obj} (hg : g b = some o) : (h'.over h g) b = some o := by unfold Hp.over; simp only [hb, hg]
theorem over_in {h' h g : Hp} {b : Nat} {o : Obj} (hb : h b = some o) : (h'.over h g) b = h' b := by unfold Hp.over; simp only [hb]
theorem over_new {h' h g : Hp} {b : Nat} (hg : g b = none) : (h'.over h g) b = h' b := by unfold Hp.over; simp only [hg]; split <;> simp_all

theorem rem_same {h : Hp} {l : Nat} : (h.rem l) l = none := by unfold Hp.rem; simp
theorem rem_ne {h : Hp} {l b : Nat} (n : b ≠ l) : (h.rem l) b = h b := by unfold Hp.rem; rw [if_neg n]
theorem rem_upd {h : Hp} {l : Nat} {o : Obj} (hl : h l = none) : (h.upd l o).rem l = h := by
  funext b
  by_cases e : b = l
  · subst e; rw [rem_same, hl]
  · rw [rem_ne e, upd_ne e]
theorem upd_rem {h : Hp} {l : Nat} {o : Obj} : (h.rem l).upd l o = h.upd l o := by
  funext b
  by_cases e : b = l
  · subst e; rw [upd_same, upd_same]
  · rw [upd_ne e, upd_ne e, rem_ne e]
theorem rem_le {h : Hp} {l : Nat} : Le (h.rem l) h := fun b o e => by unfold Hp.rem at e; split at e <;> first | cases e | exact e
end Go.Proofs.Ytpfenhikoajghaa

/- maps.Keys and slices.Collect at a map's keys, whatever order is drawn (printed by wip/lib/keys.py). -/
namespace Go.Proofs.Ytpfenhikoajghaa
open Go
set_option linter.unusedSimpArgs false
set_option linter.unusedVariables false

abbrev kencP (x : (Nat × Int)) : List Value := [.int .u32 (x.1 : Nat), .int .i64 x.2]
abbrev kvalP (x : (Nat × Int)) : Value := (.agg #[.int .u32 (x.1 : Nat), .int .i64 x.2])

section
variable {β : Type} {venc : β → Value}

def K1InvP (h : Hp) (l Bm it r : Nat) (m : List ((Nat × Int) × β)) (venc : β → Value) (I : List (Nat × Int) → Hp → Prop) (n : Nat) (env : Env) (G : Hp) : Prop :=
  ∃ V hI, V.length + n = m.length ∧ V.Nodup ∧ (∀ k ∈ V, k ∈ m.map (·.1)) ∧ I V hI ∧ Le hI G ∧ IterS G it r kvalP venc m V ∧ hI it = none ∧
    env 0 = .func (.yield l) #[] #[] ∧ env 1 = .pointer (some ⟨Bm, 0, none⟩) ∧ env 5 = .pointer (some ⟨it, 0, none⟩)

theorem nodup_le {α : Type} [DecidableEq α] {V K : List α} (n : V.Nodup) (s : ∀ k ∈ V, k ∈ K) : V.length ≤ K.length := List.Nodup.length_le_of_subset n s

set_option maxRecDepth 20000 in
/-- func(yield) { for k := range m { if !yield(k) { return } } }: whatever the rounds keep between them, if they go on. -/
theorem keys1P {h : Hp} {l Bm r : Nat} {Q : Value → Hp → Prop} {m : List ((Nat × Int) × β)} {E : TypeId} {fr : Nat × Nat} (hB : h Bm = some (.cells #[.map (some r)] E fr)) (MB : MapB h r kvalP venc m) (u : Uniq m)
    (I : List (Nat × Int) → Hp → Prop) (I0 : I [] h) (hI : ∀ V g, I V g → g r = h r)
    (step : ∀ V x g k, I V g → x ∈ m → x.1 ∉ V → V.length < m.length → (∀ g', I (V ++ [x.1]) g' → k (.bool true) g') → YOk Try.prog l #[kvalP x.1] g k)
    (hQ : ∀ ks v g, I ks g → ks.Perm (m.map (·.1)) → Q v g) : Ok Try.prog F_maps_Keys_map_api_Prefix_rip_route_api_Prefix_rip_route_1 #[.func (.yield l) #[] #[], .pointer (some ⟨Bm, 0, none⟩)] h Q := by
  refine maps_Keys_map_api_Prefix_rip_route_api_Prefix_rip_route_1_ok (by simp) ?_
  unfold maps_Keys_map_api_Prefix_rip_route_api_Prefix_rip_route_1_D
  simp (disch := omega) [maps_Keys_map_api_Prefix_rip_route_api_Prefix_rip_route_1_r0, hB]
  refine arun_rangeS Try.underlying65 MB u (fun it o hit IS => ?_)
  simp (disch := omega)
  refine ⟨K1InvP h l Bm it r m venc I, ⟨m.length, [], h, by simp, .nil, by simp, I0, .new hit, IS, hit, by simp, by simp, by simp⟩, ?_⟩
  rintro n env G ⟨V, g, hn, nd, sub, IV, lg, IS, git, e0, e1, e5⟩
  unfold maps_Keys_map_api_Prefix_rip_route_api_Prefix_rip_route_1_L0
  simp (disch := omega) [maps_Keys_map_api_Prefix_rip_route_api_Prefix_rip_route_1_r1, e5]
  refine arun_nextS IS (fun hend => ?_) (fun x o hx hxV IS2 => ?_)
  · simp (disch := omega)
    have hp : V.Perm (m.map (·.1)) := (List.perm_ext_iff_of_nodup nd u).2 (fun k => ⟨sub k, fun hk => by obtain ⟨y, hy, rfl⟩ := List.mem_map.1 hk; exact hend y hy⟩)
    exact .to g lg (hQ V _ g IV hp)
  · simp (disch := omega) [maps_Keys_map_api_Prefix_rip_route_api_Prefix_rip_route_1_r2, e5]
    refine arun_entryS IS2 hx ?_
    simp (disch := omega)
    intro b3 hb3
    have L2 : Le g (G.upd it o) := lg.put git
    have L3 : Le (G.upd it o) ((G.upd it o).upd b3 (.cells (kencP x.1).toArray 24)) := .new hb3
    have f3 : ((G.upd it o).upd b3 (.cells (kencP x.1).toArray 24)) b3 = some (.cells (kencP x.1).toArray 24) := upd_same
    have IS3 := IS2.le L3
    have hit3 : ((G.upd it o).upd b3 (.cells (kencP x.1).toArray 24)) it = some o := L3 _ _ upd_same
    have L4 := L2.trans L3
    simp (disch := omega)
    show maps_Keys_map_api_Prefix_rip_route_api_Prefix_rip_route_1_r3 _ ((G.upd it o).upd b3 (.cells (kencP x.1).toArray 24)) _
    generalize (G.upd it o).upd b3 (.cells (kencP x.1).toArray 24) = G4 at *
    clear L3
    have hVl : V.length < m.length := by
      have hnd2 : (V ++ [x.1]).Nodup := List.nodup_append.2 ⟨nd, by simp, fun y hy z hz => by simp at hz; subst hz; rintro rfl; exact hxV hy⟩
      have := nodup_le hnd2 (K := m.map (·.1)) (fun k hk => by
        rcases List.mem_append.1 hk with q | q
        · exact sub k q
        · simp at q; subst q; exact List.mem_map_of_mem hx)
      simp at this; omega
    simp (disch := omega) [maps_Keys_map_api_Prefix_rip_route_api_Prefix_rip_route_1_r3, e0, f3]
    refine ((step V x g (fun v g' => v = .bool true ∧ I (V ++ [x.1]) g') IV hx hxV hVl (fun g' h' => ⟨rfl, h'⟩)).frame L4).mono ?_
    rintro v G5 ⟨g5, ⟨rfl, I5⟩, rfl, dom⟩
    simp (disch := omega)
    have le5 : Le g5 (g5.over g G4) := fun b o' e => by
      cases hg : g b with
      | some o2 => rw [over_in hg]; exact e
      | none =>
        cases h4 : G4 b with
        | none => rw [over_new h4]; exact e
        | some o3 => rw [dom b o3 h4 hg] at e; cases e
    have e_it : (g5.over g G4) it = G4 it := (over_out git hit3).trans hit3.symm
    obtain ⟨mo, hmo⟩ := MB.alive
    have hgr : g r = some mo := (hI _ _ IV).trans hmo
    have e_r : (g5.over g G4) r = G4 r := by rw [over_in hgr, hI _ _ I5, hmo, L4 _ _ hgr]
    refine ⟨n - 1, by omega, V ++ [x.1], g5, by simp; omega, List.nodup_append.2 ⟨nd, by simp, fun y hy z hz => by simp at hz; subst hz; rintro rfl; exact hxV hy⟩, fun k hk => ?_, I5, le5, IS3.keep e_r e_it, dom it o hit3 git, by simp [e0], by simp [e1], by simp [e5]⟩
    rcases List.mem_append.1 hk with q | q
    · exact sub k q
    · simp at q; subst q; exact List.mem_map_of_mem hx

def CoIP (h : Hp) (b l : Nat) (rec : Obj) (V : List (Nat × Int)) (g : Hp) : Prop :=
  ∃ v, g b = some (.cells #[v] 74 (0, 0)) ∧ SlAt g 24 2 kencP v V ∧ g l = some rec ∧ Le h g ∧ (∀ x, blkOf v = some x → h x = none ∧ x ≠ b ∧ x ≠ l)

set_option maxRecDepth 20000 in
theorem collectP {h : Hp} {Bm r : Nat} {Q : Value → Hp → Prop} {m : List ((Nat × Int) × β)} {E : TypeId} {fr : Nat × Nat} (hB : h Bm = some (.cells #[.map (some r)] E fr)) (MB : MapB h r kvalP venc m) (u : Uniq m) (hl : m.length ≤ 1000000)
    (hQ : ∀ v ks h', Le h h' → SlAt h' 24 2 kencP v ks → ks.Perm (m.map (·.1)) → (∀ b, blkOf v = some b → h b = none) → Q v h') :
    Ok Try.prog F_slices_Collect_api_Prefix #[.func (.func F_maps_Keys_map_api_Prefix_rip_route_api_Prefix_rip_route_1) #[] #[.pointer (some ⟨Bm, 0, none⟩)]] h Q := by
  refine slices_Collect_api_Prefix_ok (by simp) ?_
  unfold slices_Collect_api_Prefix_D
  simp (disch := omega) [slices_Collect_api_Prefix_r0, slices_Collect_api_Prefix_r1]
  have end_ : ∀ v ks h', Le h h' → SlAt h' 24 2 kencP v ks → ks.Perm (m.map (·.1)) → (∀ b, blkOf v = some b → h b = none) → drp Q v h' := fun v ks h' a b c d => .to _ (.refl _) (hQ v ks h' a b c d)
  refine Ok.mono (Q := fun v h' => drp Q v h') ?_ (fun v h' q => by simp (disch := omega); exact q)
  refine slices_AppendSeq_api_Prefix_api_Prefix_ok (by simp) ?_
  unfold slices_AppendSeq_api_Prefix_api_Prefix_D
  simp (disch := omega) [slices_AppendSeq_api_Prefix_api_Prefix_r0]
  intro b hb
  simp (disch := omega) [slices_AppendSeq_api_Prefix_api_Prefix_r1]
  refine ⟨F_maps_Keys_map_api_Prefix_rip_route_api_Prefix_rip_route_1, #[], #[.pointer (some ⟨Bm, 0, none⟩)], by simp, fun l fn D hl2 hu => ?_⟩
  obtain ⟨nlb, hlh⟩ := upd_none hl2
  have L1 : Le h (h.upd b (.cells #[.slice none 0 0] 74)) := .new hb
  simp (disch := omega)
  have key : ∀ (env : Env), env 2 = .pointer (some ⟨b, 0, none⟩) → (∀ t, 13 ≤ t → env t = undef) →
      Ok Try.prog F_maps_Keys_map_api_Prefix_rip_route_api_Prefix_rip_route_1 #[.func (.yield l) #[] #[], .pointer (some ⟨Bm, 0, none⟩)] ((h.upd b (.cells #[.slice none 0 0] 74)).upd l (recOf 13 env #[7] slices_AppendSeq_api_Prefix_api_Prefix_F0_a slices_AppendSeq_api_Prefix_api_Prefix_F0_b .ready none fn D)) (fun _ h2 => ∃ v ks, h2 l = some (recOf 13 env #[7] slices_AppendSeq_api_Prefix_api_Prefix_F0_a slices_AppendSeq_api_Prefix_api_Prefix_F0_b .ready none fn D) ∧ Le h h2 ∧ h2 b = some (.cells #[v] 74 (0, 0)) ∧ SlAt h2 24 2 kencP v ks ∧ ks.Perm (m.map (·.1)) ∧ (∀ x, blkOf v = some x → h x = none ∧ x ≠ b ∧ x ≠ l)) := by
    intro env e2 hu
    generalize hR : recOf 13 env #[7] slices_AppendSeq_api_Prefix_api_Prefix_F0_a slices_AppendSeq_api_Prefix_api_Prefix_F0_b .ready none fn D = oR
    have L2 : Le h ((h.upd b (.cells #[.slice none 0 0] 74)).upd l oR) := L1.trans (.new hl2)
    have hb2 : ((h.upd b (.cells #[.slice none 0 0] 74)).upd l oR) b = some (.cells #[.slice none 0 0] 74 (0, 0)) := by rw [upd_ne (Ne.symm nlb), upd_same]
    have hl3 : ((h.upd b (.cells #[.slice none 0 0] 74)).upd l oR) l = some oR := upd_same
    generalize (h.upd b (.cells #[.slice none 0 0] 74)).upd l oR = h1 at *
    refine keys1P (L2 _ _ hB) (MB.le L2) u (CoIP h b l oR) ⟨_, hb2, .inl ⟨rfl, rfl⟩, hl3, L2, by simp [blkOf]⟩ ?_ ?_ ?_
    · rintro V g ⟨v, q1, q2, q3, q4, q5⟩
      obtain ⟨mo, hmo⟩ := MB.alive
      rw [q4 _ _ hmo, L2 _ _ hmo]
    · rintro V x g k ⟨v, q1, q2, q3, q4, q5⟩ hx hxV hVl hk
      subst hR
      refine slices_AppendSeq_api_Prefix_api_Prefix_F0_yok q3 hu ?_
      generalize hR : recOf 13 env #[7] slices_AppendSeq_api_Prefix_api_Prefix_F0_a slices_AppendSeq_api_Prefix_api_Prefix_F0_b .ready none fn D = oR at *
      generalize hB2 : recOf 13 env #[7] slices_AppendSeq_api_Prefix_api_Prefix_F0_a slices_AppendSeq_api_Prefix_api_Prefix_F0_b .busy none fn D = oB
      unfold rnd
      unfold slices_AppendSeq_api_Prefix_api_Prefix_F0_A
      simp (disch := omega) [slices_AppendSeq_api_Prefix_api_Prefix_r2]
      intro b5 hb5
      have nb5 : b5 ≠ l := by rintro rfl; rw [q3] at hb5; cases hb5
      have nbb5 : b5 ≠ b := by rintro rfl; rw [q1] at hb5; cases hb5
      simp (disch := omega)
      have La : ∀ y o, y ≠ l → g y = some o → ((g.upd b5 (.cells (kencP x.1).toArray 24)).upd l oB) y = some o := fun y o n e => by rw [upd_ne n, upd_ne (by rintro rfl; rw [hb5] at e; cases e)]; exact e
      have f5 : ((g.upd b5 (.cells (kencP x.1).toArray 24)).upd l oB) b5 = some (.cells (kencP x.1).toArray 24) := by rw [upd_ne nb5, upd_same]
      have fl : ((g.upd b5 (.cells (kencP x.1).toArray 24)).upd l oB) l = some oB := upd_same
      have nbl : b ≠ l := Ne.symm nlb
      have fb := La b _ nbl q1
      have S1 : SlAt ((g.upd b5 (.cells (kencP x.1).toArray 24)).upd l oB) 24 2 kencP v V := q2.keep (fun y o e e2 => La _ _ (q5 y e).2.2 e2)
      have Lh : Le h ((g.upd b5 (.cells (kencP x.1).toArray 24)).upd l oB) := fun y o e => La y o (by rintro rfl; rw [hlh] at e; cases e) (q4 _ _ e)
      refine ⟨by rw [if_neg nb5.symm]; exact q3, ?_⟩
      show slices_AppendSeq_api_Prefix_api_Prefix_F0_B _ _ ((g.upd b5 (.cells (kencP x.1).toArray 24)).upd l oB)
      generalize (g.upd b5 (.cells (kencP x.1).toArray 24)).upd l oB = g1 at *
      unfold slices_AppendSeq_api_Prefix_api_Prefix_F0_B
      simp (disch := omega) [slices_AppendSeq_api_Prefix_api_Prefix_r3, e2, fb, f5]
      refine snoc_api_Prefix S1 (y := x.1) rfl (by simp) (by omega) (fun b9 v' g' S' G hb9 => ?_)
      have ke : ∀ y o, g1 y = some o → blkOf v ≠ some y → g' y = some o := fun y o e n => G.keep y o e (fun q => n q.symm)
      have nvb : blkOf v ≠ some b := fun e => (q5 b e).2.1 rfl
      have nvl : blkOf v ≠ some l := fun e => (q5 l e).2.2 rfl
      have gb := ke b _ fb nvb
      have gl := ke l _ fl nvl
      obtain ⟨sp, sc, hv'⟩ := S'.shape'
      rw [List.length_append, List.length_singleton] at hv'
      simp (disch := omega) [gb, hv', e2]
      rw [← hv']
      have nv' : ∀ y, blkOf v' = some y → h y = none ∧ y ≠ b ∧ y ≠ l := fun y e => by
        rcases G.fresh with q | q
        · exact q5 y (by rw [← q]; exact e)
        · have := q y e
          exact ⟨none_of_le Lh this, (by rintro rfl; rw [fb] at this; cases this), (by rintro rfl; rw [fl] at this; cases this)⟩
      unfold rndK
      simp only [hR, hB2]
      refine ⟨by rw [upd_ne nbl.symm, gl], ?_⟩
      refine hk _ ⟨v', by rw [upd_ne nbl, upd_same], S'.keep (fun y o e e2 => by rw [upd_ne (nv' y e).2.2, upd_ne (nv' y e).2.1]; exact e2), upd_same, fun y o e => ?_, nv'⟩
      rw [upd_ne (by rintro rfl; rw [hlh] at e; cases e), upd_ne (by rintro rfl; rw [hb] at e; cases e)]
      exact ke y o (Lh _ _ e) (fun q => by rw [(q5 y q).1] at e; cases e)
    · rintro ks v g ⟨w, q1, q2, q3, q4, q5⟩ hp
      exact ⟨w, ks, q3, q4, q1, q2, hp, q5⟩
  refine (key _ ?_ ?_).mono ?_
  · simp
  · intro t ht; exact hu t ht
  · rintro _ h2 ⟨v, ks, hr, l2, hb2, S2, hp, nv⟩
    refine .inl ⟨hr, ?_⟩
    have hbr : (h2.rem l) b = some (.cells #[v] 74 (0, 0)) := by rw [rem_ne (Ne.symm nlb)]; exact hb2
    have S3 : SlAt (h2.rem l) 24 2 kencP v ks := S2.keep (fun y o e e2 => by rw [rem_ne (nv y e).2.2]; exact e2)
    have L3 : Le h (h2.rem l) := fun y o e => by rw [rem_ne (by rintro rfl; rw [hlh] at e; cases e)]; exact l2 _ _ e
    simp (disch := omega) [slices_AppendSeq_api_Prefix_api_Prefix_r4, hbr]
    exact .to _ (.refl _) (end_ v ks _ L3 S3 hp (fun y e => (nv y e).1))
end
end Go.Proofs.Ytpfenhikoajghaa

/- Numbers of prefixes. -/
namespace Go.Proofs.Ytpfenhikoajghaa
open Go
set_option linter.unusedSimpArgs false

/-! ### Bits -/
def msk (n : Nat) : Nat := 2 ^ 32 - 2 ^ (32 - n)

def maskI (n : Int) : Int := IntKind.u32.wrap (4294967295 * 2 ^ (32 - max 0 (min n 32)).toNat)

theorem maskI_nat {n : Nat} (h : n ≤ 32) : maskI (n : Int) = (msk n : Nat) := by
  have : ∀ k : Fin 33, maskI ((k.1 : Nat) : Int) = (msk k.1 : Nat) := by decide
  exact this ⟨n, by omega⟩

theorem bits_and_u32 {a b : Nat} (ha : a < 2 ^ 32) (hb : b < 2 ^ 32) : bits_and .u32 (a : Int) (b : Int) = ((a &&& b : Nat) : Int) := by
  have h : (BitVec.ofInt 32 (a : Int) &&& BitVec.ofInt 32 (b : Int)).toNat = a &&& b := by
    simp [BitVec.ofInt_natCast, BitVec.toNat_and, Nat.mod_eq_of_lt ha, Nat.mod_eq_of_lt hb]
  show IntKind.u32.wrap ((BitVec.ofInt 32 (a : Int) &&& BitVec.ofInt 32 (b : Int)).toNat : Nat) = _
  rw [h, wrap_u32]
  · omega
  · have := Nat.and_le_left (n := a) (m := b); omega

theorem bits_xor_u32 {a b : Nat} (ha : a < 2 ^ 32) (hb : b < 2 ^ 32) : bits_xor .u32 (a : Int) (b : Int) = ((a ^^^ b : Nat) : Int) := by
  have h : (BitVec.ofInt 32 (a : Int) ^^^ BitVec.ofInt 32 (b : Int)).toNat = a ^^^ b := by
    simp [BitVec.ofInt_natCast, BitVec.toNat_xor, Nat.mod_eq_of_lt ha, Nat.mod_eq_of_lt hb]
  show IntKind.u32.wrap ((BitVec.ofInt 32 (a : Int) ^^^ BitVec.ofInt 32 (b : Int)).toNat : Nat) = _
  rw [h, wrap_u32]
  · omega
  · have := Nat.xor_lt_two_pow ha hb; omega

theorem bits_or_u32 {a b : Nat} (ha : a < 2 ^ 32) (hb : b < 2 ^ 32) : bits_or .u32 (a : Int) (b : Int) = ((a ||| b : Nat) : Int) := by
  have h : (BitVec.ofInt 32 (a : Int) ||| BitVec.ofInt 32 (b : Int)).toNat = a ||| b := by
    simp [BitVec.ofInt_natCast, BitVec.toNat_or, Nat.mod_eq_of_lt ha, Nat.mod_eq_of_lt hb]
  show IntKind.u32.wrap ((BitVec.ofInt 32 (a : Int) ||| BitVec.ofInt 32 (b : Int)).toNat : Nat) = _
  rw [h, wrap_u32]
  · omega
  · have := Nat.or_lt_two_pow ha hb; omega

theorem msk_lt (n : Nat) : msk n < 2 ^ 32 := by
  unfold msk
  have : 0 < 2 ^ (32 - n) := Nat.two_pow_pos _
  omega

theorem and_low (a k : Nat) : a &&& (2 ^ k - 1) = a % 2 ^ k := Nat.and_two_pow_sub_one_eq_mod a k

theorem msk_test {n i : Nat} (h : n ≤ 32) : (msk n).testBit i = (decide (32 - n ≤ i) && decide (i < 32)) := by
  have key : ∀ k : Fin 33, ∀ j : Fin 32, (msk k.1).testBit j.1 = (decide (32 - k.1 ≤ j.1) && decide (j.1 < 32)) := by decide
  rcases Nat.lt_or_ge i 32 with hi | hi
  · exact key ⟨n, by omega⟩ ⟨i, hi⟩
  · have h2 : (msk n).testBit i = false := Nat.testBit_lt_two_pow (Nat.lt_of_lt_of_le (msk_lt n) (Nat.pow_le_pow_right (by omega) hi))
    rw [h2]
    have : decide (i < 32) = false := by simp; omega
    rw [this, Bool.and_false]

theorem and_msk {a n : Nat} (ha : a < 2 ^ 32) (h : n ≤ 32) : a &&& msk n = a / 2 ^ (32 - n) * 2 ^ (32 - n) := by
  apply Nat.eq_of_testBit_eq
  intro i
  rw [Nat.testBit_and, msk_test h, Nat.testBit_mul_two_pow, Nat.testBit_div_two_pow]
  by_cases h1 : 32 - n ≤ i
  · rw [Nat.sub_add_cancel h1]
    by_cases h2 : i < 32
    · simp [h1, h2]
    · have : a.testBit i = false := Nat.testBit_lt_two_pow (Nat.lt_of_lt_of_le ha (Nat.pow_le_pow_right (by omega) (by omega)))
      simp [this]
  · simp [h1]

theorem bits_andNot_msk {a n : Nat} (ha : a < 2 ^ 32) (h : n ≤ 32) : bits_andNot .u32 (a : Int) (msk n : Nat) = ((a % 2 ^ (32 - n) : Nat) : Int) := by
  have e : (BitVec.ofInt 32 (a : Int) &&& ~~~(BitVec.ofInt 32 ((msk n : Nat) : Int))).toNat = a % 2 ^ (32 - n) := by
    have h1 : 2 ^ 32 - 1 - msk n = 2 ^ (32 - n) - 1 := by
      have : ∀ k : Fin 33, 2 ^ 32 - 1 - msk k.1 = 2 ^ (32 - k.1) - 1 := by decide
      exact this ⟨n, by omega⟩
    rw [BitVec.toNat_and, BitVec.toNat_not, BitVec.ofInt_natCast, BitVec.ofInt_natCast, BitVec.toNat_ofNat, BitVec.toNat_ofNat, Nat.mod_eq_of_lt ha, Nat.mod_eq_of_lt (msk_lt n), h1, and_low]
  show IntKind.u32.wrap ((BitVec.ofInt 32 (a : Int) &&& ~~~(BitVec.ofInt 32 ((msk n : Nat) : Int))).toNat : Nat) = _
  rw [e, wrap_u32]
  · omega
  · have := Nat.mod_le a (2 ^ (32 - n)); omega

/-- May, in plain words. -/
def mayB (a : Nat) (n : Int) : Bool := decide (0 ≤ n) && decide (n ≤ 32) && (a % 2 ^ (32 - n.toNat) == 0)

theorem cast_mod (a k : Nat) : ((a % 2 ^ k : Nat) : Int) = (a : Int) % 2 ^ k := by simp

theorem mayB_eq {a m : Nat} (h : m ≤ 32) : mayB a (m : Int) = decide ((a : Int) % 2 ^ (32 - m) = 0) := by
  rw [← cast_mod]
  have h0 : decide ((m : Int) ≤ 32) = true := by simp; omega
  unfold mayB
  rw [h0, Int.toNat_natCast]
  generalize a % 2 ^ (32 - m) = r
  rw [Bool.eq_iff_iff]
  simp

/-- Has, in plain words, of a prefix that may be. -/
def hasB (p : Nat × Nat) (x : Nat) : Bool := x / 2 ^ (32 - p.2) == p.1 / 2 ^ (32 - p.2)

theorem xor_zero {x y : Nat} : x ^^^ y = 0 ↔ x = y := by
  constructor
  · intro h
    apply Nat.eq_of_testBit_eq
    intro i
    have := congrArg (fun z => z.testBit i) h
    simp only [Nat.testBit_xor, Nat.zero_testBit] at this
    cases h1 : x.testBit i <;> cases h2 : y.testBit i <;> simp_all
  · rintro rfl; exact Nat.xor_self _

theorem xor_div (x y k : Nat) : (x ^^^ y) / 2 ^ k = x / 2 ^ k ^^^ y / 2 ^ k := by
  apply Nat.eq_of_testBit_eq
  intro i
  simp only [Nat.testBit_xor, Nat.testBit_div_two_pow]

theorem hasB_eq {a m x : Nat} (ha : a < 2 ^ 32) (hx : x < 2 ^ 32) (h : m ≤ 32) : hasB (a, m) x = decide ((((x ^^^ a) &&& msk m : Nat) : Int) = 0) := by
  rw [and_msk (Nat.xor_lt_two_pow hx ha) h, xor_div]
  unfold hasB
  rw [Bool.eq_iff_iff]
  simp only [beq_iff_eq, decide_eq_true_eq, Int.natCast_eq_zero, Nat.mul_eq_zero, xor_zero]
  have : 2 ^ (32 - m) ≠ 0 := Nat.ne_of_gt (Nat.two_pow_pos _)
  omega

theorem mayB_le {a : Nat} {n : Int} (h : mayB a n = true) : 0 ≤ n ∧ n ≤ 32 := by
  simp [mayB] at h; omega

theorem fdiv_pow (a k : Nat) : ((a : Nat) : Int).fdiv (2 ^ k) = ((a / 2 ^ k : Nat) : Int) := by
  rw [Int.fdiv_eq_ediv_of_nonneg _ (Int.le_of_lt (Int.pow_pos (by omega)))]
  simp

theorem cast_eq (q a : Nat) : decide (q = a) = decide ((q : Int) = (a : Int)) := by
  rw [Bool.eq_iff_iff]; simp only [decide_eq_true_eq]; omega

theorem msk_step {i : Nat} (h : i < 32) : msk (i + 1) = msk i + 2 ^ 31 / 2 ^ i ∧ msk (i + 1) < 2 ^ 32 ∧ 2 ^ 31 / 2 ^ i < 2 ^ 32 ∧ 2 ^ 31 / 2 ^ (i + 1) = 2 ^ 31 / 2 ^ i / 2 := by
  have key : ∀ k : Fin 32, msk (k.1 + 1) = msk k.1 + 2 ^ 31 / 2 ^ k.1 ∧ msk (k.1 + 1) < 2 ^ 32 ∧ 2 ^ 31 / 2 ^ k.1 < 2 ^ 32 ∧ 2 ^ 31 / 2 ^ (k.1 + 1) = 2 ^ 31 / 2 ^ k.1 / 2 := by decide
  exact key ⟨i, h⟩

end Go.Proofs.Ytpfenhikoajghaa

/- prefix.Less. -/
namespace Go.Proofs.Ytpfenhikoajghaa
open Go
set_option linter.unusedSimpArgs false

theorem less_spec {a b : Nat} {n m : Int} {h : Hp} {Q : Value → Hp → Prop} (hQ : Q (.bool (decide (a < b) || (decide (a = b) && decide (n < m)))) h) :
    Ok Try.prog F_prefix_Less #[.agg #[.int .u32 a, .int .i64 n], .agg #[.int .u32 b, .int .i64 m]] h Q := by
  refine prefix_Less_ok (by simp) ?_
  unfold prefix_Less_D
  simp (disch := omega) [prefix_Less_r0]
  intro b1 hb1 b2 hb2
  obtain ⟨n12, hb2'⟩ := upd_none hb2
  have l : Le h ((h.upd b1 (.cells #[.int .u32 a, .int .i64 n] 24)).upd b2 (.cells #[.int .u32 b, .int .i64 m] 24)) := (Le.new hb1).upd hb2
  by_cases e' : a = b
  · subst e'
    simp (disch := omega) [prefix_Less_r1, prefix_Less_r3, Ne.symm n12]
    refine .to h l ?_
    simpa using hQ
  · have e : ¬ (a : Int) = b := by omega
    simp (disch := omega) [prefix_Less_r1, prefix_Less_r2, e, Ne.symm n12]
    refine .to h l ?_
    simpa [e'] using hQ

end Go.Proofs.Ytpfenhikoajghaa

/- slices.SortFunc at structs: the kit's contract, turned to partial heaps. -/
namespace Go.Proofs.Ytpfenhikoajghaa
open Go
open Go.Sort (SWO PermIn SortedIn)
open Go.Shelf (Ren)
set_option linter.unusedSimpArgs false
set_option linter.unusedVariables false

/-- What a call from nowhere leaves: all that was, and more. -/
theorem Keep.grown {W w' : World} {h' : Hp} (K : Keep noHp W h' w') : ∃ q os', w' = Go.Sort.grow (W.drewN q) os' := by
  refine ⟨w'.drawn - W.drawn, w'.heap.extract W.heap.size w'.heap.size, ?_⟩
  obtain ⟨k1, k2, k3, k4, k5, _, k7⟩ := K
  unfold Go.Sort.grow World.drewN
  cases w' with
  | mk heap tape drawn os output =>
    simp only at k1 k2 k3 k4 k5 k7 ⊢
    subst k1 k2 k3
    congr 1
    · refine Array.ext_getElem? fun i => ?_
      rw [Array.getElem?_append]
      split
      · rename_i hi; exact k5 i hi rfl
      · rename_i hi
        rw [Array.getElem?_extract]
        split
        · congr 1; omega
        · rw [Array.getElem?_eq_none (by omega)]
    · omega

theorem sw_heap {α : Type} [Inhabited α] {enc : α → List Value} {k b n : Nat} {w : World} {d : Array α} {os : Array Obj} {i : Nat} (hi : i < w.heap.size) :
    (sortWorldK enc k w b 0 n d os).heap[i]? = if b = i then (w.heap[i]?).map (Go.Sort.onCells (Go.Sort.putCells id 0 (Go.Sort.flatK enc k d))) else w.heap[i]? := by
  unfold sortWorldK Go.Sort.grow Go.Sort.putRowK Go.Sort.putRow Go.Sort.mapBlock Go.Sort.ahead
  simp only []
  rw [Array.getElem?_append_left (by simpa using hi), Array.getElem?_modify]

theorem enc_flat {α : Type} [Inhabited α] {enc : α → List Value} {k : Nat} {c : Array Value} {d : Array α} (hk : ∀ x, (enc x).length = k) (hl : d.size * k ≤ c.size) : Enc (Go.Sort.putCells id 0 (Go.Sort.flatK enc k d) c) 0 k enc d.toList := by
  intro i x hx j hj
  have hi : i < d.size := by have := (List.getElem?_eq_some_iff.1 hx).1; simpa using this
  have hlt : i * k + j < d.size * k := by
    have : (i + 1) * k ≤ d.size * k := Nat.mul_le_mul_right _ hi
    rw [Nat.add_mul] at this; omega
  unfold Go.Sort.putCells
  rw [Array.getElem?_mapIdx, Nat.zero_add, Array.getElem?_eq_getElem (by omega), Option.map_some, if_pos ⟨by omega, by rw [Go.Sort.size_flatK]; omega⟩, Nat.sub_zero]
  rw [Go.Sort.get_flatK _ _ _ _ hlt]
  have e1 : (i * k + j) / k = i := (Go.Sort.blk_iff k i _ (by omega)).1 ⟨by omega, by omega⟩
  have e2 : (i * k + j) % k = j := by rw [Nat.mod_eq_sub_div_mul, e1]; omega
  rw [e1, e2]
  have hx' : d[i]! = x := by
    rw [getElem!_pos d i hi]
    have := (List.getElem?_eq_some_iff.1 hx).2
    simpa using this
  rw [hx']
  have hlj : j < (enc x).length := by rw [hk]; exact hj
  rw [List.getElem?_eq_getElem hlj, id, getElem!_pos _ j hlj]

theorem holds_of {α : Type} [Inhabited α] {enc : α → List Value} {k b E : Nat} {c : Array Value} {d : List α} {w : World} (hk : ∀ x, (enc x).length = k) (hb : w.heap[b]? = some (.cells c E (0, 0))) (hl : d.length * k ≤ c.size) (henc : Enc c 0 k enc d) :
    Go.Sort.HoldsK enc k w b 0 d.toArray := by
  intro t ht
  rw [Go.Sort.size_flatK] at ht
  have ht' : t < d.length * k := by simpa using ht
  have k0 : 0 < k := by rcases Nat.eq_zero_or_pos k with h | h
                        · subst h; simp at ht'
                        · exact h
  have hi : t / k < d.length := by rw [Nat.div_lt_iff_lt_mul k0]; exact ht'
  have hj : t % k < k := Nat.mod_lt _ k0
  have e : t / k * k + t % k = t := by rw [Nat.mul_comm]; exact Nat.div_add_mod t k
  constructor
  · rw [Go.Sort.get_flatK _ _ _ _ ht]
    have := henc (t / k) (d[t / k]'hi) (List.getElem?_eq_getElem hi) (t % k) hj
    have hlj : t % k < (enc (d[t / k]'hi)).length := by rw [hk]; exact hj
    rw [Nat.zero_add, e, List.getElem?_eq_getElem hlj] at this
    unfold World.cell?
    simp only [hb]
    rw [Nat.zero_add]
    simp only [Option.isSome_none, Bool.false_eq_true, if_false]
    rw [this]
    have e9 : (d.toArray)[t / k]! = d[t / k]'hi := by rw [getElem!_pos _ _ (by simpa using hi)]; simp
    rw [e9, id, getElem!_pos (enc (d[t / k]'hi)) _ hlj]
  · unfold World.frozen?
    simp only [hb]
    simp

theorem ok_sortFunc {P : Program} {ρ : Ren} {α : Type} [Inhabited α] (L : SlLaysF0.n6 P ρ) {k : Nat} (aE : ∀ w, (isAgg (ρ.t 24)).run P w = .ok true w) (zE : ∀ w, (Go.sizeOf (ρ.t 24)).run P w = .ok k w)
    {enc : α → List Value} (hk : ∀ x, (enc x).length = k) (h1 : ∀ x, ∀ v ∈ enc x, v.oneCell' = true) {cf : α → α → Int} (hO : SWO (ltOf cf)) {g : Nat} {cb : Array Value}
    (eg : ∀ args w, (callFunc g args).run P w = .ok (.enter g args) w)
    (hcmp : ∀ x y, Ok P g (#[.agg (enc x).toArray, .agg (enc y).toArray] ++ cb) noHp (fun v _ => v = .int .i64 (cf x y)))
    (f6 : ∃ fn c, P.funcs[ρ.f 6]? = some fn ∧ fn.body = some c)
    {E : Nat} {h : Hp} {b cap : Nat} {c : Array Value} {d : List α} (hb : h b = some (.cells c E (0, 0))) (hl : d.length * k ≤ c.size) (henc : Enc c 0 k enc d) (hsz : d.length < 4611686018427387904) {Q : Value → Hp → Prop}
    (hQ : ∀ (d' : List α) (c' : Array Value), d'.Perm d → List.Pairwise (fun x y => ltOf cf y x = false) d' → c'.size = c.size → Enc c' 0 k enc d' → Q (.tuple #[]) (h.upd b (.cells c' E (0, 0)))) :
    Ok P (ρ.f 6) #[.slice (some ⟨b, 0, none⟩) d.length cap, .func (.func g) #[] cb] h Q := by
  refine ⟨f6, fun w V => ?_⟩
  have hbw := V b _ hb
  have hblk : b < w.heap.size := (Array.getElem?_eq_some_iff.1 hbw).1
  have hC : CmpLays P g cb enc k cf b 0 d.toArray.size w := fun m os dk hs x y =>
    ((hcmp x y).2 _ (fun b o e => by cases e)).mono fun e w' ⟨v, h', he, _, K, hv⟩ => ⟨by rw [he, hv], K.grown⟩
  have hs := AnyQ.slices_SortFunc L k aE zE enc hk h1 cf hO g cb b 0 cap d.toArray w eg hC (holds_of hk hbw hl henc) hblk (by simpa using hsz)
  rw [show d.toArray.size = d.length by simp] at hs
  refine hs.mono ?_
  rintro e w' ⟨rfl, d', n, os, hp, hsr, rfl⟩
  obtain ⟨hp1, _, hp3⟩ := hp
  have hds : d'.size = d.length := by simpa using hp1
  have hperm : d'.toList.Perm d := by
    have e1 : d'.extract 0 d.length = d' := by rw [← hds]; exact Array.extract_size
    have e2 : d.toArray.extract 0 d.length = d.toArray := by
      have : d.length = d.toArray.size := by simp
      rw [this]; exact Array.extract_size
    rw [e1, e2] at hp3
    exact hp3
  have hpw : List.Pairwise (fun x y => ltOf cf y x = false) d'.toList := by
    rw [List.pairwise_iff_getElem]
    intro i j hi hj hij
    have hi' : i < d'.size := by simpa using hi
    have hj' : j < d'.size := by simpa using hj
    have := hsr i j (Nat.zero_le _) hij (by omega)
    rw [getElem!_pos d' i hi', getElem!_pos d' j hj'] at this
    simpa using this
  have hcs : (Go.Sort.putCells id 0 (Go.Sort.flatK enc k d') c).size = c.size := by unfold Go.Sort.putCells; simp
  refine ⟨_, h.upd b (.cells (Go.Sort.putCells id 0 (Go.Sort.flatK enc k d') c) E (0, 0)), rfl, ?_, ?_, hQ _ _ hperm hpw hcs (enc_flat hk (by rw [hds]; exact hl))⟩
  · intro x o hx
    unfold Hp.upd at hx
    split at hx
    · rename_i e; subst e; cases hx
      rw [sw_heap hblk, if_pos rfl, hbw]; rfl
    · rename_i ne
      have hw := V x o hx
      rw [sw_heap (Array.getElem?_eq_some_iff.1 hw).1, if_neg (fun e => ne e.symm)]; exact hw
  · refine ⟨rfl, rfl, rfl, ?_, fun i hi hn => ?_, fun i hi hn => ?_, ?_⟩
    · unfold sortWorldK Go.Sort.putRowK
      rw [Go.Sort.size_grow, Go.Sort.size_putRow]
      exact Nat.le_add_right _ _
    · rw [sw_heap hi, if_neg (by rintro rfl; rw [hb] at hn; cases hn)]
    · unfold Hp.upd; rw [if_neg (by rintro rfl; rw [hb] at hn; cases hn)]; exact hn
    · show w.drawn ≤ w.drawn + n; omega
end Go.Proofs.Ytpfenhikoajghaa

/- The order of prefixes. -/
namespace Go.Proofs.Ytpfenhikoajghaa
open Go Go.Sort
set_option linter.unusedSimpArgs false
set_option linter.unusedVariables false

abbrev PK := Nat × Int
def pltB (x y : PK) : Bool := decide (x.1 < y.1) || (decide (x.1 = y.1) && decide (x.2 < y.2))
def cmpP (x y : PK) : Int := if pltB x y then -1 else if x = y then 0 else 1
def plt (x y : PK) : Prop := x.1 < y.1 ∨ (x.1 = y.1 ∧ x.2 < y.2)
instance (x y : PK) : Decidable (plt x y) := by unfold plt; infer_instance
theorem pltB_iff {x y : PK} : pltB x y = true ↔ plt x y := by simp [pltB, plt]

theorem cmpP_lt {x y : PK} : cmpP x y < 0 ↔ plt x y := by
  rw [← pltB_iff]
  unfold cmpP
  by_cases h : pltB x y = true
  · simp [h]
  · rw [if_neg h]
    constructor
    · intro q; split at q <;> omega
    · intro q; exact absurd q h
theorem ltP (x y : PK) : ltOf cmpP x y = decide (plt x y) := by
  unfold ltOf
  rw [decide_eq_decide]
  exact cmpP_lt
theorem plt_trans {x y z : PK} (h1 : plt x y) (h2 : plt y z) : plt x z := by unfold plt at *; omega
theorem plt_ntrans {x y z : PK} (h1 : ¬ plt x y) (h2 : ¬ plt y z) : ¬ plt x z := by unfold plt at *; omega
theorem plt_tri {x y : PK} (h1 : ¬ plt x y) (h2 : ¬ plt y x) : x = y := by
  unfold plt at *
  exact Prod.ext (by omega) (by omega)
theorem plt_irr {x : PK} : ¬ plt x x := by unfold plt; omega
theorem plt_asym {x y : PK} (h : plt x y) : ¬ plt y x := by unfold plt at *; omega
theorem swoP : SWO (ltOf cmpP) where
  irrefl x := by rw [ltP]; simp [plt_irr]
  trans x y z h1 h2 := by rw [ltP, decide_eq_true_eq] at *; exact plt_trans h1 h2
  ntrans x y z h1 h2 := by rw [ltP, decide_eq_false_iff_not] at *; exact plt_ntrans h1 h2

/-- None comes ahead of an earlier one. -/
def SrtP (l : List PK) : Prop := l.Pairwise fun x y => ¬ plt y x
theorem srtP_unique {l l' : List PK} (s : SrtP l) (s' : SrtP l') (p : l.Perm l') : l = l' :=
  List.Perm.eq_of_pairwise (le := fun x y => ¬ plt y x) (fun a b _ _ h1 h2 => plt_tri h2 h1) s s' p
end Go.Proofs.Ytpfenhikoajghaa

/- The order that RIP sorts by. -/
namespace Go.Proofs.Ytpfenhikoajghaa
open Go
set_option linter.unusedSimpArgs false
set_option linter.unusedVariables false

theorem order1_spec {x y : PK} {h : Hp} {Q : Value → Hp → Prop} (hQ : ∀ h', Le h h' → Q (.int .i64 (cmpP x y)) h') : Ok Try.prog F_rip_Rip_order_1 #[kvalP x, kvalP y] h Q := by
  refine rip_Rip_order_1_ok (by simp) ?_
  unfold rip_Rip_order_1_D
  simp (disch := omega) [rip_Rip_order_1_r0]
  intro b1 hb1 b2 hb2
  obtain ⟨n21, hb2'⟩ := upd_none hb2
  have L1 : Le h ((h.upd b1 (.cells #[.int .u32 (x.1 : Nat), .int .i64 x.2] 24)).upd b2 (.cells #[.int .u32 (y.1 : Nat), .int .i64 y.2] 24)) := (Le.new hb1).trans (Le.new hb2)
  have f1 : ((h.upd b1 (.cells #[.int .u32 (x.1 : Nat), .int .i64 x.2] 24)).upd b2 (.cells #[.int .u32 (y.1 : Nat), .int .i64 y.2] 24)) b1 = some (.cells #[.int .u32 (x.1 : Nat), .int .i64 x.2] 24) := by rw [upd_ne (Ne.symm n21), upd_same]
  have f2 : ((h.upd b1 (.cells #[.int .u32 (x.1 : Nat), .int .i64 x.2] 24)).upd b2 (.cells #[.int .u32 (y.1 : Nat), .int .i64 y.2] 24)) b2 = some (.cells #[.int .u32 (y.1 : Nat), .int .i64 y.2] 24) := upd_same
  generalize (h.upd b1 (.cells #[.int .u32 (x.1 : Nat), .int .i64 x.2] 24)).upd b2 (.cells #[.int .u32 (y.1 : Nat), .int .i64 y.2] 24) = g1 at *
  simp (disch := omega) [rip_Rip_order_1_r1, f1, f2]
  refine less_spec ?_
  have hQ' := hQ _ L1
  unfold cmpP at hQ'
  by_cases h1 : pltB x y = true
  · rw [if_pos h1] at hQ'
    unfold pltB at h1
    rw [h1]
    simp (disch := omega) [rip_Rip_order_1_r2]
    exact .to _ (.refl _) hQ'
  · rw [if_neg h1] at hQ'
    unfold pltB at h1
    rw [Bool.not_eq_true] at h1
    rw [h1]
    by_cases he : x = y
    · rw [if_pos he] at hQ'
      subst he
      simp (disch := omega) [rip_Rip_order_1_r3, rip_Rip_order_1_r4, f1, f2]
      exact .to _ (.refl _) hQ'
    · rw [if_neg he] at hQ'
      have hne : ¬ ((x.1 : Int) = (y.1 : Int) ∧ x.2 = y.2) := fun q => he (Prod.ext (by omega) q.2)
      by_cases h2 : x.1 = y.1
      · have h3 : ¬ x.2 = y.2 := fun q => he (Prod.ext h2 q)
        simp (disch := omega) [rip_Rip_order_1_r3, rip_Rip_order_1_r5, f1, f2, h2, h3]
        exact .to _ (.refl _) hQ'
      · have h2' : ¬ (x.1 : Int) = (y.1 : Int) := by omega
        simp (disch := omega) [rip_Rip_order_1_r3, rip_Rip_order_1_r5, f1, f2, h2, h2']
        exact .to _ (.refl _) hQ'
end Go.Proofs.Ytpfenhikoajghaa

/- Contracts of the shelf, laid at this program in plain words (printed by wip/kit/sp.sh). -/
namespace Go.Proofs.Ytpfenhikoajghaa
open Go Go.Shelf Go.RowKit
set_option maxRecDepth 100000
def sortP_ren : Go.Shelf.Ren := ⟨fun | 6 => 54 | 14 => 61 | 15 => 62 | 20 => 63 | 21 => 64 | 22 => 65 | 23 => 66 | 24 => 67 | 25 => 68 | 26 => 69 | 27 => 70 | 28 => 71 | 29 => 72 | 46 => 73 | 47 => 74 | 48 => 75 | 49 => 76 | 50 => 77 | 57 => 78 | n => n, fun | 22 => 74 | 25 => 87 | 39 => 40 | 45 => 99 | 46 => 100 | 50 => 104 | 53 => 22 | 55 => 108 | 66 => 109 | 70 => 113 | 76 => 115 | 77 => 116 | n => n, fun  | n => n⟩
theorem sortP : SlLaysF0.n6 Try.prog sortP_ren where
  mixed := by kernel_rfl
  f6 := ⟨Try.f54.name, by decide, Try.func54.trans (congrArg some (by kernel_rfl))⟩
  f14 := ⟨Try.f61.name, by decide, Try.func61.trans (congrArg some (by kernel_rfl))⟩
  f15 := Try.func62.trans (congrArg some (by kernel_rfl))
  f20 := ⟨Try.f63.name, by decide, Try.func63.trans (congrArg some (by kernel_rfl))⟩
  f21 := ⟨Try.f64.name, by decide, Try.func64.trans (congrArg some (by kernel_rfl))⟩
  f22 := ⟨Try.f65.name, by decide, Try.func65.trans (congrArg some (by kernel_rfl))⟩
  f23 := ⟨Try.f66.name, by decide, Try.func66.trans (congrArg some (by kernel_rfl))⟩
  f24 := ⟨Try.f67.name, by decide, Try.func67.trans (congrArg some (by kernel_rfl))⟩
  f25 := ⟨Try.f68.name, by decide, Try.func68.trans (congrArg some (by kernel_rfl))⟩
  f26 := ⟨Try.f69.name, by decide, Try.func69.trans (congrArg some (by kernel_rfl))⟩
  f27 := ⟨Try.f70.name, by decide, Try.func70.trans (congrArg some (by kernel_rfl))⟩
  f28 := Try.func71.trans (congrArg some (by kernel_rfl))
  f29 := Try.func72.trans (congrArg some (by kernel_rfl))
  f46 := ⟨Try.f73.name, by decide, Try.func73.trans (congrArg some (by kernel_rfl))⟩
  f47 := Try.func74.trans (congrArg some (by kernel_rfl))
  f48 := Try.func75.trans (congrArg some (by kernel_rfl))
  f49 := ⟨Try.f76.name, by decide, Try.func76.trans (congrArg some (by kernel_rfl))⟩
  f50 := ⟨Try.f77.name, by decide, Try.func77.trans (congrArg some (by kernel_rfl))⟩
  f57 := ⟨Try.f78.name, by decide, Try.func78.trans (congrArg some (by kernel_rfl))⟩
  t0 := Try.underlying0
  a0 := Try.isAgg0
  z0 := Try.sizeOf0
  v0 := Try.zeroValue0
  t3 := Try.underlying3
  a3 := Try.isAgg3
  z3 := Try.sizeOf3
  v3 := Try.zeroValue3
  t4 := Try.underlying4
  a4 := Try.isAgg4
  z4 := Try.sizeOf4
  v4 := Try.zeroValue4
  t5 := Try.underlying5
  a5 := Try.isAgg5
  z5 := Try.sizeOf5
  v5 := Try.zeroValue5
  t9 := Try.underlying9
  a9 := Try.isAgg9
  z9 := Try.sizeOf9
  v9 := Try.zeroValue9
  t22 := Try.underlying74
  a22 := Try.isAgg74
  z22 := Try.sizeOf74
  v22 := Try.zeroValue74
  t25 := Try.underlying87
  a25 := Try.isAgg87
  z25 := Try.sizeOf87
  v25 := Try.zeroValue87
  t39 := Try.underlying40
  a39 := Try.isAgg40
  z39 := Try.sizeOf40
  v39 := Try.zeroValue40
  t45 := Try.underlying99
  a45 := Try.isAgg99
  z45 := Try.sizeOf99
  v45 := Try.zeroValue99
  t46 := Try.underlying100
  a46 := Try.isAgg100
  z46 := Try.sizeOf100
  v46 := Try.zeroValue100
  t50 := Try.underlying104
  a50 := Try.isAgg104
  z50 := Try.sizeOf104
  v50 := Try.zeroValue104
  t53 := Try.underlying22
  a53 := Try.isAgg22
  z53 := Try.sizeOf22
  v53 := Try.zeroValue22
  t55 := Try.underlying108
  a55 := Try.isAgg108
  z55 := Try.sizeOf108
  v55 := Try.zeroValue108
  t66 := Try.underlying109
  a66 := Try.isAgg109
  z66 := Try.sizeOf109
  v66 := Try.zeroValue109
  t70 := Try.underlying113
  a70 := Try.isAgg113
  z70 := Try.sizeOf113
  v70 := Try.zeroValue113
  t76 := Try.underlying115
  a76 := Try.isAgg115
  z76 := Try.sizeOf115
  v76 := Try.zeroValue115
  t77 := Try.underlying116
  a77 := Try.isAgg116
  z77 := Try.sizeOf116
  v77 := Try.zeroValue116
def bitsP_ren : Go.Shelf.Ren := ⟨fun | 125 => 62 | 128 => 71 | 129 => 72 | n => n, fun | 46 => 40 | 51 => 22 | 53 => 108 | n => n, fun  | n => n⟩
theorem bitsP : Lays.n125 Try.prog bitsP_ren where
  mixed := by kernel_rfl
  f125 := Try.func62.trans (congrArg some (by kernel_rfl))
  f128 := Try.func71.trans (congrArg some (by kernel_rfl))
  f129 := Try.func72.trans (congrArg some (by kernel_rfl))
  t3 := Try.underlying3
  a3 := Try.isAgg3
  z3 := Try.sizeOf3
  v3 := Try.zeroValue3
  t4 := Try.underlying4
  a4 := Try.isAgg4
  z4 := Try.sizeOf4
  v4 := Try.zeroValue4
  t5 := Try.underlying5
  a5 := Try.isAgg5
  z5 := Try.sizeOf5
  v5 := Try.zeroValue5
  t9 := Try.underlying9
  a9 := Try.isAgg9
  z9 := Try.sizeOf9
  v9 := Try.zeroValue9
  t46 := Try.underlying40
  a46 := Try.isAgg40
  z46 := Try.sizeOf40
  v46 := Try.zeroValue40
  t51 := Try.underlying22
  a51 := Try.isAgg22
  z51 := Try.sizeOf22
  v51 := Try.zeroValue22
  t53 := Try.underlying108
  a53 := Try.isAgg108
  z53 := Try.sizeOf108
  v53 := Try.zeroValue108
end Go.Proofs.Ytpfenhikoajghaa

/- slices.SortFunc at these elements (printed by wip/lib/sort.py). -/
namespace Go.Proofs.Ytpfenhikoajghaa
open Go Go.Shelf Go.RowKit Go.Lib Go.Sort
set_option linter.unusedSimpArgs false
set_option linter.unusedVariables false

theorem isAggP : ∀ w, (isAgg (sortP_ren.t 24)).run Try.prog w = .ok true w := by intro w; kernel_rfl
theorem sizeP : ∀ w, (Go.sizeOf (sortP_ren.t 24)).run Try.prog w = .ok 2 w := by intro w; kernel_rfl

theorem len_specP {n : Nat} {h : Hp} {Q : Value → Hp → Prop} (hn : n < 2 ^ 63) (hQ : ∀ k : Int, Q (.int .i64 k) h) : Ok Try.prog F_math_bits_Len #[.int .u64 (n : Nat)] h Q := by
  refine ⟨⟨Try.f62, math_bits_Len_code, Try.func62, by kernel_rfl⟩, fun w V => ?_⟩
  have := Any.bits_Len bitsP (n : Int) w (by omega) (by omega)
  refine Calls.mono (P := Try.prog) this ?_
  rintro e w' ⟨rfl, rfl⟩
  exact ⟨_, h, rfl, V, .refl _ _, hQ _⟩


theorem sort_nilP {Q : Value → Hp → Prop} {h : Hp} (hQ : Q (.tuple #[]) h) : Ok Try.prog F_slices_SortFunc_api_Prefix_api_Prefix #[.slice none 0 0, .func (.func F_rip_Rip_order_1) #[] #[]] h Q := by
  refine slices_SortFunc_api_Prefix_api_Prefix_ok (by simp) ?_
  unfold slices_SortFunc_api_Prefix_api_Prefix_D
  simp (disch := omega) [slices_SortFunc_api_Prefix_api_Prefix_r0, slices_SortFunc_api_Prefix_api_Prefix_r1]
  refine len_specP (n := 0) (by omega) (fun k => ?_)
  simp (disch := omega)
  refine slices_pdqsortCmpFunc_api_Prefix_ok (by simp) ?_
  unfold slices_pdqsortCmpFunc_api_Prefix_D
  simp (disch := omega) [slices_pdqsortCmpFunc_api_Prefix_r0, slices_pdqsortCmpFunc_api_Prefix_r1]
  refine ⟨fun _ env g => g = h ∧ env 0 = .slice none 0 0 ∧ env 1 = .int .i64 0 ∧ env 2 = .int .i64 0, ⟨0, rfl, by simp, by simp, by simp⟩, ?_⟩
  rintro _ env g ⟨rfl, e0, e1, e2⟩
  unfold slices_pdqsortCmpFunc_api_Prefix_L0
  simp (disch := omega) [slices_pdqsortCmpFunc_api_Prefix_r2, slices_pdqsortCmpFunc_api_Prefix_r3, slices_pdqsortCmpFunc_api_Prefix_r4, e0, e1, e2, wrap_i64]
  refine slices_insertionSortCmpFunc_api_Prefix_ok (by simp) ?_
  unfold slices_insertionSortCmpFunc_api_Prefix_D
  simp (disch := omega) [slices_insertionSortCmpFunc_api_Prefix_r0, wrap_i64]
  refine ⟨fun _ env g2 => g2 = g ∧ env 2 = .int .i64 0 ∧ env 8 = .int .i64 1, ⟨0, rfl, by simp, by simp⟩, ?_⟩
  rintro _ env2 g2 ⟨rfl, f2, f8⟩
  unfold slices_insertionSortCmpFunc_api_Prefix_L1
  simp (disch := omega) [slices_insertionSortCmpFunc_api_Prefix_r1, f2, f8]
  exact .to _ (.refl _) (.to _ (.refl _) (.to _ (.refl _) hQ))

theorem sort_specP {h : Hp} {v : Value} {d : List (Nat × Int)} {Q : Value → Hp → Prop} (S : SlAt h 24 2 kencP v d) (hsz : d.length < 4611686018427387904)
    (hQ : ∀ (d' : List (Nat × Int)) h', d'.Perm d → SrtP d' → (∀ x o, h x = some o → blkOf v ≠ some x → h' x = some o) → SlAt h' 24 2 kencP v d' → Q (.tuple #[]) h') :
    Ok Try.prog F_slices_SortFunc_api_Prefix_api_Prefix #[v, .func (.func F_rip_Rip_order_1) #[] #[]] h Q := by
  rcases S with ⟨rfl, rfl⟩ | ⟨b, cap, c, rfl, hb, h1, h2, h3⟩
  · exact sort_nilP (hQ [] h (.refl _) .nil (fun _ _ e _ => e) (.inl ⟨rfl, rfl⟩))
  · have hlc : d.length * 2 ≤ c.size := by omega
    refine ok_sortFunc sortP isAggP sizeP (enc := kencP) (fun _ => rfl) (fun x v hv => by simp [kencP] at hv; rcases hv with rfl | rfl <;> rfl) swoP (g := F_rip_Rip_order_1) (cb := #[])
      (enters_of Try.func44 (by kernel_rfl) rfl) (fun x y => order1_spec (fun _ _ => rfl)) ⟨_, slices_SortFunc_api_Prefix_api_Prefix_code, Try.func54, by kernel_rfl⟩ hb hlc h3 hsz (fun d' c' hp hs hc he => ?_)
    have hl := hp.length_eq
    refine hQ d' _ hp (hs.imp fun {x y} q => by rw [ltP] at q; simpa using q) (fun x o e n => ?_) (.inr ⟨b, cap, c', by rw [hl], upd_same, by omega, by omega, he⟩)
    rw [upd_ne (fun q => n (by subst q; rfl))]; exact e
end Go.Proofs.Ytpfenhikoajghaa

/- Bits of 16. -/
namespace Go.Proofs.Ytpfenhikoajghaa
open Go
theorem bits_and_u16 {a b : Nat} (ha : a < 2 ^ 16) (hb : b < 2 ^ 16) : bits_and .u16 (a : Int) (b : Int) = ((a &&& b : Nat) : Int) := by
  have h : (BitVec.ofInt 16 (a : Int) &&& BitVec.ofInt 16 (b : Int)).toNat = a &&& b := by
    simp [BitVec.ofInt_natCast, BitVec.toNat_and, Nat.mod_eq_of_lt ha, Nat.mod_eq_of_lt hb]
  show IntKind.u16.wrap ((BitVec.ofInt 16 (a : Int) &&& BitVec.ofInt 16 (b : Int)).toNat : Nat) = _
  rw [h, wrap_u16]
  · omega
  · have := Nat.and_le_left (n := a) (m := b); omega
theorem bits_or_u16 {a b : Nat} (ha : a < 2 ^ 16) (hb : b < 2 ^ 16) : bits_or .u16 (a : Int) (b : Int) = ((a ||| b : Nat) : Int) := by
  have h : (BitVec.ofInt 16 (a : Int) ||| BitVec.ofInt 16 (b : Int)).toNat = a ||| b := by
    simp [BitVec.ofInt_natCast, BitVec.toNat_or, Nat.mod_eq_of_lt ha, Nat.mod_eq_of_lt hb]
  show IntKind.u16.wrap ((BitVec.ofInt 16 (a : Int) ||| BitVec.ofInt 16 (b : Int)).toNat : Nat) = _
  rw [h, wrap_u16]
  · omega
  · have := Nat.or_lt_two_pow ha hb; omega
end Go.Proofs.Ytpfenhikoajghaa
