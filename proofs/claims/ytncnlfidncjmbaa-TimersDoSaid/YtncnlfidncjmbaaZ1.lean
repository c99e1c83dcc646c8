/- Slices that a function owns: reading, appending. -/
import Derived.ProofKit
import Derived.OpenShut
import Derived.ChangeOld
import Derived.Carry
import Derived.SizedLaws
import Derived.WideShapes
import Derived.Deep.Slices
import Derived.Shelf.SlSortCmp.WholeK
import Derived.Shelf.Small.Bits
import Derived.Test.YtncnlfidncjmbaaChecked
import Derived.Test.YtncnlfidncjmbaaZ0

namespace Go.Proofs.Ytncnlfidncjmbaa
open Go
set_option linter.unusedSimpArgs false
section
variable {P : Program} {h : Hp}

def writeL (c : Array Value) : Nat → List Value → Array Value
  | _, [] => c
  | o, v :: l => writeL (c.setIfInBounds o v) (o + 1) l

theorem writeL_size : ∀ (l : List Value) (c : Array Value) (o : Nat), (writeL c o l).size = c.size
  | [], _, _ => rfl
  | v :: l, c, o => by simp only [writeL]; rw [writeL_size l]; simp

theorem writeL_get : ∀ (l : List Value) (c : Array Value) (o i : Nat), o + l.length ≤ c.size → (writeL c o l)[i]? = if o ≤ i ∧ i < o + l.length then l[i - o]? else c[i]?
  | [], c, o, i, _ => by simp [writeL]; omega
  | v :: l, c, o, i, hl => by
    simp only [List.length_cons] at hl ⊢
    simp only [writeL]
    rw [writeL_get l _ (o + 1) i (by simp; omega)]
    by_cases h1 : o + 1 ≤ i ∧ i < o + 1 + l.length
    · rw [if_pos h1, if_pos (by omega)]
      have : i - o = (i - (o + 1)) + 1 := by omega
      rw [this, List.getElem?_cons_succ]
    · rw [if_neg h1]
      by_cases h2 : i = o
      · subst h2
        rw [if_pos (by omega)]
        have : i < c.size := by omega
        simp [this]
      · rw [if_neg (by omega), Array.getElem?_setIfInBounds_ne (Ne.symm h2)]

theorem stN_write {b : Nat} {e : TypeId} {k : Hp → Prop} : ∀ (l : List Value) (o : Nat) (c : Array Value) (h : Hp), h b = some (.cells c e (0, 0)) → o + l.length ≤ c.size → (∀ v ∈ l, oneCell v = true) →
    k (h.upd b (.cells (writeL c o l) e (0, 0))) → stN h b o l k := by
  intro l
  induction l with
  | nil =>
    intro o c h hb _ _ hk
    have : h.upd b (.cells c e (0, 0)) = h := by
      funext x; unfold Hp.upd; split
      · rename_i hx; subst hx; exact hb.symm
      · rfl
    simp only [writeL, this] at hk
    exact hk
  | cons v l ih =>
    intro o c h hb hl hv hk
    simp only [List.length_cons] at hl
    rw [stN_cons]
    have hlt : o < c.size := by omega
    have hc : h.cell? ⟨b, o, none⟩ = some c[o] := by simp [hb, hlt]
    have hf : h.frozen? ⟨b, o, none⟩ = false := by simp [hb]
    rw [hc, hf, stw_ok]
    refine ⟨hv v (by simp), ?_⟩
    have hs : h.setCell ⟨b, o, none⟩ v = h.upd b (.cells (c.setIfInBounds o v) e (0, 0)) := by simp [hb]
    rw [hs]
    refine ih (o + 1) (c.setIfInBounds o v) _ (by simp) (by simp; omega) (fun u hu => hv u (by simp [hu])) ?_
    rw [upd_upd]
    exact hk

theorem arun_askRoom {n : Nat} {Q : Unit → Hp → Prop} : arun P (askRoom n) h Q = Q () h := by
  unfold askRoom; split <;> rfl

theorem arun_bnd_rr {α β : Type} {s : Sem α} {f : α → Sem β} {Q : β → Hp → Prop} {a : α} (A : rrun P s h = some a) : arun P (s >>= f) h Q = arun P (f a) h Q := arun_bind_rr s f A

theorem growBy_le (n : Nat) : ∀ r c, c < n → Builtin.growBy n r c ≤ 2 * n + 768
  | 0, c, hc => by simp only [Builtin.growBy]; omega
  | r + 1, c, hc => by
    simp only [Builtin.growBy]
    split
    · omega
    · by_cases h2 : c + (c + 768) / 4 < n
      · exact growBy_le n r _ h2
      · have stop : ∀ r d, n ≤ d → Builtin.growBy n r d = d := by
          intro r d hd
          cases r with
          | zero => rfl
          | succ r => simp only [Builtin.growBy]; rw [if_pos hd]
        rw [stop r _ (by omega)]
        omega

theorem nextcap_le {n c : Nat} (h : c < n) : Builtin.nextslicecap n c ≤ 2 * n + 768 := by
  unfold Builtin.nextslicecap
  split
  · omega
  · split
    · omega
    · exact growBy_le n 4 c h

theorem arun_append {sT xT R E E2 sz bytes : Nat} {z : Value} (hs : P.underlying sT = some (.slice E)) (hx : P.underlying xT = some (.slice E2))
    (hsz : (P.info? E).map (·.size) = some sz) (hby : (P.info? E).map (·.bytes) = some bytes) (hz : (P.info? E).bind (·.zero) = some z)
    {base xb : Option Addr} {len cap m xc : Nat} {k : Value → Hp → Prop} {new : Array Value} (hb0 : 0 < bytes)
    (hnew : rrun P (Builtin.firstCells sz m (.slice xb m xc)) h = some new)
    (hfit : len + m ≤ cap → (match base with
      | some a => arun P (storeCells (a.add (len * sz)) new.toList) h fun _ h' => k (.slice base (len + m) cap) h'
      | none => k (.slice base (len + m) cap) h))
    (hgrow : cap < len + m → Builtin.nextslicecap (len + m) cap * bytes ≤ 2 ^ 48 ∧ ∃ old, rrun P (Builtin.firstCells sz len (.slice base len cap)) h = some old ∧
      ∀ cap' b, len + m ≤ cap' → h b = none → k (.slice (some ⟨b, 0, none⟩) (len + m) cap') (h.upd b (.cells (old ++ new ++ Builtin.zeroCells z.cells (cap' - (len + m))) E))) :
    arun P (Builtin.append_ #[sT, xT] R #[.slice base len cap, .slice xb m xc]) h k := by
  unfold Builtin.append_
  simp only [aget_0, aget_1]
  rw [arun_bnd_rr (a := .slice E) (by rw [rr_underlying, hs])]
  simp only []
  rw [arun_bnd_rr (a := sz) (by rw [rr_sizeOf, hsz]), arun_bnd_rr (a := .slice E2) (by rw [rr_underlying, hx]), arun_bnd_rr (a := false) rfl]
  simp only [Bool.false_eq_true, if_false]
  rw [arun_bnd_rr (a := m) rfl]
  simp only [Bool.not_false, if_true]
  by_cases hn : len + m ≤ cap
  · rw [if_pos hn]
    have := hfit hn
    refine arun_bind _ _ (arun_of_rrun _ hnew ?_)
    cases base with
    | none => exact this
    | some a => exact arun_bind _ _ this
  · rw [if_neg hn]
    obtain ⟨hcap, old, hold, hk⟩ := hgrow (by omega)
    obtain ⟨info, hinfo⟩ : ∃ i, P.info? E = some i := by
      cases hi : P.info? E with
      | none => simp [hi] at hsz
      | some i => exact ⟨i, rfl⟩
    have hbi : info.bytes = bytes := by simpa [hinfo] using hby
    have tail : arun P (do
        let newCap ← choose (.appendCap (len + m) cap E)
        askRoom (newCap * (← typeInfo E).bytes)
        let old ← Builtin.firstCells sz len (.slice base len cap)
        let new ← Builtin.firstCells sz m (.slice xb m xc)
        let rest := Builtin.zeroCells (← zeroValue E).cells (newCap - (len + m))
        pure (.slice (some (← newRow E (old ++ new ++ rest))) (len + m) newCap)) h k := by
      refine arun_bind _ _ ?_
      show arun P (Sem.choose _ Sem.pure) h _
      unfold arun
      rw [if_neg (by simp [Question.forced])]
      intro t
      show arun P (Sem.bind _ _) h _
      refine arun_bind _ _ (arun_of_rrun _ (a := info) (by rw [rr_info, hinfo]) ?_)
      refine arun_bind _ _ ?_
      rw [arun_askRoom]
      refine arun_bind _ _ (arun_of_rrun _ hold ?_)
      refine arun_bind _ _ (arun_of_rrun _ hnew ?_)
      refine arun_bind _ _ (arun_of_rrun _ (rr_zeroValue hz) ?_)
      intro b hb
      refine hk _ b ?_ hb
      simp only [Question.cut]
      omega
    rw [arun_bnd_rr (a := info) (by rw [rr_info, hinfo])]
    rw [if_neg (by simp; intro _; omega)]
    rw [arun_bnd_rr (a := info) (by rw [rr_info, hinfo])]
    rw [if_neg (by rw [hbi]; omega)]
    exact tail


theorem rr_loadCells {b o n : Nat} : rrun P (loadCells ⟨b, o, none⟩ n) h = (ldN h b o n).map List.toArray := by
  have := rr_loadCellsFrom (P := P) (h := h) (b := b) (o := o) n 0 #[]
  simp only [Nat.add_zero] at this
  rw [show loadCells ⟨b, o, none⟩ n = loadCellsFrom ⟨b, o, none⟩ 0 n #[] from rfl, this]
  cases ldN h b o n <;> simp

theorem ldN_of {b : Nat} {c : Array Value} {e : TypeId} {fr : Nat × Nat} (hb : h b = some (.cells c e fr)) : ∀ (n o : Nat), o + n ≤ c.size → ldN h b o n = some ((c.toList.drop o).take n)
  | 0, o, _ => by simp
  | n + 1, o, hn => by
    have hlt : o < c.size := by omega
    rw [ldN_succ, ldN_of hb n (o + 1) (by omega)]
    simp only [cell_def, hb, Array.getElem?_eq_getElem hlt, Option.bind_some, Option.map_some]
    congr 1
    have hl2 : o < c.toList.length := by simpa using hlt
    rw [List.drop_eq_getElem_cons hl2, List.take_succ_cons]
    simp

/-- The cells of a block hold these, each as so many cells. -/
def Enc {α : Type} (c : Array Value) (o sz : Nat) (enc : α → List Value) (xs : List α) : Prop := ∀ i x, xs[i]? = some x → ∀ j, j < sz → c[o + i * sz + j]? = (enc x)[j]?

/-- A slice that begins its block, and whose elements read so. -/
def SlAt {α : Type} (h : Hp) (E sz : Nat) (enc : α → List Value) (v : Value) (xs : List α) : Prop :=
  (v = .slice none 0 0 ∧ xs = []) ∨
  ∃ b cap c, v = .slice (some ⟨b, 0, none⟩) xs.length cap ∧ h b = some (.cells c E (0, 0)) ∧ xs.length ≤ cap ∧ cap * sz ≤ c.size ∧ Enc c 0 sz enc xs

def blkOf : Value → Option Nat
  | .slice (some a) _ _ => some a.block
  | _ => none

theorem SlAt.keep {α : Type} {h h' : Hp} {E sz : Nat} {enc : α → List Value} {v : Value} {xs : List α} (s : SlAt h E sz enc v xs) (hk : ∀ b o, blkOf v = some b → h b = some o → h' b = some o) : SlAt h' E sz enc v xs := by
  rcases s with s | ⟨b, cap, c, rfl, hb, h1, h2, h3⟩
  · exact .inl s
  · exact .inr ⟨b, cap, c, rfl, hk b _ rfl hb, h1, h2, h3⟩

theorem Enc.push {α : Type} {c c' : Array Value} {o sz : Nat} {enc : α → List Value} {xs : List α} {y : α} (H : Enc c o sz enc xs)
    (h1 : ∀ i, i < xs.length * sz → c'[o + i]? = c[o + i]?) (h2 : ∀ j, j < sz → c'[o + xs.length * sz + j]? = (enc y)[j]?) : Enc c' o sz enc (xs ++ [y]) := by
  intro i x hx j hj
  rcases Nat.lt_or_ge i xs.length with hi | hi
  · rw [List.getElem?_append_left hi] at hx
    rw [← H i x hx j hj]
    have : i * sz + j < xs.length * sz := by
      have : (i + 1) * sz ≤ xs.length * sz := Nat.mul_le_mul_right _ hi
      rw [Nat.add_mul] at this
      omega
    have := h1 (i * sz + j) this
    simpa [Nat.add_assoc] using this
  · rw [List.getElem?_append_right hi] at hx
    have hi0 : i - xs.length = 0 := by
      rcases Nat.eq_zero_or_pos (i - xs.length) with h0 | h0
      · exact h0
      · rw [List.getElem?_eq_none (by simp; omega)] at hx; cases hx
    rw [hi0] at hx
    simp at hx
    subst hx
    have : i = xs.length := by omega
    subst this
    exact h2 j hj

theorem arun_push {α : Type} {sT xT R E E2 sz bytes : Nat} {z : Value} (hs : P.underlying sT = some (.slice E)) (hx : P.underlying xT = some (.slice E2))
    (hsz : (P.info? E).map (·.size) = some sz) (hby : (P.info? E).map (·.bytes) = some bytes) (hz : (P.info? E).bind (·.zero) = some z) (hb0 : 0 < bytes) (hzs : z.cells.size = sz)
    {enc : α → List Value} {v : Value} {xs : List α} {y : α} {b2 o2 c2 : Nat} {k : Value → Hp → Prop} (S : SlAt h E sz enc v xs) (hy : ldN h b2 o2 sz = some (enc y)) (hyl : (enc y).length = sz)
    (hone : ∀ u ∈ enc y, oneCell u = true) (hbd : (2 * xs.length + 770) * bytes ≤ 2 ^ 48)
    (K : ∀ b c cap, (some b = blkOf v ∨ h b = none) → xs.length + 1 ≤ cap → cap * sz ≤ c.size → Enc c 0 sz enc (xs ++ [y]) →
      k (.slice (some ⟨b, 0, none⟩) (xs.length + 1) cap) (h.upd b (.cells c E (0, 0)))) :
    arun P (Builtin.append_ #[sT, xT] R #[v, .slice (some ⟨b2, o2, none⟩) 1 c2]) h k := by
  have hnew : rrun P (Builtin.firstCells sz 1 (.slice (some ⟨b2, o2, none⟩) 1 c2)) h = some (enc y).toArray := by
    show rrun P (loadCells ⟨b2, o2, none⟩ (1 * sz)) h = _
    rw [Nat.one_mul, rr_loadCells, hy]; rfl
  have hzc : ∀ n, (Builtin.zeroCells z.cells n).size = n * sz := by intro n; simp [Builtin.zeroCells, hzs]
  rcases S with ⟨rfl, rfl⟩ | ⟨b, cap, c, rfl, hb, h1, h2, h3⟩
  · refine arun_append hs hx hsz hby hz hb0 hnew (fun h0 => absurd h0 (by omega)) (fun _ => ⟨?_, #[], rfl, fun cap' b hc hb => ?_⟩)
    · refine Nat.le_trans (Nat.mul_le_mul_right bytes ?_) hbd
      have := nextcap_le (n := 0 + 1) (c := 0) (by omega)
      simp only [List.length_nil]; omega
    · refine K b _ cap' (.inr hb) (by simpa using hc) ?_ ?_
      · obtain ⟨d, rfl⟩ : ∃ d, cap' = 1 + d := ⟨cap' - 1, by omega⟩
        simp only [Array.size_append, hzc, List.size_toArray, hyl, List.length_nil]
        have : 1 + d - (0 + 1) = d := by omega
        rw [this, Nat.add_mul, Nat.one_mul]
        omega
      · refine Enc.push (c := #[]) (fun i x hx => by cases hx) (fun i hi => absurd hi (by simp)) (fun j hj => ?_)
        rw [Array.getElem?_append_left (by simp [hyl]; omega)]
        simp
  · refine arun_append hs hx hsz hby hz hb0 hnew (fun hle => ?_) (fun hlt => ⟨?_, ((c.toList.drop 0).take (xs.length * sz)).toArray, ?_, fun cap' b' hc hb' => ?_⟩)
    · simp only [add_none]
      rw [arun_storeCells_eq]
      have hsz2 : xs.length * sz + sz ≤ c.size := by
        have : (xs.length + 1) * sz ≤ cap * sz := Nat.mul_le_mul_right _ hle
        rw [Nat.add_mul] at this
        omega
      refine stN_write _ _ c h hb (by simp [hyl]; omega) (by simpa using hone) ?_
      refine K b _ cap (.inl rfl) hle (by rw [writeL_size]; exact h2) ?_
      refine Enc.push h3 (fun i hi => ?_) (fun j hj => ?_)
      · rw [writeL_get _ _ _ _ (by simp [hyl]; omega), if_neg (by omega)]
      · rw [writeL_get _ _ _ _ (by simp [hyl]; omega), if_pos (by simp [hyl]; omega)]
        have : 0 + xs.length * sz + j - (0 + xs.length * sz + 0) = j := by omega
        simp [this]
    · refine Nat.le_trans (Nat.mul_le_mul_right bytes ?_) hbd
      have := nextcap_le hlt
      omega
    · show rrun P (loadCells ⟨b, 0, none⟩ (xs.length * sz)) h = _
      have : xs.length * sz ≤ c.size := Nat.le_trans (Nat.mul_le_mul_right _ h1) h2
      rw [rr_loadCells, ldN_of hb _ _ (by omega)]; rfl
    · have hold : ((c.toList.drop 0).take (xs.length * sz)).toArray.size = xs.length * sz := by
        have : xs.length * sz ≤ c.size := Nat.le_trans (Nat.mul_le_mul_right _ h1) h2
        simp; omega
      refine K b' _ cap' (.inr hb') hc ?_ ?_
      · simp only [Array.size_append, hzc, List.size_toArray, hyl]
        have e : cap' = xs.length + (1 + (cap' - (xs.length + 1))) := by omega
        have e2 : ((c.toList.drop 0).take (xs.length * sz)).length = xs.length * sz := by simpa using hold
        rw [e2]
        conv => lhs; rw [e]
        rw [Nat.add_mul, Nat.add_mul]; omega
      · refine Enc.push h3 (fun i hi => ?_) (fun j hj => ?_)
        · rw [Nat.zero_add, Array.getElem?_append_left (by simp only [Array.size_append, hold]; omega), Array.getElem?_append_left (by rw [hold]; exact hi)]
          simp [List.getElem?_take, hi]
        · rw [Array.getElem?_append_left (by simp only [Array.size_append, hold, List.size_toArray, hyl]; omega), Array.getElem?_append_right (by rw [hold]; omega), hold]
          have : 0 + xs.length * sz + j - xs.length * sz = j := by omega
          rw [this]; simp

end
end Go.Proofs.Ytncnlfidncjmbaa

/- A law's row, out of what its call does to a heap that has all of the world's blocks; and what the arguments read. -/
namespace Go.Proofs.Ytncnlfidncjmbaa
open Go Go.ChangeShapes Go.WideShapes Go.RowKit Go.Deep

/-- All of a world's blocks. -/
def hpW (W : World) : Hp := fun b => W.heap[b]?

theorem below_of {P : Program} {f : FuncId} {args : Array Value} {W : World} {v0 : Value} (h : Ok P f args (hpW W) fun v h' => v = v0 ∧ Le (hpW W) h') :
    Calls P f args W fun e W' => e = .returned v0 ∧ Below W.heap.size W W' := by
  refine (h.2 W (fun _ _ e => e)).mono fun e W' ⟨v, h', e1, V, K, e2, L⟩ => ?_
  subst e2
  refine ⟨e1, K.os, K.tape, K.output, K.size, fun k hk => ?_⟩
  have hb : hpW W k = some W.heap[k] := Array.getElem?_eq_getElem hk
  rw [V _ _ (L _ _ hb)]
  exact hb.symm

section
variable {H : Type} {enc : TypeId × Value → H} {P : Program}

theorem trodAll_below (hl : laidOutB P = true) {W W' : World} (hb : Below W.heap.size W W') : ∀ {ts : List TypeId} {vs : List Value} {ds : List (DataW H)} {ps : List MemPlace},
    ts.all (fun t => P.readableRec t && decide (t < P.types.size)) = true → DataW.TrodAll enc P W 0 (fun _ => true) true ts vs ds ps → DataW.TrodAll enc P W' 0 (fun b => decide (b < W.heap.size)) true ts vs ds ps
  | [], vs, ds, ps, _, h => by
    obtain ⟨rfl, rfl, rfl⟩ := trodAll_nil h
    exact trodAll_mk0
  | t :: ts, vs, ds, ps, hr, h => by
    obtain ⟨v, vs', d, ds', p, q, rfl, rfl, rfl, h1, h2⟩ := trodAll_cons h
    simp only [List.all_cons, Bool.and_eq_true, decide_eq_true_eq] at hr
    refine trodAll_cons_mk (Below.trod hl hr.1.1 hr.1.2 h1 hb (fun x hx => ?_)) (trodAll_below hl hb (by simpa using hr.2) h2)
    obtain ⟨m, hm⟩ := h1
    exact DataW.trod_lt m _ _ _ hm x hx

/-! ### What flat cells read -/
inductive Lk where
  | int (k : IntKind)
  | bool
  | str
  | other (t : TypeId)

def flatFs (P : Program) (rec : TypeId → Option (List Lk)) (total : Nat) : List Field → Nat → Option (List Lk)
  | [], off => if off = total then some [] else none
  | f :: fs, off => if f.offset = off then
      match rec f.type, flatFs P rec total fs (off + P.cellsOf f.type) with
      | some a, some b => some (a ++ b)
      | _, _ => none
    else none

def flatK (P : Program) : Nat → TypeId → Option (List Lk)
  | 0, _ => none
  | n + 1, t => match P.underlying t with
    | some .bool => some [.bool]
    | some (.int k) => some [.int k]
    | some .string => some [.str]
    | some (.struct fs) => flatFs P (flatK P n) (P.cellsOf t) fs.toList 0
    | some (.slice _) => some [.other t]
    | some (.map _ _) => some [.other t]
    | some (.pointer _) => some [.other t]
    | _ => none

variable {w : World} {base : Nat} {spare : Nat → Bool} {held : Bool}

def okL (enc : TypeId × Value → H) (P : Program) (w : World) (base : Nat) (spare : Nat → Bool) (held : Bool) : Lk → Value → Prop
  | .int k, v => ∃ n, v = .int k n ∧ (Lit.int k n).wf = true
  | .bool, v => ∃ b, v = .bool b
  | .str, v => ∃ s, v = .string s ∧ s.size ≤ maxLen
  | .other t, v => ∃ fuel x, DataW.trod enc P w base spare held fuel t [v] = some x

def okLs (enc : TypeId × Value → H) (P : Program) (w : World) (base : Nat) (spare : Nat → Bool) (held : Bool) : List Lk → List Value → Prop
  | [], [] => True
  | k :: ks, v :: vs => okL enc P w base spare held k v ∧ okLs enc P w base spare held ks vs
  | _, _ => False

theorem okLs_nil {cs : List Value} (h : okLs enc P w base spare held [] cs) : cs = [] := by
  cases cs with
  | nil => rfl
  | cons _ _ => exact h.elim

theorem okLs_cons {k : Lk} {ks : List Lk} {cs : List Value} (h : okLs enc P w base spare held (k :: ks) cs) : ∃ v vs, cs = v :: vs ∧ okL enc P w base spare held k v ∧ okLs enc P w base spare held ks vs := by
  cases cs with
  | nil => exact h.elim
  | cons v vs => exact ⟨v, vs, rfl, h.1, h.2⟩

theorem okLs_int {k : IntKind} {ks : List Lk} {cs : List Value} (h : okLs enc P w base spare held (.int k :: ks) cs) : ∃ n vs, cs = .int k n :: vs ∧ (Lit.int k n).wf = true ∧ okLs enc P w base spare held ks vs := by
  obtain ⟨v, vs, rfl, ⟨n, rfl, hw⟩, h2⟩ := okLs_cons h
  exact ⟨n, vs, rfl, hw, h2⟩

theorem okLs_bool {ks : List Lk} {cs : List Value} (h : okLs enc P w base spare held (.bool :: ks) cs) : ∃ b vs, cs = .bool b :: vs ∧ okLs enc P w base spare held ks vs := by
  obtain ⟨v, vs, rfl, ⟨n, rfl⟩, h2⟩ := okLs_cons h
  exact ⟨n, vs, rfl, h2⟩

theorem okLs_str {ks : List Lk} {cs : List Value} (h : okLs enc P w base spare held (.str :: ks) cs) : ∃ s vs, cs = .string s :: vs ∧ s.size ≤ maxLen ∧ okLs enc P w base spare held ks vs := by
  obtain ⟨v, vs, rfl, ⟨n, rfl, hw⟩, h2⟩ := okLs_cons h
  exact ⟨n, vs, rfl, hw, h2⟩

theorem okLs_append : ∀ {a b : List Lk} {x y : List Value}, okLs enc P w base spare held a x → okLs enc P w base spare held b y → okLs enc P w base spare held (a ++ b) (x ++ y)
  | [], _, [], _, _, h => h
  | [], _, _ :: _, _, h, _ => h.elim
  | _ :: _, _, [], _, h, _ => h.elim
  | _ :: _, _, _ :: _, _, h, h' => ⟨h.1, okLs_append h.2 h'⟩

theorem flatFs_open (rec : TypeId → Option (List Lk)) (total : Nat) (cs : List Value) (hcs : cs.length = total) : ∀ (fs : List Field) (off : Nat) (ks : List Lk), flatFs P rec total fs off = some ks →
    (∀ f ∈ fs, ∀ k, rec f.type = some k → okLs enc P w base spare held k ((cs.drop f.offset).take (P.cellsOf f.type))) → okLs enc P w base spare held ks (cs.drop off)
  | [], off, ks, h, _ => by
    simp only [flatFs] at h
    split at h
    · rename_i e; cases h; rw [List.drop_of_length_le (by omega)]; trivial
    · cases h
  | f :: fs, off, ks, h, hf => by
    simp only [flatFs] at h
    split at h
    · rename_i e
      cases h1 : rec f.type with
      | none => simp [h1] at h
      | some a =>
        cases h2 : flatFs P rec total fs (off + P.cellsOf f.type) with
        | none => simp [h1, h2] at h
        | some b =>
          simp [h1, h2] at h
          subst h
          have ih := flatFs_open rec total cs hcs fs _ b h2 (fun g hg => hf g (by simp [hg]))
          have h3 := hf f (by simp) a h1
          rw [e] at h3
          have := okLs_append h3 ih
          rw [← List.drop_drop, List.take_append_drop] at this
          exact this
    · cases h

theorem flat_open : ∀ (n : Nat) (t : TypeId) (ks : List Lk) (fuel : Nat) (cs : List Value) (x : DataW H × List MemPlace), flatK P n t = some ks → DataW.trod enc P w base spare held fuel t cs = some x → okLs enc P w base spare held ks cs := by
  intro n
  induction n with
  | zero => intro t ks fuel cs x h; simp [flatK] at h
  | succ n ih =>
    intro t ks fuel cs x h ht
    have other1 : (∃ e, P.underlying t = some (.slice e)) ∨ (∃ a e, P.underlying t = some (.map a e)) ∨ (∃ e, P.underlying t = some (.pointer e)) → ∃ v, cs = [v] := by
      intro hc
      cases fuel with
      | zero => simp [DataW.trod] at ht
      | succ m =>
        unfold DataW.trod at ht
        rcases hc with ⟨e, hu⟩ | ⟨a, e, hu⟩ | ⟨e, hu⟩ <;> rw [hu] at ht <;> split at ht <;> simp_all
    cases hu : P.underlying t with
    | none => simp [flatK, hu] at h
    | some u =>
      cases u with
      | bool =>
        simp [flatK, hu] at h; subst h
        cases fuel with
        | zero => simp [DataW.trod] at ht
        | succ m =>
          unfold DataW.trod at ht
          rw [hu] at ht
          split at ht <;> simp_all
          exact ⟨⟨_, rfl⟩, trivial⟩
      | int k =>
        simp [flatK, hu] at h; subst h
        obtain ⟨n', rfl, _, hw⟩ := DataW.trod_int hu ht
        exact ⟨⟨n', rfl, hw⟩, trivial⟩
      | string =>
        simp [flatK, hu] at h; subst h
        obtain ⟨s, rfl, _, hw⟩ := DataW.trod_string hu ht
        exact ⟨⟨s, rfl, hw⟩, trivial⟩
      | struct fs =>
        simp only [flatK, hu] at h
        obtain ⟨xs, m, _, _, hlen, hxl, hf⟩ := DataW.trod_struct hu ht
        have := flatFs_open (flatK P n) (P.cellsOf t) cs hlen fs.toList 0 ks h (fun f hf' k hk => by
          obtain ⟨i, hi, he⟩ := List.getElem_of_mem hf'
          have hi' : fs[i]? = some f := by rw [← he]; simp at hi ⊢
          have h1 := hf i f hi'
          have hil : i < xs.length := by rw [hxl]; simpa using hi
          rw [List.getElem?_eq_getElem hil] at h1
          exact ih f.type k m _ _ hk h1)
        simpa using this
      | slice e =>
        simp [flatK, hu] at h; subst h
        obtain ⟨v, rfl⟩ := other1 (.inl ⟨e, hu⟩)
        exact ⟨⟨fuel, x, ht⟩, trivial⟩
      | map a e =>
        simp [flatK, hu] at h; subst h
        obtain ⟨v, rfl⟩ := other1 (.inr (.inl ⟨a, e, hu⟩))
        exact ⟨⟨fuel, x, ht⟩, trivial⟩
      | pointer e =>
        simp [flatK, hu] at h; subst h
        obtain ⟨v, rfl⟩ := other1 (.inr (.inr ⟨e, hu⟩))
        exact ⟨⟨fuel, x, ht⟩, trivial⟩
      | _ => simp [flatK, hu] at h

/-- A struct that came in by value. -/
theorem open_flat {t : TypeId} {fs : Array Field} {ks : List Lk} {W : World} {v : Value} {d : DataW H} {ps : List MemPlace} {b0 : Nat} (n : Nat) (ht : P.underlying t = some (.struct fs)) (hk : flatK P n t = some ks)
    (hv : Value.okWide P W .any b0 t v) (hd : DataW.Trod enc P W base spare held t v d ps) : ∃ cs, v = .agg cs ∧ okLs enc P W base spare held ks cs.toList := by
  obtain ⟨cs, rfl, _⟩ := okWide_struct ht hv
  obtain ⟨fuel, hf⟩ := hd
  exact ⟨cs, rfl, flat_open n t ks _ _ _ hk hf⟩

/-! ### A slice that came in -/
def ArgSl {α : Type} (h : Hp) (sz : Nat) (enc : α → List Value) (good : α → Prop) (v : Value) (xs : List α) : Prop :=
  (∀ x ∈ xs, good x) ∧ ((∃ p cap, v = .slice p 0 cap ∧ xs = []) ∨ ∃ b o cap c E fr, v = .slice (some ⟨b, o, none⟩) xs.length cap ∧ xs.length ≤ cap ∧ cap ≤ maxLen ∧ h b = some (.cells c E fr) ∧ Enc c o sz enc xs)

theorem ArgSl.le {α : Type} {h h' : Hp} {sz : Nat} {enc : α → List Value} {good : α → Prop} {v : Value} {xs : List α} (A : ArgSl h sz enc good v xs) (L : Le h h') : ArgSl h' sz enc good v xs := by
  obtain ⟨g, A⟩ := A
  rcases A with ⟨p, cap, e⟩ | ⟨b, o, cap, c, E, fr, e1, e2, e2', e3, e4⟩
  · exact ⟨g, .inl ⟨p, cap, e⟩⟩
  · exact ⟨g, .inr ⟨b, o, cap, c, E, fr, e1, e2, e2', L _ _ e3, e4⟩⟩

theorem ArgSl.shape {α : Type} {h : Hp} {sz : Nat} {enc : α → List Value} {good : α → Prop} {v : Value} {xs : List α} (A : ArgSl h sz enc good v xs) : ∃ p cap, v = .slice p xs.length cap := by
  rcases A.2 with ⟨p, cap, rfl, rfl⟩ | ⟨b, o, cap, c, E, fr, rfl, _⟩
  · exact ⟨p, cap, rfl⟩
  · exact ⟨_, cap, rfl⟩

theorem ArgSl.len {α : Type} {h : Hp} {sz : Nat} {enc : α → List Value} {good : α → Prop} {v : Value} {xs : List α} (A : ArgSl h sz enc good v xs) : xs.length ≤ maxLen := by
  rcases A.2 with ⟨p, cap, rfl, rfl⟩ | ⟨b, o, cap, c, E, fr, rfl, h1, h2, _⟩
  · simp
  · omega

theorem choose_list {α : Type} (p : Nat → α → Prop) : ∀ n, (∀ i, i < n → ∃ x, p i x) → ∃ xs : List α, xs.length = n ∧ ∀ i x, xs[i]? = some x → p i x
  | 0, _ => ⟨[], rfl, by simp⟩
  | n + 1, h => by
    obtain ⟨xs, hl, hx⟩ := choose_list p n (fun i hi => h i (by omega))
    obtain ⟨x, hx'⟩ := h n (by omega)
    refine ⟨xs ++ [x], by simp [hl], fun i y hy => ?_⟩
    rcases Nat.lt_trichotomy i n with e | e | e
    · rw [List.getElem?_append_left (by omega)] at hy; exact hx i y hy
    · subst e; rw [List.getElem?_append_right (by omega), hl] at hy; simp at hy; subst hy; exact hx'
    · rw [List.getElem?_eq_none (by simp [hl]; omega)] at hy; cases hy

theorem open_argSl {α : Type} {t e : TypeId} {ks : List Lk} {ec : α → List Value} {good : α → Prop} {W : World} {v : Value} {d : DataW H} {ps : List MemPlace} {b0 sz : Nat} (n : Nat)
    (ht : P.underlying t = some (.slice e)) (hk : flatK P n e = some ks) (hC : P.cellsOf e = sz) (h0 : 0 < sz)
    (hdec : ∀ cs, okLs enc P W 0 spare held ks cs → ∃ x, cs = ec x ∧ good x)
    (hv : Value.okWide P W .any b0 t v) (hd : DataW.Trod enc P W 0 spare held t v d ps) : ∃ xs, ArgSl (hpW W) sz ec good v xs := by
  obtain ⟨a, len, cap, rfl⟩ := okWide_slice ht hv
  obtain ⟨fuel, hf⟩ := hd
  rcases open_slice ht hf with ⟨h0, _⟩ | ⟨a', len', cap', m, n', D, Pl, hcs, _, hl, hm, hmm, _, hx⟩
  · simp [Value.cells] at h0
    obtain ⟨rfl, rfl, rfl⟩ := h0
    exact ⟨[], by simp, .inl ⟨_, _, rfl, rfl⟩⟩
  · simp [Value.cells] at hcs
    obtain ⟨rfl, rfl, rfl⟩ := hcs
    have hlm : len ≤ m := by rw [hmm]; split <;> omega
    rw [hC] at hx
    obtain ⟨xs, hxl, hxx⟩ := choose_list (fun i x => good x ∧ (ec x).length = sz ∧ (∀ j, j < sz → W.cell? (a'.add (i * sz + j)) = (ec x)[j]?)) len (fun i hi => by
      obtain ⟨cs', hc, ht'⟩ := hx i (by omega)
      obtain ⟨_, hcl, hat⟩ := World.cells?_some hc
      obtain ⟨x, rfl, hg⟩ := hdec cs' (flat_open n e ks _ _ _ hk ht')
      refine ⟨x, hg, hcl, fun j hj => ?_⟩
      rw [← Go.Deep.add_add, hat j hj])
    refine ⟨xs, fun x hx => ?_, ?_⟩
    · obtain ⟨i, hi, he⟩ := List.getElem_of_mem hx
      exact (hxx i x (by rw [List.getElem?_eq_getElem hi, he])).1
    · by_cases hl0 : len = 0
      · subst hl0
        have : xs = [] := by simpa using hxl
        exact .inl ⟨_, _, rfl, this⟩
      · right
        obtain ⟨b, o, s⟩ := a'
        have hx0 := hxx 0 xs[0] (List.getElem?_eq_getElem (by omega))
        have h1 := hx0.2.2 0 h0
        rw [List.getElem?_eq_getElem (by omega)] at h1
        simp only [Nat.zero_mul, Nat.add_zero, Addr.add, if_true, World.cell?] at h1
        split at h1
        · rename_i c E fr hb
          split at h1
          · cases h1
          · rename_i hs
            have hs' : s = none := by simpa using hs
            subst hs'
            refine ⟨b, o, cap, c, E, fr, by rw [hxl], by omega, hm, hb, fun i x hx j hj => ?_⟩
            have h2 := (hxx i x hx).2.2 j hj
            have e : ((⟨b, o, none⟩ : Addr).add (i * sz + j)) = ⟨b, o + (i * sz + j), none⟩ := by unfold Addr.add; split <;> simp_all
            rw [e] at h2
            simp only [World.cell?, hb] at h2
            rw [Nat.add_assoc]
            simpa using h2
        · cases h1
end
end Go.Proofs.Ytncnlfidncjmbaa

/- The row bridge: numbers of arguments, parts of argument slices. -/
namespace Go.Proofs.Ytncnlfidncjmbaa
open Go

theorem i64_wf {n : Int} (h : (Lit.int .i64 n).wf = true) : -9223372036854775808 ≤ n ∧ n < 9223372036854775808 := by
  have e1 : IntKind.i64.min = -9223372036854775808 := by decide
  have e2 : IntKind.i64.max = 9223372036854775807 := by decide
  simp [Lit.wf, e1, e2] at h
  omega

theorem u32_wf {n : Int} (h : (Lit.int .u32 n).wf = true) : ∃ m : Nat, n = m ∧ m < 2 ^ 32 := by
  have e1 : IntKind.u32.min = 0 := by decide
  have e2 : IntKind.u32.max = 4294967295 := by decide
  simp [Lit.wf, e1, e2] at h
  exact ⟨n.toNat, by omega, by omega⟩

theorem u16_wf {n : Int} (h : (Lit.int .u16 n).wf = true) : ∃ m : Nat, n = m ∧ m < 2 ^ 16 := by
  have e1 : IntKind.u16.min = 0 := by decide
  have e2 : IntKind.u16.max = 65535 := by decide
  simp [Lit.wf, e1, e2] at h
  exact ⟨n.toNat, by omega, by omega⟩

theorem u8_wf {n : Int} (h : (Lit.int .u8 n).wf = true) : ∃ m : Nat, n = m ∧ m < 2 ^ 8 := by
  have e1 : IntKind.u8.min = 0 := by decide
  have e2 : IntKind.u8.max = 255 := by decide
  simp [Lit.wf, e1, e2] at h
  exact ⟨n.toNat, by omega, by omega⟩

theorem ArgSl.at {α : Type} {h : Hp} {sz : Nat} {enc : α → List Value} {good : α → Prop} {v : Value} {xs : List α} {i : Nat} {x : α} (A : ArgSl h sz enc good v xs) (hx : xs[i]? = some x) :
    good x ∧ ∃ b o cap c E fr, v = .slice (some ⟨b, o, none⟩) xs.length cap ∧ h b = some (.cells c E fr) ∧ ∀ j, j < sz → c[o + i * sz + j]? = (enc x)[j]? := by
  refine ⟨A.1 x (List.mem_of_getElem? hx), ?_⟩
  rcases A.2 with ⟨p, cap, rfl, rfl⟩ | ⟨b, o, cap, c, E, fr, rfl, h1, h2, hb, he⟩
  · simp at hx
  · exact ⟨b, o, cap, c, E, fr, rfl, hb, he i x hx⟩

end Go.Proofs.Ytncnlfidncjmbaa

/- Appending another slice's elements; a slice's part. -/
namespace Go.Proofs.Ytncnlfidncjmbaa
open Go
set_option linter.unusedSimpArgs false
set_option linter.unusedVariables false

/-- What an append of many leaves as it was. -/
structure Grew (h h' : Hp) (v v' : Value) : Prop where
  keep : ∀ y o, h y = some o → some y ≠ blkOf v → h' y = some o
  fresh : blkOf v' = blkOf v ∨ ∀ b, blkOf v' = some b → h b = none

/-- A slice that may be a part of a block, to be read from. -/
def Src {α : Type} (h : Hp) (sz : Nat) (enc : α → List Value) (v : Value) (ys : List α) : Prop :=
  (∀ y ∈ ys, (enc y).length = sz ∧ ∀ u ∈ enc y, oneCell u = true) ∧
  ((∃ a cap, v = .slice a 0 cap ∧ ys = []) ∨ ∃ b o cap c E fr, v = .slice (some ⟨b, o, none⟩) ys.length cap ∧ h b = some (.cells c E fr) ∧ o + ys.length * sz ≤ c.size ∧ Enc c o sz enc ys)

theorem Src.part {α : Type} {h : Hp} {sz : Nat} {enc : α → List Value} {ys : List α} {b o : Nat} {c : Array Value} {E : TypeId} {fr : Nat × Nat} (i n cap' : Nat) (hn : i + n ≤ ys.length)
    (hl : ∀ y ∈ ys, (enc y).length = sz ∧ ∀ u ∈ enc y, oneCell u = true) (hb : h b = some (.cells c E fr)) (hs : o + ys.length * sz ≤ c.size) (he : Enc c o sz enc ys) :
    Src h sz enc (.slice (some ⟨b, o + i * sz, none⟩) n cap') ((ys.drop i).take n) := by
  refine ⟨fun y hy => hl y (List.mem_of_mem_drop (List.mem_of_mem_take hy)), .inr ⟨b, o + i * sz, cap', c, E, fr, ?_, hb, ?_, ?_⟩⟩
  · have : ((ys.drop i).take n).length = n := by simp; omega
    rw [this]
  · have e : ((ys.drop i).take n).length = n := by simp; omega
    have h1 : (i + n) * sz ≤ ys.length * sz := Nat.mul_le_mul_right _ hn
    rw [Nat.add_mul] at h1
    rw [e]; omega
  · intro k x hx j hj
    have hk : k < n := by
      have := (List.getElem?_eq_some_iff.1 hx).1
      simp at this; omega
    rw [List.getElem?_take, if_pos hk, List.getElem?_drop] at hx
    have := he (i + k) x hx j hj
    rw [← this]
    congr 1
    rw [Nat.add_mul]; omega

section
variable {P : Program} {h : Hp}

theorem src_cells {α : Type} {sz n o : Nat} {enc : α → List Value} {ys : List α} {c : Array Value} (hn : n = ys.length) (hl : ∀ y ∈ ys, (enc y).length = sz ∧ ∀ u ∈ enc y, oneCell u = true) (hs : o + ys.length * sz ≤ c.size) (he : Enc c o sz enc ys) :
    ((c.toList.drop o).take (n * sz)).length = n * sz ∧ (∀ i y, ys[i]? = some y → ∀ j, j < sz → ((c.toList.drop o).take (n * sz))[i * sz + j]? = (enc y)[j]?) ∧ ∀ u ∈ (c.toList.drop o).take (n * sz), oneCell u = true := by
  subst hn
  have hget : ∀ i y, ys[i]? = some y → ∀ j, j < sz → ((c.toList.drop o).take (ys.length * sz))[i * sz + j]? = (enc y)[j]? := by
    intro i y hy j hj
    have hi := (List.getElem?_eq_some_iff.1 hy).1
    have h1 : (i + 1) * sz ≤ ys.length * sz := Nat.mul_le_mul_right _ hi
    rw [Nat.add_mul, Nat.one_mul] at h1
    rw [List.getElem?_take, if_pos (by omega), List.getElem?_drop, ← Nat.add_assoc, Array.getElem?_toList]
    exact he i y hy j hj
  refine ⟨by simp; omega, hget, fun u hu => ?_⟩
  obtain ⟨k, hk, rfl⟩ := List.getElem_of_mem hu
  have hk' : k < ys.length * sz := by simp at hk; omega
  have hsz : 0 < sz := by
    rcases Nat.eq_zero_or_pos sz with e | e
    · subst e; simp at hk'
    · exact e
  have hi : k / sz < ys.length := Nat.div_lt_of_lt_mul (by rw [Nat.mul_comm]; exact hk')
  have hy : ys[k / sz]? = some ys[k / sz] := List.getElem?_eq_getElem hi
  have hj := Nat.mod_lt k hsz
  have e := hget (k / sz) _ hy (k % sz) hj
  have e2 : k / sz * sz + k % sz = k := by rw [Nat.mul_comm]; exact Nat.div_add_mod k sz
  rw [e2, List.getElem?_eq_getElem hk] at e
  have hm := hl _ (List.mem_of_getElem? hy)
  exact hm.2 _ (List.mem_of_getElem? e.symm)

theorem Enc.cat {α : Type} {c c' : Array Value} {sz : Nat} {enc : α → List Value} {xs ys : List α} (H : Enc c 0 sz enc xs)
    (h1 : ∀ i, i < xs.length * sz → c'[i]? = c[i]?) (h2 : ∀ i y, ys[i]? = some y → ∀ j, j < sz → c'[xs.length * sz + (i * sz + j)]? = (enc y)[j]?) : Enc c' 0 sz enc (xs ++ ys) := by
  intro i x hx j hj
  rcases Nat.lt_or_ge i xs.length with hi | hi
  · rw [List.getElem?_append_left hi] at hx
    rw [← H i x hx j hj]
    have h3 : (i + 1) * sz ≤ xs.length * sz := Nat.mul_le_mul_right _ hi
    rw [Nat.add_mul, Nat.one_mul] at h3
    exact h1 _ (by omega)
  · rw [List.getElem?_append_right hi] at hx
    have := h2 _ x hx j hj
    rw [← this]
    congr 1
    obtain ⟨d, rfl⟩ : ∃ d, i = xs.length + d := ⟨i - xs.length, by omega⟩
    rw [Nat.add_sub_cancel_left, Nat.add_mul]; omega

theorem arun_cat {α : Type} {sT xT R E E2 sz bytes : Nat} {z : Value} (hs : P.underlying sT = some (.slice E)) (hx : P.underlying xT = some (.slice E2))
    (hsz : (P.info? E).map (·.size) = some sz) (hby : (P.info? E).map (·.bytes) = some bytes) (hz : (P.info? E).bind (·.zero) = some z) (hb0 : 0 < bytes) (hzs : z.cells.size = sz)
    {enc : α → List Value} {v w : Value} {xs ys : List α} {k : Value → Hp → Prop} (S : SlAt h E sz enc v xs) (R0 : Src h sz enc w ys) (hbd : (2 * (xs.length + ys.length) + 770) * bytes ≤ 2 ^ 48)
    (K : ∀ v' h', SlAt h' E sz enc v' (xs ++ ys) → Grew h h' v v' → k v' h') : arun P (Builtin.append_ #[sT, xT] R #[v, w]) h k := by
  obtain ⟨hl, R1⟩ := R0
  have hzc : ∀ n, (Builtin.zeroCells z.cells n).size = n * sz := by intro n; simp [Builtin.zeroCells, hzs]
  -- the new cells
  obtain ⟨a2, c2, new, rfl, hnew, n1, n2, n3⟩ : ∃ a2 c2 new, w = .slice a2 ys.length c2 ∧ rrun P (Builtin.firstCells sz ys.length (.slice a2 ys.length c2)) h = some (List.toArray new) ∧ new.length = ys.length * sz ∧
      (∀ i y, ys[i]? = some y → ∀ j, j < sz → new[i * sz + j]? = (enc y)[j]?) ∧ ∀ u ∈ new, oneCell u = true := by
    rcases R1 with ⟨a, cap, rfl, rfl⟩ | ⟨b, o, cap, c, _, fr, rfl, hb, h1, h2⟩
    · refine ⟨a, cap, [], rfl, ?_, by simp, fun i y hy => by simp at hy, by simp⟩
      cases a with
      | none => rfl
      | some a =>
        show rrun P (loadCells a (0 * sz)) h = _
        rw [Nat.zero_mul]; rfl
    · obtain ⟨q1, q2, q3⟩ := src_cells (n := ys.length) rfl hl h1 h2
      refine ⟨_, cap, _, rfl, ?_, q1, q2, q3⟩
      show rrun P (loadCells ⟨b, o, none⟩ (ys.length * sz)) h = _
      rw [rr_loadCells, ldN_of hb _ _ h1]; rfl
  rcases S with ⟨rfl, rfl⟩ | ⟨b, cap, c, rfl, hb, h1, h2, h3⟩
  · refine arun_append hs hx hsz hby hz hb0 hnew (fun h0 => ?_) (fun hlt => ⟨?_, #[], rfl, fun cap' b hc hb => ?_⟩)
    · have : ys = [] := List.eq_nil_of_length_eq_zero (by omega)
      subst this
      exact K _ _ (.inl ⟨rfl, rfl⟩) ⟨fun _ _ h _ => h, .inl rfl⟩
    · refine Nat.le_trans (Nat.mul_le_mul_right bytes ?_) hbd
      have := nextcap_le hlt
      simp only [List.length_nil]; omega
    · refine K _ _ (.inr ⟨b, cap', _, by simp, if_pos rfl, by simpa using hc, ?_, ?_⟩) ⟨fun y o hy _ => ?_, .inr fun b' hb' => ?_⟩
      · obtain ⟨d, rfl⟩ : ∃ d, cap' = ys.length + d := ⟨cap' - ys.length, by omega⟩
        simp only [Array.size_append, hzc, List.size_toArray, n1]
        have : ys.length + d - ys.length = d := by omega
        simp only [List.length_nil, Nat.zero_add, this, Nat.add_mul]
        exact Nat.le_of_eq (by simp)
      · refine Enc.cat (c := #[]) (fun i x hx => by cases hx) (fun i hi => absurd hi (by simp)) (fun i y hy j hj => ?_)
        have hi := (List.getElem?_eq_some_iff.1 hy).1
        have h3 : (i + 1) * sz ≤ ys.length * sz := Nat.mul_le_mul_right _ hi
        rw [Nat.add_mul, Nat.one_mul] at h3
        rw [Array.getElem?_append_left (by simp [n1]; omega)]
        have := n2 i y hy j hj
        simpa using this
      · have : y ≠ b := by rintro rfl; rw [hb] at hy; cases hy
        simp [Hp.upd, this, hy]
      · cases hb'; exact hb
  · refine arun_append hs hx hsz hby hz hb0 hnew (fun hle => ?_) (fun hlt => ⟨?_, ((c.toList.drop 0).take (xs.length * sz)).toArray, ?_, fun cap' b' hc hb' => ?_⟩)
    · simp only [add_none]
      rw [arun_storeCells_eq]
      have hsz2 : xs.length * sz + ys.length * sz ≤ c.size := by
        have : (xs.length + ys.length) * sz ≤ cap * sz := Nat.mul_le_mul_right _ hle
        rw [Nat.add_mul] at this
        omega
      refine stN_write _ _ c h hb (by simp [n1]; omega) (by simpa using n3) ?_
      refine K _ _ (.inr ⟨b, cap, _, by simp, if_pos rfl, by simpa using hle, by rw [writeL_size]; exact h2, ?_⟩) ⟨fun y o hy hne => ?_, .inl rfl⟩
      · refine Enc.cat h3 (fun i hi => ?_) (fun i y hy j hj => ?_)
        · rw [writeL_get _ _ _ _ (by simp [n1]; omega), if_neg (by omega)]
        · have hi := (List.getElem?_eq_some_iff.1 hy).1
          have h4 : (i + 1) * sz ≤ ys.length * sz := Nat.mul_le_mul_right _ hi
          rw [Nat.add_mul, Nat.one_mul] at h4
          rw [writeL_get _ _ _ _ (by simp [n1]; omega), if_pos (by simp [n1]; omega)]
          have e : xs.length * sz + (i * sz + j) - (xs.length * sz + 0) = i * sz + j := by omega
          simp only [Nat.zero_add, e]; exact n2 i y hy j hj
      · have : y ≠ b := by rintro rfl; exact hne rfl
        simp [Hp.upd, this, hy]
    · refine Nat.le_trans (Nat.mul_le_mul_right bytes ?_) hbd
      have := nextcap_le hlt
      omega
    · show rrun P (loadCells ⟨b, 0, none⟩ (xs.length * sz)) h = _
      have : xs.length * sz ≤ c.size := Nat.le_trans (Nat.mul_le_mul_right _ h1) h2
      rw [rr_loadCells, ldN_of hb _ _ (by omega)]; rfl
    · have hold : ((c.toList.drop 0).take (xs.length * sz)).toArray.size = xs.length * sz := by
        have : xs.length * sz ≤ c.size := Nat.le_trans (Nat.mul_le_mul_right _ h1) h2
        simp; omega
      refine K _ _ (.inr ⟨b', cap', _, by simp, if_pos rfl, by simpa using hc, ?_, ?_⟩) ⟨fun y o hy _ => ?_, .inr fun b2 hb2 => ?_⟩
      · simp only [Array.size_append, hzc, List.size_toArray, n1]
        have e : cap' = xs.length + (ys.length + (cap' - (xs.length + ys.length))) := by omega
        have e2 : ((c.toList.drop 0).take (xs.length * sz)).length = xs.length * sz := by simpa using hold
        rw [e2]
        conv => lhs; rw [e]
        rw [Nat.add_mul, Nat.add_mul]; omega
      · refine Enc.cat h3 (fun i hi => ?_) (fun i y hy j hj => ?_)
        · rw [Array.getElem?_append_left (by simp only [Array.size_append, hold]; omega), Array.getElem?_append_left (by rw [hold]; exact hi)]
          simp [List.getElem?_take, hi]
        · have hi := (List.getElem?_eq_some_iff.1 hy).1
          have h4 : (i + 1) * sz ≤ ys.length * sz := Nat.mul_le_mul_right _ hi
          rw [Nat.add_mul, Nat.one_mul] at h4
          rw [Array.getElem?_append_left (by simp only [Array.size_append, hold, List.size_toArray, n1]; omega), Array.getElem?_append_right (by rw [hold]; omega), hold]
          have e : xs.length * sz + (i * sz + j) - xs.length * sz = i * sz + j := by omega
          rw [e]
          have := n2 i y hy j hj
          simpa using this
      · have : y ≠ b' := by rintro rfl; rw [hb'] at hy; cases hy
        simp [Hp.upd, this, hy]
      · cases hb2; exact hb'

/-! ### A part of a slice -/
theorem rr_sliceBound {n : Nat} {i : Int} {k : BoundsCode} (h0 : 0 ≤ i) (h1 : i ≤ (n : Int)) : rrun P (Instr.sliceBound (.int .i64 i) n k) h = some i.toNat := by
  unfold Instr.sliceBound
  simp only [rrun_bnd, asIntOf, rrun_pure, Option.bind_some]
  rw [if_pos ⟨h0, h1⟩]; rfl

/-- x[i:], within a block. -/
theorem rr_slice_from {t e : TypeId} {sz b o len cap : Nat} {i : Int} (hu : P.underlying t = some (.slice e)) (hs : (P.info? e).map (·.size) = some sz) (h0 : 0 ≤ i) (h1 : i ≤ (len : Int)) (h2 : i < (cap : Int)) :
    rrun P (Instr.sliceAt t (.slice (some ⟨b, o, none⟩) len cap) (some (.int .i64 i)) none none) h = some (.slice (some ⟨b, o + i.toNat * sz, none⟩) (len - i.toNat) (cap - i.toNat)) := by
  unfold Instr.sliceAt
  rw [rrun_bnd, rr_underlying, hu, Option.bind_some]
  simp only
  unfold Instr.slice
  rw [rrun_bnd, rr_underlying, hu, Option.bind_some]
  simp only
  have hb : rrun P (Instr.sliceBounds true len cap (some (.int .i64 i)) none none) h = some (i.toNat, len, cap) := by
    unfold Instr.sliceBounds
    simp only [rrun_bnd, rrun_pure, Option.bind_some]
    rw [rr_sliceBound h0 h1]; rfl
  rw [rrun_bnd, hb, Option.bind_some]
  simp only [rrun_bnd, rr_sizeOf, hs, Option.bind_some, rrun_pure]
  rw [if_neg (by omega)]
  simp only [Option.map_some, add_none]

/-- x[i:] where nothing is left, whatever the address. -/
theorem rr_slice_end {t e : TypeId} {sz : Nat} {a : Option Addr} {len cap : Nat} {i : Int} (hu : P.underlying t = some (.slice e)) (hs : (P.info? e).map (·.size) = some sz) (h1 : i = (len : Int)) :
    ∃ a' cap', rrun P (Instr.sliceAt t (.slice a len cap) (some (.int .i64 i)) none none) h = some (.slice a' 0 cap') := by
  unfold Instr.sliceAt
  rw [rrun_bnd, rr_underlying, hu, Option.bind_some]
  simp only
  unfold Instr.slice
  rw [rrun_bnd, rr_underlying, hu, Option.bind_some]
  simp only
  have hb : rrun P (Instr.sliceBounds true len cap (some (.int .i64 i)) none none) h = some (i.toNat, len, cap) := by
    unfold Instr.sliceBounds
    simp only [rrun_bnd, rrun_pure, Option.bind_some]
    rw [rr_sliceBound (by omega) (by omega)]; rfl
  rw [rrun_bnd, hb, Option.bind_some]
  simp only [rrun_bnd, rr_sizeOf, hs, Option.bind_some, rrun_pure]
  have e0 : len - i.toNat = 0 := by omega
  rw [e0]
  exact ⟨_, _, rfl⟩

/-- x[:i]. -/
theorem rr_slice_to {t e : TypeId} {sz len cap : Nat} {a : Addr} {i : Int} (hu : P.underlying t = some (.slice e)) (hs : (P.info? e).map (·.size) = some sz) (h0 : 0 ≤ i) (h1 : i ≤ (cap : Int)) :
    rrun P (Instr.sliceAt t (.slice (some a) len cap) none (some (.int .i64 i)) none) h = some (.slice (some a) i.toNat cap) := by
  unfold Instr.sliceAt
  rw [rrun_bnd, rr_underlying, hu, Option.bind_some]
  simp only
  unfold Instr.slice
  rw [rrun_bnd, rr_underlying, hu, Option.bind_some]
  simp only
  have hb : rrun P (Instr.sliceBounds true len cap none (some (.int .i64 i)) none) h = some (0, i.toNat, cap) := by
    unfold Instr.sliceBounds
    simp only [rrun_bnd, rrun_pure, Option.bind_some]
    simp only [if_true]
    rw [rr_sliceBound h0 h1]; rfl
  rw [rrun_bnd, hb, Option.bind_some]
  simp only [rrun_bnd, rr_sizeOf, hs, Option.bind_some, rrun_pure, Nat.zero_mul, Nat.sub_zero, Option.map_some]
  split
  · rfl
  · rfl
end
end Go.Proofs.Ytncnlfidncjmbaa

/- Maps: what they hold, a look, a store. -/
namespace Go.Proofs.Ytncnlfidncjmbaa
open Go
set_option linter.unusedSimpArgs false
set_option linter.unusedVariables false

/-- A map's entries read so, in the order in which they lie. -/
inductive Ents {α β : Type} (kenc : α → Value) (venc : β → Value) : List MapEntry → List (α × β) → Prop where
  | nil : Ents kenc venc [] []
  | cons {e : MapEntry} {es : List MapEntry} {k : α} {v : β} {m : List (α × β)} : e.key = kenc k → e.val = venc v → Ents kenc venc es m → Ents kenc venc (e :: es) ((k, v) :: m)

def findM {α β : Type} [DecidableEq α] (a : α) : List (α × β) → Nat → Option (Nat × β)
  | [], _ => none
  | x :: xs, i => if a = x.1 then some (i, x.2) else findM a xs (i + 1)

theorem Ents.get {α β : Type} {kenc : α → Value} {venc : β → Value} {es : List MapEntry} {m : List (α × β)} (H : Ents kenc venc es m) : ∀ {i : Nat} {x : α × β}, m[i]? = some x → ∃ e, es[i]? = some e ∧ e.key = kenc x.1 ∧ e.val = venc x.2 := by
  induction H with
  | nil => intro i x h; simp at h
  | @cons e es k v m h1 h2 _ ih =>
    intro i x h
    cases i with
    | zero => simp at h; subst h; exact ⟨e, rfl, h1, h2⟩
    | succ i => simpa using ih (by simpa using h)

section
variable {P : Program} {h : Hp} {α β : Type} [DecidableEq α] {kenc : α → Value} {venc : β → Value}

theorem rr_findAsking {kt : TypeId} {a : α} (heq : ∀ b, rrun P (Op.equal kt (kenc a) (kenc b)) h = some (decide (a = b))) : ∀ {es : List MapEntry} {m : List (α × β)}, Ents kenc venc es m → ∀ i,
    rrun P (Instr.findAsking kt (kenc a) es i) h = some ((findM a m i).map fun x => (x.1, venc x.2)) := by
  intro es m H
  induction H with
  | nil => intro i; rfl
  | @cons e es k v m h1 h2 _ ih =>
    intro i
    unfold Instr.findAsking
    rw [rrun_bnd, h1, heq, Option.bind_some]
    by_cases hab : a = k
    · simp [hab, findM, h2, rrun_pure]
    · simp [hab, findM, ih]

theorem rr_findKey_struct {kt : TypeId} {fs : Array Field} {a : α} (hu : P.underlying kt = some (.struct fs)) (heq : ∀ b, rrun P (Op.equal kt (kenc a) (kenc b)) h = some (decide (a = b))) {es : List MapEntry} {m : List (α × β)} (H : Ents kenc venc es m) :
    rrun P (Instr.findKey kt (kenc a) es) h = some ((findM a m 0).map fun x => (x.1, venc x.2)) := by
  unfold Instr.findKey
  rw [rrun_bnd, rr_underlying, hu, Option.bind_some]
  cases H with
  | nil => rfl
  | cons h1 h2 h3 => exact rr_findAsking heq (.cons h1 h2 h3) 0

def getM (m : List (α × β)) (a : α) : Option β := (findM a m 0).map (·.2)

def MapAt (h : Hp) (r : Nat) (kenc : α → Value) (venc : β → Value) (m : List (α × β)) : Prop := ∃ es clock, h r = some (.map es clock) ∧ Ents kenc venc es.toList m

theorem rr_lookup {t kt et : TypeId} {r : Nat} {a : α} {m : List (α × β)} {z : Value} (hu : P.underlying t = some (.map kt et)) (M : MapAt h r kenc venc m) (hck : ∀ e, rrun P (Instr.checkKey e 10000 kt (kenc a)) h = some ())
    (hfk : ∀ es : List MapEntry, Ents kenc venc es m → rrun P (Instr.findKey kt (kenc a) es) h = some ((findM a m 0).map fun x => (x.1, venc x.2))) (hz : (P.info? et).bind (·.zero) = some z) :
    rrun P (Instr.lookup t (.map (some r)) (kenc a) true) h = some (.tuple #[match getM m a with | some v => venc v | none => z, .bool (getM m a).isSome]) := by
  obtain ⟨es, clock, hr, hE⟩ := M
  unfold Instr.lookup
  rw [rrun_bnd, rr_underlying, hu, Option.bind_some]
  simp only []
  have hg : rrun P (getObj r) h = some (.map es clock) := by
    unfold getObj
    simp only [rrun, hr, isRow]
  simp only [rrun_bnd, hg, Option.bind_some, rrun_pure, hck, hfk _ hE]
  unfold getM
  cases findM a m 0 with
  | none =>
    have e : ∀ (s : Sem Value) (f : Value → Value), rrun P (f <$> s) h = (rrun P s h).map f := by
      intro s f
      have : f <$> s = s >>= fun x => pure (f x) := by simp
      rw [this, rrun_bnd]
      cases rrun P s h <;> rfl
    simp [rrun_bnd, rrun_pure, e, rr_zeroValue hz]
  | some x => simp [rrun_bnd, rrun_pure]

def setM (a : α) (v : β) : List (α × β) → List (α × β)
  | [] => [(a, v)]
  | x :: xs => if a = x.1 then (a, v) :: xs else x :: setM a v xs

theorem findM_some {a : α} : ∀ {m : List (α × β)} {i j : Nat} {v : β}, findM a m i = some (j, v) → i ≤ j ∧ m[j - i]? = some (a, v)
  | [], i, j, v, h => by cases h
  | x :: xs, i, j, v, h => by
    simp only [findM] at h
    split at h
    · rename_i e; cases h; rw [Nat.sub_self]; exact ⟨Nat.le_refl _, by simp [e]⟩
    · obtain ⟨h1, h2⟩ := findM_some h
      refine ⟨by omega, ?_⟩
      have e : j - i = (j - (i + 1)) + 1 := by omega
      rw [e]; simpa using h2

theorem Ents.push {es : List MapEntry} {m : List (α × β)} (H : Ents kenc venc es m) {a : α} {v : β} {c : Nat} : findM a m 0 = none → Ents kenc venc (es ++ [{ key := kenc a, val := venc v, born := c }]) (setM a v m) := by
  have key : ∀ (es : List MapEntry) (m : List (α × β)), Ents kenc venc es m → ∀ i, findM a m i = none → Ents kenc venc (es ++ [{ key := kenc a, val := venc v, born := c }]) (setM a v m) := by
    intro es m H
    induction H with
    | nil => intro i _; exact .cons rfl rfl .nil
    | @cons e es k v' m h1 h2 _ ih =>
      intro i h
      simp only [findM] at h
      split at h
      · cases h
      · rename_i hne
        simp only [setM, if_neg hne, List.cons_append]
        exact .cons h1 h2 (ih _ h)
  exact key es m H 0

theorem Ents.modify {es : List MapEntry} {m : List (α × β)} (H : Ents kenc venc es m) {a : α} {v v0 : β} {j : Nat} : findM a m 0 = some (j, v0) → Ents kenc venc (es.modify j fun e => { e with key := kenc a, val := venc v }) (setM a v m) := by
  have key : ∀ (es : List MapEntry) (m : List (α × β)), Ents kenc venc es m → ∀ i, findM a m i = some (i + j, v0) → Ents kenc venc (es.modify j fun e => { e with key := kenc a, val := venc v }) (setM a v m) := by
    intro es m H
    induction H generalizing j with
    | nil => intro i h; cases h
    | @cons e es k v' m h1 h2 h3 ih =>
      intro i h
      simp only [findM] at h
      split at h
      · rename_i e
        have : j = 0 := by
          simp only [Option.some.injEq, Prod.mk.injEq] at h; omega
        subst this
        simp only [setM, if_pos e]
        exact .cons rfl rfl h3
      · rename_i hne
        have := (findM_some h).1
        obtain ⟨j', rfl⟩ : ∃ j', j = j' + 1 := ⟨j - 1, by omega⟩
        simp only [setM, if_neg hne, List.modify_succ_cons]
        refine .cons h1 h2 (ih (j := j') (i + 1) ?_)
        rw [h]; congr 2; omega
  intro h
  exact key es m H 0 (by simpa using h)

theorem rr_getObj {r : Nat} {es : Array MapEntry} {clock : Nat} (hr : h r = some (.map es clock)) : rrun P (getObj r) h = some (.map es clock) := by
  unfold getObj
  simp only [rrun, hr, isRow]

theorem arun_mapUpdate {t kt et : TypeId} {r : Nat} {a : α} {v : β} {m : List (α × β)} {K : Unit → Hp → Prop} (hu : P.underlying t = some (.map kt et)) (M : MapAt h r kenc venc m) (hck : ∀ e, rrun P (Instr.checkKey e 10000 kt (kenc a)) h = some ())
    (hfk : ∀ es : List MapEntry, Ents kenc venc es m → rrun P (Instr.findKey kt (kenc a) es) h = some ((findM a m 0).map fun x => (x.1, venc x.2))) (hsb : Instr.sameBits 10000 (kenc a) (kenc a) = true)
    (hK : ∀ es clock, Ents kenc venc es.toList (setM a v m) → K () (h.upd r (.map es clock))) :
    arun P (Instr.mapUpdate t (.map (some r)) (kenc a) (venc v)) h K := by
  obtain ⟨es, clock, hr, hE⟩ := M
  unfold Instr.mapUpdate
  rw [arun_bnd_rr (a := .map kt et) (by rw [rr_underlying, hu])]
  simp only []
  rw [arun_bnd_rr (a := .map es clock) (rr_getObj hr)]
  simp only []
  rw [arun_bnd_rr (a := ()) (hck _), arun_bnd_rr (hfk _ hE)]
  have set : ∀ o, K () (h.upd r o) → arun P (setObj r o) h K := fun o hk => ⟨⟨_, hr, rfl⟩, hk⟩
  cases hf : findM a m 0 with
  | none =>
    simp only [Option.map_none]
    refine set _ (hK _ _ ?_)
    rw [Array.toList_push]
    exact hE.push hf
  | some x =>
    obtain ⟨j, v0⟩ := x
    simp only [Option.map_some]
    obtain ⟨e, he, hke, _⟩ := hE.get (i := j) (x := (a, v0)) (by have := (findM_some hf).2; simpa using this)
    have hes : es[j]? = some e := by simpa using he
    have hks : rrun P (Instr.keyThatStays (((es[j]?).map (·.key)).getD (kenc a)) (kenc a)) h = some (kenc a) := by
      rw [hes]
      unfold Instr.keyThatStays
      simp only [Option.map_some, Option.getD_some, hke, hsb, if_true]
      rfl
    rw [arun_bnd_rr hks]
    refine set _ (hK _ _ ?_)
    rw [Array.toList_modify]
    exact hE.modify hf

theorem arun_makeMap {t : TypeId} {K : Value → Hp → Prop} (hK : ∀ b, h b = none → K (.map (some b)) (h.upd b (.map #[] 0))) : arun P (Instr.makeMap t none) h K := hK
end
end Go.Proofs.Ytncnlfidncjmbaa

/- Room for more; bytes as a string. -/
namespace Go.Proofs.Ytncnlfidncjmbaa
open Go
set_option linter.unusedSimpArgs false
set_option linter.unusedVariables false
section
variable {P : Program} {h : Hp}

/-- append(nil, make(T, n)...), n above 0. -/
theorem arun_extend_nil {sT xT R E sz bytes n : Nat} {k : IntKind} {z : Value} (hs : P.underlying sT = some (.slice E)) (hx : P.underlying xT = some (.int k))
    (hsz : (P.info? E).map (·.size) = some sz) (hby : (P.info? E).map (·.bytes) = some bytes) (hz : (P.info? E).bind (·.zero) = some z) (hb0 : 0 < bytes) (hs0 : 0 < sz) (hzs : z.cells.size = sz)
    {K : Value → Hp → Prop} (hn : 0 < n) (hbd : (2 * n + 770) * bytes ≤ 2 ^ 48)
    (hK : ∀ b cap c, h b = none → n ≤ cap → c.size = cap * sz → K (.slice (some ⟨b, 0, none⟩) n cap) (h.upd b (.cells c E))) :
    arun P (Builtin.append_ #[sT, xT] R #[.slice none 0 0, .int .i64 (n : Int)]) h K := by
  obtain ⟨info, hinfo⟩ : ∃ i, P.info? E = some i := by
    cases hi : P.info? E with
    | none => simp [hi] at hsz
    | some i => exact ⟨i, rfl⟩
  have hbi : info.bytes = bytes := by simpa [hinfo] using hby
  have hzc : ∀ n, (Builtin.zeroCells z.cells n).size = n * sz := by intro n; simp [Builtin.zeroCells, hzs]
  have hn48 : n * bytes ≤ 2 ^ 48 := Nat.le_trans (Nat.mul_le_mul_right _ (by omega)) hbd
  have hnle : n ≤ 2 ^ 48 := Nat.le_trans (Nat.le_mul_of_pos_right _ hb0) hn48
  unfold Builtin.append_
  simp only [aget_0, aget_1]
  rw [arun_bnd_rr (a := .slice E) (by rw [rr_underlying, hs])]
  simp only []
  have hw : IntKind.i64.wrap (n : Int) = (n : Int) := wrap_i64 (by omega) (by omega)
  have hinf : rrun P (typeInfo E) h = some info := by rw [rr_info, hinfo]
  have hmul : ¬ ((n : Int) * (info.bytes : Int) > 2 ^ 48) := by
    rw [hbi]
    have : ((n * bytes : Nat) : Int) ≤ ((2 ^ 48 : Nat) : Int) := Int.ofNat_le.2 hn48
    simp only [Int.natCast_mul] at this
    omega
  have hcap := nextcap_le (n := 0 + n) (c := 0) (by omega)
  have hcapb : ¬ (Builtin.nextslicecap (0 + n) 0 * info.bytes > 2 ^ 48) := by
    rw [hbi]
    have : Builtin.nextslicecap (0 + n) 0 * bytes ≤ (2 * n + 770) * bytes := Nat.mul_le_mul_right _ (by omega)
    omega
  have hmax : IntKind.i64.max = 9223372036854775807 := by decide
  rw [arun_bnd_rr (a := sz) (by rw [rr_sizeOf, hsz]), arun_bnd_rr (a := .int k) (by rw [rr_underlying, hx])]
  simp only []
  rw [arun_bnd_rr (a := true) rfl]
  simp only [if_true]
  rw [arun_bnd_rr (a := (n : Int)) rfl]
  simp only [hw]
  rw [if_neg (by omega), arun_bnd_rr hinf, if_neg hmul, arun_bnd_rr (a := ((n : Int)).toNat) rfl]
  simp only [Int.toNat_natCast]
  rw [if_neg (by omega), arun_bnd_rr hinf, if_neg (by rw [hmax]; rintro ⟨h1, _⟩; omega), arun_bnd_rr hinf, if_neg hcapb]
  refine arun_bind _ _ ?_
  show arun P (Sem.choose _ Sem.pure) h _
  unfold arun
  rw [if_neg (by simp [Question.forced])]
  intro t
  show arun P (Sem.bind _ _) h _
  refine arun_bind _ _ (arun_of_rrun _ hinf ?_)
  refine arun_bind _ _ ?_
  rw [arun_askRoom]
  refine arun_bind _ _ (arun_of_rrun _ (a := #[]) rfl ?_)
  refine arun_bind _ _ (arun_of_rrun _ (a := Builtin.zeroCells z.cells n) ?_ ?_)
  · have h0 : ¬ n * sz = 0 := by
      have := Nat.mul_pos hn hs0
      omega
    simp only [Bool.not_true, Bool.false_eq_true, if_false]
    rw [if_neg h0, rrun_bnd, rr_zeroValue hz]; rfl
  refine arun_bind _ _ (arun_of_rrun _ (rr_zeroValue hz) ?_)
  intro b hb
  have key : ∀ cap', n ≤ cap' → K (.slice (some ⟨b, 0, none⟩) (0 + n) cap') (h.upd b (.cells (#[] ++ Builtin.zeroCells z.cells n ++ Builtin.zeroCells z.cells (cap' - (0 + n))) E)) := by
    intro cap' hc
    rw [Nat.zero_add]
    refine hK b cap' _ hb hc ?_
    obtain ⟨d, rfl⟩ : ∃ d, cap' = n + d := ⟨cap' - n, by omega⟩
    simp only [Array.size_append, hzc, Nat.add_sub_cancel_left, Nat.add_mul]
    simp
  exact key _ (by simp only [Question.cut]; omega)
end
end Go.Proofs.Ytncnlfidncjmbaa

/- Frames: what a call may change, what it owns behind; slices' shapes. -/
namespace Go.Proofs.Ytncnlfidncjmbaa
open Go
set_option linter.unusedSimpArgs false

/-- All blocks but those of O stay; those of O' are of O or new. -/
structure Fr (h h' : Hp) (O O' : List Nat) : Prop where
  keep : ∀ x o, h x = some o → x ∉ O → h' x = some o
  own : ∀ x, x ∈ O' → x ∈ O ∨ h x = none

theorem Fr.refl (h : Hp) (O : List Nat) : Fr h h O O := ⟨fun _ _ e _ => e, fun _ e => .inl e⟩

theorem Fr.trans {h h1 h2 : Hp} {O O1 O2 : List Nat} (a : Fr h h1 O O1) (b : Fr h1 h2 O1 O2) : Fr h h2 O O2 := by
  refine ⟨fun x o e n => b.keep x o (a.keep x o e n) (fun m => ?_), fun x m => ?_⟩
  · rcases a.own x m with q | q
    · exact n q
    · rw [e] at q; cases q
  · rcases b.own x m with q | q
    · exact a.own x q
    · cases e : h x with
      | none => exact .inr rfl
      | some o =>
        by_cases hO : x ∈ O
        · exact .inl hO
        · rw [a.keep x o e hO] at q; cases q

theorem Fr.of_le {h h' : Hp} {O O' : List Nat} (l : Le h h') (f : ∀ x, x ∈ O' → x ∈ O ∨ h x = none) : Fr h h' O O' := ⟨fun x o e _ => l x o e, f⟩

/-- What is owned is not of an older heap: that stays. -/
theorem Fr.le {g h h' : Hp} {O O' : List Nat} (a : Fr h h' O O') (l : Le g h) (n : ∀ x, x ∈ O → g x = none) : Le g h' := fun x o e => a.keep x o (l x o e) (fun m => by rw [n x m] at e; cases e)

theorem upd_ne {h : Hp} {b x : Nat} {o : Obj} (n : x ≠ b) : (h.upd b o) x = h x := by rw [upd_get, if_neg n]
theorem upd_same {h : Hp} {b : Nat} {o : Obj} : (h.upd b o) b = some o := by rw [upd_get, if_pos rfl]

/-- A write into an own block. -/
theorem Fr.upd {h : Hp} {O : List Nat} {b : Nat} {o : Obj} (m : b ∈ O) : Fr h (h.upd b o) O O :=
  ⟨fun x _ e n => by rw [upd_ne]; exact e; rintro rfl; exact n m, fun _ e => .inl e⟩

theorem none_of_le {h g : Hp} {b : Nat} (L : Le h g) (hb : g b = none) : h b = none := by
  cases hh : h b with
  | none => rfl
  | some o => rw [L _ _ hh] at hb; cases hb

theorem Fr.new {g h h' : Hp} {O O' : List Nat} (a : Fr h h' O O') (l : Le g h) (n : ∀ x, x ∈ O → g x = none) : ∀ x, x ∈ O' → g x = none := fun x m => by
  rcases a.own x m with q | q
  · exact n x q
  · exact none_of_le l q

/-- Another one's blocks stay its own. -/
theorem Fr.apart {h h' : Hp} {O O' R : List Nat} (a : Fr h h' O O') (al : ∀ x, x ∈ R → ∃ o, h x = some o) (d : ∀ x, x ∈ R → x ∉ O) : ∀ x, x ∈ R → x ∉ O' := fun x m m' => by
  rcases a.own x m' with q | q
  · exact d x m q
  · obtain ⟨o, e⟩ := al x m; rw [e] at q; cases q

theorem Fr.alive {h h' : Hp} {O O' R : List Nat} (a : Fr h h' O O') (al : ∀ x, x ∈ R → ∃ o, h x = some o) (d : ∀ x, x ∈ R → x ∉ O) : ∀ x, x ∈ R → ∃ o, h' x = some o := fun x m => by
  obtain ⟨o, e⟩ := al x m
  exact ⟨o, a.keep x o e (d x m)⟩

theorem Grew.fr {h h' : Hp} {v v' : Value} (G : Grew h h' v v') : Fr h h' (blkOf v).toList (blkOf v').toList := by
  refine ⟨fun x o e n => G.keep x o e (fun q => n (by rw [← q]; simp)), fun x m => ?_⟩
  rcases G.fresh with q | q
  · rw [q] at m; exact .inl m
  · exact .inr (q x (by simpa using m))

section
variable {α : Type} {h h' : Hp} {E sz : Nat} {enc : α → List Value} {v : Value} {xs : List α}

theorem SlAt.at' {i : Nat} {x : α} (S : SlAt h E sz enc v xs) (hx : xs[i]? = some x) :
    ∃ b cap c, v = .slice (some ⟨b, 0, none⟩) xs.length cap ∧ h b = some (.cells c E (0, 0)) ∧ ∀ j, j < sz → c[i * sz + j]? = (enc x)[j]? := by
  rcases S with ⟨_, rfl⟩ | ⟨b, cap, c, rfl, hb, h1, h2, h3⟩
  · simp at hx
  · exact ⟨b, cap, c, rfl, hb, fun j hj => by have := h3 i x hx j hj; rwa [Nat.zero_add] at this⟩

theorem SlAt.shape' (S : SlAt h E sz enc v xs) : ∃ p cap, v = .slice p xs.length cap := by
  rcases S with ⟨rfl, rfl⟩ | ⟨b, cap, c, rfl, _⟩
  · exact ⟨_, _, rfl⟩
  · exact ⟨_, _, rfl⟩

theorem SlAt.le' (S : SlAt h E sz enc v xs) (l : Le h h') : SlAt h' E sz enc v xs := S.keep (fun _ _ _ e => l _ _ e)

theorem SlAt.alive (S : SlAt h E sz enc v xs) {b : Nat} (hb : blkOf v = some b) : ∃ o, h b = some o := by
  rcases S with ⟨rfl, rfl⟩ | ⟨b, cap, c, rfl, hb', _⟩
  · cases hb
  · cases hb; exact ⟨_, hb'⟩

theorem SlAt.fr {O O' : List Nat} (S : SlAt h E sz enc v xs) (F : Fr h h' O O') (n : ∀ b, blkOf v = some b → b ∉ O) : SlAt h' E sz enc v xs := S.keep (fun b o e q => F.keep b o q (n b e))

/-- The first ones of a slice. -/
theorem SlAt.take {b cap : Nat} (S : SlAt h E sz enc (.slice (some ⟨b, 0, none⟩) xs.length cap) xs) (n : Nat) (hn : n ≤ xs.length) : SlAt h E sz enc (.slice (some ⟨b, 0, none⟩) n cap) (xs.take n) := by
  rcases S with ⟨e, rfl⟩ | ⟨b', cap', c, e, hb, h1, h2, h3⟩
  · cases e
  · cases e
    refine .inr ⟨_, _, c, by rw [List.length_take, Nat.min_eq_left hn], hb, by rw [List.length_take]; omega, h2, fun i x hx j hj => h3 i x ?_ j hj⟩
    rw [List.getElem?_take] at hx
    split at hx
    · exact hx
    · cases hx
end

/-- x[i:j], within a block. -/
theorem rr_slice_part {P : Program} {h : Hp} {t e : TypeId} {sz b o len cap : Nat} {i j : Int} (hu : P.underlying t = some (.slice e)) (hs : (P.info? e).map (·.size) = some sz) (h0 : 0 ≤ i) (h1 : i ≤ j) (h2 : j ≤ (cap : Int)) (h3 : i < (cap : Int)) :
    rrun P (Instr.sliceAt t (.slice (some ⟨b, o, none⟩) len cap) (some (.int .i64 i)) (some (.int .i64 j)) none) h = some (.slice (some ⟨b, o + i.toNat * sz, none⟩) (j.toNat - i.toNat) (cap - i.toNat)) := by
  unfold Instr.sliceAt
  rw [rrun_bnd, rr_underlying, hu, Option.bind_some]
  simp only
  unfold Instr.slice
  rw [rrun_bnd, rr_underlying, hu, Option.bind_some]
  simp only
  have hb : rrun P (Instr.sliceBounds true len cap (some (.int .i64 i)) (some (.int .i64 j)) none) h = some (i.toNat, j.toNat, cap) := by
    unfold Instr.sliceBounds
    simp only [rrun_bnd, rrun_pure, Option.bind_some, if_true]
    rw [rr_sliceBound (by omega) h2, Option.bind_some, rr_sliceBound h0 (by omega)]; rfl
  rw [rrun_bnd, hb, Option.bind_some]
  simp only [rrun_bnd, rr_sizeOf, hs, Option.bind_some, rrun_pure]
  rw [if_neg (by omega)]
  simp only [Option.map_some, add_none]

theorem sq_rg {r s : Env → Hp → (Env → Hp → Prop) → Prop} {D : Den} : sq (rg r) (sq (rg s) D) = sq (rg fun env h K => r env h fun env h => s env h K) D := rfl

/-! ### One more element -/
theorem arun_snoc {P : Program} {α : Type} {sT xT R E E2 E3 sz bytes : Nat} {z : Value} (hs : P.underlying sT = some (.slice E)) (hx : P.underlying xT = some (.slice E2))
    (hsz : (P.info? E).map (·.size) = some sz) (hby : (P.info? E).map (·.bytes) = some bytes) (hz : (P.info? E).bind (·.zero) = some z) (hb0 : 0 < bytes) (hzs : z.cells.size = sz)
    {h : Hp} {enc : α → List Value} {v : Value} {xs : List α} {y : α} {k : Nat → Value → Hp → Prop} (S : SlAt h E sz enc v xs) (hl : (enc y).length = sz) (ho : ∀ u ∈ enc y, oneCell u = true) (hbd : (2 * (xs.length + 1) + 770) * bytes ≤ 2 ^ 48)
    (K : ∀ b v' h', SlAt h' E sz enc v' (xs ++ [y]) → Grew h h' v v' → h b = none → k b v' h') :
    ∀ b, h b = none → arun P (Builtin.append_ #[sT, xT] R #[v, .slice (some ⟨b, 0, none⟩) 1 1]) (h.upd b (.cells (enc y).toArray E3 (0, 0))) (k b) := by
  intro b hb
  have L : Le h (h.upd b (.cells (enc y).toArray E3 (0, 0))) := .new hb
  refine arun_cat hs hx hsz hby hz hb0 hzs (S.keep fun _ _ _ e => L _ _ e) (ys := [y]) ⟨by simpa using ⟨hl, ho⟩, .inr ⟨b, 0, 1, _, _, _, rfl, upd_same, by simp [hl], fun i x hx j hj => ?_⟩⟩ hbd (fun v' h' S' G => K b v' h' S' ⟨fun x o e n => G.keep x o (L _ _ e) n, ?_⟩ hb)
  · rcases i with _ | i
    · simp at hx; subst hx; simp
    · simp at hx
  · rcases G.fresh with q | q
    · exact .inl q
    · exact .inr fun b' e => none_of_le L (q b' e)

/-! ### Maps: what is found -/
theorem findM_map {α β : Type} [DecidableEq α] {a : α} : ∀ (m : List (α × β)) (i j : Nat), (findM a m i).map (·.2) = (findM a m j).map (·.2)
  | [], _, _ => rfl
  | x :: xs, i, j => by
    simp only [findM]
    split
    · rfl
    · exact findM_map xs _ _

theorem getM_nil {α β : Type} [DecidableEq α] {a : α} : getM ([] : List (α × β)) a = none := rfl
theorem getM_cons {α β : Type} [DecidableEq α] {a : α} {x : α × β} {xs : List (α × β)} : getM (x :: xs) a = if a = x.1 then some x.2 else getM xs a := by
  unfold getM
  simp only [findM]
  split
  · rfl
  · exact findM_map _ _ _

theorem getM_setM {α β : Type} [DecidableEq α] {a b : α} {v : β} : ∀ {m : List (α × β)}, getM (setM a v m) b = if b = a then some v else getM m b
  | [] => by simp [setM, getM_cons, getM_nil]
  | x :: xs => by
    simp only [setM]
    split
    · rename_i e
      rw [getM_cons, getM_cons]
      by_cases hb : b = a
      · simp [hb]
      · rw [if_neg hb, if_neg hb, if_neg (by rw [← e]; exact hb)]
    · rename_i e
      rw [getM_cons, getM_cons, getM_setM]
      by_cases hb : b = a
      · rw [if_neg (by rw [hb]; exact e), if_pos hb, if_pos hb]
      · rw [if_neg hb]; simp [hb]
end Go.Proofs.Ytncnlfidncjmbaa

/- Strings out of bytes, and their comparison. -/
namespace Go.Proofs.Ytncnlfidncjmbaa
open Go
set_option linter.unusedSimpArgs false

def be (x : Nat) : List Value := [.int .u8 (x : Nat)]
def mkB (xs : List Nat) : ByteArray := xs.foldl (fun r n => r.push (UInt8.ofNat n)) ByteArray.empty

section
variable {P : Program} {h : Hp}

@[simp] theorem rr_eql_str {t : TypeId} {x y : Operand} {a b : ByteArray} : rrun P (bop .eql t x y (.string a) (.string b)) h = some (.bool (a.toList == b.toList)) := rfl
@[simp] theorem rr_neq_str {t : TypeId} {x y : Operand} {a b : ByteArray} : rrun P (bop .neq t x y (.string a) (.string b)) h = some (.bool (!(a.toList == b.toList))) := rfl

theorem rr_forIn_bytes (f : Value → ByteArray → Sem (ForInStep ByteArray)) (hf : ∀ (n : Nat) (r : ByteArray), rrun P (f (.int .u8 (n : Nat)) r) h = some (.yield (r.push (UInt8.ofNat n)))) :
    ∀ (ns : List Nat) (s : ByteArray), rrun P (forIn (ns.map fun n => Value.int .u8 (n : Nat)) s f) h = some (ns.foldl (fun r n => r.push (UInt8.ofNat n)) s) := by
  intro ns
  induction ns with
  | nil => intro s; simp [rrun_pure]
  | cons n ns ih =>
    intro s
    simp only [List.map_cons, List.forIn_cons, rrun_bnd, hf, Option.bind_some, List.foldl_cons]
    exact ih _

theorem rr_bytesToString {b o len cap : Nat} {xs : List Nat} (hl : ldN h b o len = some (xs.map fun n => Value.int .u8 (n : Nat))) : rrun P (Conv.bytesToString (.slice (some ⟨b, o, none⟩) len cap)) h = some (.string (mkB xs)) := by
  unfold Conv.bytesToString
  simp only [rrun_bnd]
  rw [rr_loadCells, hl]
  simp only [Option.map_some, Option.bind_some, List.forIn_toArray, rrun_bnd]
  rw [rr_forIn_bytes _ (by intro n r; simp [rrun_pure])]
  simp [rrun_pure, mkB]

theorem rr_convert_bytes {src dst e : TypeId} {v : Value} {E : TypeId} {xs : List Nat} (hs : P.underlying src = some (.slice e)) (he : P.underlying e = some (.int .u8)) (hd : P.underlying dst = some .string) (S : SlAt h E 1 be v xs) :
    rrun P (convert src dst v) h = some (.string (mkB xs)) := by
  have key : ∀ a l c, rrun P (convert src dst (.slice a l c)) h = rrun P (Conv.bytesToString (.slice a l c)) h := by
    intro a l c
    unfold convert
    simp only [rrun_bnd, rr_underlying, hs, hd, he, Option.bind_some]
  rcases S with ⟨rfl, rfl⟩ | ⟨b, cap, c, rfl, hb, h1, h2, h3⟩
  · rw [key]; rfl
  · rw [key]
    refine rr_bytesToString ?_
    rw [ldN_of hb _ _ (by omega)]
    congr 1
    refine List.ext_getElem? fun i => ?_
    rw [List.getElem?_take, List.getElem?_map, Nat.mul_one] at *
    split
    · rename_i hi
      obtain ⟨x, hx⟩ : ∃ x, xs[i]? = some x := ⟨_, List.getElem?_eq_getElem hi⟩
      have := h3 i x hx 0 (by omega)
      rw [hx]
      simpa [be] using this
    · rename_i hi
      rw [List.getElem?_eq_none (by omega)]; rfl

theorem arun_convert_bytes {src dst e : TypeId} {v : Value} {E : TypeId} {xs : List Nat} {K : Value → Hp → Prop} (hs : P.underlying src = some (.slice e)) (he : P.underlying e = some (.int .u8)) (hd : P.underlying dst = some .string) (S : SlAt h E 1 be v xs)
    (hK : K (.string (mkB xs)) h) : arun P (convert src dst v) h K := arun_of_rrun _ (rr_convert_bytes hs he hd S) hK
end
end Go.Proofs.Ytncnlfidncjmbaa

/- Maps: taking away, how many, a look at the value alone; lists of pairs. -/
namespace Go.Proofs.Ytncnlfidncjmbaa
open Go
set_option linter.unusedSimpArgs false
set_option linter.unusedVariables false

def delM {α β : Type} [DecidableEq α] (a : α) : List (α × β) → List (α × β)
  | [] => []
  | x :: xs => if a = x.1 then xs else x :: delM a xs

def Uniq {α β : Type} (m : List (α × β)) : Prop := (m.map (·.1)).Nodup

section
variable {α β : Type} [DecidableEq α]

theorem getM_none {a : α} : ∀ {m : List (α × β)}, getM m a = none ↔ a ∉ m.map (·.1)
  | [] => by simp [getM_nil]
  | x :: xs => by
    rw [getM_cons, List.map_cons, List.mem_cons]
    split
    · rename_i h; simp [h]
    · rename_i h
      rw [getM_none (m := xs)]
      simp [h]

theorem getM_mem {a : α} {v : β} : ∀ {m : List (α × β)}, getM m a = some v → (a, v) ∈ m
  | [], h => by simp [getM_nil] at h
  | x :: xs, h => by
    rw [getM_cons] at h
    split at h
    · rename_i e; simp at h; subst h; subst e; simp
    · exact List.mem_cons_of_mem _ (getM_mem h)

theorem getM_of_mem {a : α} {v : β} : ∀ {m : List (α × β)}, Uniq m → (a, v) ∈ m → getM m a = some v
  | [], _, h => by simp at h
  | x :: xs, u, h => by
    rw [getM_cons]
    unfold Uniq at u
    rw [List.map_cons, List.nodup_cons] at u
    rcases List.mem_cons.1 h with e | e
    · rw [← e]; simp
    · have : a ≠ x.1 := fun q => u.1 (by rw [← q]; exact List.mem_map_of_mem e)
      rw [if_neg this]
      exact getM_of_mem u.2 e

theorem setM_keys {a : α} {v : β} : ∀ {m : List (α × β)}, (setM a v m).map (·.1) = if a ∈ m.map (·.1) then m.map (·.1) else m.map (·.1) ++ [a]
  | [] => by simp [setM]
  | x :: xs => by
    simp only [setM]
    split
    · rename_i e; simp [e]
    · rename_i e
      rw [List.map_cons, setM_keys]
      by_cases h : a ∈ xs.map (·.1)
      · rw [if_pos h, if_pos (by simp only [List.map_cons, List.mem_cons]; exact .inr h)]; rfl
      · rw [if_neg h, if_neg (by simp only [List.map_cons, List.mem_cons, not_or]; exact ⟨e, h⟩)]; rfl

theorem Uniq.set {a : α} {v : β} {m : List (α × β)} (u : Uniq m) : Uniq (setM a v m) := by
  unfold Uniq at *
  rw [setM_keys]
  split
  · exact u
  · rename_i h
    rw [List.nodup_append]
    refine ⟨u, by simp, fun x hx y hy => ?_⟩
    simp at hy; subst hy
    rintro rfl; exact h hx

theorem setM_length {a : α} {v : β} {m : List (α × β)} : (setM a v m).length = if (getM m a).isSome then m.length else m.length + 1 := by
  have := congrArg List.length (setM_keys (a := a) (v := v) (m := m))
  rw [List.length_map] at this
  rw [this]
  by_cases h : a ∈ m.map (·.1)
  · have h2 : getM m a ≠ none := fun q => (getM_none.1 q) h
    rw [if_pos h, if_pos (Option.isSome_iff_ne_none.2 h2), List.length_map]
  · have h2 := getM_none.2 h
    rw [if_neg h, h2]; simp

theorem delM_sub {a : α} : ∀ {m : List (α × β)}, List.Sublist (delM a m) m
  | [] => .slnil
  | x :: xs => by
    simp only [delM]
    split
    · exact List.sublist_cons_self _ _
    · exact List.Sublist.cons_cons _ delM_sub

theorem Uniq.del {a : α} {m : List (α × β)} (u : Uniq m) : Uniq (delM a m) := List.Sublist.nodup (delM_sub.map _) u

theorem getM_delM {a b : α} : ∀ {m : List (α × β)}, Uniq m → getM (delM a m) b = if b = a then none else getM m b
  | [], _ => by simp [delM, getM_nil]
  | x :: xs, u => by
    have u' := u
    unfold Uniq at u
    rw [List.map_cons, List.nodup_cons] at u
    simp only [delM]
    split
    · rename_i e
      by_cases hb : b = a
      · rw [if_pos hb, hb, e]; exact getM_none.2 u.1
      · rw [if_neg hb, getM_cons, if_neg (by rw [← e]; exact hb)]
    · rename_i e
      rw [getM_cons, getM_cons, getM_delM u.2]
      by_cases hb : b = a
      · rw [if_neg (by rw [hb]; exact e), if_pos hb, if_pos hb]
      · rw [if_neg hb]; simp [hb]

theorem delM_length {a : α} : ∀ {m : List (α × β)}, (delM a m).length = if (getM m a).isSome then m.length - 1 else m.length
  | [] => by simp [delM, getM_nil]
  | x :: xs => by
    simp only [delM]
    rw [getM_cons]
    split
    · simp
    · rw [List.length_cons, delM_length]
      cases h : getM xs a with
      | none => simp
      | some v =>
        have := getM_mem h
        have : 0 < xs.length := List.length_pos_of_mem this
        simp; omega
end

section
variable {P : Program} {h : Hp} {α β : Type} [DecidableEq α] {kenc : α → Value} {venc : β → Value}

theorem Ents.length_eq {α β : Type} {kenc : α → Value} {venc : β → Value} {es : List MapEntry} {m : List (α × β)} (H : Ents kenc venc es m) : es.length = m.length := by
  induction H with
  | nil => rfl
  | cons _ _ _ ih => simp [ih]

theorem Ents.erase {es : List MapEntry} {m : List (α × β)} (H : Ents kenc venc es m) {a : α} {v : β} {j : Nat} : findM a m 0 = some (j, v) → Ents kenc venc (es.eraseIdx j) (delM a m) := by
  have key : ∀ (es : List MapEntry) (m : List (α × β)), Ents kenc venc es m → ∀ i j, findM a m i = some (i + j, v) → Ents kenc venc (es.eraseIdx j) (delM a m) := by
    intro es m H
    induction H with
    | nil => intro i j h; cases h
    | @cons e es k v' m h1 h2 h3 ih =>
      intro i j h
      simp only [findM] at h
      split at h
      · rename_i e
        have : j = 0 := by simp only [Option.some.injEq, Prod.mk.injEq] at h; omega
        subst this
        simp only [delM, if_pos e, List.eraseIdx_zero, List.tail_cons]
        exact h3
      · rename_i hne
        have := (findM_some h).1
        obtain ⟨j', rfl⟩ : ∃ j', j = j' + 1 := ⟨j - 1, by omega⟩
        simp only [delM, if_neg hne, List.eraseIdx_cons_succ]
        exact .cons h1 h2 (ih (i + 1) j' (by rw [h]; congr 2; omega))
  intro h
  exact key es m H 0 j (by simpa using h)

theorem delM_none {α β : Type} [DecidableEq α] {a : α} : ∀ {m : List (α × β)}, getM m a = none → delM a m = m
  | [], _ => rfl
  | x :: xs, h => by
    rw [getM_cons] at h
    split at h
    · cases h
    · rename_i e
      simp only [delM, if_neg e]
      rw [delM_none h]

theorem arun_mapDelete {t kt et R : TypeId} {ts : Array TypeId} {r : Nat} {a : α} {m : List (α × β)} {K : Value → Hp → Prop} (ht : ts[0]? = some t) (hu : P.underlying t = some (.map kt et)) (M : MapAt h r kenc venc m)
    (hck : ∀ e, rrun P (Instr.checkKey e 10000 kt (kenc a)) h = some ())
    (hfk : ∀ es : List MapEntry, Ents kenc venc es m → rrun P (Instr.findKey kt (kenc a) es) h = some ((findM a m 0).map fun x => (x.1, venc x.2)))
    (hK : ∀ es clock, Ents kenc venc es.toList (delM a m) → K (.tuple #[]) (h.upd r (.map es clock))) :
    arun P (Builtin.delete_ ts R #[.map (some r), kenc a]) h K := by
  obtain ⟨es, clock, hr, hE⟩ := M
  have set : ∀ o, K (.tuple #[]) (h.upd r o) → arun P (setObj r o >>= fun _ => pure (Value.tuple #[])) h K := fun o hk => ⟨⟨_, hr, rfl⟩, hk⟩
  unfold Builtin.delete_
  rw [ht]
  simp only [List.getElem?_toArray, List.getElem?_cons_zero, List.getElem?_cons_succ]
  rw [arun_bnd_rr (a := .map kt et) (by rw [rr_underlying, hu])]
  simp only [bind_assoc, pure_bind]
  rw [arun_bnd_rr (a := .map es clock) (rr_getObj hr)]
  simp only []
  rw [arun_bnd_rr (a := ()) (hck _), arun_bnd_rr (hfk _ hE)]
  cases hf : findM a m 0 with
  | none =>
    simp only [Option.map_none]
    refine set _ (hK _ _ ?_)
    have : delM a m = m := delM_none (by unfold getM; rw [hf]; rfl)
    rw [this]; exact hE
  | some x =>
    obtain ⟨j, v⟩ := x
    simp only [Option.map_some]
    have hj := (findM_some hf).2
    have hlt : j < es.size := by
      have h1 := (List.getElem?_eq_some_iff.1 hj).1
      have h2 := hE.length_eq
      rw [Array.length_toList] at h2
      omega
    refine set _ (hK _ _ ?_)
    rw [Array.toList_eraseIdxIfInBounds]
    exact hE.erase hf

end

theorem rr_mapLen {P : Program} {h : Hp} {α β : Type} {kenc : α → Value} {venc : β → Value} {t kt et R : TypeId} {ts : Array TypeId} {r : Nat} {m : List (α × β)} (ht : ts[0]? = some t) (hu : P.underlying t = some (.map kt et)) (M : MapAt h r kenc venc m) :
    rrun P (Builtin.len_ ts R #[.map (some r)]) h = some (.int .i64 (m.length : Nat)) := by
  obtain ⟨es, clock, hr, hE⟩ := M
  unfold Builtin.len_
  rw [ht]
  simp only [List.getElem?_toArray, List.getElem?_cons_zero]
  rw [rrun_bnd, rr_underlying, hu, Option.bind_some]
  simp only []
  rw [rrun_bnd, rr_getObj hr, Option.bind_some]
  simp only [rrun_pure]
  rw [← hE.length_eq, Array.length_toList]; rfl

/-! ### Slices as sources -/
theorem SlAt.toSrc {α : Type} {h : Hp} {E sz : Nat} {enc : α → List Value} {v : Value} {xs : List α} (S : SlAt h E sz enc v xs) (hl : ∀ y ∈ xs, (enc y).length = sz ∧ ∀ u ∈ enc y, oneCell u = true) : Src h sz enc v xs := by
  refine ⟨hl, ?_⟩
  rcases S with ⟨rfl, rfl⟩ | ⟨b, cap, c, rfl, hb, h1, h2, h3⟩
  · exact .inl ⟨_, _, rfl, rfl⟩
  · exact .inr ⟨b, 0, cap, c, E, (0, 0), rfl, hb, by have := Nat.mul_le_mul_right sz h1; omega, h3⟩

theorem one_sl {α : Type} {h : Hp} {E sz : Nat} {enc : α → List Value} {b : Nat} {y : α} (hb : h b = some (.cells (enc y).toArray E (0, 0))) (hl : (enc y).length = sz) : SlAt h E sz enc (.slice (some ⟨b, 0, none⟩) 1 1) [y] := by
  refine .inr ⟨b, 1, _, rfl, hb, by simp, by simp [hl], fun i x hx j hj => ?_⟩
  have hi : i = 0 := by have := (List.getElem?_eq_some_iff.1 hx).1; simpa using this
  subst hi
  simp at hx; subst hx
  simp
end Go.Proofs.Ytncnlfidncjmbaa

/- Rules that keep simp out of what is done behind an operation that it can't work off: to be imported by texts that want it. -/
namespace Go.Proofs.Ytncnlfidncjmbaa
open Go

section
variable {P : Program} {h : Hp}
@[congr] theorem rdv_stop {o o' : Option Value} {k : Value → Prop} {r : Unit → Prop} (e : o = o') (_t : ∀ u : Unit, (True ∧ True) = r u) : rdv o k = rdv o' k := by rw [e]
@[congr] theorem rd_stop {s s' : Sem Value} {k : Value → Prop} {r : Unit → Prop} (e : s = s') (_t : ∀ u : Unit, (True ∧ True) = r u) : rd P s h k = rd P s' h k := by rw [e]
@[congr] theorem arun_stop {α : Type} {s s' : Sem α} {k : α → Hp → Prop} {r : Unit → Prop} (e : s = s') (_t : ∀ u : Unit, (True ∧ True) = r u) : arun P s h k = arun P s' h k := by rw [e]
@[congr] theorem Ok_stop {f : Nat} {a a' : Array Value} {k : Value → Hp → Prop} {r : Unit → Prop} (e : a = a') (_t : ∀ u : Unit, (True ∧ True) = r u) : Ok P f a h k = Ok P f a' h k := by rw [e]
@[congr] theorem callV_stop {v v' : Value} {a a' : Array Value} {k : Value → Hp → Prop} {r : Unit → Prop} (e0 : v = v') (e : a = a') (_t : ∀ u : Unit, (True ∧ True) = r u) : callV P v a h k = callV P v' a' h k := by rw [e0, e]
@[congr] theorem nck_stop {x x' : Value} {q : Prop} {r : Unit → Prop} (e : x = x') (_t : ∀ u : Unit, (True ∧ True) = r u) : nck x q = nck x' q := by rw [e]
@[congr] theorem gd_stop {c c' : Bool} {ex : Hp → (Value → Hp → Prop) → Prop} {k : Value → Hp → Prop} {r : Unit → Prop} (e : c = c') (_t : ∀ u : Unit, (True ∧ True) = r u) : gd c ex h k = gd c' ex h k := by rw [e]
@[congr] theorem stw_stop {c c' : Option Value} {f f' : Bool} {q : Prop} {r : Unit → Prop} (e : c = c') (e2 : f = f') (_t : ∀ u : Unit, (True ∧ True) = r u) : stw c f q = stw c' f' q := by rw [e, e2]
@[congr] theorem brv_stop {v v' : Value} {x y : Prop} {r : Unit → Prop} (e : v = v') (_t : ∀ u : Unit, (True ∧ True) = r u) : brv v x y = brv v' x y := by rw [e]
@[congr] theorem stA_stop {h h' : Hp} {b o : Nat} {l l' : List Value} {k : Hp → Prop} {r : Unit → Prop} (e0 : h = h') (e : l = l') (_t : ∀ u : Unit, (True ∧ True) = r u) : stA h b o l k = stA h' b o l' k := by rw [e0, e]
end
end Go.Proofs.Ytncnlfidncjmbaa

/- slices.SortFunc at structs: the kit's contract, turned to partial heaps. -/
namespace Go.Proofs.Ytncnlfidncjmbaa
open Go
open Go.Sort (SWO PermIn SortedIn)
open Go.Shelf (Ren)
set_option linter.unusedSimpArgs false
set_option linter.unusedVariables false

/-- What a call from nowhere leaves: all that was, and more. -/
theorem Keep.grown {W w' : World} {h' : Hp} (K : Keep noHp W h' w') : ∃ q os', w' = Go.Sort.grow (W.drewN q) os' := by
  refine ⟨w'.drawn - W.drawn, w'.heap.extract W.heap.size w'.heap.size, ?_⟩
  obtain ⟨k1, k2, k3, k4, k5, _, k7⟩ := K
  unfold Go.Sort.grow World.drewN
  cases w' with
  | mk heap tape drawn os output =>
    simp only at k1 k2 k3 k4 k5 k7 ⊢
    subst k1 k2 k3
    congr 1
    · refine Array.ext_getElem? fun i => ?_
      rw [Array.getElem?_append]
      split
      · rename_i hi; exact k5 i hi rfl
      · rename_i hi
        rw [Array.getElem?_extract]
        split
        · congr 1; omega
        · rw [Array.getElem?_eq_none (by omega)]
    · omega

theorem sw_heap {α : Type} [Inhabited α] {enc : α → List Value} {k b n : Nat} {w : World} {d : Array α} {os : Array Obj} {i : Nat} (hi : i < w.heap.size) :
    (sortWorldK enc k w b 0 n d os).heap[i]? = if b = i then (w.heap[i]?).map (Go.Sort.onCells (Go.Sort.putCells id 0 (Go.Sort.flatK enc k d))) else w.heap[i]? := by
  unfold sortWorldK Go.Sort.grow Go.Sort.putRowK Go.Sort.putRow Go.Sort.mapBlock Go.Sort.ahead
  simp only []
  rw [Array.getElem?_append_left (by simpa using hi), Array.getElem?_modify]

theorem enc_flat {α : Type} [Inhabited α] {enc : α → List Value} {k : Nat} {c : Array Value} {d : Array α} (hk : ∀ x, (enc x).length = k) (hl : d.size * k ≤ c.size) : Enc (Go.Sort.putCells id 0 (Go.Sort.flatK enc k d) c) 0 k enc d.toList := by
  intro i x hx j hj
  have hi : i < d.size := by have := (List.getElem?_eq_some_iff.1 hx).1; simpa using this
  have hlt : i * k + j < d.size * k := by
    have : (i + 1) * k ≤ d.size * k := Nat.mul_le_mul_right _ hi
    rw [Nat.add_mul] at this; omega
  unfold Go.Sort.putCells
  rw [Array.getElem?_mapIdx, Nat.zero_add, Array.getElem?_eq_getElem (by omega), Option.map_some, if_pos ⟨by omega, by rw [Go.Sort.size_flatK]; omega⟩, Nat.sub_zero]
  rw [Go.Sort.get_flatK _ _ _ _ hlt]
  have e1 : (i * k + j) / k = i := (Go.Sort.blk_iff k i _ (by omega)).1 ⟨by omega, by omega⟩
  have e2 : (i * k + j) % k = j := by rw [Nat.mod_eq_sub_div_mul, e1]; omega
  rw [e1, e2]
  have hx' : d[i]! = x := by
    rw [getElem!_pos d i hi]
    have := (List.getElem?_eq_some_iff.1 hx).2
    simpa using this
  rw [hx']
  have hlj : j < (enc x).length := by rw [hk]; exact hj
  rw [List.getElem?_eq_getElem hlj, id, getElem!_pos _ j hlj]

theorem holds_of {α : Type} [Inhabited α] {enc : α → List Value} {k b E : Nat} {c : Array Value} {d : List α} {w : World} (hk : ∀ x, (enc x).length = k) (hb : w.heap[b]? = some (.cells c E (0, 0))) (hl : d.length * k ≤ c.size) (henc : Enc c 0 k enc d) :
    Go.Sort.HoldsK enc k w b 0 d.toArray := by
  intro t ht
  rw [Go.Sort.size_flatK] at ht
  have ht' : t < d.length * k := by simpa using ht
  have k0 : 0 < k := by rcases Nat.eq_zero_or_pos k with h | h
                        · subst h; simp at ht'
                        · exact h
  have hi : t / k < d.length := by rw [Nat.div_lt_iff_lt_mul k0]; exact ht'
  have hj : t % k < k := Nat.mod_lt _ k0
  have e : t / k * k + t % k = t := by rw [Nat.mul_comm]; exact Nat.div_add_mod t k
  constructor
  · rw [Go.Sort.get_flatK _ _ _ _ ht]
    have := henc (t / k) (d[t / k]'hi) (List.getElem?_eq_getElem hi) (t % k) hj
    have hlj : t % k < (enc (d[t / k]'hi)).length := by rw [hk]; exact hj
    rw [Nat.zero_add, e, List.getElem?_eq_getElem hlj] at this
    unfold World.cell?
    simp only [hb]
    rw [Nat.zero_add]
    simp only [Option.isSome_none, Bool.false_eq_true, if_false]
    rw [this]
    have e9 : (d.toArray)[t / k]! = d[t / k]'hi := by rw [getElem!_pos _ _ (by simpa using hi)]; simp
    rw [e9, id, getElem!_pos (enc (d[t / k]'hi)) _ hlj]
  · unfold World.frozen?
    simp only [hb]
    simp

theorem ok_sortFunc {P : Program} {ρ : Ren} {α : Type} [Inhabited α] (L : SlLaysF0.n6 P ρ) {k : Nat} (aE : ∀ w, (isAgg (ρ.t 24)).run P w = .ok true w) (zE : ∀ w, (Go.sizeOf (ρ.t 24)).run P w = .ok k w)
    {enc : α → List Value} (hk : ∀ x, (enc x).length = k) (h1 : ∀ x, ∀ v ∈ enc x, v.oneCell' = true) {cf : α → α → Int} (hO : SWO (ltOf cf)) {g : Nat} {cb : Array Value}
    (eg : ∀ args w, (callFunc g args).run P w = .ok (.enter g args) w)
    (hcmp : ∀ x y, Ok P g (#[.agg (enc x).toArray, .agg (enc y).toArray] ++ cb) noHp (fun v _ => v = .int .i64 (cf x y)))
    (f6 : ∃ fn c, P.funcs[ρ.f 6]? = some fn ∧ fn.body = some c)
    {E : Nat} {h : Hp} {b cap : Nat} {c : Array Value} {d : List α} (hb : h b = some (.cells c E (0, 0))) (hl : d.length * k ≤ c.size) (henc : Enc c 0 k enc d) (hsz : d.length < 4611686018427387904) {Q : Value → Hp → Prop}
    (hQ : ∀ (d' : List α) (c' : Array Value), d'.Perm d → List.Pairwise (fun x y => ltOf cf y x = false) d' → c'.size = c.size → Enc c' 0 k enc d' → Q (.tuple #[]) (h.upd b (.cells c' E (0, 0)))) :
    Ok P (ρ.f 6) #[.slice (some ⟨b, 0, none⟩) d.length cap, .func (.func g) #[] cb] h Q := by
  refine ⟨f6, fun w V => ?_⟩
  have hbw := V b _ hb
  have hblk : b < w.heap.size := (Array.getElem?_eq_some_iff.1 hbw).1
  have hC : CmpLays P g cb enc k cf b 0 d.toArray.size w := fun m os dk hs x y =>
    ((hcmp x y).2 _ (fun b o e => by cases e)).mono fun e w' ⟨v, h', he, _, K, hv⟩ => ⟨by rw [he, hv], K.grown⟩
  have hs := AnyQ.slices_SortFunc L k aE zE enc hk h1 cf hO g cb b 0 cap d.toArray w eg hC (holds_of hk hbw hl henc) hblk (by simpa using hsz)
  rw [show d.toArray.size = d.length by simp] at hs
  refine hs.mono ?_
  rintro e w' ⟨rfl, d', n, os, hp, hsr, rfl⟩
  obtain ⟨hp1, _, hp3⟩ := hp
  have hds : d'.size = d.length := by simpa using hp1
  have hperm : d'.toList.Perm d := by
    have e1 : d'.extract 0 d.length = d' := by rw [← hds]; exact Array.extract_size
    have e2 : d.toArray.extract 0 d.length = d.toArray := by
      have : d.length = d.toArray.size := by simp
      rw [this]; exact Array.extract_size
    rw [e1, e2] at hp3
    exact hp3
  have hpw : List.Pairwise (fun x y => ltOf cf y x = false) d'.toList := by
    rw [List.pairwise_iff_getElem]
    intro i j hi hj hij
    have hi' : i < d'.size := by simpa using hi
    have hj' : j < d'.size := by simpa using hj
    have := hsr i j (Nat.zero_le _) hij (by omega)
    rw [getElem!_pos d' i hi', getElem!_pos d' j hj'] at this
    simpa using this
  have hcs : (Go.Sort.putCells id 0 (Go.Sort.flatK enc k d') c).size = c.size := by unfold Go.Sort.putCells; simp
  refine ⟨_, h.upd b (.cells (Go.Sort.putCells id 0 (Go.Sort.flatK enc k d') c) E (0, 0)), rfl, ?_, ?_, hQ _ _ hperm hpw hcs (enc_flat hk (by rw [hds]; exact hl))⟩
  · intro x o hx
    unfold Hp.upd at hx
    split at hx
    · rename_i e; subst e; cases hx
      rw [sw_heap hblk, if_pos rfl, hbw]; rfl
    · rename_i ne
      have hw := V x o hx
      rw [sw_heap (Array.getElem?_eq_some_iff.1 hw).1, if_neg (fun e => ne e.symm)]; exact hw
  · refine ⟨rfl, rfl, rfl, ?_, fun i hi hn => ?_, fun i hi hn => ?_, ?_⟩
    · unfold sortWorldK Go.Sort.putRowK
      rw [Go.Sort.size_grow, Go.Sort.size_putRow]
      exact Nat.le_add_right _ _
    · rw [sw_heap hi, if_neg (by rintro rfl; rw [hb] at hn; cases hn)]
    · unfold Hp.upd; rw [if_neg (by rintro rfl; rw [hb] at hn; cases hn)]; exact hn
    · show w.drawn ≤ w.drawn + n; omega
end Go.Proofs.Ytncnlfidncjmbaa

/- Contracts of the shelf, laid at this program in plain words (printed by wip/kit/sp.sh). -/
namespace Go.Proofs.Ytncnlfidncjmbaa
open Go Go.Shelf Go.RowKit
set_option maxRecDepth 100000
def sortL_ren : Go.Shelf.Ren := ⟨fun | 6 => 19 | 14 => 21 | 15 => 22 | 20 => 25 | 21 => 26 | 22 => 27 | 23 => 28 | 24 => 29 | 25 => 30 | 26 => 31 | 27 => 32 | 28 => 33 | 29 => 34 | 46 => 36 | 47 => 37 | 48 => 38 | 49 => 39 | 50 => 40 | 57 => 41 | n => n, fun | 22 => 27 | 24 => 37 | 25 => 52 | 39 => 55 | 45 => 59 | 46 => 60 | 50 => 40 | 53 => 66 | 55 => 68 | 66 => 70 | 70 => 74 | n => n, fun  | n => n⟩
theorem sortL : SlLaysF0.n6 Try.prog sortL_ren where
  mixed := by kernel_rfl
  f6 := ⟨Try.f19.name, by decide, Try.func19.trans (congrArg some (by kernel_rfl))⟩
  f14 := ⟨Try.f21.name, by decide, Try.func21.trans (congrArg some (by kernel_rfl))⟩
  f15 := Try.func22.trans (congrArg some (by kernel_rfl))
  f20 := ⟨Try.f25.name, by decide, Try.func25.trans (congrArg some (by kernel_rfl))⟩
  f21 := ⟨Try.f26.name, by decide, Try.func26.trans (congrArg some (by kernel_rfl))⟩
  f22 := ⟨Try.f27.name, by decide, Try.func27.trans (congrArg some (by kernel_rfl))⟩
  f23 := ⟨Try.f28.name, by decide, Try.func28.trans (congrArg some (by kernel_rfl))⟩
  f24 := ⟨Try.f29.name, by decide, Try.func29.trans (congrArg some (by kernel_rfl))⟩
  f25 := ⟨Try.f30.name, by decide, Try.func30.trans (congrArg some (by kernel_rfl))⟩
  f26 := ⟨Try.f31.name, by decide, Try.func31.trans (congrArg some (by kernel_rfl))⟩
  f27 := ⟨Try.f32.name, by decide, Try.func32.trans (congrArg some (by kernel_rfl))⟩
  f28 := Try.func33.trans (congrArg some (by kernel_rfl))
  f29 := Try.func34.trans (congrArg some (by kernel_rfl))
  f46 := ⟨Try.f36.name, by decide, Try.func36.trans (congrArg some (by kernel_rfl))⟩
  f47 := Try.func37.trans (congrArg some (by kernel_rfl))
  f48 := Try.func38.trans (congrArg some (by kernel_rfl))
  f49 := ⟨Try.f39.name, by decide, Try.func39.trans (congrArg some (by kernel_rfl))⟩
  f50 := ⟨Try.f40.name, by decide, Try.func40.trans (congrArg some (by kernel_rfl))⟩
  f57 := ⟨Try.f41.name, by decide, Try.func41.trans (congrArg some (by kernel_rfl))⟩
  t0 := Try.underlying0
  a0 := Try.isAgg0
  z0 := Try.sizeOf0
  v0 := Try.zeroValue0
  t3 := Try.underlying3
  a3 := Try.isAgg3
  z3 := Try.sizeOf3
  v3 := Try.zeroValue3
  t4 := Try.underlying4
  a4 := Try.isAgg4
  z4 := Try.sizeOf4
  v4 := Try.zeroValue4
  t5 := Try.underlying5
  a5 := Try.isAgg5
  z5 := Try.sizeOf5
  v5 := Try.zeroValue5
  t9 := Try.underlying9
  a9 := Try.isAgg9
  z9 := Try.sizeOf9
  v9 := Try.zeroValue9
  t22 := Try.underlying27
  a22 := Try.isAgg27
  z22 := Try.sizeOf27
  v22 := Try.zeroValue27
  t25 := Try.underlying52
  a25 := Try.isAgg52
  z25 := Try.sizeOf52
  v25 := Try.zeroValue52
  t39 := Try.underlying55
  a39 := Try.isAgg55
  z39 := Try.sizeOf55
  v39 := Try.zeroValue55
  t45 := Try.underlying59
  a45 := Try.isAgg59
  z45 := Try.sizeOf59
  v45 := Try.zeroValue59
  t46 := Try.underlying60
  a46 := Try.isAgg60
  z46 := Try.sizeOf60
  v46 := Try.zeroValue60
  t50 := Try.underlying40
  a50 := Try.isAgg40
  z50 := Try.sizeOf40
  v50 := Try.zeroValue40
  t53 := Try.underlying66
  a53 := Try.isAgg66
  z53 := Try.sizeOf66
  v53 := Try.zeroValue66
  t55 := Try.underlying68
  a55 := Try.isAgg68
  z55 := Try.sizeOf68
  v55 := Try.zeroValue68
  t66 := Try.underlying70
  a66 := Try.isAgg70
  z66 := Try.sizeOf70
  v66 := Try.zeroValue70
  t70 := Try.underlying74
  a70 := Try.isAgg74
  z70 := Try.sizeOf74
  v70 := Try.zeroValue74
  t76 := Try.underlying76
  a76 := Try.isAgg76
  z76 := Try.sizeOf76
  v76 := Try.zeroValue76
  t77 := Try.underlying77
  a77 := Try.isAgg77
  z77 := Try.sizeOf77
  v77 := Try.zeroValue77
def bitsL_ren : Go.Shelf.Ren := ⟨fun | 125 => 22 | 128 => 33 | 129 => 34 | n => n, fun | 46 => 55 | 51 => 66 | 53 => 68 | n => n, fun  | n => n⟩
theorem bitsL : Lays.n125 Try.prog bitsL_ren where
  mixed := by kernel_rfl
  f125 := Try.func22.trans (congrArg some (by kernel_rfl))
  f128 := Try.func33.trans (congrArg some (by kernel_rfl))
  f129 := Try.func34.trans (congrArg some (by kernel_rfl))
  t3 := Try.underlying3
  a3 := Try.isAgg3
  z3 := Try.sizeOf3
  v3 := Try.zeroValue3
  t4 := Try.underlying4
  a4 := Try.isAgg4
  z4 := Try.sizeOf4
  v4 := Try.zeroValue4
  t5 := Try.underlying5
  a5 := Try.isAgg5
  z5 := Try.sizeOf5
  v5 := Try.zeroValue5
  t9 := Try.underlying9
  a9 := Try.isAgg9
  z9 := Try.sizeOf9
  v9 := Try.zeroValue9
  t46 := Try.underlying55
  a46 := Try.isAgg55
  z46 := Try.sizeOf55
  v46 := Try.zeroValue55
  t51 := Try.underlying66
  a51 := Try.isAgg66
  z51 := Try.sizeOf66
  v51 := Try.zeroValue66
  t53 := Try.underlying68
  a53 := Try.isAgg68
  z53 := Try.sizeOf68
  v53 := Try.zeroValue68
end Go.Proofs.Ytncnlfidncjmbaa
