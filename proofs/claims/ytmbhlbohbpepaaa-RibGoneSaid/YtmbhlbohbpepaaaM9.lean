/- Slices that a function owns: reading, appending. -/
import Derived.Test.YtmbhlbohbpepaaaM8
namespace Go.Proofs.Ytmbhlbohbpepaaa
open Go
set_option linter.unusedSimpArgs false
section
variable {P : Program} {h : Hp}

def writeL (c : Array Value) : Nat → List Value → Array Value
  | _, [] => c
  | o, v :: l => writeL (c.setIfInBounds o v) (o + 1) l

theorem writeL_size : ∀ (l : List Value) (c : Array Value) (o : Nat), (writeL c o l).size = c.size
  | [], _, _ => rfl
  | v :: l, c, o => by simp only [writeL]; rw [writeL_size l]; simp

theorem writeL_get : ∀ (l : List Value) (c : Array Value) (o i : Nat), o + l.length ≤ c.size → (writeL c o l)[i]? = if o ≤ i ∧ i < o + l.length then l[i - o]? else c[i]?
  | [], c, o, i, _ => by simp [writeL]; omega
  | v :: l, c, o, i, hl => by
    simp only [List.length_cons] at hl ⊢
    simp only [writeL]
    rw [writeL_get l _ (o + 1) i (by simp; omega)]
    by_cases h1 : o + 1 ≤ i ∧ i < o + 1 + l.length
    · rw [if_pos h1, if_pos (by omega)]
      have : i - o = (i - (o + 1)) + 1 := by omega
      rw [this, List.getElem?_cons_succ]
    · rw [if_neg h1]
      by_cases h2 : i = o
      · subst h2
        rw [if_pos (by omega)]
        have : i < c.size := by omega
        simp [this]
      · rw [if_neg (by omega), Array.getElem?_setIfInBounds_ne (Ne.symm h2)]

theorem stN_write {b : Nat} {e : TypeId} {k : Hp → Prop} : ∀ (l : List Value) (o : Nat) (c : Array Value) (h : Hp), h b = some (.cells c e (0, 0)) → o + l.length ≤ c.size → (∀ v ∈ l, oneCell v = true) →
    k (h.upd b (.cells (writeL c o l) e (0, 0))) → stN h b o l k := by
  intro l
  induction l with
  | nil =>
    intro o c h hb _ _ hk
    have : h.upd b (.cells c e (0, 0)) = h := by
      funext x; unfold Hp.upd; split
      · rename_i hx; subst hx; exact hb.symm
      · rfl
    simp only [writeL, this] at hk
    exact hk
  | cons v l ih =>
    intro o c h hb hl hv hk
    simp only [List.length_cons] at hl
    rw [stN_cons]
    have hlt : o < c.size := by omega
    have hc : h.cell? ⟨b, o, none⟩ = some c[o] := by simp [hb, hlt]
    have hf : h.frozen? ⟨b, o, none⟩ = false := by simp [hb]
    rw [hc, hf, stw_ok]
    refine ⟨hv v (by simp), ?_⟩
    have hs : h.setCell ⟨b, o, none⟩ v = h.upd b (.cells (c.setIfInBounds o v) e (0, 0)) := by simp [hb]
    rw [hs]
    refine ih (o + 1) (c.setIfInBounds o v) _ (by simp) (by simp; omega) (fun u hu => hv u (by simp [hu])) ?_
    rw [upd_upd]
    exact hk

theorem arun_askRoom {n : Nat} {Q : Unit → Hp → Prop} : arun P (askRoom n) h Q = Q () h := by
  unfold askRoom; split <;> rfl

theorem arun_bnd_rr {α β : Type} {s : Sem α} {f : α → Sem β} {Q : β → Hp → Prop} {a : α} (A : rrun P s h = some a) : arun P (s >>= f) h Q = arun P (f a) h Q := arun_bind_rr s f A

theorem growBy_le (n : Nat) : ∀ r c, c < n → Builtin.growBy n r c ≤ 2 * n + 768
  | 0, c, hc => by simp only [Builtin.growBy]; omega
  | r + 1, c, hc => by
    simp only [Builtin.growBy]
    split
    · omega
    · by_cases h2 : c + (c + 768) / 4 < n
      · exact growBy_le n r _ h2
      · have stop : ∀ r d, n ≤ d → Builtin.growBy n r d = d := by
          intro r d hd
          cases r with
          | zero => rfl
          | succ r => simp only [Builtin.growBy]; rw [if_pos hd]
        rw [stop r _ (by omega)]
        omega

theorem nextcap_le {n c : Nat} (h : c < n) : Builtin.nextslicecap n c ≤ 2 * n + 768 := by
  unfold Builtin.nextslicecap
  split
  · omega
  · split
    · omega
    · exact growBy_le n 4 c h

theorem arun_append {sT xT R E E2 sz bytes : Nat} {z : Value} (hs : P.underlying sT = some (.slice E)) (hx : P.underlying xT = some (.slice E2))
    (hsz : (P.info? E).map (·.size) = some sz) (hby : (P.info? E).map (·.bytes) = some bytes) (hz : (P.info? E).bind (·.zero) = some z)
    {base xb : Option Addr} {len cap m xc : Nat} {k : Value → Hp → Prop} {new : Array Value} (hb0 : 0 < bytes)
    (hnew : rrun P (Builtin.firstCells sz m (.slice xb m xc)) h = some new)
    (hfit : len + m ≤ cap → (match base with
      | some a => arun P (storeCells (a.add (len * sz)) new.toList) h fun _ h' => k (.slice base (len + m) cap) h'
      | none => k (.slice base (len + m) cap) h))
    (hgrow : cap < len + m → Builtin.nextslicecap (len + m) cap * bytes ≤ 2 ^ 48 ∧ ∃ old, rrun P (Builtin.firstCells sz len (.slice base len cap)) h = some old ∧
      ∀ cap' b, len + m ≤ cap' → h b = none → k (.slice (some ⟨b, 0, none⟩) (len + m) cap') (h.upd b (.cells (old ++ new ++ Builtin.zeroCells z.cells (cap' - (len + m))) E))) :
    arun P (Builtin.append_ #[sT, xT] R #[.slice base len cap, .slice xb m xc]) h k := by
  unfold Builtin.append_
  simp only [aget_0, aget_1]
  rw [arun_bnd_rr (a := .slice E) (by rw [rr_underlying, hs])]
  simp only []
  rw [arun_bnd_rr (a := sz) (by rw [rr_sizeOf, hsz]), arun_bnd_rr (a := .slice E2) (by rw [rr_underlying, hx]), arun_bnd_rr (a := false) rfl]
  simp only [Bool.false_eq_true, if_false]
  rw [arun_bnd_rr (a := m) rfl]
  simp only [Bool.not_false, if_true]
  by_cases hn : len + m ≤ cap
  · rw [if_pos hn]
    have := hfit hn
    refine arun_bind _ _ (arun_of_rrun _ hnew ?_)
    cases base with
    | none => exact this
    | some a => exact arun_bind _ _ this
  · rw [if_neg hn]
    obtain ⟨hcap, old, hold, hk⟩ := hgrow (by omega)
    obtain ⟨info, hinfo⟩ : ∃ i, P.info? E = some i := by
      cases hi : P.info? E with
      | none => simp [hi] at hsz
      | some i => exact ⟨i, rfl⟩
    have hbi : info.bytes = bytes := by simpa [hinfo] using hby
    have tail : arun P (do
        let newCap ← choose (.appendCap (len + m) cap E)
        askRoom (newCap * (← typeInfo E).bytes)
        let old ← Builtin.firstCells sz len (.slice base len cap)
        let new ← Builtin.firstCells sz m (.slice xb m xc)
        let rest := Builtin.zeroCells (← zeroValue E).cells (newCap - (len + m))
        pure (.slice (some (← newRow E (old ++ new ++ rest))) (len + m) newCap)) h k := by
      refine arun_bind _ _ ?_
      show arun P (Sem.choose _ Sem.pure) h _
      unfold arun
      rw [if_neg (by simp [Question.forced])]
      intro t
      show arun P (Sem.bind _ _) h _
      refine arun_bind _ _ (arun_of_rrun _ (a := info) (by rw [rr_info, hinfo]) ?_)
      refine arun_bind _ _ ?_
      rw [arun_askRoom]
      refine arun_bind _ _ (arun_of_rrun _ hold ?_)
      refine arun_bind _ _ (arun_of_rrun _ hnew ?_)
      refine arun_bind _ _ (arun_of_rrun _ (rr_zeroValue hz) ?_)
      intro b hb
      refine hk _ b ?_ hb
      simp only [Question.cut]
      omega
    rw [arun_bnd_rr (a := info) (by rw [rr_info, hinfo])]
    rw [if_neg (by simp; intro _; omega)]
    rw [arun_bnd_rr (a := info) (by rw [rr_info, hinfo])]
    rw [if_neg (by rw [hbi]; omega)]
    exact tail


theorem rr_loadCells {b o n : Nat} : rrun P (loadCells ⟨b, o, none⟩ n) h = (ldN h b o n).map List.toArray := by
  have := rr_loadCellsFrom (P := P) (h := h) (b := b) (o := o) n 0 #[]
  simp only [Nat.add_zero] at this
  rw [show loadCells ⟨b, o, none⟩ n = loadCellsFrom ⟨b, o, none⟩ 0 n #[] from rfl, this]
  cases ldN h b o n <;> simp

theorem ldN_of {b : Nat} {c : Array Value} {e : TypeId} {fr : Nat × Nat} (hb : h b = some (.cells c e fr)) : ∀ (n o : Nat), o + n ≤ c.size → ldN h b o n = some ((c.toList.drop o).take n)
  | 0, o, _ => by simp
  | n + 1, o, hn => by
    have hlt : o < c.size := by omega
    rw [ldN_succ, ldN_of hb n (o + 1) (by omega)]
    simp only [cell_def, hb, Array.getElem?_eq_getElem hlt, Option.bind_some, Option.map_some]
    congr 1
    have hl2 : o < c.toList.length := by simpa using hlt
    rw [List.drop_eq_getElem_cons hl2, List.take_succ_cons]
    simp

/-- The cells of a block hold these, each as so many cells. -/
def Enc {α : Type} (c : Array Value) (o sz : Nat) (enc : α → List Value) (xs : List α) : Prop := ∀ i x, xs[i]? = some x → ∀ j, j < sz → c[o + i * sz + j]? = (enc x)[j]?

/-- A slice that begins its block, and whose elements read so. -/
def SlAt {α : Type} (h : Hp) (E sz : Nat) (enc : α → List Value) (v : Value) (xs : List α) : Prop :=
  (v = .slice none 0 0 ∧ xs = []) ∨
  ∃ b cap c, v = .slice (some ⟨b, 0, none⟩) xs.length cap ∧ h b = some (.cells c E (0, 0)) ∧ xs.length ≤ cap ∧ cap * sz ≤ c.size ∧ Enc c 0 sz enc xs

def blkOf : Value → Option Nat
  | .slice (some a) _ _ => some a.block
  | _ => none

theorem SlAt.keep {α : Type} {h h' : Hp} {E sz : Nat} {enc : α → List Value} {v : Value} {xs : List α} (s : SlAt h E sz enc v xs) (hk : ∀ b o, blkOf v = some b → h b = some o → h' b = some o) : SlAt h' E sz enc v xs := by
  rcases s with s | ⟨b, cap, c, rfl, hb, h1, h2, h3⟩
  · exact .inl s
  · exact .inr ⟨b, cap, c, rfl, hk b _ rfl hb, h1, h2, h3⟩

theorem Enc.push {α : Type} {c c' : Array Value} {o sz : Nat} {enc : α → List Value} {xs : List α} {y : α} (H : Enc c o sz enc xs)
    (h1 : ∀ i, i < xs.length * sz → c'[o + i]? = c[o + i]?) (h2 : ∀ j, j < sz → c'[o + xs.length * sz + j]? = (enc y)[j]?) : Enc c' o sz enc (xs ++ [y]) := by
  intro i x hx j hj
  rcases Nat.lt_or_ge i xs.length with hi | hi
  · rw [List.getElem?_append_left hi] at hx
    rw [← H i x hx j hj]
    have : i * sz + j < xs.length * sz := by
      have : (i + 1) * sz ≤ xs.length * sz := Nat.mul_le_mul_right _ hi
      rw [Nat.add_mul] at this
      omega
    have := h1 (i * sz + j) this
    simpa [Nat.add_assoc] using this
  · rw [List.getElem?_append_right hi] at hx
    have hi0 : i - xs.length = 0 := by
      rcases Nat.eq_zero_or_pos (i - xs.length) with h0 | h0
      · exact h0
      · rw [List.getElem?_eq_none (by simp; omega)] at hx; cases hx
    rw [hi0] at hx
    simp at hx
    subst hx
    have : i = xs.length := by omega
    subst this
    exact h2 j hj

theorem arun_push {α : Type} {sT xT R E E2 sz bytes : Nat} {z : Value} (hs : P.underlying sT = some (.slice E)) (hx : P.underlying xT = some (.slice E2))
    (hsz : (P.info? E).map (·.size) = some sz) (hby : (P.info? E).map (·.bytes) = some bytes) (hz : (P.info? E).bind (·.zero) = some z) (hb0 : 0 < bytes) (hzs : z.cells.size = sz)
    {enc : α → List Value} {v : Value} {xs : List α} {y : α} {b2 o2 c2 : Nat} {k : Value → Hp → Prop} (S : SlAt h E sz enc v xs) (hy : ldN h b2 o2 sz = some (enc y)) (hyl : (enc y).length = sz)
    (hone : ∀ u ∈ enc y, oneCell u = true) (hbd : (2 * xs.length + 770) * bytes ≤ 2 ^ 48)
    (K : ∀ b c cap, (some b = blkOf v ∨ h b = none) → xs.length + 1 ≤ cap → cap * sz ≤ c.size → Enc c 0 sz enc (xs ++ [y]) →
      k (.slice (some ⟨b, 0, none⟩) (xs.length + 1) cap) (h.upd b (.cells c E (0, 0)))) :
    arun P (Builtin.append_ #[sT, xT] R #[v, .slice (some ⟨b2, o2, none⟩) 1 c2]) h k := by
  have hnew : rrun P (Builtin.firstCells sz 1 (.slice (some ⟨b2, o2, none⟩) 1 c2)) h = some (enc y).toArray := by
    show rrun P (loadCells ⟨b2, o2, none⟩ (1 * sz)) h = _
    rw [Nat.one_mul, rr_loadCells, hy]; rfl
  have hzc : ∀ n, (Builtin.zeroCells z.cells n).size = n * sz := by intro n; simp [Builtin.zeroCells, hzs]
  rcases S with ⟨rfl, rfl⟩ | ⟨b, cap, c, rfl, hb, h1, h2, h3⟩
  · refine arun_append hs hx hsz hby hz hb0 hnew (fun h0 => absurd h0 (by omega)) (fun _ => ⟨?_, #[], rfl, fun cap' b hc hb => ?_⟩)
    · refine Nat.le_trans (Nat.mul_le_mul_right bytes ?_) hbd
      have := nextcap_le (n := 0 + 1) (c := 0) (by omega)
      simp only [List.length_nil]; omega
    · refine K b _ cap' (.inr hb) (by simpa using hc) ?_ ?_
      · obtain ⟨d, rfl⟩ : ∃ d, cap' = 1 + d := ⟨cap' - 1, by omega⟩
        simp only [Array.size_append, hzc, List.size_toArray, hyl, List.length_nil]
        have : 1 + d - (0 + 1) = d := by omega
        rw [this, Nat.add_mul, Nat.one_mul]
        omega
      · refine Enc.push (c := #[]) (fun i x hx => by cases hx) (fun i hi => absurd hi (by simp)) (fun j hj => ?_)
        rw [Array.getElem?_append_left (by simp [hyl]; omega)]
        simp
  · refine arun_append hs hx hsz hby hz hb0 hnew (fun hle => ?_) (fun hlt => ⟨?_, ((c.toList.drop 0).take (xs.length * sz)).toArray, ?_, fun cap' b' hc hb' => ?_⟩)
    · simp only [add_none]
      rw [arun_storeCells_eq]
      have hsz2 : xs.length * sz + sz ≤ c.size := by
        have : (xs.length + 1) * sz ≤ cap * sz := Nat.mul_le_mul_right _ hle
        rw [Nat.add_mul] at this
        omega
      refine stN_write _ _ c h hb (by simp [hyl]; omega) (by simpa using hone) ?_
      refine K b _ cap (.inl rfl) hle (by rw [writeL_size]; exact h2) ?_
      refine Enc.push h3 (fun i hi => ?_) (fun j hj => ?_)
      · rw [writeL_get _ _ _ _ (by simp [hyl]; omega), if_neg (by omega)]
      · rw [writeL_get _ _ _ _ (by simp [hyl]; omega), if_pos (by simp [hyl]; omega)]
        have : 0 + xs.length * sz + j - (0 + xs.length * sz + 0) = j := by omega
        simp [this]
    · refine Nat.le_trans (Nat.mul_le_mul_right bytes ?_) hbd
      have := nextcap_le hlt
      omega
    · show rrun P (loadCells ⟨b, 0, none⟩ (xs.length * sz)) h = _
      have : xs.length * sz ≤ c.size := Nat.le_trans (Nat.mul_le_mul_right _ h1) h2
      rw [rr_loadCells, ldN_of hb _ _ (by omega)]; rfl
    · have hold : ((c.toList.drop 0).take (xs.length * sz)).toArray.size = xs.length * sz := by
        have : xs.length * sz ≤ c.size := Nat.le_trans (Nat.mul_le_mul_right _ h1) h2
        simp; omega
      refine K b' _ cap' (.inr hb') hc ?_ ?_
      · simp only [Array.size_append, hzc, List.size_toArray, hyl]
        have e : cap' = xs.length + (1 + (cap' - (xs.length + 1))) := by omega
        have e2 : ((c.toList.drop 0).take (xs.length * sz)).length = xs.length * sz := by simpa using hold
        rw [e2]
        conv => lhs; rw [e]
        rw [Nat.add_mul, Nat.add_mul]; omega
      · refine Enc.push h3 (fun i hi => ?_) (fun j hj => ?_)
        · rw [Nat.zero_add, Array.getElem?_append_left (by simp only [Array.size_append, hold]; omega), Array.getElem?_append_left (by rw [hold]; exact hi)]
          simp [List.getElem?_take, hi]
        · rw [Array.getElem?_append_left (by simp only [Array.size_append, hold, List.size_toArray, hyl]; omega), Array.getElem?_append_right (by rw [hold]; omega), hold]
          have : 0 + xs.length * sz + j - xs.length * sz = j := by omega
          rw [this]; simp

end
end Go.Proofs.Ytmbhlbohbpepaaa
