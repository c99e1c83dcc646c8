/- A law's row, out of what its call does to a heap that has all of the world's blocks; and what the arguments read. -/
import Derived.ProofKit
import Derived.OpenShut
import Derived.ChangeOld
import Derived.Carry
import Derived.SizedLaws
import Derived.WideShapes
import Derived.Deep.Slices
import Derived.Test.YtmbhlbohbpepaaaRows
import Derived.Test.YtmbhlbohbpepaaaZ5

namespace Go.Proofs.Ytmbhlbohbpepaaa
open Go Go.ChangeShapes Go.WideShapes Go.RowKit Go.Deep

/-- All of a world's blocks. -/
def hpW (W : World) : Hp := fun b => W.heap[b]?

theorem below_of {P : Program} {f : FuncId} {args : Array Value} {W : World} {v0 : Value} (h : Ok P f args (hpW W) fun v h' => v = v0 ∧ Le (hpW W) h') :
    Calls P f args W fun e W' => e = .returned v0 ∧ Below W.heap.size W W' := by
  refine (h.2 W (fun _ _ e => e)).mono fun e W' ⟨v, h', e1, V, K, e2, L⟩ => ?_
  subst e2
  refine ⟨e1, K.os, K.tape, K.output, K.size, fun k hk => ?_⟩
  have hb : hpW W k = some W.heap[k] := Array.getElem?_eq_getElem hk
  rw [V _ _ (L _ _ hb)]
  exact hb.symm

section
variable {H : Type} {enc : TypeId × Value → H} {P : Program}

theorem trodAll_below (hl : laidOutB P = true) {W W' : World} (hb : Below W.heap.size W W') : ∀ {ts : List TypeId} {vs : List Value} {ds : List (DataW H)} {ps : List MemPlace},
    ts.all (fun t => P.readableRec t && decide (t < P.types.size)) = true → DataW.TrodAll enc P W 0 (fun _ => true) true ts vs ds ps → DataW.TrodAll enc P W' 0 (fun b => decide (b < W.heap.size)) true ts vs ds ps
  | [], vs, ds, ps, _, h => by
    obtain ⟨rfl, rfl, rfl⟩ := trodAll_nil h
    exact trodAll_mk0
  | t :: ts, vs, ds, ps, hr, h => by
    obtain ⟨v, vs', d, ds', p, q, rfl, rfl, rfl, h1, h2⟩ := trodAll_cons h
    simp only [List.all_cons, Bool.and_eq_true, decide_eq_true_eq] at hr
    refine trodAll_cons_mk (Below.trod hl hr.1.1 hr.1.2 h1 hb (fun x hx => ?_)) (trodAll_below hl hb (by simpa using hr.2) h2)
    obtain ⟨m, hm⟩ := h1
    exact DataW.trod_lt m _ _ _ hm x hx

/-! ### What flat cells read -/
inductive Lk where
  | int (k : IntKind)
  | bool
  | str
  | other (t : TypeId)

def flatFs (P : Program) (rec : TypeId → Option (List Lk)) (total : Nat) : List Field → Nat → Option (List Lk)
  | [], off => if off = total then some [] else none
  | f :: fs, off => if f.offset = off then
      match rec f.type, flatFs P rec total fs (off + P.cellsOf f.type) with
      | some a, some b => some (a ++ b)
      | _, _ => none
    else none

def flatK (P : Program) : Nat → TypeId → Option (List Lk)
  | 0, _ => none
  | n + 1, t => match P.underlying t with
    | some .bool => some [.bool]
    | some (.int k) => some [.int k]
    | some .string => some [.str]
    | some (.struct fs) => flatFs P (flatK P n) (P.cellsOf t) fs.toList 0
    | some (.slice _) => some [.other t]
    | some (.map _ _) => some [.other t]
    | some (.pointer _) => some [.other t]
    | _ => none

variable {w : World} {base : Nat} {spare : Nat → Bool} {held : Bool}

def okL (enc : TypeId × Value → H) (P : Program) (w : World) (base : Nat) (spare : Nat → Bool) (held : Bool) : Lk → Value → Prop
  | .int k, v => ∃ n, v = .int k n ∧ (Lit.int k n).wf = true
  | .bool, v => ∃ b, v = .bool b
  | .str, v => ∃ s, v = .string s ∧ s.size ≤ maxLen
  | .other t, v => ∃ fuel x, DataW.trod enc P w base spare held fuel t [v] = some x

def okLs (enc : TypeId × Value → H) (P : Program) (w : World) (base : Nat) (spare : Nat → Bool) (held : Bool) : List Lk → List Value → Prop
  | [], [] => True
  | k :: ks, v :: vs => okL enc P w base spare held k v ∧ okLs enc P w base spare held ks vs
  | _, _ => False

theorem okLs_nil {cs : List Value} (h : okLs enc P w base spare held [] cs) : cs = [] := by
  cases cs with
  | nil => rfl
  | cons _ _ => exact h.elim

theorem okLs_cons {k : Lk} {ks : List Lk} {cs : List Value} (h : okLs enc P w base spare held (k :: ks) cs) : ∃ v vs, cs = v :: vs ∧ okL enc P w base spare held k v ∧ okLs enc P w base spare held ks vs := by
  cases cs with
  | nil => exact h.elim
  | cons v vs => exact ⟨v, vs, rfl, h.1, h.2⟩

theorem okLs_int {k : IntKind} {ks : List Lk} {cs : List Value} (h : okLs enc P w base spare held (.int k :: ks) cs) : ∃ n vs, cs = .int k n :: vs ∧ (Lit.int k n).wf = true ∧ okLs enc P w base spare held ks vs := by
  obtain ⟨v, vs, rfl, ⟨n, rfl, hw⟩, h2⟩ := okLs_cons h
  exact ⟨n, vs, rfl, hw, h2⟩

theorem okLs_bool {ks : List Lk} {cs : List Value} (h : okLs enc P w base spare held (.bool :: ks) cs) : ∃ b vs, cs = .bool b :: vs ∧ okLs enc P w base spare held ks vs := by
  obtain ⟨v, vs, rfl, ⟨n, rfl⟩, h2⟩ := okLs_cons h
  exact ⟨n, vs, rfl, h2⟩

theorem okLs_str {ks : List Lk} {cs : List Value} (h : okLs enc P w base spare held (.str :: ks) cs) : ∃ s vs, cs = .string s :: vs ∧ s.size ≤ maxLen ∧ okLs enc P w base spare held ks vs := by
  obtain ⟨v, vs, rfl, ⟨n, rfl, hw⟩, h2⟩ := okLs_cons h
  exact ⟨n, vs, rfl, hw, h2⟩

theorem okLs_append : ∀ {a b : List Lk} {x y : List Value}, okLs enc P w base spare held a x → okLs enc P w base spare held b y → okLs enc P w base spare held (a ++ b) (x ++ y)
  | [], _, [], _, _, h => h
  | [], _, _ :: _, _, h, _ => h.elim
  | _ :: _, _, [], _, h, _ => h.elim
  | _ :: _, _, _ :: _, _, h, h' => ⟨h.1, okLs_append h.2 h'⟩

theorem flatFs_open (rec : TypeId → Option (List Lk)) (total : Nat) (cs : List Value) (hcs : cs.length = total) : ∀ (fs : List Field) (off : Nat) (ks : List Lk), flatFs P rec total fs off = some ks →
    (∀ f ∈ fs, ∀ k, rec f.type = some k → okLs enc P w base spare held k ((cs.drop f.offset).take (P.cellsOf f.type))) → okLs enc P w base spare held ks (cs.drop off)
  | [], off, ks, h, _ => by
    simp only [flatFs] at h
    split at h
    · rename_i e; cases h; rw [List.drop_of_length_le (by omega)]; trivial
    · cases h
  | f :: fs, off, ks, h, hf => by
    simp only [flatFs] at h
    split at h
    · rename_i e
      cases h1 : rec f.type with
      | none => simp [h1] at h
      | some a =>
        cases h2 : flatFs P rec total fs (off + P.cellsOf f.type) with
        | none => simp [h1, h2] at h
        | some b =>
          simp [h1, h2] at h
          subst h
          have ih := flatFs_open rec total cs hcs fs _ b h2 (fun g hg => hf g (by simp [hg]))
          have h3 := hf f (by simp) a h1
          rw [e] at h3
          have := okLs_append h3 ih
          rw [← List.drop_drop, List.take_append_drop] at this
          exact this
    · cases h

theorem flat_open : ∀ (n : Nat) (t : TypeId) (ks : List Lk) (fuel : Nat) (cs : List Value) (x : DataW H × List MemPlace), flatK P n t = some ks → DataW.trod enc P w base spare held fuel t cs = some x → okLs enc P w base spare held ks cs := by
  intro n
  induction n with
  | zero => intro t ks fuel cs x h; simp [flatK] at h
  | succ n ih =>
    intro t ks fuel cs x h ht
    have other1 : (∃ e, P.underlying t = some (.slice e)) ∨ (∃ a e, P.underlying t = some (.map a e)) ∨ (∃ e, P.underlying t = some (.pointer e)) → ∃ v, cs = [v] := by
      intro hc
      cases fuel with
      | zero => simp [DataW.trod] at ht
      | succ m =>
        unfold DataW.trod at ht
        rcases hc with ⟨e, hu⟩ | ⟨a, e, hu⟩ | ⟨e, hu⟩ <;> rw [hu] at ht <;> split at ht <;> simp_all
    cases hu : P.underlying t with
    | none => simp [flatK, hu] at h
    | some u =>
      cases u with
      | bool =>
        simp [flatK, hu] at h; subst h
        cases fuel with
        | zero => simp [DataW.trod] at ht
        | succ m =>
          unfold DataW.trod at ht
          rw [hu] at ht
          split at ht <;> simp_all
          exact ⟨⟨_, rfl⟩, trivial⟩
      | int k =>
        simp [flatK, hu] at h; subst h
        obtain ⟨n', rfl, _, hw⟩ := DataW.trod_int hu ht
        exact ⟨⟨n', rfl, hw⟩, trivial⟩
      | string =>
        simp [flatK, hu] at h; subst h
        obtain ⟨s, rfl, _, hw⟩ := DataW.trod_string hu ht
        exact ⟨⟨s, rfl, hw⟩, trivial⟩
      | struct fs =>
        simp only [flatK, hu] at h
        obtain ⟨xs, m, _, _, hlen, hxl, hf⟩ := DataW.trod_struct hu ht
        have := flatFs_open (flatK P n) (P.cellsOf t) cs hlen fs.toList 0 ks h (fun f hf' k hk => by
          obtain ⟨i, hi, he⟩ := List.getElem_of_mem hf'
          have hi' : fs[i]? = some f := by rw [← he]; simp at hi ⊢
          have h1 := hf i f hi'
          have hil : i < xs.length := by rw [hxl]; simpa using hi
          rw [List.getElem?_eq_getElem hil] at h1
          exact ih f.type k m _ _ hk h1)
        simpa using this
      | slice e =>
        simp [flatK, hu] at h; subst h
        obtain ⟨v, rfl⟩ := other1 (.inl ⟨e, hu⟩)
        exact ⟨⟨fuel, x, ht⟩, trivial⟩
      | map a e =>
        simp [flatK, hu] at h; subst h
        obtain ⟨v, rfl⟩ := other1 (.inr (.inl ⟨a, e, hu⟩))
        exact ⟨⟨fuel, x, ht⟩, trivial⟩
      | pointer e =>
        simp [flatK, hu] at h; subst h
        obtain ⟨v, rfl⟩ := other1 (.inr (.inr ⟨e, hu⟩))
        exact ⟨⟨fuel, x, ht⟩, trivial⟩
      | _ => simp [flatK, hu] at h

/-- A struct that came in by value. -/
theorem open_flat {t : TypeId} {fs : Array Field} {ks : List Lk} {W : World} {v : Value} {d : DataW H} {ps : List MemPlace} {b0 : Nat} (n : Nat) (ht : P.underlying t = some (.struct fs)) (hk : flatK P n t = some ks)
    (hv : Value.okWide P W .any b0 t v) (hd : DataW.Trod enc P W base spare held t v d ps) : ∃ cs, v = .agg cs ∧ okLs enc P W base spare held ks cs.toList := by
  obtain ⟨cs, rfl, _⟩ := okWide_struct ht hv
  obtain ⟨fuel, hf⟩ := hd
  exact ⟨cs, rfl, flat_open n t ks _ _ _ hk hf⟩

/-! ### A slice that came in -/
def ArgSl {α : Type} (h : Hp) (sz : Nat) (enc : α → List Value) (good : α → Prop) (v : Value) (xs : List α) : Prop :=
  (∀ x ∈ xs, good x) ∧ ((∃ p cap, v = .slice p 0 cap ∧ xs = []) ∨ ∃ b o cap c E fr, v = .slice (some ⟨b, o, none⟩) xs.length cap ∧ xs.length ≤ cap ∧ cap ≤ maxLen ∧ h b = some (.cells c E fr) ∧ Enc c o sz enc xs)

theorem ArgSl.le {α : Type} {h h' : Hp} {sz : Nat} {enc : α → List Value} {good : α → Prop} {v : Value} {xs : List α} (A : ArgSl h sz enc good v xs) (L : Le h h') : ArgSl h' sz enc good v xs := by
  obtain ⟨g, A⟩ := A
  rcases A with ⟨p, cap, e⟩ | ⟨b, o, cap, c, E, fr, e1, e2, e2', e3, e4⟩
  · exact ⟨g, .inl ⟨p, cap, e⟩⟩
  · exact ⟨g, .inr ⟨b, o, cap, c, E, fr, e1, e2, e2', L _ _ e3, e4⟩⟩

theorem ArgSl.shape {α : Type} {h : Hp} {sz : Nat} {enc : α → List Value} {good : α → Prop} {v : Value} {xs : List α} (A : ArgSl h sz enc good v xs) : ∃ p cap, v = .slice p xs.length cap := by
  rcases A.2 with ⟨p, cap, rfl, rfl⟩ | ⟨b, o, cap, c, E, fr, rfl, _⟩
  · exact ⟨p, cap, rfl⟩
  · exact ⟨_, cap, rfl⟩

theorem ArgSl.len {α : Type} {h : Hp} {sz : Nat} {enc : α → List Value} {good : α → Prop} {v : Value} {xs : List α} (A : ArgSl h sz enc good v xs) : xs.length ≤ maxLen := by
  rcases A.2 with ⟨p, cap, rfl, rfl⟩ | ⟨b, o, cap, c, E, fr, rfl, h1, h2, _⟩
  · simp
  · omega

theorem choose_list {α : Type} (p : Nat → α → Prop) : ∀ n, (∀ i, i < n → ∃ x, p i x) → ∃ xs : List α, xs.length = n ∧ ∀ i x, xs[i]? = some x → p i x
  | 0, _ => ⟨[], rfl, by simp⟩
  | n + 1, h => by
    obtain ⟨xs, hl, hx⟩ := choose_list p n (fun i hi => h i (by omega))
    obtain ⟨x, hx'⟩ := h n (by omega)
    refine ⟨xs ++ [x], by simp [hl], fun i y hy => ?_⟩
    rcases Nat.lt_trichotomy i n with e | e | e
    · rw [List.getElem?_append_left (by omega)] at hy; exact hx i y hy
    · subst e; rw [List.getElem?_append_right (by omega), hl] at hy; simp at hy; subst hy; exact hx'
    · rw [List.getElem?_eq_none (by simp [hl]; omega)] at hy; cases hy

theorem open_argSl {α : Type} {t e : TypeId} {ks : List Lk} {ec : α → List Value} {good : α → Prop} {W : World} {v : Value} {d : DataW H} {ps : List MemPlace} {b0 sz : Nat} (n : Nat)
    (ht : P.underlying t = some (.slice e)) (hk : flatK P n e = some ks) (hC : P.cellsOf e = sz) (h0 : 0 < sz)
    (hdec : ∀ cs, okLs enc P W 0 spare held ks cs → ∃ x, cs = ec x ∧ good x)
    (hv : Value.okWide P W .any b0 t v) (hd : DataW.Trod enc P W 0 spare held t v d ps) : ∃ xs, ArgSl (hpW W) sz ec good v xs := by
  obtain ⟨a, len, cap, rfl⟩ := okWide_slice ht hv
  obtain ⟨fuel, hf⟩ := hd
  rcases open_slice ht hf with ⟨h0, _⟩ | ⟨a', len', cap', m, n', D, Pl, hcs, _, hl, hm, hmm, _, hx⟩
  · simp [Value.cells] at h0
    obtain ⟨rfl, rfl, rfl⟩ := h0
    exact ⟨[], by simp, .inl ⟨_, _, rfl, rfl⟩⟩
  · simp [Value.cells] at hcs
    obtain ⟨rfl, rfl, rfl⟩ := hcs
    have hlm : len ≤ m := by rw [hmm]; split <;> omega
    rw [hC] at hx
    obtain ⟨xs, hxl, hxx⟩ := choose_list (fun i x => good x ∧ (ec x).length = sz ∧ (∀ j, j < sz → W.cell? (a'.add (i * sz + j)) = (ec x)[j]?)) len (fun i hi => by
      obtain ⟨cs', hc, ht'⟩ := hx i (by omega)
      obtain ⟨_, hcl, hat⟩ := World.cells?_some hc
      obtain ⟨x, rfl, hg⟩ := hdec cs' (flat_open n e ks _ _ _ hk ht')
      refine ⟨x, hg, hcl, fun j hj => ?_⟩
      rw [← Go.Deep.add_add, hat j hj])
    refine ⟨xs, fun x hx => ?_, ?_⟩
    · obtain ⟨i, hi, he⟩ := List.getElem_of_mem hx
      exact (hxx i x (by rw [List.getElem?_eq_getElem hi, he])).1
    · by_cases hl0 : len = 0
      · subst hl0
        have : xs = [] := by simpa using hxl
        exact .inl ⟨_, _, rfl, this⟩
      · right
        obtain ⟨b, o, s⟩ := a'
        have hx0 := hxx 0 xs[0] (List.getElem?_eq_getElem (by omega))
        have h1 := hx0.2.2 0 h0
        rw [List.getElem?_eq_getElem (by omega)] at h1
        simp only [Nat.zero_mul, Nat.add_zero, Addr.add, if_true, World.cell?] at h1
        split at h1
        · rename_i c E fr hb
          split at h1
          · cases h1
          · rename_i hs
            have hs' : s = none := by simpa using hs
            subst hs'
            refine ⟨b, o, cap, c, E, fr, by rw [hxl], by omega, hm, hb, fun i x hx j hj => ?_⟩
            have h2 := (hxx i x hx).2.2 j hj
            have e : ((⟨b, o, none⟩ : Addr).add (i * sz + j)) = ⟨b, o + (i * sz + j), none⟩ := by unfold Addr.add; split <;> simp_all
            rw [e] at h2
            simp only [World.cell?, hb] at h2
            rw [Nat.add_assoc]
            simpa using h2
        · cases h1
end
end Go.Proofs.Ytmbhlbohbpepaaa

/- The row bridge: numbers of arguments, parts of argument slices. -/
namespace Go.Proofs.Ytmbhlbohbpepaaa
open Go

theorem i64_wf {n : Int} (h : (Lit.int .i64 n).wf = true) : -9223372036854775808 ≤ n ∧ n < 9223372036854775808 := by
  have e1 : IntKind.i64.min = -9223372036854775808 := by decide
  have e2 : IntKind.i64.max = 9223372036854775807 := by decide
  simp [Lit.wf, e1, e2] at h
  omega

theorem u32_wf {n : Int} (h : (Lit.int .u32 n).wf = true) : ∃ m : Nat, n = m ∧ m < 2 ^ 32 := by
  have e1 : IntKind.u32.min = 0 := by decide
  have e2 : IntKind.u32.max = 4294967295 := by decide
  simp [Lit.wf, e1, e2] at h
  exact ⟨n.toNat, by omega, by omega⟩

theorem u16_wf {n : Int} (h : (Lit.int .u16 n).wf = true) : ∃ m : Nat, n = m ∧ m < 2 ^ 16 := by
  have e1 : IntKind.u16.min = 0 := by decide
  have e2 : IntKind.u16.max = 65535 := by decide
  simp [Lit.wf, e1, e2] at h
  exact ⟨n.toNat, by omega, by omega⟩

theorem u8_wf {n : Int} (h : (Lit.int .u8 n).wf = true) : ∃ m : Nat, n = m ∧ m < 2 ^ 8 := by
  have e1 : IntKind.u8.min = 0 := by decide
  have e2 : IntKind.u8.max = 255 := by decide
  simp [Lit.wf, e1, e2] at h
  exact ⟨n.toNat, by omega, by omega⟩

theorem ArgSl.at {α : Type} {h : Hp} {sz : Nat} {enc : α → List Value} {good : α → Prop} {v : Value} {xs : List α} {i : Nat} {x : α} (A : ArgSl h sz enc good v xs) (hx : xs[i]? = some x) :
    good x ∧ ∃ b o cap c E fr, v = .slice (some ⟨b, o, none⟩) xs.length cap ∧ h b = some (.cells c E fr) ∧ ∀ j, j < sz → c[o + i * sz + j]? = (enc x)[j]? := by
  refine ⟨A.1 x (List.mem_of_getElem? hx), ?_⟩
  rcases A.2 with ⟨p, cap, rfl, rfl⟩ | ⟨b, o, cap, c, E, fr, rfl, h1, h2, hb, he⟩
  · simp at hx
  · exact ⟨b, o, cap, c, E, fr, rfl, hb, he i x hx⟩

end Go.Proofs.Ytmbhlbohbpepaaa

/- Many calls of a table; RibTakes: the walk. -/
namespace Go.Proofs.Ytmbhlbohbpepaaa
open Go
set_option linter.unusedSimpArgs false
set_option linter.unusedVariables false

structure OpX where
  k : Int
  x : Rt
def OpX.enc (o : OpX) : List Value := .int .i64 o.k :: o.x.enc
def argOps9 (h : Hp) (v : Value) (xs : List OpX) : Prop := ArgSl h 8 OpX.enc (fun o => o.x.Good) v xs

theorem argOps9.get {h : Hp} {v : Value} {xs : List OpX} {i : Nat} {o : OpX} (A : argOps9 h v xs) (hx : xs[i]? = some o) :
    o.x.Good ∧ ∃ b f cap c E fr, v = .slice (some ⟨b, f, none⟩) xs.length cap ∧ h b = some (.cells c E fr) ∧ c[f + i * 8]? = some (.int .i64 o.k) ∧ c[f + i * 8 + 1]? = some (.int .u32 (o.x.a : Nat)) ∧ c[f + i * 8 + 2]? = some (.int .i64 o.x.l) ∧ c[f + i * 8 + 3]? = some (.int .i64 o.x.d) ∧
      c[f + i * 8 + 4]? = some (.int .i64 o.x.ds) ∧ c[f + i * 8 + 5]? = some (.int .i64 o.x.m) ∧ c[f + i * 8 + 6]? = some (.int .i64 o.x.nx) ∧ c[f + i * 8 + 7]? = some (.int .u16 (o.x.tg : Nat)) := by
  obtain ⟨hg, b, f, cap, c, E, fr, e, hb, he⟩ := ArgSl.at A hx
  exact ⟨hg, b, f, cap, c, E, fr, e, hb, he 0 (by omega), he 1 (by omega), he 2 (by omega), he 3 (by omega), he 4 (by omega), he 5 (by omega), he 6 (by omega), he 7 (by omega)⟩

/-- No more than there may be. -/
def Fit9 (most : Int) (m : List (RK × Rt)) : Prop := m = [] ∨ (m.length : Int) ≤ most

theorem fit_put {most rf : Int} {m : List (RK × Rt)} {x : Rt} (F : Fit9 most m) : Fit9 most (putS most rf m x).2.2 := by
  unfold putS
  split
  · exact F
  · split
    · exact F
    · rename_i h
      right
      simp only
      rw [setM_length]
      cases hg : getM m x.key with
      | none =>
        have : ¬ most ≤ (m.length : Int) := fun q => h ⟨hg, q⟩
        simp; omega
      | some y =>
        rcases F with rfl | F
        · simp [getM_nil] at hg
        · simpa using F

theorem fit_del {most : Int} {m : List (RK × Rt)} {k : RK} (F : Fit9 most m) : Fit9 most (delM k m) := by
  rcases F with rfl | F
  · exact .inl rfl
  · right
    have := (delM_sub (a := k) (m := m)).length_le
    omega

def TkInv (h0 : Hp) (most : Int) (v : Value) (xs : List OpX) (addr : Nat) (mm : Nat) (env : Env) (g : Hp) : Prop :=
  ∃ (i r : Nat) (rf : Int) (m : List (RK × Rt)) (T : PL) (k : Nat) (O : List Nat), env 0 = .int .i64 most ∧ env 1 = v ∧ env 2 = .int .u32 (addr : Nat) ∧ env 8 = .pointer (some ⟨r, 0, none⟩) ∧ env 9 = .int .i64 (i : Nat) ∧ i + mm = xs.length ∧ i ≤ xs.length ∧ k ≤ i ∧
    ROwn h0 g r (min most 64) rf m T k O ∧ Fit9 (min most 64) m

def TlInv (g0 : Hp) (is : Bool) (v : Value) (L : List Rt) (addr b : Nat) (mm : Nat) (env : Env) (g : Hp) : Prop :=
  g = g0 ∧ ∃ i : Nat, env 2 = .int .u32 (addr : Nat) ∧ env 10 = .pointer (some ⟨b, 0, none⟩) ∧ env 11 = .bool is ∧ env 12 = v ∧ env 13 = .int .i64 (i : Nat) ∧ i + mm = L.length ∧ i ≤ L.length

set_option maxRecDepth 20000 in
set_option maxHeartbeats 4000000 in
theorem takes_loop2 {h g0 : Hp} {m : List (RK × Rt)} {T : PL} {v : Value} {addr b : Nat} (R : RInv m T) (ha : addr < 2 ^ 32) (S : SlAt g0 T_api_Route 7 Rt.enc v (allR m (T.map (·.1)))) (fb : g0 b = some (rcl ((findR m T addr).getD rz))) (l : Le h g0) :
    ∀ mm env g, TlInv g0 (findR m T addr).isSome v (allR m (T.map (·.1))) addr b mm env g → octroilaw09_RibTakes_L1 (roundK (TlInv g0 (findR m T addr).isSome v (allR m (T.map (·.1))) addr b) mm (inBlk 2 (thenK (sq (rg octroilaw09_RibTakes_r20) (ex .ret)) (fin Try.prog [ResultVar.tmp 6] (fun r g => r = .bool true ∧ Le h g))))) env g := by
  rintro mm env g ⟨rfl, i, e2, e10, e11, e12, e13, him, hi⟩
  have hlen := allR_length_eq R
  have hml := R.len
  obtain ⟨p, cap, hv⟩ := S.shape'
  unfold octroilaw09_RibTakes_L1
  by_cases hm : mm = 0
  · have : i = (allR m (T.map (·.1))).length := by omega
    subst this
    simp (disch := omega) [octroilaw09_RibTakes_r16, octroilaw09_RibTakes_r20, e2, e10, e11, e12, e13, hv]
    exact .to _ (.refl _) ⟨rfl, l⟩
  · obtain ⟨y, hy⟩ : ∃ y, (allR m (T.map (·.1)))[i]? = some y := ⟨_, List.getElem?_eq_getElem (by omega)⟩
    obtain ⟨bb, cap', c, hv', hb, q0, q1, q2, q3, q4, q5, q6⟩ := rt_at S hy
    have hya := (allR_mem R).1 (List.mem_of_getElem? hy)
    obtain ⟨_, hmy, hgy⟩ := R.key _ (getM_mem hya)
    have hmy : mayR y = true := hmy
    have hgy : y.Good := hgy
    have hmb := mayR_mayB hmy
    have hi' : i < (allR m (T.map (·.1))).length := by omega
    rw [hv'] at e12
    simp (disch := omega) [octroilaw09_RibTakes_r16, e2, e10, e11, e12, e13, hi']
    simp (disch := omega) [octroilaw09_RibTakes_r17, e2, e10, e11, e12, e13, hi', hb, q0, q1]
    refine has_spec hgy.a ha ?_
    rw [hmb, Bool.true_and]
    have hp : hasB (y.a, y.l.toNat) addr = hasB (rpf y) addr := rfl
    rw [hp]
    cases hF : findR m T addr with
    | none =>
      rw [hF] at e11
      simp only [Option.isSome_none] at e11
      have hn := find_none R hF hya
      simp (disch := omega) [hn, e11, octroilaw09_RibTakes_r19, e13, wrap_i64]
      exact ⟨mm - 1, by omega, rfl, i + 1, by simp [e2], by simp [e10], by simp [e11], by simp [e12, hv'], by simp, by omega, by omega⟩
    | some x =>
      rw [hF] at e11 fb
      simp only [Option.isSome_some] at e11
      simp only [Option.getD_some] at fb
      obtain ⟨B1, B2, B3⟩ := find_is R hF
      have hgx := (R.key _ (getM_mem B1.1)).2.2
      have hgx : x.Good := hgx
      by_cases hh : hasB (rpf y) addr = true
      · have hle : ¬ x.l < y.l := by have := B3 y hya hh; omega
        by_cases he : y.a = x.a ∧ y.l = x.l
        · obtain ⟨he1, he2⟩ := he
          have hb' : ¬ cmpR y x < 0 := fun q => B1.2.2.2 y hya he1 he2 (cmpR_lt.1 q)
          have he1' := eq_true he1
          have he2' := eq_true he2
          have he3' := eq_true (show ((y.a : Nat) : Int) = ((x.a : Nat) : Int) by omega)
          clear he1 he2
          simp (disch := omega) [hh, e10, e11, e12, e13, fb, hi', hb, q0, q1, q2, q3, q4, q5, q6, hle, he1', he2', he3']
          refine better_spec hgy hgx ?_
          simp (disch := omega) [hb', octroilaw09_RibTakes_r19, e13, wrap_i64]
          exact ⟨mm - 1, by omega, rfl, i + 1, by simp [e2], by simp [e10], by simp [e11], by simp [e12, hv'], by simp, by omega, by omega⟩
        · have hne : (decide (y.a = x.a) && decide (y.l = x.l)) = false := by simp; omega
          have hne2 : (decide (((y.a : Nat) : Int) = ((x.a : Nat) : Int)) && decide (y.l = x.l)) = false := by simp; omega
          simp (disch := omega) [hh, e10, e11, e12, e13, fb, hi', hb, q0, q1, q2, q3, q4, q5, q6, hle, hne, hne2]
          simp (disch := omega) [octroilaw09_RibTakes_r19, e13, wrap_i64]
          exact ⟨mm - 1, by omega, rfl, i + 1, by simp [e2], by simp [e10], by simp [e11], by simp [e12, hv'], by simp, by omega, by omega⟩
      · have hh' : hasB (rpf y) addr = false := by simpa using hh
        by_cases he : y.a = x.a ∧ y.l = x.l
        · exfalso
          apply hh
          rw [show rpf y = rpf x by unfold rpf; rw [he.1, he.2]]
          exact B2
        · have hne : (decide (y.a = x.a) && decide (y.l = x.l)) = false := by simp; omega
          have hne2 : (decide (((y.a : Nat) : Int) = ((x.a : Nat) : Int)) && decide (y.l = x.l)) = false := by simp; omega
          simp (disch := omega) [hh', e10, e11, e12, e13, fb, hi', hb, q0, q1, q2, q3, q4, q5, q6, hne, hne2]
          simp (disch := omega) [octroilaw09_RibTakes_r19, e13, wrap_i64]
          exact ⟨mm - 1, by omega, rfl, i + 1, by simp [e2], by simp [e10], by simp [e11], by simp [e12, hv'], by simp, by omega, by omega⟩
end Go.Proofs.Ytmbhlbohbpepaaa

/- Two tables beside each other; puts in any order; Same. -/
namespace Go.Proofs.Ytmbhlbohbpepaaa
open Go
set_option linter.unusedSimpArgs false
set_option linter.unusedVariables false

/-- The table has just these routes. -/
def Just (m : List (RK × Rt)) (P : Rt → Prop) : Prop := ∀ k x, getM m k = some x ↔ (P x ∧ mayR x = true ∧ x.key = k)

theorem just_nil : Just [] (fun _ => False) := fun k x => by simp [getM_nil]

theorem just_put {most rf : Int} {m : List (RK × Rt)} {P : Rt → Prop} {x : Rt} (J : Just m P) (hn : ∀ y, P y → y.key ≠ x.key) (hl : (m.length : Int) < most) :
    Just (putS most rf m x).2.2 (fun y => P y ∨ y = x) ∧ (putS most rf m x).2.2.length ≤ m.length + 1 := by
  unfold putS
  by_cases hm : mayR x = false
  · rw [if_pos hm]
    refine ⟨fun k y => ?_, by simp⟩
    rw [J k y]
    constructor
    · rintro ⟨h1, h2, h3⟩; exact ⟨.inl h1, h2, h3⟩
    · rintro ⟨h1 | h1, h2, h3⟩
      · exact ⟨h1, h2, h3⟩
      · subst h1; rw [hm] at h2; cases h2
  · have hm' : mayR x = true := by simpa using hm
    rw [if_neg hm, if_neg (fun q => by omega)]
    refine ⟨fun k y => ?_, ?_⟩
    · simp only
      rw [getM_setM]
      by_cases hk : k = x.key
      · rw [if_pos hk]
        constructor
        · intro e; cases e; exact ⟨.inr rfl, hm', hk.symm⟩
        · rintro ⟨h1 | h1, h2, h3⟩
          · exact (hn y h1 (by rw [h3, hk])).elim
          · rw [h1]
      · rw [if_neg hk, J k y]
        constructor
        · rintro ⟨h1, h2, h3⟩; exact ⟨.inl h1, h2, h3⟩
        · rintro ⟨h1 | h1, h2, h3⟩
          · exact ⟨h1, h2, h3⟩
          · subst h1; exact (hk h3.symm).elim
    · simp only
      rw [setM_length]
      split <;> omega

theorem just_ext {m m' : List (RK × Rt)} {P P' : Rt → Prop} (J : Just m P) (J' : Just m' P') (h : ∀ x, P x ↔ P' x) : ∀ k, getM m k = getM m' k := by
  intro k
  cases e : getM m' k with
  | some x => exact (J k x).2 (by have := (J' k x).1 e; exact ⟨(h x).2 this.1, this.2⟩)
  | none =>
    cases e2 : getM m k with
    | none => rfl
    | some x =>
      have := (J k x).1 e2
      have := (J' k x).2 ⟨(h x).1 this.1, this.2⟩
      rw [e] at this; cases this

/-- Two tables of one's own. -/
structure Two (h0 g : Hp) (r s : Nat) (most : Int) (m m' : List (RK × Rt)) (k : Nat) : Prop where
  ex : ∃ rf rf' T T' O O', ROwn h0 g r most rf m T k O ∧ ROwn h0 g s most rf' m' T' k O' ∧ ∀ x, x ∈ O → x ∉ O'

theorem ROwn.other {h0 g g' : Hp} {s : Nat} {most rf : Int} {m : List (RK × Rt)} {T : PL} {k : Nat} {O O1 O1' : List Nat} (A : ROwn h0 g s most rf m T k O) (F : Fr g g' O1 O1') (d : ∀ x, x ∈ O1 → x ∉ O) (A1 : Le h0 g') :
    ROwn h0 g' s most rf m T k O ∧ ∀ x, x ∈ O1' → x ∉ O := by
  refine ⟨⟨A.m.keep fun x o hx e => F.keep x o e (fun q => d x q hx), A1, A.new⟩, fun x hx hx' => ?_⟩
  rcases F.own x hx with q | q
  · exact d x q hx'
  · obtain ⟨o, e⟩ := A.m.alive x hx'; rw [q] at e; cases e

def SameInv (g0 : Hp) (v w : Value) (L : List Rt) (mm : Nat) (env : Env) (g : Hp) : Prop :=
  g = g0 ∧ ∃ i : Nat, env 0 = v ∧ env 1 = w ∧ env 5 = .int .i64 (i : Nat) ∧ i + mm = L.length ∧ i ≤ L.length

set_option maxRecDepth 20000 in
theorem same_spec {h : Hp} {v w : Value} {L : List Rt} {Q : Value → Hp → Prop} (S : SlAt h T_api_Route 7 Rt.enc v L) (S' : SlAt h T_api_Route 7 Rt.enc w L) (hl : L.length ≤ 1000000) (hQ : Q (.bool true) h) : Ok Try.prog F_octroiref09_Same #[v, w] h Q := by
  obtain ⟨p, cap, hv⟩ := S.shape'
  obtain ⟨p', cap', hw⟩ := S'.shape'
  refine octroiref09_Same_ok (by simp) ?_
  unfold octroiref09_Same_D
  simp (disch := omega) [octroiref09_Same_r0, octroiref09_Same_r1, octroiref09_Same_r3, hv, hw]
  refine ⟨SameInv h v w L, ⟨L.length, rfl, 0, by simp [hv], by simp [hw], by simp, by omega, by omega⟩, ?_⟩
  rintro mm env g ⟨rfl, i, e0, e1, e5, him, hi⟩
  unfold octroiref09_Same_L0
  by_cases hm : mm = 0
  · have : i = L.length := by omega
    subst this
    simp (disch := omega) [octroiref09_Same_r4, octroiref09_Same_r8, e0, e1, e5, hv]
    exact .to _ (.refl _) hQ
  · obtain ⟨y, hy⟩ : ∃ y, L[i]? = some y := ⟨_, List.getElem?_eq_getElem (by omega)⟩
    obtain ⟨b, c1, c, ev, hb, q0, q1, q2, q3, q4, q5, q6⟩ := rt_at S hy
    obtain ⟨b', c1', c', ew, hb', t0, t1, t2, t3, t4, t5, t6⟩ := rt_at S' hy
    have hi' : i < L.length := by omega
    rw [ev] at e0
    rw [ew] at e1
    simp (disch := omega) [octroiref09_Same_r4, octroiref09_Same_r5, octroiref09_Same_r7, e0, e1, e5, hi', hb, hb', q0, q1, q2, q3, q4, q5, q6, t0, t1, t2, t3, t4, t5, t6, wrap_i64]
    exact ⟨mm - 1, by omega, rfl, i + 1, by simp [e0, ev], by simp [e1, ew], by simp, by omega, by omega⟩
end Go.Proofs.Ytmbhlbohbpepaaa

/- The document's table: at, ahead, New. -/
namespace Go.Proofs.Ytmbhlbohbpepaaa
open Go
set_option linter.unusedSimpArgs false
set_option linter.unusedVariables false

def RefM (h : Hp) (s : Nat) (most full : Int) (L : List Rt) (O : List Nat) : Prop :=
  ∃ vd, h s = some (.cells #[.int .i64 most, vd, .int .i64 full] 54 (0, 0)) ∧ SlAt h T_api_Route 7 Rt.enc vd L ∧ O = s :: (blkOf vd).toList

theorem RefM.keep {h h' : Hp} {s : Nat} {most full : Int} {L : List Rt} {O : List Nat} (M : RefM h s most full L O) (l : ∀ x o, x ∈ O → h x = some o → h' x = some o) : RefM h' s most full L O := by
  obtain ⟨vd, hs, S, rfl⟩ := M
  exact ⟨vd, l _ _ (by simp) hs, S.keep (fun b o e q => l _ _ (by simp [e]) q), rfl⟩
theorem RefM.le {h h' : Hp} {s : Nat} {most full : Int} {L : List Rt} {O : List Nat} (M : RefM h s most full L O) (l : Le h h') : RefM h' s most full L O := M.keep fun _ _ _ e => l _ _ e
theorem RefM.alive {h : Hp} {s : Nat} {most full : Int} {L : List Rt} {O : List Nat} (M : RefM h s most full L O) : ∀ x, x ∈ O → ∃ o, h x = some o := by
  obtain ⟨vd, hs, S, rfl⟩ := M
  intro x hx
  simp only [List.mem_cons, Option.mem_toList] at hx
  rcases hx with rfl | hx
  · exact ⟨_, hs⟩
  · exact S.alive hx

theorem refNe {h : Hp} {s : Nat} {c : Array Value} {vd : Value} {L : List Rt} (hs : h s = some (.cells c 54 (0, 0))) (S : SlAt h T_api_Route 7 Rt.enc vd L) : ∀ b, blkOf vd = some b → b ≠ s := by
  intro b e q
  subst q
  rcases S with ⟨rfl, _⟩ | ⟨b', cap, c', rfl, hb, _⟩
  · cases e
  · cases e; rw [hs] at hb; cases hb

def isK (x : Rt) (a : Nat) (l d : Int) : Bool := decide (x.a = a) && decide (x.l = l) && decide (x.d = d)
def atL (L : List Rt) (a : Nat) (l d : Int) : Option Nat := L.findIdx? fun x => isK x a l d
def idI (o : Option Nat) : Int := match o with | some i => (i : Nat) | none => -1

section
variable {h : Hp} {s : Nat} {most full : Int} {L : List Rt} {O : List Nat} {Q : Value → Hp → Prop}

theorem refnewM (hQ : ∀ s h' O, Le h h' → (∀ x, x ∈ O → h x = none) → RefM h' s (min most 64) 0 [] O → Q (.pointer (some ⟨s, 0, none⟩)) h') : Ok Try.prog F_octroiref09_New #[.int .i64 most] h Q := by
  refine octroiref09_New_ok (by simp) ?_
  unfold octroiref09_New_D
  have fin : ∀ z, z = min most 64 → ∀ s, h s = none → Q (.pointer (some ⟨s, 0, none⟩)) (h.upd s (.cells #[.int .i64 z, .slice none 0 0, .int .i64 0] 54)) := fun z hz s hs => by
    subst hz
    refine hQ s _ [s] (.new hs) (fun x hx => ?_) ⟨_, upd_same, .inl ⟨rfl, rfl⟩, rfl⟩
    simp at hx; subst hx; exact hs
  by_cases hm : 64 < most
  · simp (disch := omega) [octroiref09_New_r0, octroiref09_New_r1, octroiref09_New_r2, octroiref09_New_r3, hm]
    intro s hs
    exact .to _ (.refl _) (fin 64 (by omega) s hs)
  · simp (disch := omega) [octroiref09_New_r0, octroiref09_New_r1, octroiref09_New_r3, hm]
    intro s hs
    exact .to _ (.refl _) (fin most (by omega) s hs)

def AtInv (h0 : Hp) (s b4 : Nat) (L : List Rt) (a : Nat) (l d : Int) (mm : Nat) (env : Env) (g : Hp) : Prop :=
  g = h0 ∧ ∃ i : Nat, env 0 = .pointer (some ⟨s, 0, none⟩) ∧ env 2 = .int .i64 d ∧ env 4 = .pointer (some ⟨b4, 0, none⟩) ∧ env 7 = .int .i64 (i : Nat) ∧ i + mm = L.length ∧ i ≤ L.length ∧ ∀ j x, j < i → L[j]? = some x → isK x a l d = false

theorem atL_some {L : List Rt} {a i : Nat} {l d : Int} {x : Rt} (hx : L[i]? = some x) (hk : isK x a l d = true) (hb : ∀ j x, j < i → L[j]? = some x → isK x a l d = false) : atL L a l d = some i := by
  unfold atL
  rw [List.findIdx?_eq_some_iff_getElem]
  have hi := (List.getElem?_eq_some_iff.1 hx).1
  refine ⟨hi, by rw [(List.getElem?_eq_some_iff.1 hx).2]; exact hk, fun j hj => ?_⟩
  have := hb j _ hj (List.getElem?_eq_getElem (by omega))
  rw [this]; simp
theorem atL_none {L : List Rt} {a : Nat} {l d : Int} (hb : ∀ j x, j < L.length → L[j]? = some x → isK x a l d = false) : atL L a l d = none := by
  unfold atL
  rw [List.findIdx?_eq_none_iff]
  intro x hx
  obtain ⟨j, hj⟩ := List.mem_iff_getElem?.1 hx
  exact hb j x (List.getElem?_eq_some_iff.1 hj).1 hj

set_option maxRecDepth 20000 in
set_option maxHeartbeats 1000000 in
theorem refatM {a : Nat} {l d : Int} (M : RefM h s most full L O) (hl : L.length ≤ 1000000) (hQ : ∀ h', Le h h' → Q (.int .i64 (idI (atL L a l d))) h') : Ok Try.prog F_octroiref09_Rib_at #[.pointer (some ⟨s, 0, none⟩), .agg #[.int .u32 (a : Nat), .int .i64 l], .int .i64 d] h Q := by
  refine octroiref09_Rib_at_ok (by simp) ?_
  unfold octroiref09_Rib_at_D
  simp (disch := omega) [octroiref09_Rib_at_r0]
  intro b4 hb4
  have L1 : Le h (h.upd b4 (.cells #[.int .u32 (a : Nat), .int .i64 l] 24)) := .new hb4
  have f4 : (h.upd b4 (.cells #[.int .u32 (a : Nat), .int .i64 l] 24)) b4 = some (.cells #[.int .u32 (a : Nat), .int .i64 l] 24) := upd_same
  generalize h.upd b4 (.cells #[.int .u32 (a : Nat), .int .i64 l] 24) = g1 at *
  have M1 := M.le L1
  obtain ⟨vd, hs, S, hO⟩ := M1
  simp (disch := omega) [octroiref09_Rib_at_r1]
  refine ⟨AtInv g1 s b4 L a l d, ⟨L.length, rfl, 0, by simp, by simp, by simp, by simp, by omega, by omega, fun j x hj => by omega⟩, ?_⟩
  rintro mm env g ⟨rfl, i, e0, e2, e4, e7, him, hi, hb⟩
  unfold octroiref09_Rib_at_L0
  obtain ⟨p, cap, hv⟩ := S.shape'
  by_cases hm : mm = 0
  · have : i = L.length := by omega
    subst this
    rw [hv] at hs
    rw [atL_none hb] at hQ
    simp (disch := omega) [octroiref09_Rib_at_r2, octroiref09_Rib_at_r6, e0, e7, hs]
    exact .to _ (.refl _) (hQ _ L1)
  · obtain ⟨x, hx⟩ : ∃ x, L[i]? = some x := ⟨_, List.getElem?_eq_getElem (by omega)⟩
    obtain ⟨b, cap', c, hv', hbb, q0, q1, q2, q3, q4, q5, q6⟩ := rt_at S hx
    have hi' : i < L.length := by omega
    rw [hv'] at hs
    simp (disch := omega) [octroiref09_Rib_at_r2, e0, e7, hs, hi']
    have next : isK x a l d = false → ∀ j z, j < i + 1 → L[j]? = some z → isK z a l d = false := fun hk j z hj hz => by
      by_cases hji : j = i
      · subst hji; rw [hx] at hz; cases hz; exact hk
      · exact hb j z (by omega) hz
    by_cases hp : x.a = a ∧ x.l = l
    · have p1 := eq_true hp.1
      have p2 := eq_true hp.2
      have p3 := eq_true (show ((x.a : Nat) : Int) = (a : Nat) by omega)
      by_cases hd : x.d = d
      · have p4 := eq_true hd
        rw [atL_some hx (by unfold isK; simp [hp.1, hp.2, hd]) hb] at hQ
        simp (disch := omega) [octroiref09_Rib_at_r3, octroiref09_Rib_at_r4, e0, e2, e4, e7, hs, hi', hbb, f4, q0, q1, q2, p1, p2, p3, p4]
        exact .to _ (.refl _) (hQ _ L1)
      · simp (disch := omega) [octroiref09_Rib_at_r3, e0, e2, e4, e7, hs, hi', hbb, f4, q0, q1, q2, p1, p2, p3, hd]
        simp (disch := omega) [octroiref09_Rib_at_r5, e7, wrap_i64]
        exact ⟨mm - 1, by omega, rfl, i + 1, by simp [e0], by simp [e2], by simp [e4], by simp, by omega, by omega, next (by unfold isK; simp [hd])⟩
    · have n1 : (decide (x.a = a) && decide (x.l = l)) = false := by simp; omega
      have n2 : (decide (((x.a : Nat) : Int) = ((a : Nat) : Int)) && decide (x.l = l)) = false := by simp; omega
      simp (disch := omega) [octroiref09_Rib_at_r3, e0, e2, e4, e7, hs, hi', hbb, f4, q0, q1, q2, n1, n2]
      simp (disch := omega) [octroiref09_Rib_at_r5, e7, wrap_i64]
      exact ⟨mm - 1, by omega, rfl, i + 1, by simp [e0], by simp [e2], by simp [e4], by simp, by omega, by omega, next (by unfold isK; rw [n1]; rfl)⟩
end
end Go.Proofs.Ytmbhlbohbpepaaa

/- The document's table: which stands ahead; writing one of a slice; what is put in between. -/
namespace Go.Proofs.Ytmbhlbohbpepaaa
open Go
set_option linter.unusedSimpArgs false
set_option linter.unusedVariables false

def aheadB (x y : Rt) : Bool := (decide (x.a < y.a) || (decide (x.a = y.a) && decide (x.l < y.l))) || (decide (x.a = y.a) && decide (x.l = y.l) && decide (x.d < y.d))

set_option maxRecDepth 20000 in
set_option maxHeartbeats 1000000 in
theorem ahead_spec {x y : Rt} {h : Hp} {Q : Value → Hp → Prop} (hQ : Q (.bool (aheadB x y)) h) : Ok Try.prog F_octroiref09_ahead #[rv x, rv y] h Q := by
  refine octroiref09_ahead_ok (by simp) ?_
  unfold octroiref09_ahead_D
  simp (disch := omega) [octroiref09_ahead_r0]
  intro b1 hb1 b2 hb2
  obtain ⟨n12, hb2'⟩ := upd_none hb2
  have l : Le h ((h.upd b1 (rcl x)).upd b2 (rcl y)) := (Le.new hb1).trans (Le.new hb2)
  obtain ⟨f1, f2⟩ := rcl_two (h := h) (x := x) (y := y) n12
  generalize (h.upd b1 (rcl x)).upd b2 (rcl y) = g at *
  simp (disch := omega) [octroiref09_ahead_r1, f1, f2]
  refine rless_spec ?_
  unfold aheadB at hQ
  cases hb : (decide (x.a < y.a) || (decide (x.a = y.a) && decide (x.l < y.l))) with
  | true =>
    rw [hb, Bool.true_or] at hQ
    simp (disch := omega) [octroiref09_ahead_r2]
    exact .to _ l hQ
  | false =>
    rw [hb, Bool.false_or] at hQ
    by_cases hp : x.a = y.a ∧ x.l = y.l
    · have p1 := eq_true hp.1
      have p2 := eq_true hp.2
      have p3 := eq_true (show ((x.a : Nat) : Int) = ((y.a : Nat) : Int) by omega)
      rw [show (decide (x.a = y.a) && decide (x.l = y.l)) = true by simp [hp.1, hp.2], Bool.true_and] at hQ
      simp (disch := omega) [octroiref09_ahead_r2, f1, f2, p1, p2, p3]
      exact .to _ l hQ
    · have n1 : (decide (x.a = y.a) && decide (x.l = y.l)) = false := by simp; omega
      have n2 : (decide (((x.a : Nat) : Int) = ((y.a : Nat) : Int)) && decide (x.l = y.l)) = false := by simp; omega
      rw [n1, Bool.false_and] at hQ
      simp (disch := omega) [octroiref09_ahead_r2, f1, f2, n1, n2]
      exact .to _ l hQ

/-! ### Writing a part of a block -/
theorem stN_at {b : Nat} {E : TypeId} {k : Hp → Prop} : ∀ (vals : List Value) (o : Nat) (c : Array Value) (h : Hp), h b = some (.cells c E (0, 0)) → o + vals.length ≤ c.size → vals.all oneCell = true →
    ∃ c' : Array Value, c'.size = c.size ∧ (∀ j, j < vals.length → c'[o + j]? = vals[j]?) ∧ (∀ j, j < o ∨ o + vals.length ≤ j → c'[j]? = c[j]?) ∧ (k (h.upd b (.cells c' E (0, 0))) → stN h b o vals k)
  | [], o, c, h, hb, hs, _ => ⟨c, rfl, fun j hj => by simp at hj, fun j _ => rfl, fun q => by rw [upd_self hb] at q; exact q⟩
  | v :: vals, o, c, h, hb, hs, ho => by
    simp only [List.all_cons, Bool.and_eq_true] at ho
    simp only [List.length_cons] at hs
    have hlt : o < c.size := by omega
    obtain ⟨c', h1, h2, h3, h4⟩ := stN_at (k := k) vals (o + 1) (c.setIfInBounds o v) (h.upd b (.cells (c.setIfInBounds o v) E (0, 0))) upd_same (by simp; omega) ho.2
    refine ⟨c', by rw [h1]; simp, fun j hj => ?_, fun j hj => ?_, fun q => ?_⟩
    · cases j with
      | zero =>
        rw [h3 (o + 0) (by omega)]
        simp [hlt]
      | succ j =>
        have := h2 j (by simpa using hj)
        rw [show o + (j + 1) = o + 1 + j by omega, this]
        simp
    · simp only [List.length_cons] at hj
      rw [h3 j (by omega), Array.getElem?_setIfInBounds_ne (by omega)]
    · rw [stN_cons]
      have hc : h.cell? ⟨b, o, none⟩ = some c[o] := by unfold Hp.cell?; simp [hb, hlt]
      have hf : h.frozen? ⟨b, o, none⟩ = false := by unfold Hp.frozen?; simp [hb]
      have hset : h.setCell ⟨b, o, none⟩ v = h.upd b (.cells (c.setIfInBounds o v) E (0, 0)) := by rw [setCell_def, hb]
      rw [hc, hf, stw_ok, hset]
      refine ⟨ho.1, h4 ?_⟩
      have e : (h.upd b (.cells (c.setIfInBounds o v) E (0, 0))).upd b (.cells c' E (0, 0)) = h.upd b (.cells c' E (0, 0)) := by
        funext i; rw [upd_get, upd_get, upd_get]; split <;> simp
      rw [e]; exact q

/-- One of a slice is written. -/
theorem SlAt.setAt {α : Type} {h : Hp} {E sz : Nat} {enc : α → List Value} {b cap n : Nat} {xs : List α} {i : Nat} {y : α} {k : Hp → Prop} (S : SlAt h E sz enc (.slice (some ⟨b, 0, none⟩) n cap) xs) (hn : n = xs.length) (hi : i < xs.length) (hlen : (enc y).length = sz) (hone : (enc y).all oneCell = true)
    (hk : ∀ h', (∀ x o, h x = some o → x ≠ b → h' x = some o) → SlAt h' E sz enc (.slice (some ⟨b, 0, none⟩) n cap) (xs.set i y) → k h') : stN h b (i * sz) (enc y) k := by
  subst hn
  rcases S with ⟨e, _⟩ | ⟨b', cap', c, e, hb, h1, h2, h3⟩
  · cases e
  · cases e
    have hs : i * sz + (enc y).length ≤ c.size := by
      rw [hlen]
      have : (i + 1) * sz ≤ cap * sz := Nat.mul_le_mul_right sz (by omega)
      rw [Nat.add_mul] at this; omega
    obtain ⟨c', k1, k2, k3, k4⟩ := stN_at (k := k) (enc y) (i * sz) c h hb hs hone
    refine k4 (hk _ (fun x o e n => by rw [upd_ne n]; exact e) (.inr ⟨b, cap, c', by rw [List.length_set], upd_same, by rw [List.length_set]; exact h1, by rw [k1]; exact h2, fun j x hx m hm => ?_⟩))
    rw [List.getElem?_set] at hx
    split at hx
    · rename_i e
      subst e
      cases hx
      rw [Nat.zero_add, k2 m (by omega)]
    · rename_i e
      have := h3 j x hx m hm
      rw [k3 (0 + j * sz + m) ?_]
      · exact this
      · rw [hlen, Nat.zero_add]
        rcases Nat.lt_or_gt_of_ne e with q | q
        · right
          have : (i + 1) * sz ≤ j * sz := Nat.mul_le_mul_right sz (by omega)
          rw [Nat.add_mul] at this; omega
        · left
          have : (j + 1) * sz ≤ i * sz := Nat.mul_le_mul_right sz (by omega)
          rw [Nat.add_mul] at this; omega

def insR (x : Rt) : List Rt → List Rt
  | [] => [x]
  | y :: ys => if aheadB x y then x :: y :: ys else y :: insR x ys

theorem insR_mem {x z : Rt} : ∀ {L : List Rt}, z ∈ insR x L ↔ z = x ∨ z ∈ L
  | [] => by simp [insR]
  | y :: ys => by
    simp only [insR]
    split
    · simp
    · rw [List.mem_cons, insR_mem, List.mem_cons]
      constructor
      · rintro (h | h | h)
        · exact .inr (.inl h)
        · exact .inl h
        · exact .inr (.inr h)
      · rintro (h | h | h)
        · exact .inr (.inl h)
        · exact .inl h
        · exact .inr (.inr h)

theorem insR_length {x : Rt} : ∀ {L : List Rt}, (insR x L).length = L.length + 1
  | [] => rfl
  | y :: ys => by
    simp only [insR]
    split
    · simp
    · simp [insR_length]

theorem ahead_rlt {x y : Rt} (hx : 0 ≤ x.l) (hy : 0 ≤ y.l) : aheadB x y = true ↔ rlt x y := by
  unfold aheadB rlt plt rpf
  simp only [Bool.or_eq_true, Bool.and_eq_true, decide_eq_true_eq, Prod.mk.injEq]
  omega

theorem insR_sorted {x : Rt} (hx : 0 ≤ x.l) : ∀ {L : List Rt}, (∀ y ∈ L, 0 ≤ y.l) → L.Pairwise rlt → (∀ y ∈ L, y.key ≠ x.key) → (insR x L).Pairwise rlt
  | [], _, _, _ => by simp [insR]
  | y :: ys, hl, hs, hk => by
    rw [List.pairwise_cons] at hs
    have hy0 := hl y (by simp)
    simp only [insR]
    split
    · rename_i ha
      have hxy := (ahead_rlt hx hy0).1 ha
      rw [List.pairwise_cons, List.pairwise_cons]
      refine ⟨fun z hz => ?_, hs.1, hs.2⟩
      rcases List.mem_cons.1 hz with e | hz
      · rw [e]; exact hxy
      · exact rlt_trans hxy (hs.1 z hz)
    · rename_i ha
      have hyx : rlt y x := by
        have hn : ¬ rlt x y := fun q => ha ((ahead_rlt hx hy0).2 q)
        have hk' := hk y (by simp)
        simp only [rlt, plt, rpf, Prod.mk.injEq] at hn ⊢
        simp only [ne_eq, Rt.key, Prod.mk.injEq] at hk'
        omega
      rw [List.pairwise_cons]
      refine ⟨fun z hz => ?_, insR_sorted hx (fun z hz => hl z (by simp [hz])) hs.2 (fun z hz => hk z (by simp [hz]))⟩
      rcases insR_mem.1 hz with e | hz
      · rw [e]; exact hyx
      · exact hs.1 z hz
end Go.Proofs.Ytmbhlbohbpepaaa

/- The document's table: Put. -/
namespace Go.Proofs.Ytmbhlbohbpepaaa
open Go
set_option linter.unusedSimpArgs false
set_option linter.unusedVariables false

def putRef (most full : Int) (L : List Rt) (x : Rt) : Int × Int × List Rt :=
  if mayR x = false then (1, full, L) else
    match atL L x.a x.l x.d with
    | some i => (0, full, L.set i x)
    | none => if most ≤ (L.length : Int) then (4, full + 1, L) else (0, full, insR x L)

def RpInv (h0 : Hp) (s b3 : Nat) (x : Rt) (L : List Rt) (mm : Nat) (env : Env) (g : Hp) : Prop :=
  ∃ (i : Nat) (v : Value) (out : List Rt) (done : Bool), env 0 = .pointer (some ⟨s, 0, none⟩) ∧ env 3 = .pointer (some ⟨b3, 0, none⟩) ∧ env 7 = v ∧ env 8 = .bool done ∧ env 9 = .int .i64 (i : Nat) ∧ i + mm = L.length ∧ i ≤ L.length ∧ Le h0 g ∧
    SlAt g T_api_Route 7 Rt.enc v out ∧ (∀ b, blkOf v = some b → h0 b = none) ∧ out.length ≤ i + 1 ∧ (if done then out ++ L.drop i = insR x L else out = L.take i ∧ L.take i ++ insR x (L.drop i) = insR x L)

section
variable {h : Hp} {s : Nat} {most full : Int} {L : List Rt} {O : List Nat} {x : Rt} {Q : Value → Hp → Prop}

set_option maxRecDepth 20000 in
set_option maxHeartbeats 1000000 in
theorem refput_loop {g1 : Hp} {b3 : Nat} {vd : Value} (hs : g1 s = some (.cells #[.int .i64 most, vd, .int .i64 full] 54 (0, 0))) (S : SlAt g1 T_api_Route 7 Rt.enc vd L) (f3 : g1 b3 = some (rcl x)) (hl : L.length ≤ 100000)
    (hQ : ∀ v g, Le g1 g → SlAt g T_api_Route 7 Rt.enc v (insR x L) → (∀ b, blkOf v = some b → g1 b = none) → ∀ h' w, w = v → h' = g.upd s (.cells #[.int .i64 most, w, .int .i64 full] 54 (0, 0)) → ∃ h'', Le h'' h' ∧ Q (.int .i64 0) h'') :
    ∀ mm env g, RpInv g1 s b3 x L mm env g → octroiref09_Rib_Put_L0 (roundK (RpInv g1 s b3 x L) mm (inBlk 0 (thenK (sq (sq (rg octroiref09_Rib_Put_r21) (cnd (.tmp 85) (rg octroiref09_Rib_Put_r22) (ex .normal))) (sq (rg octroiref09_Rib_Put_r23) (sq (rg octroiref09_Rib_Put_r24) (ex .ret))))
      (fin Try.prog [ResultVar.tmp 4] Q)))) env g := by
  rintro mm env g ⟨i, v, out, done, e0, e3, e7, e8, e9, him, hi, lg, So, nv, hol, hd⟩
  unfold octroiref09_Rib_Put_L0
  obtain ⟨p, cap, hv⟩ := S.shape'
  have hs' := lg _ _ hs
  have f3' := lg _ _ f3
  have Sg := S.le' lg
  have app : ∀ (g : Hp) (v : Value) (out : List Rt) (y : Rt) (b : Nat), Le g1 g → SlAt g T_api_Route 7 Rt.enc v out → (∀ b, blkOf v = some b → g1 b = none) → out.length ≤ 200000 → g b = none → ∀ K : Value → Hp → Prop,
      (∀ v' g', Le g1 g' → SlAt g' T_api_Route 7 Rt.enc v' (out ++ [y]) → (∀ b, blkOf v' = some b → g1 b = none) → K v' g') →
      arun Try.prog (Builtin.append_ #[39, 39] 39 #[v, .slice (some ⟨b, 0, none⟩) 1 1]) (g.upd b (rcl y)) K := by
    intro g v out y b lg So nv hol hb K hK
    have L8 := Le.new (o := rcl y) hb
    have f8 : (g.upd b (rcl y)) b = some (rcl y) := upd_same
    have o8 : SlAt (g.upd b (rcl y)) T_api_Route 7 Rt.enc (.slice (some ⟨b, 0, none⟩) 1 1) [y] := one_sl f8 rfl
    refine cat_routes (So.le' L8) (o8.toSrc (rt_len _)) (by simp; omega) (fun v' g' S' G => hK v' g' (fun z o e => G.keep z o (L8 _ _ (lg _ _ e)) (fun q => ?_)) S' (fun c e => ?_))
    · rw [nv z q.symm] at e; cases e
    · rcases G.fresh with q | q
      · exact nv c (by rw [← q]; exact e)
      · exact none_of_le (lg.trans L8) (q c e)
  by_cases hm : mm = 0
  · have : i = L.length := by omega
    subst this
    have hs2 := hs'
    rw [hv] at hs2
    simp (disch := omega) [octroiref09_Rib_Put_r14, e0, e9, hs2]
    cases done with
    | true =>
      simp only [if_true, List.drop_length, List.append_nil] at hd
      obtain ⟨p2, cap2, hv2⟩ := So.shape'
      rw [hv2] at e7
      simp (disch := omega) [octroiref09_Rib_Put_r21, e8]
      simp (disch := omega) [octroiref09_Rib_Put_r23, octroiref09_Rib_Put_r24, e0, e7, hs']
      obtain ⟨h'', l'', q''⟩ := hQ v g lg (by rw [← hd]; exact So) nv _ _ hv2.symm rfl
      exact .to _ l'' q''
    | false =>
      simp only [Bool.false_eq_true, if_false, List.take_length, List.drop_length] at hd
      obtain ⟨hd1, hd2⟩ := hd
      simp (disch := omega) [octroiref09_Rib_Put_r21, e8]
      simp (disch := omega) [octroiref09_Rib_Put_r22, e3, e7, f3']
      intro b hb
      refine app g v out x b lg So nv (by omega) hb _ (fun v' g' l' S' n' => ?_)
      obtain ⟨p2, cap2, hv2⟩ := S'.shape'
      have hs3 := l' _ _ hs
      rw [hv2]
      simp (disch := omega) [octroiref09_Rib_Put_r23, octroiref09_Rib_Put_r24, e0, hs3]
      obtain ⟨h'', l'', q''⟩ := hQ v' g' l' (by rw [← hd2, ← hd1]; exact S') n' _ (.slice p2 (out.length + 1) cap2) (by rw [hv2, List.length_append]; rfl) rfl
      exact .to _ l'' q''
  · obtain ⟨y, hy⟩ : ∃ y, L[i]? = some y := ⟨_, List.getElem?_eq_getElem (by omega)⟩
    obtain ⟨b, cap', c, hv', hbb, q0, q1, q2, q3, q4, q5, q6⟩ := rt_at Sg hy
    have hi' : i < L.length := by omega
    have hs2 := hs'
    rw [hv'] at hs2
    have dr : L.drop i = y :: L.drop (i + 1) := by
      rw [List.drop_eq_getElem_cons hi', (List.getElem?_eq_some_iff.1 hy).2]
    have tk : L.take (i + 1) = L.take i ++ [y] := by rw [List.take_add_one, hy]; rfl
    simp (disch := omega) [octroiref09_Rib_Put_r14, e0, e9, hs2, hi']
    simp (disch := omega) [octroiref09_Rib_Put_r15, e0, e3, e9, hs2, hi', hbb, f3', q0, q1, q2, q3, q4, q5, q6]
    refine ahead_spec ?_
    have tail : ∀ (P : Post) (env' : Env) (g' : Hp) (v' : Value) (out' : List Rt) (done' : Bool), Le g1 g' → SlAt g' T_api_Route 7 Rt.enc v' out' → (∀ b, blkOf v' = some b → g1 b = none) → out'.length ≤ i + 1 → env' 0 = .pointer (some ⟨s, 0, none⟩) → env' 3 = .pointer (some ⟨b3, 0, none⟩) → env' 7 = v' → env' 8 = .bool done' → env' 9 = .int .i64 (i : Nat) →
        (if done' then (out' ++ [y]) ++ L.drop (i + 1) = insR x L else out' ++ [y] = L.take (i + 1) ∧ L.take (i + 1) ++ insR x (L.drop (i + 1)) = insR x L) →
        octroiref09_Rib_Put_r19 env' g' (inBlk 1 (thenK (rg octroiref09_Rib_Put_r20) (roundK (RpInv g1 s b3 x L) mm P)) .normal) := by
      intro P env' g' v' out' done' l' S' n' ho' e0 e3 e7 e8 e9 hd'
      have hs3 := l' _ _ hs
      rw [hv'] at hs3
      obtain ⟨b9, cap9, c9, hv9, hbb9, t0, t1, t2, t3, t4, t5, t6⟩ := rt_at (S.le' l') hy
      rw [hv'] at hv9
      simp only [Value.slice.injEq, Option.some.injEq, Addr.mk.injEq, true_and, and_true] at hv9
      obtain ⟨rfl, rfl⟩ := hv9
      simp (disch := omega) [octroiref09_Rib_Put_r19, e0, e7, e9, hs3, hi', hbb9, t0, t1, t2, t3, t4, t5, t6]
      intro b2 hb2
      refine app g' v' out' y b2 l' S' n' (by omega) hb2 _ (fun v2 g2 l2 S2 n2 => ?_)
      simp (disch := omega) [octroiref09_Rib_Put_r20, e9, wrap_i64]
      exact ⟨mm - 1, by omega, i + 1, v2, out' ++ [y], done', by simp [e0], by simp [e3], by simp, by simp [e8], by simp, by omega, by omega, l2, S2, n2, by simp; omega, hd'⟩
    cases done with
    | true =>
      simp only [if_true] at hd
      simp (disch := omega) [octroiref09_Rib_Put_r16, e8]
      refine tail _ _ g v out true lg So nv hol ?_ ?_ ?_ ?_ ?_ ?_
      · simp [e0]
      · simp [e3]
      · simp [e7]
      · simp [e8]
      · simp [e9]
      · simp only [if_true]; rw [List.append_assoc, List.singleton_append, ← dr]; exact hd
    | false =>
      simp only [Bool.false_eq_true, if_false] at hd
      obtain ⟨hd1, hd2⟩ := hd
      rw [dr] at hd2
      simp only [insR] at hd2
      have hlo : out.length ≤ i := by rw [hd1, List.length_take]; omega
      cases ha : aheadB x y with
      | true =>
        rw [if_pos ha] at hd2
        simp (disch := omega) [octroiref09_Rib_Put_r16, e8]
        simp (disch := omega) [octroiref09_Rib_Put_r17, e3, e7, f3']
        intro b2 hb2
        refine app g v out x b2 lg So nv (by omega) hb2 _ (fun v2 g2 l2 S2 n2 => ?_)
        simp (disch := omega) [octroiref09_Rib_Put_r18]
        refine tail _ _ g2 v2 (out ++ [x]) true l2 S2 n2 (by simp; omega) ?_ ?_ ?_ ?_ ?_ ?_
        · simp [e0]
        · simp [e3]
        · simp
        · simp
        · simp [e9]
        · simp only [if_true]; rw [hd1, ← hd2]; simp
      | false =>
        rw [if_neg (by rw [ha]; simp)] at hd2
        simp (disch := omega) [octroiref09_Rib_Put_r16, e8]
        refine tail _ _ g v out false lg So nv hol ?_ ?_ ?_ ?_ ?_ ?_
        · simp [e0]
        · simp [e3]
        · simp [e7]
        · simp [e8]
        · simp [e9]
        · simp only [Bool.false_eq_true, if_false]
          refine ⟨by rw [tk, hd1], ?_⟩
          rw [tk, List.append_assoc, List.singleton_append]; exact hd2
end
end Go.Proofs.Ytmbhlbohbpepaaa

/- The document's table: Put, whole. -/
namespace Go.Proofs.Ytmbhlbohbpepaaa
open Go
set_option linter.unusedSimpArgs false
set_option linter.unusedVariables false

section
variable {h : Hp} {s : Nat} {most full : Int} {L : List Rt} {O : List Nat} {x : Rt} {Q : Value → Hp → Prop}

set_option maxRecDepth 20000 in
set_option maxHeartbeats 1000000 in
theorem refputM (M : RefM h s most full L O) (hl : L.length ≤ 100000) (hx : x.Good) (hf : 0 ≤ full ∧ full ≤ 1000000)
    (hQ : ∀ h' O', Fr h h' O O' → RefM h' s most (putRef most full L x).2.1 (putRef most full L x).2.2 O' → Q (.int .i64 (putRef most full L x).1) h') : Ok Try.prog F_octroiref09_Rib_Put #[.pointer (some ⟨s, 0, none⟩), rv x] h Q := by
  refine octroiref09_Rib_Put_ok (by simp) ?_
  unfold octroiref09_Rib_Put_D
  simp (disch := omega) [octroiref09_Rib_Put_r0]
  intro b3 hb3
  have L1 : Le h (h.upd b3 (rcl x)) := .new hb3
  have f3 : (h.upd b3 (rcl x)) b3 = some (rcl x) := upd_same
  generalize h.upd b3 (rcl x) = g1 at *
  have F1 : Fr h g1 O O := .of_le L1 fun _ q => .inl q
  have M1 := M.le L1
  simp (disch := omega) [octroiref09_Rib_Put_r1, f3]
  refine rmayR_spec hx ?_
  by_cases hmay : mayR x = false
  · have e : putRef most full L x = (1, full, L) := by unfold putRef; rw [if_pos hmay]
    rw [e] at hQ
    simp (disch := omega) [octroiref09_Rib_Put_r2, octroiref09_Rib_Put_r3, hmay]
    exact .to _ (.refl _) (hQ _ _ F1 M1)
  have hmay' : mayR x = true := by simpa using hmay
  simp (disch := omega) [octroiref09_Rib_Put_r2, hmay']
  simp (disch := omega) [octroiref09_Rib_Put_r4, f3]
  refine refatM M1 (by omega) (fun g2 l2 => ?_)
  replace f3 := l2 _ _ f3
  have M2 := M1.le l2
  have F2 : Fr h g2 O O := .of_le (L1.trans l2) fun _ q => .inl q
  clear M1 F1
  have o3 : b3 ∉ O := fun q => by obtain ⟨o, e⟩ := M.alive _ q; rw [hb3] at e; cases e
  obtain ⟨vd, hs, S, hO⟩ := M2
  have ne := refNe hs S
  cases hat : atL L x.a x.l x.d with
  | some i =>
    have e : putRef most full L x = (0, full, L.set i x) := by unfold putRef; rw [if_neg hmay, hat]
    rw [e] at hQ
    simp only [] at hQ
    have hi : i < L.length := by
      unfold atL at hat
      rw [List.findIdx?_eq_some_iff_getElem] at hat
      exact hat.1
    obtain ⟨y, hy⟩ : ∃ y, L[i]? = some y := ⟨_, List.getElem?_eq_getElem hi⟩
    obtain ⟨b, cap, c, hv, hb, _⟩ := rt_at S hy
    subst hv
    simp (disch := omega) [octroiref09_Rib_Put_r5, idI]
    simp (disch := omega) [octroiref09_Rib_Put_r6, octroiref09_Rib_Put_r7, hs, f3, hi]
    unfold stA
    refine SlAt.setAt (enc := Rt.enc) (y := x) S rfl hi rfl rfl (fun h' keep S' => ?_)
    have nb : b ≠ s := ne b rfl
    simp (disch := omega) [octroiref09_Rib_Put_r7]
    refine .to _ (.refl _) (hQ h' O ⟨fun z o ez nz => keep z o (F2.keep z o ez nz) (fun q => nz (by rw [hO, q]; simp [blkOf])), fun _ q => .inl q⟩ ⟨_, keep s _ hs (Ne.symm nb), S', hO⟩)
  | none =>
    obtain ⟨p, cap, hv⟩ := S.shape'
    have hs2 := hs
    rw [hv] at hs2
    simp (disch := omega) [octroiref09_Rib_Put_r5, idI]
    by_cases hfull : most ≤ (L.length : Int)
    · have e : putRef most full L x = (4, full + 1, L) := by unfold putRef; rw [if_neg hmay, hat]; simp only []; rw [if_pos hfull]
      rw [e] at hQ
      simp only [] at hQ
      simp (disch := omega) [octroiref09_Rib_Put_r8, hs2, hfull]
      simp (disch := omega) [octroiref09_Rib_Put_r9, octroiref09_Rib_Put_r10, hs, wrap_i64]
      refine .to _ (.refl _) (hQ _ O (F2.trans (.upd (by rw [hO]; simp))) ⟨vd, upd_same, S.keep (fun b o eb q => by rw [upd_ne (ne b eb)]; exact q), hO⟩)
    · have e : putRef most full L x = (0, full, insR x L) := by unfold putRef; rw [if_neg hmay, hat]; simp only []; rw [if_neg hfull]
      rw [e] at hQ
      simp only [] at hQ
      simp (disch := omega) [octroiref09_Rib_Put_r8, hs2, hfull]
      simp (disch := omega) [octroiref09_Rib_Put_r11, octroiref09_Rib_Put_r12, octroiref09_Rib_Put_r13]
      refine ⟨RpInv g2 s b3 x L, ⟨L.length, 0, .slice none 0 0, [], false, by simp, by simp, by simp, by simp, by simp, by omega, by omega, .refl _, .inl ⟨rfl, rfl⟩, by simp [blkOf], by simp, by simp⟩, ?_⟩
      refine refput_loop hs S f3 (by omega) (fun v g lg S' nv h' w hw hh => ⟨h', .refl _, ?_⟩)
      subst hw hh
      have nvs : ∀ b, blkOf w = some b → b ≠ s := fun b eb q => by have := nv b eb; rw [q, hs] at this; cases this
      refine hQ _ (s :: (blkOf w).toList) ⟨fun z o ez nz => ?_, fun z hz => ?_⟩ ⟨w, upd_same, S'.keep (fun b o eb q => by rw [upd_ne (nvs b eb)]; exact q), rfl⟩
      · rw [upd_ne (fun q => nz (by rw [hO, q]; simp))]
        exact lg _ _ (F2.keep z o ez nz)
      · rcases List.mem_cons.1 hz with q | q
        · exact .inl (by rw [hO, q]; simp)
        · exact .inr (none_of_le (L1.trans l2) (nv z (by simpa using q)))
end
end Go.Proofs.Ytmbhlbohbpepaaa

/- The document's table: Take, Best. -/
namespace Go.Proofs.Ytmbhlbohbpepaaa
open Go
set_option linter.unusedSimpArgs false
set_option linter.unusedVariables false

section
variable {h : Hp} {s : Nat} {most full : Int} {L : List Rt} {O : List Nat} {Q : Value → Hp → Prop}

set_option maxRecDepth 20000 in
set_option maxHeartbeats 1000000 in
theorem reftakeM {a : Nat} {l d : Int} (M : RefM h s most full L O) (hl : L.length ≤ 100000)
    (h5 : atL L a l d = none → ∀ h', Le h h' → RefM h' s most full L O → Q (.int .i64 5) h')
    (h0 : ∀ i, atL L a l d = some i → ∀ h' O', Fr h h' O O' → RefM h' s most full (L.take i ++ L.drop (i + 1)) O' → Q (.int .i64 0) h') :
    Ok Try.prog F_octroiref09_Rib_Take #[.pointer (some ⟨s, 0, none⟩), .agg #[.int .u32 (a : Nat), .int .i64 l], .int .i64 d] h Q := by
  refine octroiref09_Rib_Take_ok (by simp) ?_
  unfold octroiref09_Rib_Take_D
  simp (disch := omega) [octroiref09_Rib_Take_r0]
  intro b4 hb4
  have L1 : Le h (h.upd b4 (.cells #[.int .u32 (a : Nat), .int .i64 l] 24)) := .new hb4
  have f4 : (h.upd b4 (.cells #[.int .u32 (a : Nat), .int .i64 l] 24)) b4 = some (.cells #[.int .u32 (a : Nat), .int .i64 l] 24) := upd_same
  generalize h.upd b4 (.cells #[.int .u32 (a : Nat), .int .i64 l] 24) = g1 at *
  have M1 := M.le L1
  simp (disch := omega) [octroiref09_Rib_Take_r1, f4]
  refine refatM M1 (by omega) (fun g2 l2 => ?_)
  have M2 := M1.le l2
  have lh := L1.trans l2
  clear f4 L1 l2 M1
  have M2' := M2
  obtain ⟨vd, hs, S, hO⟩ := M2
  cases hat : atL L a l d with
  | none =>
    simp (disch := omega) [octroiref09_Rib_Take_r2, octroiref09_Rib_Take_r3, idI]
    exact .to _ (.refl _) (h5 hat _ lh M2')
  | some i =>
    have hi : i < L.length := by
      unfold atL at hat
      rw [List.findIdx?_eq_some_iff_getElem] at hat
      exact hat.1
    obtain ⟨y, hy⟩ : ∃ y, L[i]? = some y := ⟨_, List.getElem?_eq_getElem hi⟩
    obtain ⟨b, cap, c, hv, hb, _⟩ := rt_at S hy
    subst hv
    have ne := refNe hs S b rfl
    have S0 := S
    rcases S with ⟨e, _⟩ | ⟨b', cap', c', e, hb', s1, s2, s3⟩
    · cases e
    cases e
    rw [hb] at hb'
    cases hb'
    have hin : ¬ ((i : Nat) : Int) < 0 := by omega
    have sl1 : rrun Try.prog (Instr.sliceAt 39 (.slice (some ⟨b, 0, none⟩) L.length cap) none (some (.int .i64 (i : Nat))) none) noHp = some (.slice (some ⟨b, 0, none⟩) i cap) := by
      rw [rr_slice_to und_39 size_27 (by omega) (by omega)]; simp
    simp (disch := omega) [octroiref09_Rib_Take_r2, idI, hin]
    simp (disch := omega) [octroiref09_Rib_Take_r4, hs, sl1]
    have p1 := Src.part (h := g2) (sz := 7) (enc := Rt.enc) (ys := L) (b := b) (o := 0) (c := c) 0 i cap (by omega) (rt_len L) hb (by omega) s3
    simp only [Nat.zero_mul, Nat.add_zero, List.drop_zero] at p1
    refine cat_routes (xs := []) (.inl ⟨rfl, rfl⟩) p1 (by simp; omega) (fun v3 g3 S3 G3 => ?_)
    rw [List.nil_append] at S3
    have l3 : Le g2 g3 := fun z o e => G3.keep z o e (by simp [blkOf])
    have n3 : ∀ c, blkOf v3 = some c → g2 c = none := fun c e => by
      rcases G3.fresh with q | q
      · rw [q] at e; cases e
      · exact q c e
    have hs3 := l3 _ _ hs
    have hb3 := l3 _ _ hb
    -- the rest behind it
    obtain ⟨w, hw, hsrc⟩ : ∃ w, rrun Try.prog (Instr.sliceAt 39 (.slice (some ⟨b, 0, none⟩) L.length cap) (some (.int .i64 ((i : Nat) + 1 : Int))) none none) noHp = some w ∧ Src g3 7 Rt.enc w (L.drop (i + 1)) := by
      by_cases hlast : i + 1 = L.length
      · obtain ⟨a', cap', e⟩ := rr_slice_end (P := Try.prog) (h := noHp) (a := some ⟨b, 0, none⟩) (len := L.length) (cap := cap) (i := ((i : Nat) + 1 : Int)) und_39 size_27 (by omega)
        refine ⟨_, e, rt_len _, .inl ⟨_, _, rfl, ?_⟩⟩
        rw [hlast, List.drop_length]
      · have p2 := Src.part (h := g3) (sz := 7) (enc := Rt.enc) (ys := L) (b := b) (o := 0) (c := c) (i + 1) (L.length - (i + 1)) (cap - (i + 1)) (by omega) (rt_len L) hb3 (by omega) s3
        refine ⟨_, rr_slice_from und_39 size_27 (by omega) (by omega) (by omega), ?_⟩
        have e1 : (((i : Nat) + 1 : Int)).toNat = i + 1 := by omega
        rw [e1]
        rw [List.take_of_length_le (by rw [List.length_drop]; omega)] at p2
        exact p2
    simp (disch := omega) [octroiref09_Rib_Take_r5, hs3, wrap_i64, hw]
    refine cat_routes S3 hsrc (by rw [List.length_take, List.length_drop]; omega) (fun v4 g4 S4 G4 => ?_)
    obtain ⟨p4, cap4, hv4⟩ := S4.shape'
    have n4 : ∀ c, blkOf v4 = some c → g2 c = none := fun c e => by
      rcases G4.fresh with q | q
      · exact n3 c (by rw [← q]; exact e)
      · exact none_of_le l3 (q c e)
    have l4 : Le g2 g4 := fun z o e => G4.keep z o (l3 _ _ e) (fun q => by rw [n3 z q.symm] at e; cases e)
    have hs4 := l4 _ _ hs
    have n4s : ∀ c, blkOf v4 = some c → c ≠ s := fun c e q => by have := n4 c e; rw [q, hs] at this; cases this
    have R4 : RefM (g4.upd s (.cells #[.int .i64 most, v4, .int .i64 full] 54 (0, 0))) s most full (L.take i ++ L.drop (i + 1)) (s :: (blkOf v4).toList) :=
      ⟨v4, upd_same, S4.keep (fun c o e q => by rw [upd_ne (n4s c e)]; exact q), rfl⟩
    have F4 : Fr h (g4.upd s (.cells #[.int .i64 most, v4, .int .i64 full] 54 (0, 0))) O (s :: (blkOf v4).toList) := by
      refine ⟨fun z o ez nz => ?_, fun z hz => ?_⟩
      · rw [upd_ne (fun q => nz (by rw [hO, q]; simp))]
        exact l4 _ _ (lh _ _ ez)
      · rcases List.mem_cons.1 hz with q | q
        · exact .inl (by rw [hO, q]; simp)
        · exact .inr (none_of_le lh (n4 z (by simpa using q)))
    have fin := h0 i hat _ _ F4 R4
    rw [hv4] at fin ⊢
    simp (disch := omega) [octroiref09_Rib_Take_r6, octroiref09_Rib_Take_r7, hs4]
    refine .to _ (.refl _) ?_
    rw [List.length_append, List.length_take, List.length_drop, Nat.min_eq_left (by omega)] at fin
    exact fin

/-- What the document takes for a prefix. -/
def RefBest (L : List Rt) (a : Nat) (l : Int) (r : Option Rt) : Prop := match r with
  | none => ∀ x ∈ L, ¬ (x.a = a ∧ x.l = l)
  | some b => b ∈ L ∧ b.a = a ∧ b.l = l ∧ ∀ y ∈ L, y.a = a → y.l = l → ¬ lexR y b

def RbInv (h0 : Hp) (s b3 b4 : Nat) (L : List Rt) (a : Nat) (l : Int) (mm : Nat) (env : Env) (g : Hp) : Prop :=
  g = h0 ∧ ∃ (i : Nat) (best : Option Nat), env 0 = .pointer (some ⟨s, 0, none⟩) ∧ env 3 = .pointer (some ⟨b3, 0, none⟩) ∧ env 4 = .pointer (some ⟨b4, 0, none⟩) ∧ env 6 = .int .i64 (idI best) ∧ env 7 = .int .i64 (i : Nat) ∧ i + mm = L.length ∧ i ≤ L.length ∧
    (match best with | none => ∀ j x, j < i → L[j]? = some x → ¬ (x.a = a ∧ x.l = l) | some k => k < i ∧ ∃ z, L[k]? = some z ∧ z.a = a ∧ z.l = l ∧ ∀ j y, j < i → L[j]? = some y → y.a = a → y.l = l → ¬ lexR y z)

set_option maxRecDepth 20000 in
set_option maxHeartbeats 2000000 in
theorem refbestM {a : Nat} {l : Int} (M : RefM h s most full L O) (hl : L.length ≤ 100000) (hg : ∀ x ∈ L, x.Good) (hQ : ∀ r h', RefBest L a l r → Le h h' → Q (.tuple #[rv (r.getD rz), .bool r.isSome]) h') :
    Ok Try.prog F_octroiref09_Rib_Best #[.pointer (some ⟨s, 0, none⟩), .agg #[.int .u32 (a : Nat), .int .i64 l]] h Q := by
  refine octroiref09_Rib_Best_ok (by simp) ?_
  unfold octroiref09_Rib_Best_D
  simp (disch := omega) [octroiref09_Rib_Best_r0]
  intro b3 hb3 b4 hb4
  obtain ⟨n43, hb4'⟩ := upd_none hb4
  have L1 : Le h ((h.upd b3 (.cells #[.int .u32 (a : Nat), .int .i64 l] 24)).upd b4 (.cells #[.int .u32 0, .int .i64 0, .int .i64 0, .int .i64 0, .int .i64 0, .int .i64 0, .int .u16 0] 27)) := (Le.new hb3).trans (Le.new hb4)
  have f3 : ((h.upd b3 (.cells #[.int .u32 (a : Nat), .int .i64 l] 24)).upd b4 (.cells #[.int .u32 0, .int .i64 0, .int .i64 0, .int .i64 0, .int .i64 0, .int .i64 0, .int .u16 0] 27)) b3 = some (.cells #[.int .u32 (a : Nat), .int .i64 l] 24) := by rw [upd_ne (Ne.symm n43), upd_same]
  have f4 : ((h.upd b3 (.cells #[.int .u32 (a : Nat), .int .i64 l] 24)).upd b4 (.cells #[.int .u32 0, .int .i64 0, .int .i64 0, .int .i64 0, .int .i64 0, .int .i64 0, .int .u16 0] 27)) b4 = some (rcl rz) := upd_same
  simp (disch := omega) [octroiref09_Rib_Best_r1, octroiref09_Rib_Best_r2]
  generalize (h.upd b3 (.cells #[.int .u32 (a : Nat), .int .i64 l] 24)).upd b4 (.cells #[.int .u32 0, .int .i64 0, .int .i64 0, .int .i64 0, .int .i64 0, .int .i64 0, .int .u16 0] 27) = g1 at *
  obtain ⟨vd, hs, S, hO⟩ := M.le L1
  refine ⟨RbInv g1 s b3 b4 L a l, ⟨L.length, rfl, 0, none, by simp, by simp, by simp, by simp [idI], by simp, by omega, by omega, fun j x hj => by omega⟩, ?_⟩
  rintro mm env g ⟨rfl, i, best, e0, e3, e4, e6, e7, him, hi, hb⟩
  unfold octroiref09_Rib_Best_L0
  obtain ⟨p, cap, hv⟩ := S.shape'
  by_cases hm : mm = 0
  · have : i = L.length := by omega
    subst this
    have hs2 := hs
    rw [hv] at hs2
    simp (disch := omega) [octroiref09_Rib_Best_r3, e0, e7, hs2]
    cases best with
    | none =>
      simp only [idI] at e6
      simp (disch := omega) [octroiref09_Rib_Best_r11, octroiref09_Rib_Best_r12, e4, e6]
      rw [stA_of (vals := [.int .u32 0, .int .i64 0, .int .i64 0, .int .i64 0, .int .i64 0, .int .i64 0, .int .u16 0]) f4 rfl rfl]
      simp (disch := omega) [e4]
      refine .to h (Le.put L1 hb4') (hQ none _ (fun x hx => ?_) (.refl _))
      obtain ⟨j, hj⟩ := List.mem_iff_getElem?.1 hx
      exact hb j x (List.getElem?_eq_some_iff.1 hj).1 hj
    | some k =>
      obtain ⟨hk, z, hz, za, zl, zb⟩ := hb
      simp only [idI] at e6
      obtain ⟨b, c1, c, ev, hbb, q0, q1, q2, q3, q4, q5, q6⟩ := rt_at S hz
      rw [ev] at hs
      have hk' : ¬ ((k : Nat) : Int) < 0 := by omega
      simp (disch := omega) [octroiref09_Rib_Best_r11, octroiref09_Rib_Best_r13, e0, e4, e6, hk', hs, hbb, q0, q1, q2, q3, q4, q5, q6]
      rw [stA_of (vals := rls z) f4 rfl rfl]
      simp (disch := omega) [e4]
      refine .to h (Le.put L1 hb4') (hQ (some z) _ ⟨List.mem_of_getElem? hz, za, zl, fun y hy ya yl => ?_⟩ (.refl _))
      obtain ⟨j, hj⟩ := List.mem_iff_getElem?.1 hy
      exact zb j y (List.getElem?_eq_some_iff.1 hj).1 hj ya yl
  · obtain ⟨x, hx⟩ : ∃ x, L[i]? = some x := ⟨_, List.getElem?_eq_getElem (by omega)⟩
    obtain ⟨b, c1, c, ev, hbb, q0, q1, q2, q3, q4, q5, q6⟩ := rt_at S hx
    have hi' : i < L.length := by omega
    have hs2 := hs
    rw [ev] at hs2
    have gx := hg x (List.mem_of_getElem? hx)
    simp (disch := omega) [octroiref09_Rib_Best_r3, e0, e7, hs2, hi']
    have next : ∀ (env' : Env) (best' : Option Nat), env' 0 = .pointer (some ⟨s, 0, none⟩) → env' 3 = .pointer (some ⟨b3, 0, none⟩) → env' 4 = .pointer (some ⟨b4, 0, none⟩) → env' 6 = .int .i64 (idI best') → env' 7 = .int .i64 (i : Nat) →
        (match best' with | none => ∀ j x, j < i + 1 → L[j]? = some x → ¬ (x.a = a ∧ x.l = l) | some k => k < i + 1 ∧ ∃ z, L[k]? = some z ∧ z.a = a ∧ z.l = l ∧ ∀ j y, j < i + 1 → L[j]? = some y → y.a = a → y.l = l → ¬ lexR y z) →
        ∀ P : Post, octroiref09_Rib_Best_r10 env' g (roundK (RbInv g s b3 b4 L a l) mm P .normal) := by
      intro env' best' e0 e3 e4 e6 e7 hb' P
      simp (disch := omega) [octroiref09_Rib_Best_r10, e7, wrap_i64]
      exact ⟨mm - 1, by omega, rfl, i + 1, best', by simp [e0], by simp [e3], by simp [e4], by simp [e6], by simp, by omega, by omega, hb'⟩
    by_cases hp : x.a = a ∧ x.l = l
    · have p1 := eq_true hp.1
      have p2 := eq_true hp.2
      have p3 := eq_true (show ((x.a : Nat) : Int) = ((a : Nat) : Int) by omega)
      simp (disch := omega) [octroiref09_Rib_Best_r4, e0, e3, e7, hs2, hi', hbb, f3, q0, q1, p1, p2, p3]
      cases best with
      | none =>
        simp only [idI] at e6
        simp (disch := omega) [octroiref09_Rib_Best_r5, octroiref09_Rib_Best_r6, e6]
        simp (disch := omega) [octroiref09_Rib_Best_r7, e0, e7, hs2, hi', hbb, q0, q1, q2, q3, q4, q5, q6]
        refine rbetter_spec gx gx ?_
        have nn : ¬ cmpR x x < 0 := fun q => by have := cmpR_lt.1 q; exact lexR_asymm this this
        simp (disch := omega) [octroiref09_Rib_Best_r8, nn]
        refine next _ (some i) ?_ ?_ ?_ ?_ ?_ ⟨by omega, x, hx, hp.1, hp.2, fun j y hj hy ya yl => ?_⟩ _
        · simp [e0]
        · simp [e3]
        · simp [e4]
        · simp [idI, e7]
        · simp [e7]
        · by_cases hji : j = i
          · subst hji; rw [hx] at hy; cases hy; exact fun q => lexR_asymm q q
          · exact (hb j y (by omega) hy ⟨ya, yl⟩).elim
      | some k =>
        obtain ⟨hk, z, hz, za, zl, zb⟩ := hb
        simp only [idI] at e6
        have gz := hg z (List.mem_of_getElem? hz)
        obtain ⟨b', c1', c', ev', hbb', t0, t1, t2, t3, t4, t5, t6⟩ := rt_at S hz
        rw [ev] at ev'
        simp only [Value.slice.injEq, Option.some.injEq, Addr.mk.injEq, true_and, and_true] at ev'
        obtain ⟨rfl, rfl⟩ := ev'
        rw [hbb] at hbb'
        cases hbb'
        have hk' : ¬ ((k : Nat) : Int) < 0 := by omega
        have hk2 : k < L.length := by omega
        simp (disch := omega) [octroiref09_Rib_Best_r5, e6, hk']
        simp (disch := omega) [octroiref09_Rib_Best_r7, e0, e6, e7, hs2, hi', hk2, hbb, q0, q1, q2, q3, q4, q5, q6, t0, t1, t2, t3, t4, t5, t6]
        refine rbetter_spec gx gz ?_
        by_cases hlt : cmpR x z < 0
        · have hlx := cmpR_lt.1 hlt
          simp (disch := omega) [octroiref09_Rib_Best_r8, octroiref09_Rib_Best_r9, e7, hlt]
          refine next _ (some i) ?_ ?_ ?_ ?_ ?_ ⟨by omega, x, hx, hp.1, hp.2, fun j y hj hy ya yl q => ?_⟩ _
          · simp [e0]
          · simp [e3]
          · simp [e4]
          · simp [idI, e7]
          · simp [e7]
          · by_cases hji : j = i
            · subst hji; rw [hx] at hy; cases hy; exact lexR_asymm q q
            · exact zb j y (by omega) hy ya yl (lexR_trans q hlx)
        · simp (disch := omega) [octroiref09_Rib_Best_r8, hlt]
          refine next _ (some k) ?_ ?_ ?_ ?_ ?_ ⟨by omega, z, hz, za, zl, fun j y hj hy ya yl q => ?_⟩ _
          · simp [e0]
          · simp [e3]
          · simp [e4]
          · simp [e6, idI]
          · simp [e7]
          · by_cases hji : j = i
            · subst hji; rw [hx] at hy; cases hy; exact hlt (cmpR_lt.2 q)
            · exact zb j y (by omega) hy ya yl q
    · have n1 : (decide (x.a = a) && decide (x.l = l)) = false := by simp; omega
      have n2 : (decide (((x.a : Nat) : Int) = ((a : Nat) : Int)) && decide (x.l = l)) = false := by simp; omega
      simp (disch := omega) [octroiref09_Rib_Best_r4, e0, e3, e7, hs2, hi', hbb, f3, q0, q1, n1, n2]
      refine next _ best ?_ ?_ ?_ ?_ ?_ ?_ _
      · simp [e0]
      · simp [e3]
      · simp [e4]
      · simp [e6]
      · simp [e7]
      · cases best with
        | none =>
          intro j y hj hy
          by_cases hji : j = i
          · subst hji; rw [hx] at hy; cases hy; exact hp
          · exact hb j y (by omega) hy
        | some k =>
          obtain ⟨hk, z, hz, za, zl, zb⟩ := hb
          refine ⟨by omega, z, hz, za, zl, fun j y hj hy ya yl => ?_⟩
          by_cases hji : j = i
          · subst hji; rw [hx] at hy; cases hy; exact (hp ⟨ya, yl⟩).elim
          · exact zb j y (by omega) hy ya yl
end
end Go.Proofs.Ytmbhlbohbpepaaa

/- The document's table: Find. -/
namespace Go.Proofs.Ytmbhlbohbpepaaa
open Go
set_option linter.unusedSimpArgs false
set_option linter.unusedVariables false

def RefFind (L : List Rt) (addr : Nat) (r : Option Rt) : Prop := match r with
  | none => ∀ x ∈ L, hasB (rpf x) addr = false
  | some c => RefBest L c.a c.l (some c) ∧ hasB (rpf c) addr = true ∧ ∀ y ∈ L, hasB (rpf y) addr = true → y.l ≤ c.l

def RfInv (h0 : Hp) (s b4 : Nat) (L : List Rt) (addr : Nat) (mm : Nat) (env : Env) (g : Hp) : Prop :=
  g = h0 ∧ ∃ (i : Nat) (long : Option Nat), env 0 = .pointer (some ⟨s, 0, none⟩) ∧ env 1 = .int .u32 (addr : Nat) ∧ env 4 = .pointer (some ⟨b4, 0, none⟩) ∧ env 6 = .int .i64 (idI long) ∧ env 7 = .int .i64 (i : Nat) ∧ i + mm = L.length ∧ i ≤ L.length ∧
    (match long with | none => ∀ j x, j < i → L[j]? = some x → hasB (rpf x) addr = false | some k => k < i ∧ ∃ z, L[k]? = some z ∧ hasB (rpf z) addr = true ∧ ∀ j y, j < i → L[j]? = some y → hasB (rpf y) addr = true → y.l ≤ z.l)

section
variable {h : Hp} {s : Nat} {most full : Int} {L : List Rt} {O : List Nat} {Q : Value → Hp → Prop}

set_option maxRecDepth 20000 in
set_option maxHeartbeats 2000000 in
theorem reffindM {addr : Nat} (M : RefM h s most full L O) (hl : L.length ≤ 100000) (hg : ∀ x ∈ L, x.Good ∧ mayR x = true) (ha : addr < 2 ^ 32) (hQ : ∀ r h', RefFind L addr r → Le h h' → Q (.tuple #[rv (r.getD rz), .bool r.isSome]) h') :
    Ok Try.prog F_octroiref09_Rib_Find #[.pointer (some ⟨s, 0, none⟩), .int .u32 (addr : Nat)] h Q := by
  refine octroiref09_Rib_Find_ok (by simp) ?_
  unfold octroiref09_Rib_Find_D
  simp (disch := omega) [octroiref09_Rib_Find_r0]
  intro b4 hb4
  have L1 : Le h (h.upd b4 (.cells #[.int .u32 0, .int .i64 0, .int .i64 0, .int .i64 0, .int .i64 0, .int .i64 0, .int .u16 0] 27)) := .new hb4
  have f4 : (h.upd b4 (.cells #[.int .u32 0, .int .i64 0, .int .i64 0, .int .i64 0, .int .i64 0, .int .i64 0, .int .u16 0] 27)) b4 = some (rcl rz) := upd_same
  simp (disch := omega) [octroiref09_Rib_Find_r1, octroiref09_Rib_Find_r2]
  generalize h.upd b4 (.cells #[.int .u32 0, .int .i64 0, .int .i64 0, .int .i64 0, .int .i64 0, .int .i64 0, .int .u16 0] 27) = g1 at *
  have M1 := M.le L1
  have M1' := M1
  obtain ⟨vd, hs, S, hO⟩ := M1
  refine ⟨RfInv g1 s b4 L addr, ⟨L.length, rfl, 0, none, by simp, by simp, by simp, by simp [idI], by simp, by omega, by omega, fun j x hj => by omega⟩, ?_⟩
  rintro mm env g ⟨rfl, i, long, e0, e1, e4, e6, e7, him, hi, hb⟩
  unfold octroiref09_Rib_Find_L0
  obtain ⟨p, cap, hv⟩ := S.shape'
  by_cases hm : mm = 0
  · have : i = L.length := by omega
    subst this
    have hs2 := hs
    rw [hv] at hs2
    simp (disch := omega) [octroiref09_Rib_Find_r3, e0, e7, hs2]
    cases long with
    | none =>
      simp only [idI] at e6
      simp (disch := omega) [octroiref09_Rib_Find_r8, octroiref09_Rib_Find_r9, e4, e6]
      rw [stA_of (vals := [.int .u32 0, .int .i64 0, .int .i64 0, .int .i64 0, .int .i64 0, .int .i64 0, .int .u16 0]) f4 rfl rfl]
      simp (disch := omega) [e4]
      refine .to h (Le.put L1 hb4) (hQ none _ (fun x hx => ?_) (.refl _))
      obtain ⟨j, hj⟩ := List.mem_iff_getElem?.1 hx
      exact hb j x (List.getElem?_eq_some_iff.1 hj).1 hj
    | some k =>
      obtain ⟨hk, z, hz, zh, zb⟩ := hb
      simp only [idI] at e6
      obtain ⟨b, c1, c, ev, hbb, q0, q1, q2, q3, q4, q5, q6⟩ := rt_at S hz
      rw [ev] at hs
      have hk' : ¬ ((k : Nat) : Int) < 0 := by omega
      simp (disch := omega) [octroiref09_Rib_Find_r8, e6, hk']
      simp (disch := omega) [octroiref09_Rib_Find_r10, e0, e6, hk, hs, hbb, q0, q1]
      refine refbestM M1' hl (fun x hx => (hg x hx).1) (fun r g2 hr l2 => ?_)
      have zm := List.mem_of_getElem? hz
      have fin : RefFind L addr r := by
        cases r with
        | none => exact (hr z zm ⟨rfl, rfl⟩).elim
        | some c =>
          obtain ⟨r1, r2, r3, r4⟩ := hr
          refine ⟨⟨r1, rfl, rfl, by rw [r2, r3]; exact r4⟩, by rw [show rpf c = rpf z by unfold rpf; rw [r2, r3]]; exact zh, fun y hy hyh => ?_⟩
          obtain ⟨j, hj⟩ := List.mem_iff_getElem?.1 hy
          rw [r3]
          exact zb j y (List.getElem?_eq_some_iff.1 hj).1 hj hyh
      obtain ⟨u, hu⟩ : ∃ u, u = r.getD rz := ⟨_, rfl⟩
      rw [← hu]
      have hQ' := fun h' => hQ r h' fin
      rw [← hu] at hQ'
      simp (disch := omega)
      intro b9 hb9
      simp (disch := omega)
      have L9 := Le.new (o := rcl u) hb9
      have f9 : (g2.upd b9 (rcl u)) b9 = some (rcl u) := upd_same
      replace f4 := L9 _ _ (l2 _ _ f4)
      have LL := (L1.trans l2).trans L9
      clear L9
      generalize g2.upd b9 (rcl u) = g3 at *
      simp (disch := omega) [octroiref09_Rib_Find_r11, e4, f9]
      rw [stA_of (vals := rls u) f4 rfl rfl]
      simp (disch := omega) [e4]
      exact .to h (Le.put LL hb4) (hQ' _ (.refl _))
  · obtain ⟨x, hx⟩ : ∃ x, L[i]? = some x := ⟨_, List.getElem?_eq_getElem (by omega)⟩
    obtain ⟨b, c1, c, ev, hbb, q0, q1, q2, q3, q4, q5, q6⟩ := rt_at S hx
    have hi' : i < L.length := by omega
    have hs2 := hs
    rw [ev] at hs2
    obtain ⟨gx, mx⟩ := hg x (List.mem_of_getElem? hx)
    simp (disch := omega) [octroiref09_Rib_Find_r3, e0, e7, hs2, hi']
    simp (disch := omega) [octroiref09_Rib_Find_r4, e0, e1, e7, hs2, hi', hbb, q0, q1]
    refine rhas_spec gx.a ha ?_
    rw [mayR_mayB mx, Bool.true_and]
    have hp : hasB (x.a, x.l.toNat) addr = hasB (rpf x) addr := rfl
    rw [hp]
    have next : ∀ (env' : Env) (long' : Option Nat), env' 0 = .pointer (some ⟨s, 0, none⟩) → env' 1 = .int .u32 (addr : Nat) → env' 4 = .pointer (some ⟨b4, 0, none⟩) → env' 6 = .int .i64 (idI long') → env' 7 = .int .i64 (i : Nat) →
        (match long' with | none => ∀ j x, j < i + 1 → L[j]? = some x → hasB (rpf x) addr = false | some k => k < i + 1 ∧ ∃ z, L[k]? = some z ∧ hasB (rpf z) addr = true ∧ ∀ j y, j < i + 1 → L[j]? = some y → hasB (rpf y) addr = true → y.l ≤ z.l) →
        ∀ P : Post, octroiref09_Rib_Find_r7 env' g (roundK (RfInv g s b4 L addr) mm P .normal) := by
      intro env' long' e0 e1 e4 e6 e7 hb' P
      simp (disch := omega) [octroiref09_Rib_Find_r7, e7, wrap_i64]
      exact ⟨mm - 1, by omega, rfl, i + 1, long', by simp [e0], by simp [e1], by simp [e4], by simp [e6], by simp, by omega, by omega, hb'⟩
    cases hh : hasB (rpf x) addr with
    | false =>
      simp (disch := omega) [octroiref09_Rib_Find_r5]
      refine next _ long ?_ ?_ ?_ ?_ ?_ ?_ _
      · simp [e0]
      · simp [e1]
      · simp [e4]
      · simp [e6]
      · simp [e7]
      · cases long with
        | none =>
          intro j y hj hy
          by_cases hji : j = i
          · subst hji; rw [hx] at hy; cases hy; exact hh
          · exact hb j y (by omega) hy
        | some k =>
          obtain ⟨hk, z, hz, zh, zb⟩ := hb
          refine ⟨by omega, z, hz, zh, fun j y hj hy yh => ?_⟩
          by_cases hji : j = i
          · subst hji; rw [hx] at hy; cases hy; rw [hh] at yh; cases yh
          · exact zb j y (by omega) hy yh
    | true =>
      cases long with
      | none =>
        simp only [idI] at e6
        simp (disch := omega) [octroiref09_Rib_Find_r5, octroiref09_Rib_Find_r6, e0, e6, e7]
        refine next _ (some i) ?_ ?_ ?_ ?_ ?_ ⟨by omega, x, hx, hh, fun j y hj hy yh => ?_⟩ _
        · simp [e0]
        · simp [e1]
        · simp [e4]
        · simp [idI, e7]
        · simp [e7]
        · by_cases hji : j = i
          · subst hji; rw [hx] at hy; cases hy; omega
          · have := hb j y (by omega) hy; rw [this] at yh; cases yh
      | some k =>
        obtain ⟨hk, z, hz, zh, zb⟩ := hb
        simp only [idI] at e6
        obtain ⟨b', c1', c', ev', hbb', t0, t1, t2, t3, t4, t5, t6⟩ := rt_at S hz
        rw [ev] at ev'
        simp only [Value.slice.injEq, Option.some.injEq, Addr.mk.injEq, true_and, and_true] at ev'
        obtain ⟨rfl, rfl⟩ := ev'
        rw [hbb] at hbb'
        cases hbb'
        have hk' : ¬ ((k : Nat) : Int) < 0 := by omega
        have hk2 : k < L.length := by omega
        by_cases hlt : z.l < x.l
        · simp (disch := omega) [octroiref09_Rib_Find_r5, octroiref09_Rib_Find_r6, e0, e6, e7, hk', hk2, hs2, hi', hbb, q1, t1, hlt]
          refine next _ (some i) ?_ ?_ ?_ ?_ ?_ ⟨by omega, x, hx, hh, fun j y hj hy yh => ?_⟩ _
          · simp [e0]
          · simp [e1]
          · simp [e4]
          · simp [idI, e7]
          · simp [e7]
          · by_cases hji : j = i
            · subst hji; rw [hx] at hy; cases hy; omega
            · have := zb j y (by omega) hy yh; omega
        · simp (disch := omega) [octroiref09_Rib_Find_r5, e0, e6, e7, hk', hk2, hs2, hi', hbb, q1, t1, hlt]
          refine next _ (some k) ?_ ?_ ?_ ?_ ?_ ⟨by omega, z, hz, zh, fun j y hj hy yh => ?_⟩ _
          · simp [e0]
          · simp [e1]
          · simp [e4]
          · simp [e6, idI]
          · simp [e7]
          · by_cases hji : j = i
            · subst hji; rw [hx] at hy; cases hy; omega
            · exact zb j y (by omega) hy yh
end
end Go.Proofs.Ytmbhlbohbpepaaa

/- The document's table and the code's: they have the same routes. -/
namespace Go.Proofs.Ytmbhlbohbpepaaa
open Go
set_option linter.unusedSimpArgs false
set_option linter.unusedVariables false

/-- The document's list is that of the table. -/
def SameT (m : List (RK × Rt)) (T : PL) (L : List Rt) : Prop := RInv m T ∧ L.Pairwise rlt ∧ ∀ x, x ∈ L ↔ getM m x.key = some x

theorem SameT.eq {m : List (RK × Rt)} {T : PL} {L : List Rt} (S : SameT m T L) : L = allR m (T.map (·.1)) :=
  pw_ext rlt_irrefl rlt_asymm S.2.1 (allR_sorted S.1) fun x => by rw [S.2.2, allR_mem S.1]

theorem SameT.len {m : List (RK × Rt)} {T : PL} {L : List Rt} (S : SameT m T L) : L.length = m.length := by rw [S.eq, allR_length_eq S.1]

theorem SameT.may {m : List (RK × Rt)} {T : PL} {L : List Rt} (S : SameT m T L) {x : Rt} (h : x ∈ L) : x.Good ∧ mayR x = true := by
  have := S.1.key _ (getM_mem ((S.2.2 x).1 h))
  exact ⟨this.2.2, this.2.1⟩

theorem isK_iff {x : Rt} {a : Nat} {l d : Int} : isK x a l d = true ↔ x.key = ((a, l), d) := by
  unfold isK Rt.key
  simp [Prod.ext_iff]

theorem SameT.none {m : List (RK × Rt)} {T : PL} {L : List Rt} (S : SameT m T L) {a : Nat} {l d : Int} (h : atL L a l d = none) : getM m ((a, l), d) = none := by
  cases e : getM m ((a, l), d) with
  | none => rfl
  | some x =>
    have hk := (S.1.key _ (getM_mem e)).1
    simp only at hk
    have hx : x ∈ L := (S.2.2 x).2 (by rw [← hk]; exact e)
    unfold atL at h
    rw [List.findIdx?_eq_none_iff] at h
    have := h x hx
    rw [isK_iff.2 hk.symm] at this; cases this

theorem SameT.some {m : List (RK × Rt)} {T : PL} {L : List Rt} (S : SameT m T L) {a i : Nat} {l d : Int} (h : atL L a l d = some i) : ∃ y L1 L2, L = L1 ++ y :: L2 ∧ L1.length = i ∧ y.key = ((a, l), d) ∧ getM m ((a, l), d) = some y := by
  unfold atL at h
  rw [List.findIdx?_eq_some_iff_getElem] at h
  obtain ⟨hi, hk, _⟩ := h
  refine ⟨L[i], L.take i, L.drop (i + 1), ?_, by rw [List.length_take]; omega, isK_iff.1 hk, ?_⟩
  · rw [← List.drop_eq_getElem_cons hi, List.take_append_drop]
  · rw [← isK_iff.1 hk]; exact (S.2.2 _).1 (List.getElem_mem hi)

theorem rlt_same {x y z : Rt} (h : x.key = y.key) : (rlt z x ↔ rlt z y) ∧ (rlt x z ↔ rlt y z) := by
  simp only [Rt.key, Prod.mk.injEq] at h
  obtain ⟨⟨h1, h2⟩, h3⟩ := h
  unfold rlt rpf
  rw [h1, h2, h3]
  exact ⟨Iff.rfl, Iff.rfl⟩

theorem mid_sorted {x y : Rt} {L1 L2 : List Rt} (h : x.key = y.key) (p : (L1 ++ y :: L2).Pairwise rlt) : (L1 ++ x :: L2).Pairwise rlt := by
  rw [List.pairwise_append, List.pairwise_cons] at p ⊢
  obtain ⟨p1, ⟨p2, p3⟩, p4⟩ := p
  refine ⟨p1, ⟨fun z hz => (rlt_same h).2.2 (p2 z hz), p3⟩, fun z hz w hw => ?_⟩
  rcases List.mem_cons.1 hw with e | hw
  · rw [e]; exact (rlt_same h).1.2 (p4 z hz y (by simp))
  · exact p4 z hz w (by simp [hw])

theorem mid_ne {y z : Rt} {L1 L2 : List Rt} (p : (L1 ++ y :: L2).Pairwise rlt) (hz : z ∈ L1 ∨ z ∈ L2) : z.key ≠ y.key := by
  rw [List.pairwise_append, List.pairwise_cons] at p
  intro e
  rcases hz with hz | hz
  · have := p.2.2 z hz y (by simp)
    exact rlt_irrefl y ((rlt_same e).2.1 this)
  · have := p.2.1.1 z hz
    exact rlt_irrefl y ((rlt_same e).1.1 this)

theorem set_mid {x y : Rt} {L1 L2 : List Rt} : (L1 ++ y :: L2).set L1.length x = L1 ++ x :: L2 := by
  rw [List.set_append_right _ _ (Nat.le_refl _), Nat.sub_self]; rfl

theorem cut_mid {y : Rt} {L1 L2 : List Rt} : (L1 ++ y :: L2).take L1.length ++ (L1 ++ y :: L2).drop (L1.length + 1) = L1 ++ L2 := by
  rw [List.take_left', List.drop_append]
  · simp
  · rfl

/-- A route put. -/
theorem same_put {m : List (RK × Rt)} {T T' : PL} {L : List Rt} {most rf : Int} {x : Rt} (S : SameT m T L) (hx : x.Good) (R' : RInv (putS most rf m x).2.2 T') :
    (putS most rf m x).1 = (putRef most rf L x).1 ∧ (putS most rf m x).2.1 = (putRef most rf L x).2.1 ∧ SameT (putS most rf m x).2.2 T' (putRef most rf L x).2.2 := by
  unfold putS putRef at *
  by_cases hm : mayR x = false
  · rw [if_pos hm] at R' ⊢
    rw [if_pos hm]
    exact ⟨rfl, rfl, R', S.2⟩
  · rw [if_neg hm] at R' ⊢
    rw [if_neg hm]
    have hm' : mayR x = true := by simpa using hm
    have hx0 := (mayB_nn (mayR_mayB hm')).1
    cases hat : atL L x.a x.l x.d with
    | none =>
      have hn : getM m x.key = none := S.none hat
      simp only
      by_cases hf : most ≤ (m.length : Int)
      · rw [if_pos ⟨hn, hf⟩] at R' ⊢
        rw [if_pos (by rw [S.len]; exact hf)]
        exact ⟨rfl, rfl, R', S.2⟩
      · rw [if_neg (fun q => hf q.2)] at R' ⊢
        rw [if_neg (by rw [S.len]; exact hf)]
        refine ⟨rfl, rfl, R', ?_, fun z => ?_⟩
        · refine insR_sorted hx0 (fun y hy => (mayB_nn (mayR_mayB (S.may hy).2)).1) S.2.1 (fun y hy e => ?_)
          have := (S.2.2 y).1 hy
          rw [e, hn] at this; cases this
        · simp only
          rw [insR_mem, S.2.2, getM_setM]
          by_cases e : z.key = x.key
          · rw [if_pos e]
            constructor
            · rintro (q | q)
              · rw [q]
              · rw [e, hn] at q; cases q
            · intro q; cases q; exact .inl rfl
          · rw [if_neg e]
            constructor
            · rintro (q | q)
              · rw [q] at e; exact (e rfl).elim
              · exact q
            · exact .inr
    | some i =>
      obtain ⟨y, L1, L2, hL, hi, hyk, hgy⟩ := S.some hat
      have hxk : x.key = y.key := hyk.symm
      have hn : getM m x.key ≠ none := by
        have : getM m x.key = some y := hgy
        rw [this]; simp
      simp only
      rw [if_neg (fun q => hn q.1)] at R' ⊢
      refine ⟨rfl, rfl, R', ?_, fun z => ?_⟩
      · subst hi
        rw [hL, set_mid]
        have := S.2.1
        rw [hL] at this
        exact mid_sorted hxk this
      · simp only
        subst hi
        have p := S.2.1
        have mem := S.2.2
        rw [hL] at p mem ⊢
        rw [set_mid, getM_setM]
        have hz := mem z
        by_cases e : z.key = x.key
        · rw [if_pos e]
          constructor
          · intro q
            rcases List.mem_append.1 q with q | q
            · exact (mid_ne p (.inl q) (e.trans hxk)).elim
            · rcases List.mem_cons.1 q with q | q
              · rw [q]
              · exact (mid_ne p (.inr q) (e.trans hxk)).elim
          · intro q; cases q; simp
        · rw [if_neg e, ← hz]
          constructor
          · intro q
            rcases List.mem_append.1 q with q | q
            · simp [q]
            · rcases List.mem_cons.1 q with q | q
              · rw [q] at e; exact (e rfl).elim
              · simp [q]
          · intro q
            rcases List.mem_append.1 q with q | q
            · simp [q]
            · rcases List.mem_cons.1 q with q | q
              · rw [q] at e; exact (e hxk.symm).elim
              · simp [q]

/-- A route taken away. -/
theorem same_take {m : List (RK × Rt)} {T T' : PL} {L : List Rt} {a i : Nat} {l d : Int} (S : SameT m T L) (hat : atL L a l d = some i) (R' : RInv (delM ((a, l), d) m) T') :
    getM m ((a, l), d) ≠ none ∧ SameT (delM ((a, l), d) m) T' (L.take i ++ L.drop (i + 1)) := by
  obtain ⟨y, L1, L2, hL, hi, hyk, hgy⟩ := S.some hat
  refine ⟨by rw [hgy]; simp, R', ?_, fun z => ?_⟩
  · subst hi
    have p := S.2.1
    rw [hL] at p ⊢
    rw [cut_mid]
    exact p.sublist (List.Sublist.append_left (List.sublist_cons_self _ _) _)
  · subst hi
    have p := S.2.1
    have mem := S.2.2
    rw [hL] at p mem ⊢
    rw [cut_mid, getM_delM S.1.uniq]
    have hz := mem z
    by_cases e : z.key = ((a, l), d)
    · rw [if_pos e]
      constructor
      · intro q
        exact (mid_ne p (List.mem_append.1 q) (e.trans hyk.symm)).elim
      · intro q; cases q
    · rw [if_neg e, ← hz]
      constructor
      · intro q
        rcases List.mem_append.1 q with q | q <;> simp [q]
      · intro q
        rcases List.mem_append.1 q with q | q
        · simp [q]
        · rcases List.mem_cons.1 q with q | q
          · rw [q] at e; exact (e hyk).elim
          · simp [q]

theorem same_best {m : List (RK × Rt)} {T : PL} {L : List Rt} {a : Nat} {l : Int} {r : Option Rt} (S : SameT m T L) (h : RefBest L a l r) : bestR m a l = r := by
  cases hb : bestR m a l with
  | none =>
    cases r with
    | none => rfl
    | some b => exact (best_none S.1 hb ((S.2.2 b).1 h.1) ⟨h.2.1, h.2.2.1⟩).elim
  | some b =>
    have B := best_is S.1 hb
    cases r with
    | none => exact (h b ((S.2.2 b).2 B.1) ⟨B.2.1, B.2.2.1⟩).elim
    | some c =>
      obtain ⟨h1, h2, h3, h4⟩ := h
      rw [best_uniq (fun _ => rfl) B ⟨(S.2.2 c).1 h1, h2, h3, fun y hy => h4 y ((S.2.2 y).2 hy)⟩]

theorem same_find {m : List (RK × Rt)} {T : PL} {L : List Rt} {addr : Nat} {r : Option Rt} (S : SameT m T L) (h : RefFind L addr r) : findR m T addr = r := by
  cases hb : findR m T addr with
  | none =>
    cases r with
    | none => rfl
    | some c =>
      obtain ⟨h1, h2, _⟩ := h
      have := find_none S.1 hb ((S.2.2 c).1 h1.1)
      rw [this] at h2; cases h2
  | some b =>
    obtain ⟨B1, B2, B3⟩ := find_is S.1 hb
    cases r with
    | none =>
      have := h b ((S.2.2 b).2 B1.1)
      rw [this] at B2; cases B2
    | some c =>
      obtain ⟨⟨h1, _, _, h4⟩, h2, h3⟩ := h
      have C1 : IsBest m c.a c.l c := ⟨(S.2.2 c).1 h1, rfl, rfl, fun y hy => h4 y ((S.2.2 y).2 hy)⟩
      have l1 := B3 c C1.1 h2
      have l2 := h3 b ((S.2.2 b).2 B1.1) B2
      have el : b.l = c.l := by omega
      have mb : mayR b = true := (S.1.key _ (getM_mem B1.1)).2.1
      have mc : mayR c = true := (S.1.key _ (getM_mem C1.1)).2.1
      have q1 := (has_cut (rpf_mod mb)).1 B2
      have q2 := (has_cut (rpf_mod mc)).1 h2
      have el2 : (rpf b).2 = (rpf c).2 := by unfold rpf; rw [el]
      have ea : b.a = c.a := by
        have : (rpf b).1 = (rpf c).1 := by rw [q1, q2, el2]
        exact this
      rw [best_uniq (fun _ => rfl) B1 (by rw [ea, el]; exact C1)]
end Go.Proofs.Ytmbhlbohbpepaaa

/- RibDoes: a table of any size answers any calls as the document says: the walk. -/
namespace Go.Proofs.Ytmbhlbohbpepaaa
open Go
set_option linter.unusedSimpArgs false
set_option linter.unusedVariables false

structure FOwn (h0 g : Hp) (s : Nat) (most full : Int) (L : List Rt) (O : List Nat) : Prop where
  m : RefM g s most full L O
  le : Le h0 g
  new : ∀ x, x ∈ O → h0 x = none

theorem FOwn.fr {h0 g g' : Hp} {s : Nat} {most full full' : Int} {L L' : List Rt} {O O' : List Nat} (A : FOwn h0 g s most full L O) (F : Fr g g' O O') (M : RefM g' s most full' L' O') : FOwn h0 g' s most full' L' O' := ⟨M, F.le A.le A.new, F.new A.le A.new⟩
theorem FOwn.le2 {h0 g g' : Hp} {s : Nat} {most full : Int} {L : List Rt} {O : List Nat} (A : FOwn h0 g s most full L O) (l : Le g g') : FOwn h0 g' s most full L O := ⟨A.m.le l, A.le.trans l, A.new⟩
theorem FOwn.other {h0 g g' : Hp} {s : Nat} {most full : Int} {L : List Rt} {O O1 O1' : List Nat} (A : FOwn h0 g s most full L O) (F : Fr g g' O1 O1') (d : ∀ x, x ∈ O1 → x ∉ O) (A1 : Le h0 g') : FOwn h0 g' s most full L O ∧ ∀ x, x ∈ O1' → x ∉ O := by
  refine ⟨⟨A.m.keep fun x o hx e => F.keep x o e (fun q => d x q hx), A1, A.new⟩, fun x hx hx' => ?_⟩
  rcases F.own x hx with q | q
  · exact d x q hx'
  · obtain ⟨o, e⟩ := A.m.alive x hx'; rw [q] at e; cases e

def DoInv (h0 : Hp) (most : Int) (v : Value) (xs : List OpX) (addr : Nat) (mm : Nat) (env : Env) (g : Hp) : Prop :=
  ∃ (i r s : Nat) (rf : Int) (m : List (RK × Rt)) (T : PL) (L : List Rt) (k : Nat) (O O' : List Nat), env 0 = .int .i64 most ∧ env 1 = v ∧ env 2 = .int .u32 (addr : Nat) ∧ env 8 = .pointer (some ⟨r, 0, none⟩) ∧ env 9 = .pointer (some ⟨s, 0, none⟩) ∧ env 10 = .int .i64 (i : Nat) ∧ i + mm = xs.length ∧ i ≤ xs.length ∧ k ≤ i ∧
    ROwn h0 g r (min most 64) rf m T k O ∧ FOwn h0 g s (min most 64) rf L O' ∧ (∀ x, x ∈ O → x ∉ O') ∧ SameT m T L

set_option maxRecDepth 20000 in
set_option maxHeartbeats 2000000 in
/-- What is compared behind each call. -/
theorem does_checks {h g : Hp} {most : Int} {v : Value} {xs : List OpX} {addr i mm r s : Nat} {rf : Int} {m : List (RK × Rt)} {T : PL} {L : List Rt} {k : Nat} {O O' : List Nat} {o : OpX} (A0 : argOps9 h v xs) (ho : xs[i]? = some o) (ha : addr < 2 ^ 32) (him : i + mm = xs.length) (hm : mm ≠ 0) (hxs : xs.length ≤ 150)
    (A : ROwn h g r (min most 64) rf m T k O) (B : FOwn h g s (min most 64) rf L O') (dj : ∀ x, x ∈ O → x ∉ O') (S : SameT m T L) (hk : k ≤ i + 1) (env : Env) (e0 : env 0 = .int .i64 most) (e1 : env 1 = v) (e2 : env 2 = .int .u32 (addr : Nat)) (e8 : env 8 = .pointer (some ⟨r, 0, none⟩)) (e9 : env 9 = .pointer (some ⟨s, 0, none⟩)) (e10 : env 10 = .int .i64 (i : Nat)) (e11 : env 11 = .bool true) (P : Post) :
    octroilaw09_RibDoes_r13 env g (thenK (sq (rg octroilaw09_RibDoes_r14) (sq (rg octroilaw09_RibDoes_r15) (sq (rg octroilaw09_RibDoes_r16) (sq (rg octroilaw09_RibDoes_r17) (sq (rg octroilaw09_RibDoes_r18) (cnd (.tmp 179) (sq (rg octroilaw09_RibDoes_r19) (ex .ret)) (ex .normal))))))) (inBlk 1 (thenK (rg octroilaw09_RibDoes_r20) (roundK (DoInv h most v xs addr) mm P))) .normal) := by
  obtain ⟨hg, bx, f, cap', c, E, fr, hv', hb, q0, q1, q2, q3, q4, q5, q6, q7⟩ := argOps9.get A0 ho
  have hi' : i < xs.length := by omega
  have e1' := e1
  rw [hv'] at e1'
  have hlen := S.len
  have hml := S.1.len
  have hgd : ∀ x ∈ L, x.Good ∧ mayR x = true := fun x hx => S.may hx
  obtain ⟨y, hy⟩ : ∃ y, y = (bestR m o.x.a o.x.l).getD rz := ⟨_, rfl⟩
  obtain ⟨z, hz⟩ : ∃ z, z = (findR m T addr).getD rz := ⟨_, rfl⟩
  obtain ⟨u, hu⟩ : ∃ u, u = (bestR m o.x.a o.x.l).isSome := ⟨_, rfl⟩
  obtain ⟨w, hw⟩ : ∃ w, w = (findR m T addr).isSome := ⟨_, rfl⟩
  obtain ⟨vd, hs, Sl, hO'⟩ := B.m
  -- all
  simp (disch := omega) [octroilaw09_RibDoes_r13, e8, e9, hs]
  refine rallM A.m (fun v1 g1 l1 S1 n1 => ?_)
  rw [← S.eq] at S1
  have hs1 := l1 _ _ hs
  simp (disch := omega) [e8, e9, hs1]
  refine same_spec S1 (Sl.le' l1) (by omega) ?_
  have A1 := A.le2 l1
  have B1 := B.le2 l1
  have hb1 := A1.le _ _ hb
  simp (disch := omega)
  -- best
  simp (disch := omega) [octroilaw09_RibDoes_r14, e1', e8, e10, hi', hb1, q1, q2]
  refine rbestM A1.m (fun g2 l2 => ?_)
  rw [← hy, ← hu]
  simp (disch := omega)
  intro b13 hb13
  simp (disch := omega)
  have l3 := Le.new (o := rcl y) hb13
  have f13 : (g2.upd b13 (rcl y)) b13 = some (rcl y) := upd_same
  have L3 := l2.trans l3
  clear l2 l3 hb13
  generalize g2.upd b13 (rcl y) = g3 at *
  have A3 := A1.le2 L3
  have B3 := B1.le2 L3
  have hb3 := A3.le _ _ hb
  simp (disch := omega) [octroilaw09_RibDoes_r15, e1', e9, e10, hi', hb3, q1, q2]
  refine refbestM B3.m (by omega) (fun x hx => (hgd x hx).1) (fun rr g4 hr l4 => ?_)
  rw [← same_best S hr, ← hy, ← hu]
  simp (disch := omega)
  intro b15 hb15
  simp (disch := omega)
  have l5 := Le.new (o := rcl y) hb15
  have f15 : (g4.upd b15 (rcl y)) b15 = some (rcl y) := upd_same
  have L5 := l4.trans l5
  clear l4 l5 hb15
  generalize g4.upd b15 (rcl y) = g5 at *
  replace f13 := L5 _ _ f13
  have A5 := A3.le2 L5
  have B5 := B3.le2 L5
  -- find
  simp (disch := omega) [octroilaw09_RibDoes_r16, e2, e8]
  refine rfindM A5.m ha (fun g6 l6 => ?_)
  rw [← hz, ← hw]
  simp (disch := omega)
  intro b17 hb17
  simp (disch := omega)
  have l7 := Le.new (o := rcl z) hb17
  have f17 : (g6.upd b17 (rcl z)) b17 = some (rcl z) := upd_same
  have L7 := l6.trans l7
  clear l6 l7 hb17
  generalize g6.upd b17 (rcl z) = g7 at *
  replace f13 := L7 _ _ f13
  replace f15 := L7 _ _ f15
  have A7 := A5.le2 L7
  have B7 := B5.le2 L7
  simp (disch := omega) [octroilaw09_RibDoes_r17, e2, e9]
  refine reffindM B7.m (by omega) hgd ha (fun rr g8 hr l8 => ?_)
  rw [← same_find S hr, ← hz, ← hw]
  simp (disch := omega)
  intro b19 hb19
  simp (disch := omega)
  have l9 := Le.new (o := rcl z) hb19
  have f19 : (g8.upd b19 (rcl z)) b19 = some (rcl z) := upd_same
  have L9 := l8.trans l9
  clear l8 l9 hb19
  generalize g8.upd b19 (rcl z) = g9 at *
  replace f13 := L9 _ _ f13
  replace f15 := L9 _ _ f15
  replace f17 := L9 _ _ f17
  have A9 := A7.le2 L9
  have B9 := B7.le2 L9
  obtain ⟨vd9, hs9, _, _⟩ := B9.m
  have key : ∀ env : Env, env 0 = .int .i64 most → env 1 = v → env 2 = .int .u32 (addr : Nat) → env 8 = .pointer (some ⟨r, 0, none⟩) → env 9 = .pointer (some ⟨s, 0, none⟩) → env 10 = .int .i64 (i : Nat) → env 11 = .bool true → env 12 = .bool true →
      env 13 = .pointer (some ⟨b13, 0, none⟩) → env 14 = .bool u → env 15 = .pointer (some ⟨b15, 0, none⟩) → env 16 = .bool u → env 17 = .pointer (some ⟨b17, 0, none⟩) → env 18 = .bool w → env 19 = .pointer (some ⟨b19, 0, none⟩) → env 20 = .bool w →
      octroilaw09_RibDoes_r18 env g9 (thenK (cnd (.tmp 179) (sq (rg octroilaw09_RibDoes_r19) (ex .ret)) (ex .normal)) (inBlk 1 (thenK (rg octroilaw09_RibDoes_r20) (roundK (DoInv h most v xs addr) mm P))) .normal) := by
    intro env e0 e1 e2 e8 e9 e10 e11 e12 e13 e14 e15 e16 e17 e18 e19 e20
    simp (disch := omega) [octroilaw09_RibDoes_r18, e8, e9, e11, e12, e13, e14, e15, e16, e17, e18, e19, e20, f13, f15, f17, f19, hs9]
    refine rrefM A9.m ?_
    simp (disch := omega) [hs9]
    simp (disch := omega) [octroilaw09_RibDoes_r20, e10, wrap_i64]
    exact ⟨mm - 1, by omega, i + 1, r, s, rf, m, T, L, k, O, O', by simp [e0], by simp [e1], by simp [e2], by simp [e8], by simp [e9], by simp, by omega, by omega, hk, A9, B9, dj, S⟩
  refine key _ ?_ ?_ ?_ ?_ ?_ ?_ ?_ ?_ ?_ ?_ ?_ ?_ ?_ ?_ ?_ ?_ <;> simp [e0, e1, e2, e8, e9, e10, e11]
end Go.Proofs.Ytmbhlbohbpepaaa

/- RibDoes: the whole walk. -/
namespace Go.Proofs.Ytmbhlbohbpepaaa
open Go
set_option linter.unusedSimpArgs false
set_option linter.unusedVariables false

theorem RibM.rf {h : Hp} {r : Nat} {most rf : Int} {m : List (RK × Rt)} {T : PL} {k : Nat} {O : List Nat} (M : RibM h r most rf m T k O) : 0 ≤ rf ∧ rf ≤ k := by
  obtain ⟨mr, t, nb, N, hr, hm, hT, hN, h0, h1, _⟩ := M
  exact ⟨h0, h1⟩

theorem same_none {m : List (RK × Rt)} {T : PL} {L : List Rt} (S : SameT m T L) {a : Nat} {l d : Int} (h : getM m ((a, l), d) = none) : atL L a l d = none := by
  cases e : atL L a l d with
  | none => rfl
  | some i =>
    obtain ⟨y, L1, L2, _, _, _, hy⟩ := S.some e
    rw [h] at hy; cases hy

set_option maxRecDepth 20000 in
set_option maxHeartbeats 2000000 in
theorem RibDoes_walk {h : Hp} {v : Value} {xs : List OpX} {most : Int} {addr : Nat} (A0 : argOps9 h v xs) (ha : addr < 2 ^ 32) :
    Ok Try.prog F_octroilaw09_RibDoes #[.int .i64 most, v, .int .u32 (addr : Nat)] h (fun r g => r = .bool true ∧ Le h g) := by
  obtain ⟨p, cap, hv⟩ := ArgSl.shape A0
  have hlen := ArgSl.len A0
  have hmax : maxLen < 2 ^ 63 := by decide
  refine octroilaw09_RibDoes_ok (by simp) ?_
  unfold octroilaw09_RibDoes_D
  simp (disch := omega) [octroilaw09_RibDoes_r0, octroilaw09_RibDoes_r1]
  refine awake_spec (fun h1 L1 => ?_)
  simp (disch := omega) [octroilaw09_RibDoes_r2]
  refine rnewM (fun r h2 O l2 n2 M2 => ?_)
  have A2 : ROwn h h2 r (min most 64) 0 [] [] 0 O := ⟨M2, L1.trans l2, fun x m => none_of_le L1 (n2 x m)⟩
  clear M2 n2 l2
  by_cases hbig : (150 : Int) < (xs.length : Int)
  · simp (disch := omega) [octroilaw09_RibDoes_r3, octroilaw09_RibDoes_r4, hv, hbig]
    exact .to _ (.refl _) ⟨rfl, A2.le⟩
  have hxs : xs.length ≤ 150 := by omega
  simp (disch := omega) [octroilaw09_RibDoes_r3, hv, hbig]
  simp (disch := omega) [octroilaw09_RibDoes_r5]
  refine refnewM (fun s h3 O' l3 n3 M3 => ?_)
  have B2 : FOwn h h3 s (min most 64) 0 [] O' := ⟨M3, A2.le.trans l3, fun x m => none_of_le A2.le (n3 x m)⟩
  have dj : ∀ x, x ∈ O → x ∉ O' := fun x hx hx' => by obtain ⟨o, e⟩ := A2.m.alive x hx; rw [n3 x hx'] at e; cases e
  replace A2 := A2.le2 l3
  clear M3 n3 l3
  have S0 : SameT [] [] [] := ⟨A2.m.inv, by simp, fun x => by simp [getM_nil]⟩
  simp (disch := omega) [octroilaw09_RibDoes_r6]
  refine ⟨DoInv h most v xs addr, ⟨xs.length, 0, r, s, 0, [], [], [], 0, O, O', by simp, by simp [hv], by simp, by simp, by simp, by simp, by omega, by omega, by omega, A2, B2, dj, S0⟩, ?_⟩
  clear A2 B2 dj S0 L1
  rintro mm env g ⟨i, r, s, rf, m, T, L, k, O, O', e0, e1, e2, e8, e9, e10, him, hi, hk, A, B, dj, S⟩
  unfold octroilaw09_RibDoes_L0
  by_cases hm : mm = 0
  · have : i = xs.length := by omega
    subst this
    have e1' := e1
    rw [hv] at e1'
    simp (disch := omega) [octroilaw09_RibDoes_r7, octroilaw09_RibDoes_r21, e1', e10]
    exact .to _ (.refl _) ⟨rfl, A.le⟩
  · obtain ⟨o, ho⟩ : ∃ o, xs[i]? = some o := ⟨_, List.getElem?_eq_getElem (by omega)⟩
    obtain ⟨hg, b, f, cap', c, E, fr, hv', hb, q0, q1, q2, q3, q4, q5, q6, q7⟩ := argOps9.get A0 ho
    have hb' := A.le _ _ hb
    have hi' : i < xs.length := by omega
    have e1' := e1
    rw [hv'] at e1'
    have hrf := A.m.rf
    have hLl := S.len
    have hml := S.1.len
    simp (disch := omega) [octroilaw09_RibDoes_r7, octroilaw09_RibDoes_r8, e1', e10, hi']
    by_cases k0 : o.k = 0
    · have k1 : ¬ o.k = 1 := by omega
      simp (disch := omega) [octroilaw09_RibDoes_r9, e1', e10, hi', hb', q0, k0]
      simp (disch := omega) [octroilaw09_RibDoes_r10, e1', e8, e9, e10, hi', hb', q1, q2, q3, q4, q5, q6, q7]
      refine rputM A.m hg (by omega) (fun g2 O2 T2 F2 M2 => ?_)
      have A2 := A.fr F2 M2
      obtain ⟨B2, dj2⟩ := B.other F2 dj A2.le
      have hb2 := A2.le _ _ hb
      simp (disch := omega) [e1', e9, e10, hi', hb2, q1, q2, q3, q4, q5, q6, q7]
      refine refputM B2.m (by omega) hg (by omega) (fun g3 O3 F3 M3 => ?_)
      have B3 := B2.fr F3 M3
      obtain ⟨A3, dj3⟩ := A2.other F3 (fun x hx hx' => dj2 x hx' hx) B3.le
      obtain ⟨s1, s2, s3⟩ := same_put (most := min most 64) (rf := rf) S hg A2.m.inv
      have hb3 := A3.le _ _ hb
      rw [← s2] at B3
      rw [s1]
      generalize (putS (min most 64) rf m o.x).2.1 = rf2 at *
      generalize (putS (min most 64) rf m o.x).2.2 = m2 at *
      simp (disch := omega) [e1', e10, hi', hb3]
      simp (disch := omega) [octroilaw09_RibDoes_r11, e1', e10, hi', hb3, q0, k0]
      refine does_checks A0 ho ha him hm hxs A3 B3 (fun x hx hx' => dj3 x hx' hx) s3 (by omega) _ ?_ ?_ ?_ ?_ ?_ ?_ ?_ _ <;> simp [e0, e1, e2, e8, e9, e10]
    · by_cases k1 : o.k = 1
      · simp (disch := omega) [octroilaw09_RibDoes_r9, e1', e10, hi', hb', q0, k1]
        simp (disch := omega) [octroilaw09_RibDoes_r11, e1', e10, hi', hb', q0, k1]
        simp (disch := omega) [octroilaw09_RibDoes_r12, e1', e8, e9, e10, hi', hb', q1, q2, q3]
        refine rtakeM A.m hg.a (by omega) (fun hn g2 l2 M2 => ?_) (fun hn g2 O2 T2 F2 M2 => ?_)
        · have A2 : ROwn h g2 r (min most 64) rf m T k O := ⟨M2, A.le.trans l2, A.new⟩
          have B2 := B.le2 l2
          have hb2 := A2.le _ _ hb
          simp (disch := omega) [e1', e9, e10, hi', hb2, q1, q2, q3]
          have hat := same_none S hn
          refine reftakeM B2.m (by omega) (fun _ g3 l3 M3 => ?_) (fun i' hi2 => by rw [hat] at hi2; cases hi2)
          have A3 := A2.le2 l3
          have B3 := B2.le2 l3
          simp (disch := omega)
          refine does_checks A0 ho ha him hm hxs A3 B3 dj S (by omega) _ ?_ ?_ ?_ ?_ ?_ ?_ ?_ _ <;> simp [e0, e1, e2, e8, e9, e10]
        · have A2 := A.fr F2 M2
          obtain ⟨B2, dj2⟩ := B.other F2 dj A2.le
          have hb2 := A2.le _ _ hb
          simp (disch := omega) [e1', e9, e10, hi', hb2, q1, q2, q3]
          refine reftakeM B2.m (by omega) (fun hat => (hn (S.none hat)).elim) (fun i' hat g3 O3 F3 M3 => ?_)
          have B3 := B2.fr F3 M3
          obtain ⟨A3, dj3⟩ := A2.other F3 (fun x hx hx' => dj2 x hx' hx) B3.le
          obtain ⟨_, s3⟩ := same_take S hat A2.m.inv
          simp (disch := omega)
          refine does_checks A0 ho ha him hm hxs A3 B3 (fun x hx hx' => dj3 x hx' hx) s3 (by omega) _ ?_ ?_ ?_ ?_ ?_ ?_ ?_ _ <;> simp [e0, e1, e2, e8, e9, e10]
      · simp (disch := omega) [octroilaw09_RibDoes_r9, e1', e10, hi', hb', q0, k0]
        simp (disch := omega) [octroilaw09_RibDoes_r11, e1', e10, hi', hb', q0, k1]
        refine does_checks A0 ho ha him hm hxs A B dj S (by omega) _ ?_ ?_ ?_ ?_ ?_ ?_ ?_ _ <;> simp [e0, e1, e2, e8, e9, e10]
end Go.Proofs.Ytmbhlbohbpepaaa

/- What the arguments of these laws read: their flat parts. -/
namespace Go.Proofs.Ytmbhlbohbpepaaa
open Go

def rtKs : List Lk := [.int .u32, .int .i64, .int .i64, .int .i64, .int .i64, .int .i64, .int .u16]

theorem dec_rt {H : Type} {enc : TypeId × Value → H} {w : World} {base : Nat} {spare : Nat → Bool} {held : Bool} (cs : List Value) (h : okLs enc Try.prog w base spare held rtKs cs) : ∃ x : Rt, cs = x.enc ∧ x.Good := by
  obtain ⟨a, _, rfl, w1, h⟩ := okLs_int h
  obtain ⟨l, _, rfl, w2, h⟩ := okLs_int h
  obtain ⟨d, _, rfl, w3, h⟩ := okLs_int h
  obtain ⟨ds, _, rfl, w4, h⟩ := okLs_int h
  obtain ⟨m, _, rfl, w5, h⟩ := okLs_int h
  obtain ⟨nx, _, rfl, w6, h⟩ := okLs_int h
  obtain ⟨tg, _, rfl, w7, h⟩ := okLs_int h
  obtain rfl := okLs_nil h
  obtain ⟨a', rfl, ha⟩ := u32_wf w1
  obtain ⟨t', rfl, ht⟩ := u16_wf w7
  exact ⟨⟨a', l, d, ds, m, nx, t'⟩, rfl, ⟨ha, ht⟩⟩
end Go.Proofs.Ytmbhlbohbpepaaa

/- What the lists of calls and of routes read: their flat parts. -/
namespace Go.Proofs.Ytmbhlbohbpepaaa
open Go

def opKs9 : List Lk := .int .i64 :: rtKs

theorem dec_op9 {H : Type} {enc : TypeId × Value → H} {w : World} {base : Nat} {spare : Nat → Bool} {held : Bool} (cs : List Value) (h : okLs enc Try.prog w base spare held opKs9 cs) : ∃ x : OpX, cs = x.enc ∧ x.x.Good := by
  obtain ⟨k, vs, rfl, w1, h⟩ := okLs_int h
  obtain ⟨x, rfl, hg⟩ := dec_rt _ h
  exact ⟨⟨k, x⟩, rfl, hg⟩
end Go.Proofs.Ytmbhlbohbpepaaa

/- RibDoes: a table of any size answers any calls as the document says; it has the routes, and takes those, that it says: the row. No condition. -/
namespace Go.Proofs.Ytmbhlbohbpepaaa.RibDoes_row
open Go Go.ChangeShapes Go.WideShapes Go.RowKit
theorem own_knob : ownKnob Try.prog.godebug = none := by kernel_rfl
theorem laid_out : laidOutB Try.prog = true := by kernel_rfl
set_option maxRecDepth 100000 in
theorem lifted (os : Os) (started : os.Started) (H : Type) (enc : TypeId × Value → H) :
    ReturnsInHanded {} Try.checked os 9 .any (Rows.ribDoesSpec.pre6 enc Try.prog Try.f9 Rows.ribDoesRow.domain false) (Rows.ribDoesSpec.post enc Try.prog Try.f9 false true false false) := by
  refine returnsInHanded_of_change_sized (C := Try.checked) own_knob started (by kernel_rfl) Try.func9
    (ChangeSpec.witness6 (enc := enc) (C := Try.checked) false ⟨#[], #[.int .i64 0, .slice none 0 0, .int .u32 0], []⟩ 8 (by kernel_rfl) (by kernel_rfl) (by kernel_rfl) (by kernel_rfl)) ?_
  intro W base args ds gs before hval hW hcnd hsz _
  have hW' := hW
  obtain ⟨p, q, hA, hV, rfl, hfz, hnd⟩ := hW
  obtain ⟨rfl, rfl⟩ := trodVars_none hV
  have hA' : DataW.TrodAll enc Try.prog W 0 (fun _ => true) true Try.f9.params.toList args.toList ds p := hA
  have hval' : ∀ (j : Nat) t v, Try.f9.params[j]? = some t → args[j]? = some v → Value.okWide Try.prog W .any base t v := hval
  rw [Try.params9] at hA' hval'
  obtain ⟨v0, vs0, d0, ds0, p0, q0, hargs, rfl, rfl, h0, r0⟩ := trodAll_cons hA'
  obtain ⟨v1, vs1, d1, ds1, p1, q1, rfl, rfl, rfl, h1, r1⟩ := trodAll_cons r0
  obtain ⟨v2, vs2, d2, ds2, p2, q2, rfl, rfl, rfl, h2, r2⟩ := trodAll_cons r1
  obtain ⟨rfl, rfl, rfl⟩ := trodAll_nil r2
  obtain rfl : args = #[v0, v1, v2] := by cases args; simp_all
  obtain ⟨n0, rfl, rfl, rfl, w0⟩ := open_int Try.underlying3 (hval' 0 _ v0 rfl rfl) h0
  obtain ⟨xs1, A1⟩ := open_argSl (ks := opKs9) (sz := 8) 4 Try.underlying48 (by kernel_rfl) (by kernel_rfl) (by decide) dec_op9 (hval' 1 _ v1 rfl rfl) h1
  obtain ⟨n2, rfl, rfl, rfl, w2⟩ := open_int Try.underlying22 (hval' 2 _ v2 rfl rfl) h2
  obtain ⟨a2, rfl, ha2⟩ := u32_wf w2
  refine (below_of (RibDoes_walk A1 ha2)).mono fun e W' ⟨he, bel⟩ => ?_
  subst he
  exact ⟨_, rfl, _, _, _, [], _, [], hW', trodAll_mk1 (shut_bool (by kernel_rfl) _), trodAll_below laid_out bel (by kernel_rfl) hA, rfl, bel.frame _, fun h => by cases h⟩
theorem over : Rows.ribDoesRow.holds Try.pinned (OpenSpec.ofChange Rows.ribDoesSpec) :=
  OpenClaim.holds_of_wide 9 Try.f9 rfl rfl rfl rfl rfl rfl rfl ⟨rfl, rfl, rfl, rfl, rfl⟩ rfl rfl rfl rfl rfl (by kernel_rfl) Try.func9 (by kernel_rfl)
    (of_decide_eq_true (by kernel_rfl)) (by unfold Func.isWrapper; first | (rw [if_pos (by decide +kernel)]; kernel_rfl) | (rw [if_neg (by decide +kernel)]; exact ⟨rfl, rfl⟩))
    (fun os started H enc _ => lifted os started H enc)
end Go.Proofs.Ytmbhlbohbpepaaa.RibDoes_row
namespace Go.Proofs.Ytmbhlbohbpepaaa
theorem ribDoes_holds : Rows.RibDoesSaid := RibDoes_row.over
#print axioms ribDoes_holds
end Go.Proofs.Ytmbhlbohbpepaaa
