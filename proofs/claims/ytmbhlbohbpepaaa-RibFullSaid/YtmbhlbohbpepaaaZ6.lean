/- A law's row, out of what its call does to a heap that has all of the world's blocks; and what the arguments read. -/
import Derived.ProofKit
import Derived.OpenShut
import Derived.ChangeOld
import Derived.Carry
import Derived.SizedLaws
import Derived.WideShapes
import Derived.Deep.Slices
import Derived.Test.YtmbhlbohbpepaaaRows
import Derived.Test.YtmbhlbohbpepaaaZ5

namespace Go.Proofs.Ytmbhlbohbpepaaa
open Go Go.ChangeShapes Go.WideShapes Go.RowKit Go.Deep

/-- All of a world's blocks. -/
def hpW (W : World) : Hp := fun b => W.heap[b]?

theorem below_of {P : Program} {f : FuncId} {args : Array Value} {W : World} {v0 : Value} (h : Ok P f args (hpW W) fun v h' => v = v0 ∧ Le (hpW W) h') :
    Calls P f args W fun e W' => e = .returned v0 ∧ Below W.heap.size W W' := by
  refine (h.2 W (fun _ _ e => e)).mono fun e W' ⟨v, h', e1, V, K, e2, L⟩ => ?_
  subst e2
  refine ⟨e1, K.os, K.tape, K.output, K.size, fun k hk => ?_⟩
  have hb : hpW W k = some W.heap[k] := Array.getElem?_eq_getElem hk
  rw [V _ _ (L _ _ hb)]
  exact hb.symm

section
variable {H : Type} {enc : TypeId × Value → H} {P : Program}

theorem trodAll_below (hl : laidOutB P = true) {W W' : World} (hb : Below W.heap.size W W') : ∀ {ts : List TypeId} {vs : List Value} {ds : List (DataW H)} {ps : List MemPlace},
    ts.all (fun t => P.readableRec t && decide (t < P.types.size)) = true → DataW.TrodAll enc P W 0 (fun _ => true) true ts vs ds ps → DataW.TrodAll enc P W' 0 (fun b => decide (b < W.heap.size)) true ts vs ds ps
  | [], vs, ds, ps, _, h => by
    obtain ⟨rfl, rfl, rfl⟩ := trodAll_nil h
    exact trodAll_mk0
  | t :: ts, vs, ds, ps, hr, h => by
    obtain ⟨v, vs', d, ds', p, q, rfl, rfl, rfl, h1, h2⟩ := trodAll_cons h
    simp only [List.all_cons, Bool.and_eq_true, decide_eq_true_eq] at hr
    refine trodAll_cons_mk (Below.trod hl hr.1.1 hr.1.2 h1 hb (fun x hx => ?_)) (trodAll_below hl hb (by simpa using hr.2) h2)
    obtain ⟨m, hm⟩ := h1
    exact DataW.trod_lt m _ _ _ hm x hx

/-! ### What flat cells read -/
inductive Lk where
  | int (k : IntKind)
  | bool
  | str
  | other (t : TypeId)

def flatFs (P : Program) (rec : TypeId → Option (List Lk)) (total : Nat) : List Field → Nat → Option (List Lk)
  | [], off => if off = total then some [] else none
  | f :: fs, off => if f.offset = off then
      match rec f.type, flatFs P rec total fs (off + P.cellsOf f.type) with
      | some a, some b => some (a ++ b)
      | _, _ => none
    else none

def flatK (P : Program) : Nat → TypeId → Option (List Lk)
  | 0, _ => none
  | n + 1, t => match P.underlying t with
    | some .bool => some [.bool]
    | some (.int k) => some [.int k]
    | some .string => some [.str]
    | some (.struct fs) => flatFs P (flatK P n) (P.cellsOf t) fs.toList 0
    | some (.slice _) => some [.other t]
    | some (.map _ _) => some [.other t]
    | some (.pointer _) => some [.other t]
    | _ => none

variable {w : World} {base : Nat} {spare : Nat → Bool} {held : Bool}

def okL (enc : TypeId × Value → H) (P : Program) (w : World) (base : Nat) (spare : Nat → Bool) (held : Bool) : Lk → Value → Prop
  | .int k, v => ∃ n, v = .int k n ∧ (Lit.int k n).wf = true
  | .bool, v => ∃ b, v = .bool b
  | .str, v => ∃ s, v = .string s ∧ s.size ≤ maxLen
  | .other t, v => ∃ fuel x, DataW.trod enc P w base spare held fuel t [v] = some x

def okLs (enc : TypeId × Value → H) (P : Program) (w : World) (base : Nat) (spare : Nat → Bool) (held : Bool) : List Lk → List Value → Prop
  | [], [] => True
  | k :: ks, v :: vs => okL enc P w base spare held k v ∧ okLs enc P w base spare held ks vs
  | _, _ => False

theorem okLs_nil {cs : List Value} (h : okLs enc P w base spare held [] cs) : cs = [] := by
  cases cs with
  | nil => rfl
  | cons _ _ => exact h.elim

theorem okLs_cons {k : Lk} {ks : List Lk} {cs : List Value} (h : okLs enc P w base spare held (k :: ks) cs) : ∃ v vs, cs = v :: vs ∧ okL enc P w base spare held k v ∧ okLs enc P w base spare held ks vs := by
  cases cs with
  | nil => exact h.elim
  | cons v vs => exact ⟨v, vs, rfl, h.1, h.2⟩

theorem okLs_int {k : IntKind} {ks : List Lk} {cs : List Value} (h : okLs enc P w base spare held (.int k :: ks) cs) : ∃ n vs, cs = .int k n :: vs ∧ (Lit.int k n).wf = true ∧ okLs enc P w base spare held ks vs := by
  obtain ⟨v, vs, rfl, ⟨n, rfl, hw⟩, h2⟩ := okLs_cons h
  exact ⟨n, vs, rfl, hw, h2⟩

theorem okLs_bool {ks : List Lk} {cs : List Value} (h : okLs enc P w base spare held (.bool :: ks) cs) : ∃ b vs, cs = .bool b :: vs ∧ okLs enc P w base spare held ks vs := by
  obtain ⟨v, vs, rfl, ⟨n, rfl⟩, h2⟩ := okLs_cons h
  exact ⟨n, vs, rfl, h2⟩

theorem okLs_str {ks : List Lk} {cs : List Value} (h : okLs enc P w base spare held (.str :: ks) cs) : ∃ s vs, cs = .string s :: vs ∧ s.size ≤ maxLen ∧ okLs enc P w base spare held ks vs := by
  obtain ⟨v, vs, rfl, ⟨n, rfl, hw⟩, h2⟩ := okLs_cons h
  exact ⟨n, vs, rfl, hw, h2⟩

theorem okLs_append : ∀ {a b : List Lk} {x y : List Value}, okLs enc P w base spare held a x → okLs enc P w base spare held b y → okLs enc P w base spare held (a ++ b) (x ++ y)
  | [], _, [], _, _, h => h
  | [], _, _ :: _, _, h, _ => h.elim
  | _ :: _, _, [], _, h, _ => h.elim
  | _ :: _, _, _ :: _, _, h, h' => ⟨h.1, okLs_append h.2 h'⟩

theorem flatFs_open (rec : TypeId → Option (List Lk)) (total : Nat) (cs : List Value) (hcs : cs.length = total) : ∀ (fs : List Field) (off : Nat) (ks : List Lk), flatFs P rec total fs off = some ks →
    (∀ f ∈ fs, ∀ k, rec f.type = some k → okLs enc P w base spare held k ((cs.drop f.offset).take (P.cellsOf f.type))) → okLs enc P w base spare held ks (cs.drop off)
  | [], off, ks, h, _ => by
    simp only [flatFs] at h
    split at h
    · rename_i e; cases h; rw [List.drop_of_length_le (by omega)]; trivial
    · cases h
  | f :: fs, off, ks, h, hf => by
    simp only [flatFs] at h
    split at h
    · rename_i e
      cases h1 : rec f.type with
      | none => simp [h1] at h
      | some a =>
        cases h2 : flatFs P rec total fs (off + P.cellsOf f.type) with
        | none => simp [h1, h2] at h
        | some b =>
          simp [h1, h2] at h
          subst h
          have ih := flatFs_open rec total cs hcs fs _ b h2 (fun g hg => hf g (by simp [hg]))
          have h3 := hf f (by simp) a h1
          rw [e] at h3
          have := okLs_append h3 ih
          rw [← List.drop_drop, List.take_append_drop] at this
          exact this
    · cases h

theorem flat_open : ∀ (n : Nat) (t : TypeId) (ks : List Lk) (fuel : Nat) (cs : List Value) (x : DataW H × List MemPlace), flatK P n t = some ks → DataW.trod enc P w base spare held fuel t cs = some x → okLs enc P w base spare held ks cs := by
  intro n
  induction n with
  | zero => intro t ks fuel cs x h; simp [flatK] at h
  | succ n ih =>
    intro t ks fuel cs x h ht
    have other1 : (∃ e, P.underlying t = some (.slice e)) ∨ (∃ a e, P.underlying t = some (.map a e)) ∨ (∃ e, P.underlying t = some (.pointer e)) → ∃ v, cs = [v] := by
      intro hc
      cases fuel with
      | zero => simp [DataW.trod] at ht
      | succ m =>
        unfold DataW.trod at ht
        rcases hc with ⟨e, hu⟩ | ⟨a, e, hu⟩ | ⟨e, hu⟩ <;> rw [hu] at ht <;> split at ht <;> simp_all
    cases hu : P.underlying t with
    | none => simp [flatK, hu] at h
    | some u =>
      cases u with
      | bool =>
        simp [flatK, hu] at h; subst h
        cases fuel with
        | zero => simp [DataW.trod] at ht
        | succ m =>
          unfold DataW.trod at ht
          rw [hu] at ht
          split at ht <;> simp_all
          exact ⟨⟨_, rfl⟩, trivial⟩
      | int k =>
        simp [flatK, hu] at h; subst h
        obtain ⟨n', rfl, _, hw⟩ := DataW.trod_int hu ht
        exact ⟨⟨n', rfl, hw⟩, trivial⟩
      | string =>
        simp [flatK, hu] at h; subst h
        obtain ⟨s, rfl, _, hw⟩ := DataW.trod_string hu ht
        exact ⟨⟨s, rfl, hw⟩, trivial⟩
      | struct fs =>
        simp only [flatK, hu] at h
        obtain ⟨xs, m, _, _, hlen, hxl, hf⟩ := DataW.trod_struct hu ht
        have := flatFs_open (flatK P n) (P.cellsOf t) cs hlen fs.toList 0 ks h (fun f hf' k hk => by
          obtain ⟨i, hi, he⟩ := List.getElem_of_mem hf'
          have hi' : fs[i]? = some f := by rw [← he]; simp at hi ⊢
          have h1 := hf i f hi'
          have hil : i < xs.length := by rw [hxl]; simpa using hi
          rw [List.getElem?_eq_getElem hil] at h1
          exact ih f.type k m _ _ hk h1)
        simpa using this
      | slice e =>
        simp [flatK, hu] at h; subst h
        obtain ⟨v, rfl⟩ := other1 (.inl ⟨e, hu⟩)
        exact ⟨⟨fuel, x, ht⟩, trivial⟩
      | map a e =>
        simp [flatK, hu] at h; subst h
        obtain ⟨v, rfl⟩ := other1 (.inr (.inl ⟨a, e, hu⟩))
        exact ⟨⟨fuel, x, ht⟩, trivial⟩
      | pointer e =>
        simp [flatK, hu] at h; subst h
        obtain ⟨v, rfl⟩ := other1 (.inr (.inr ⟨e, hu⟩))
        exact ⟨⟨fuel, x, ht⟩, trivial⟩
      | _ => simp [flatK, hu] at h

/-- A struct that came in by value. -/
theorem open_flat {t : TypeId} {fs : Array Field} {ks : List Lk} {W : World} {v : Value} {d : DataW H} {ps : List MemPlace} {b0 : Nat} (n : Nat) (ht : P.underlying t = some (.struct fs)) (hk : flatK P n t = some ks)
    (hv : Value.okWide P W .any b0 t v) (hd : DataW.Trod enc P W base spare held t v d ps) : ∃ cs, v = .agg cs ∧ okLs enc P W base spare held ks cs.toList := by
  obtain ⟨cs, rfl, _⟩ := okWide_struct ht hv
  obtain ⟨fuel, hf⟩ := hd
  exact ⟨cs, rfl, flat_open n t ks _ _ _ hk hf⟩

/-! ### A slice that came in -/
def ArgSl {α : Type} (h : Hp) (sz : Nat) (enc : α → List Value) (good : α → Prop) (v : Value) (xs : List α) : Prop :=
  (∀ x ∈ xs, good x) ∧ ((∃ p cap, v = .slice p 0 cap ∧ xs = []) ∨ ∃ b o cap c E fr, v = .slice (some ⟨b, o, none⟩) xs.length cap ∧ xs.length ≤ cap ∧ cap ≤ maxLen ∧ h b = some (.cells c E fr) ∧ Enc c o sz enc xs)

theorem ArgSl.le {α : Type} {h h' : Hp} {sz : Nat} {enc : α → List Value} {good : α → Prop} {v : Value} {xs : List α} (A : ArgSl h sz enc good v xs) (L : Le h h') : ArgSl h' sz enc good v xs := by
  obtain ⟨g, A⟩ := A
  rcases A with ⟨p, cap, e⟩ | ⟨b, o, cap, c, E, fr, e1, e2, e2', e3, e4⟩
  · exact ⟨g, .inl ⟨p, cap, e⟩⟩
  · exact ⟨g, .inr ⟨b, o, cap, c, E, fr, e1, e2, e2', L _ _ e3, e4⟩⟩

theorem ArgSl.shape {α : Type} {h : Hp} {sz : Nat} {enc : α → List Value} {good : α → Prop} {v : Value} {xs : List α} (A : ArgSl h sz enc good v xs) : ∃ p cap, v = .slice p xs.length cap := by
  rcases A.2 with ⟨p, cap, rfl, rfl⟩ | ⟨b, o, cap, c, E, fr, rfl, _⟩
  · exact ⟨p, cap, rfl⟩
  · exact ⟨_, cap, rfl⟩

theorem ArgSl.len {α : Type} {h : Hp} {sz : Nat} {enc : α → List Value} {good : α → Prop} {v : Value} {xs : List α} (A : ArgSl h sz enc good v xs) : xs.length ≤ maxLen := by
  rcases A.2 with ⟨p, cap, rfl, rfl⟩ | ⟨b, o, cap, c, E, fr, rfl, h1, h2, _⟩
  · simp
  · omega

theorem choose_list {α : Type} (p : Nat → α → Prop) : ∀ n, (∀ i, i < n → ∃ x, p i x) → ∃ xs : List α, xs.length = n ∧ ∀ i x, xs[i]? = some x → p i x
  | 0, _ => ⟨[], rfl, by simp⟩
  | n + 1, h => by
    obtain ⟨xs, hl, hx⟩ := choose_list p n (fun i hi => h i (by omega))
    obtain ⟨x, hx'⟩ := h n (by omega)
    refine ⟨xs ++ [x], by simp [hl], fun i y hy => ?_⟩
    rcases Nat.lt_trichotomy i n with e | e | e
    · rw [List.getElem?_append_left (by omega)] at hy; exact hx i y hy
    · subst e; rw [List.getElem?_append_right (by omega), hl] at hy; simp at hy; subst hy; exact hx'
    · rw [List.getElem?_eq_none (by simp [hl]; omega)] at hy; cases hy

theorem open_argSl {α : Type} {t e : TypeId} {ks : List Lk} {ec : α → List Value} {good : α → Prop} {W : World} {v : Value} {d : DataW H} {ps : List MemPlace} {b0 sz : Nat} (n : Nat)
    (ht : P.underlying t = some (.slice e)) (hk : flatK P n e = some ks) (hC : P.cellsOf e = sz) (h0 : 0 < sz)
    (hdec : ∀ cs, okLs enc P W 0 spare held ks cs → ∃ x, cs = ec x ∧ good x)
    (hv : Value.okWide P W .any b0 t v) (hd : DataW.Trod enc P W 0 spare held t v d ps) : ∃ xs, ArgSl (hpW W) sz ec good v xs := by
  obtain ⟨a, len, cap, rfl⟩ := okWide_slice ht hv
  obtain ⟨fuel, hf⟩ := hd
  rcases open_slice ht hf with ⟨h0, _⟩ | ⟨a', len', cap', m, n', D, Pl, hcs, _, hl, hm, hmm, _, hx⟩
  · simp [Value.cells] at h0
    obtain ⟨rfl, rfl, rfl⟩ := h0
    exact ⟨[], by simp, .inl ⟨_, _, rfl, rfl⟩⟩
  · simp [Value.cells] at hcs
    obtain ⟨rfl, rfl, rfl⟩ := hcs
    have hlm : len ≤ m := by rw [hmm]; split <;> omega
    rw [hC] at hx
    obtain ⟨xs, hxl, hxx⟩ := choose_list (fun i x => good x ∧ (ec x).length = sz ∧ (∀ j, j < sz → W.cell? (a'.add (i * sz + j)) = (ec x)[j]?)) len (fun i hi => by
      obtain ⟨cs', hc, ht'⟩ := hx i (by omega)
      obtain ⟨_, hcl, hat⟩ := World.cells?_some hc
      obtain ⟨x, rfl, hg⟩ := hdec cs' (flat_open n e ks _ _ _ hk ht')
      refine ⟨x, hg, hcl, fun j hj => ?_⟩
      rw [← Go.Deep.add_add, hat j hj])
    refine ⟨xs, fun x hx => ?_, ?_⟩
    · obtain ⟨i, hi, he⟩ := List.getElem_of_mem hx
      exact (hxx i x (by rw [List.getElem?_eq_getElem hi, he])).1
    · by_cases hl0 : len = 0
      · subst hl0
        have : xs = [] := by simpa using hxl
        exact .inl ⟨_, _, rfl, this⟩
      · right
        obtain ⟨b, o, s⟩ := a'
        have hx0 := hxx 0 xs[0] (List.getElem?_eq_getElem (by omega))
        have h1 := hx0.2.2 0 h0
        rw [List.getElem?_eq_getElem (by omega)] at h1
        simp only [Nat.zero_mul, Nat.add_zero, Addr.add, if_true, World.cell?] at h1
        split at h1
        · rename_i c E fr hb
          split at h1
          · cases h1
          · rename_i hs
            have hs' : s = none := by simpa using hs
            subst hs'
            refine ⟨b, o, cap, c, E, fr, by rw [hxl], by omega, hm, hb, fun i x hx j hj => ?_⟩
            have h2 := (hxx i x hx).2.2 j hj
            have e : ((⟨b, o, none⟩ : Addr).add (i * sz + j)) = ⟨b, o + (i * sz + j), none⟩ := by unfold Addr.add; split <;> simp_all
            rw [e] at h2
            simp only [World.cell?, hb] at h2
            rw [Nat.add_assoc]
            simpa using h2
        · cases h1
end
end Go.Proofs.Ytmbhlbohbpepaaa

/- The row bridge: numbers of arguments, parts of argument slices. -/
namespace Go.Proofs.Ytmbhlbohbpepaaa
open Go

theorem i64_wf {n : Int} (h : (Lit.int .i64 n).wf = true) : -9223372036854775808 ≤ n ∧ n < 9223372036854775808 := by
  have e1 : IntKind.i64.min = -9223372036854775808 := by decide
  have e2 : IntKind.i64.max = 9223372036854775807 := by decide
  simp [Lit.wf, e1, e2] at h
  omega

theorem u32_wf {n : Int} (h : (Lit.int .u32 n).wf = true) : ∃ m : Nat, n = m ∧ m < 2 ^ 32 := by
  have e1 : IntKind.u32.min = 0 := by decide
  have e2 : IntKind.u32.max = 4294967295 := by decide
  simp [Lit.wf, e1, e2] at h
  exact ⟨n.toNat, by omega, by omega⟩

theorem u16_wf {n : Int} (h : (Lit.int .u16 n).wf = true) : ∃ m : Nat, n = m ∧ m < 2 ^ 16 := by
  have e1 : IntKind.u16.min = 0 := by decide
  have e2 : IntKind.u16.max = 65535 := by decide
  simp [Lit.wf, e1, e2] at h
  exact ⟨n.toNat, by omega, by omega⟩

theorem u8_wf {n : Int} (h : (Lit.int .u8 n).wf = true) : ∃ m : Nat, n = m ∧ m < 2 ^ 8 := by
  have e1 : IntKind.u8.min = 0 := by decide
  have e2 : IntKind.u8.max = 255 := by decide
  simp [Lit.wf, e1, e2] at h
  exact ⟨n.toNat, by omega, by omega⟩

theorem ArgSl.at {α : Type} {h : Hp} {sz : Nat} {enc : α → List Value} {good : α → Prop} {v : Value} {xs : List α} {i : Nat} {x : α} (A : ArgSl h sz enc good v xs) (hx : xs[i]? = some x) :
    good x ∧ ∃ b o cap c E fr, v = .slice (some ⟨b, o, none⟩) xs.length cap ∧ h b = some (.cells c E fr) ∧ ∀ j, j < sz → c[o + i * sz + j]? = (enc x)[j]? := by
  refine ⟨A.1 x (List.mem_of_getElem? hx), ?_⟩
  rcases A.2 with ⟨p, cap, rfl, rfl⟩ | ⟨b, o, cap, c, E, fr, rfl, h1, h2, hb, he⟩
  · simp at hx
  · exact ⟨b, o, cap, c, E, fr, rfl, hb, he i x hx⟩

end Go.Proofs.Ytmbhlbohbpepaaa

/- Many calls of a table; RibTakes: the walk. -/
namespace Go.Proofs.Ytmbhlbohbpepaaa
open Go
set_option linter.unusedSimpArgs false
set_option linter.unusedVariables false

structure OpX where
  k : Int
  x : Rt
def OpX.enc (o : OpX) : List Value := .int .i64 o.k :: o.x.enc
def argOps9 (h : Hp) (v : Value) (xs : List OpX) : Prop := ArgSl h 8 OpX.enc (fun o => o.x.Good) v xs

theorem argOps9.get {h : Hp} {v : Value} {xs : List OpX} {i : Nat} {o : OpX} (A : argOps9 h v xs) (hx : xs[i]? = some o) :
    o.x.Good ∧ ∃ b f cap c E fr, v = .slice (some ⟨b, f, none⟩) xs.length cap ∧ h b = some (.cells c E fr) ∧ c[f + i * 8]? = some (.int .i64 o.k) ∧ c[f + i * 8 + 1]? = some (.int .u32 (o.x.a : Nat)) ∧ c[f + i * 8 + 2]? = some (.int .i64 o.x.l) ∧ c[f + i * 8 + 3]? = some (.int .i64 o.x.d) ∧
      c[f + i * 8 + 4]? = some (.int .i64 o.x.ds) ∧ c[f + i * 8 + 5]? = some (.int .i64 o.x.m) ∧ c[f + i * 8 + 6]? = some (.int .i64 o.x.nx) ∧ c[f + i * 8 + 7]? = some (.int .u16 (o.x.tg : Nat)) := by
  obtain ⟨hg, b, f, cap, c, E, fr, e, hb, he⟩ := ArgSl.at A hx
  exact ⟨hg, b, f, cap, c, E, fr, e, hb, he 0 (by omega), he 1 (by omega), he 2 (by omega), he 3 (by omega), he 4 (by omega), he 5 (by omega), he 6 (by omega), he 7 (by omega)⟩

/-- No more than there may be. -/
def Fit9 (most : Int) (m : List (RK × Rt)) : Prop := m = [] ∨ (m.length : Int) ≤ most

theorem fit_put {most rf : Int} {m : List (RK × Rt)} {x : Rt} (F : Fit9 most m) : Fit9 most (putS most rf m x).2.2 := by
  unfold putS
  split
  · exact F
  · split
    · exact F
    · rename_i h
      right
      simp only
      rw [setM_length]
      cases hg : getM m x.key with
      | none =>
        have : ¬ most ≤ (m.length : Int) := fun q => h ⟨hg, q⟩
        simp; omega
      | some y =>
        rcases F with rfl | F
        · simp [getM_nil] at hg
        · simpa using F

theorem fit_del {most : Int} {m : List (RK × Rt)} {k : RK} (F : Fit9 most m) : Fit9 most (delM k m) := by
  rcases F with rfl | F
  · exact .inl rfl
  · right
    have := (delM_sub (a := k) (m := m)).length_le
    omega

def TkInv (h0 : Hp) (most : Int) (v : Value) (xs : List OpX) (addr : Nat) (mm : Nat) (env : Env) (g : Hp) : Prop :=
  ∃ (i r : Nat) (rf : Int) (m : List (RK × Rt)) (T : PL) (k : Nat) (O : List Nat), env 0 = .int .i64 most ∧ env 1 = v ∧ env 2 = .int .u32 (addr : Nat) ∧ env 8 = .pointer (some ⟨r, 0, none⟩) ∧ env 9 = .int .i64 (i : Nat) ∧ i + mm = xs.length ∧ i ≤ xs.length ∧ k ≤ i ∧
    ROwn h0 g r (min most 64) rf m T k O ∧ Fit9 (min most 64) m

def TlInv (g0 : Hp) (is : Bool) (v : Value) (L : List Rt) (addr b : Nat) (mm : Nat) (env : Env) (g : Hp) : Prop :=
  g = g0 ∧ ∃ i : Nat, env 2 = .int .u32 (addr : Nat) ∧ env 10 = .pointer (some ⟨b, 0, none⟩) ∧ env 11 = .bool is ∧ env 12 = v ∧ env 13 = .int .i64 (i : Nat) ∧ i + mm = L.length ∧ i ≤ L.length

set_option maxRecDepth 20000 in
set_option maxHeartbeats 4000000 in
theorem takes_loop2 {h g0 : Hp} {m : List (RK × Rt)} {T : PL} {v : Value} {addr b : Nat} (R : RInv m T) (ha : addr < 2 ^ 32) (S : SlAt g0 T_api_Route 7 Rt.enc v (allR m (T.map (·.1)))) (fb : g0 b = some (rcl ((findR m T addr).getD rz))) (l : Le h g0) :
    ∀ mm env g, TlInv g0 (findR m T addr).isSome v (allR m (T.map (·.1))) addr b mm env g → octroilaw09_RibTakes_L1 (roundK (TlInv g0 (findR m T addr).isSome v (allR m (T.map (·.1))) addr b) mm (inBlk 2 (thenK (sq (rg octroilaw09_RibTakes_r20) (ex .ret)) (fin Try.prog [ResultVar.tmp 6] (fun r g => r = .bool true ∧ Le h g))))) env g := by
  rintro mm env g ⟨rfl, i, e2, e10, e11, e12, e13, him, hi⟩
  have hlen := allR_length_eq R
  have hml := R.len
  obtain ⟨p, cap, hv⟩ := S.shape'
  unfold octroilaw09_RibTakes_L1
  by_cases hm : mm = 0
  · have : i = (allR m (T.map (·.1))).length := by omega
    subst this
    simp (disch := omega) [octroilaw09_RibTakes_r16, octroilaw09_RibTakes_r20, e2, e10, e11, e12, e13, hv]
    exact .to _ (.refl _) ⟨rfl, l⟩
  · obtain ⟨y, hy⟩ : ∃ y, (allR m (T.map (·.1)))[i]? = some y := ⟨_, List.getElem?_eq_getElem (by omega)⟩
    obtain ⟨bb, cap', c, hv', hb, q0, q1, q2, q3, q4, q5, q6⟩ := rt_at S hy
    have hya := (allR_mem R).1 (List.mem_of_getElem? hy)
    obtain ⟨_, hmy, hgy⟩ := R.key _ (getM_mem hya)
    have hmy : mayR y = true := hmy
    have hgy : y.Good := hgy
    have hmb := mayR_mayB hmy
    have hi' : i < (allR m (T.map (·.1))).length := by omega
    rw [hv'] at e12
    simp (disch := omega) [octroilaw09_RibTakes_r16, e2, e10, e11, e12, e13, hi']
    simp (disch := omega) [octroilaw09_RibTakes_r17, e2, e10, e11, e12, e13, hi', hb, q0, q1]
    refine has_spec hgy.a ha ?_
    rw [hmb, Bool.true_and]
    have hp : hasB (y.a, y.l.toNat) addr = hasB (rpf y) addr := rfl
    rw [hp]
    cases hF : findR m T addr with
    | none =>
      rw [hF] at e11
      simp only [Option.isSome_none] at e11
      have hn := find_none R hF hya
      simp (disch := omega) [hn, e11, octroilaw09_RibTakes_r19, e13, wrap_i64]
      exact ⟨mm - 1, by omega, rfl, i + 1, by simp [e2], by simp [e10], by simp [e11], by simp [e12, hv'], by simp, by omega, by omega⟩
    | some x =>
      rw [hF] at e11 fb
      simp only [Option.isSome_some] at e11
      simp only [Option.getD_some] at fb
      obtain ⟨B1, B2, B3⟩ := find_is R hF
      have hgx := (R.key _ (getM_mem B1.1)).2.2
      have hgx : x.Good := hgx
      by_cases hh : hasB (rpf y) addr = true
      · have hle : ¬ x.l < y.l := by have := B3 y hya hh; omega
        by_cases he : y.a = x.a ∧ y.l = x.l
        · obtain ⟨he1, he2⟩ := he
          have hb' : ¬ cmpR y x < 0 := fun q => B1.2.2.2 y hya he1 he2 (cmpR_lt.1 q)
          have he1' := eq_true he1
          have he2' := eq_true he2
          have he3' := eq_true (show ((y.a : Nat) : Int) = ((x.a : Nat) : Int) by omega)
          clear he1 he2
          simp (disch := omega) [hh, e10, e11, e12, e13, fb, hi', hb, q0, q1, q2, q3, q4, q5, q6, hle, he1', he2', he3']
          refine better_spec hgy hgx ?_
          simp (disch := omega) [hb', octroilaw09_RibTakes_r19, e13, wrap_i64]
          exact ⟨mm - 1, by omega, rfl, i + 1, by simp [e2], by simp [e10], by simp [e11], by simp [e12, hv'], by simp, by omega, by omega⟩
        · have hne : (decide (y.a = x.a) && decide (y.l = x.l)) = false := by simp; omega
          have hne2 : (decide (((y.a : Nat) : Int) = ((x.a : Nat) : Int)) && decide (y.l = x.l)) = false := by simp; omega
          simp (disch := omega) [hh, e10, e11, e12, e13, fb, hi', hb, q0, q1, q2, q3, q4, q5, q6, hle, hne, hne2]
          simp (disch := omega) [octroilaw09_RibTakes_r19, e13, wrap_i64]
          exact ⟨mm - 1, by omega, rfl, i + 1, by simp [e2], by simp [e10], by simp [e11], by simp [e12, hv'], by simp, by omega, by omega⟩
      · have hh' : hasB (rpf y) addr = false := by simpa using hh
        by_cases he : y.a = x.a ∧ y.l = x.l
        · exfalso
          apply hh
          rw [show rpf y = rpf x by unfold rpf; rw [he.1, he.2]]
          exact B2
        · have hne : (decide (y.a = x.a) && decide (y.l = x.l)) = false := by simp; omega
          have hne2 : (decide (((y.a : Nat) : Int) = ((x.a : Nat) : Int)) && decide (y.l = x.l)) = false := by simp; omega
          simp (disch := omega) [hh', e10, e11, e12, e13, fb, hi', hb, q0, q1, q2, q3, q4, q5, q6, hne, hne2]
          simp (disch := omega) [octroilaw09_RibTakes_r19, e13, wrap_i64]
          exact ⟨mm - 1, by omega, rfl, i + 1, by simp [e2], by simp [e10], by simp [e11], by simp [e12, hv'], by simp, by omega, by omega⟩
end Go.Proofs.Ytmbhlbohbpepaaa

/- RibFull: a full table refuses a route of a prefix and a domain that it has not: the walk. -/
namespace Go.Proofs.Ytmbhlbohbpepaaa
open Go
set_option linter.unusedSimpArgs false
set_option linter.unusedVariables false

def frt (i : Nat) : Rt := ⟨i * 16777216, 8, 15, 0, 0, 0, 0⟩
theorem frt_may {i : Nat} (h : i < 64) : mayR (frt i) = true := by
  have : ∀ i : Fin 64, mayR (frt i.1) = true := by decide +kernel
  exact this ⟨i, h⟩

/-- The keys are those of the first i. -/
def FullK (m : List (RK × Rt)) (i : Nat) : Prop := m.length = i ∧ ∀ k, getM m k ≠ none ↔ ∃ j, j < i ∧ k = (frt j).key

theorem fullK_put {m : List (RK × Rt)} {i : Nat} {most : Int} (F : FullK m i) (hi : i < 64) (hm : (i : Int) < most) : putS most 0 m (frt i) = (0, 0, setM (frt i).key (frt i) m) ∧ FullK (setM (frt i).key (frt i) m) (i + 1) := by
  obtain ⟨hl, hk⟩ := F
  have hn : getM m (frt i).key = none := by
    cases e : getM m (frt i).key with
    | none => rfl
    | some x =>
      obtain ⟨j, hj, e2⟩ := (hk (frt i).key).1 (by rw [e]; simp)
      simp only [frt, Rt.key, Prod.mk.injEq] at e2
      omega
  refine ⟨?_, ?_, fun k => ?_⟩
  · unfold putS; rw [if_neg (by rw [frt_may hi]; simp), if_neg (fun q => by omega)]
  · rw [setM_length, hn]; simp [hl]
  · rw [getM_setM]
    by_cases e : k = (frt i).key
    · rw [if_pos e]; simp only [ne_eq, reduceCtorEq, not_false_eq_true, true_iff]
      exact ⟨i, by omega, e⟩
    · rw [if_neg e, hk]
      constructor
      · rintro ⟨j, hj, e2⟩; exact ⟨j, by omega, e2⟩
      · rintro ⟨j, hj, e2⟩
        by_cases hji : j = i
        · subst hji; exact (e e2).elim
        · exact ⟨j, by omega, e2⟩

theorem fullK_swap {m : List (RK × Rt)} {i : Nat} {y : Rt} (F : FullK m i) (hy : getM m y.key ≠ none) : FullK (setM y.key y m) i := by
  obtain ⟨hl, hk⟩ := F
  refine ⟨?_, fun k => ?_⟩
  · rw [setM_length, if_pos (Option.isSome_iff_ne_none.2 hy)]; exact hl
  · rw [getM_setM]
    by_cases e : k = y.key
    · rw [if_pos e]; simp only [ne_eq, reduceCtorEq, not_false_eq_true, true_iff]
      rw [e]; exact (hk _).1 hy
    · rw [if_neg e]; exact hk k

/-- A put into a full table. -/
theorem full_put {m : List (RK × Rt)} {n : Nat} {most : Int} {x : Rt} (F : FullK m n) (hn : (n : Int) = most) :
    (mayR x = false ∧ putS most 0 m x = (1, 0, m)) ∨ (mayR x = true ∧ getM m x.key ≠ none ∧ putS most 0 m x = (0, 0, setM x.key x m)) ∨ (mayR x = true ∧ getM m x.key = none ∧ putS most 0 m x = (4, 1, m)) := by
  by_cases hm : mayR x = false
  · exact .inl ⟨hm, by unfold putS; rw [if_pos hm]⟩
  · have hm' : mayR x = true := by simpa using hm
    by_cases hk : getM m x.key = none
    · exact .inr (.inr ⟨hm', hk, by unfold putS; rw [if_neg hm, if_pos ⟨hk, by rw [F.1]; omega⟩]; rfl⟩)
    · exact .inr (.inl ⟨hm', hk, by unfold putS; rw [if_neg hm, if_neg (fun q => hk q.1)]⟩)

def knownB (x : Rt) (most : Int) : Prop := x.d = 15 ∧ x.l = 8 ∧ x.a % 16777216 = 0 ∧ ((x.a / 16777216 : Nat) : Int) < most

theorem known_iff {m : List (RK × Rt)} {n : Nat} {most : Int} {x : Rt} (F : FullK m n) (hn : (n : Int) = most) : getM m x.key ≠ none ↔ knownB x most := by
  rw [F.2]
  unfold knownB
  constructor
  · rintro ⟨j, hj, e⟩
    simp only [frt, Rt.key, Prod.mk.injEq] at e
    obtain ⟨⟨e1, e2⟩, e3⟩ := e
    refine ⟨e3, e2, by omega, by omega⟩
  · rintro ⟨h1, h2, h3, h4⟩
    refine ⟨x.a / 16777216, by omega, ?_⟩
    simp only [frt, Rt.key, Prod.mk.injEq]
    exact ⟨⟨by omega, h2⟩, h1⟩

def FuInv (B : Hp) (most : Int) (r b4 b5 : Nat) (mm : Nat) (env : Env) (g : Hp) : Prop :=
  ∃ (i : Nat) (m : List (RK × Rt)) (T : PL) (O : List Nat), env 0 = .int .i64 most ∧ env 4 = .pointer (some ⟨b4, 0, none⟩) ∧ env 5 = .pointer (some ⟨b5, 0, none⟩) ∧ env 8 = .pointer (some ⟨r, 0, none⟩) ∧ env 9 = .int .i64 (i : Nat) ∧ i + mm = most.toNat ∧
    ROwn B g r most 0 m T i O ∧ FullK m i

set_option maxRecDepth 20000 in
set_option maxHeartbeats 1000000 in
/-- What is told of the full table at last. -/
theorem full_end {h g : Hp} {r b4 : Nat} {most e f rf : Int} {m : List (RK × Rt)} {T : PL} {k : Nat} {O : List Nat} {x : Rt} (A : RibM g r most rf m T k O) (lh : Le h g) (hx : x.Good) (fx : g b4 = some (rcl x)) (hl : (m.length : Int) = most)
    (hkn : (knownB x most ∨ f = 1) → rf = 0) (hnk : ¬ (knownB x most ∨ f = 1) → (e = 0 ∨ e = 1) ∧ f = 4 ∧ rf = 1) (env : Env) (e0 : env 0 = .int .i64 most) (e4 : env 4 = .pointer (some ⟨b4, 0, none⟩)) (e8 : env 8 = .pointer (some ⟨r, 0, none⟩)) (e10 : env 10 = .int .i64 e) (e11 : env 11 = .int .i64 f) :
    octroilaw09_RibFull_r14 env g (thenK (sq (rg octroilaw09_RibFull_r15) (sq (sq (rg octroilaw09_RibFull_r16) (cnd (.tmp 89) (sq (rg octroilaw09_RibFull_r17) (ex .ret)) (ex .normal))) (sq (rg octroilaw09_RibFull_r18) (ex .ret)))) (fin Try.prog [ResultVar.tmp 6] (fun r g => r = .bool true ∧ Le h g)) .normal) := by
  have all : ∀ (K : Value → Hp → Prop), (∀ p cap h', Le g h' → K (.slice p m.length cap) h') → Ok Try.prog F_rib_Rib_All #[.pointer (some ⟨r, 0, none⟩)] g K := fun K hK =>
    rallM A (fun v h' l' S nv => by
      obtain ⟨p, cap, hv⟩ := S.shape'
      rw [allR_length_eq A.inv] at hv
      rw [hv]; exact hK p cap h' l')
  have go16 : ∀ (env : Env) (kn : Bool), env 0 = .int .i64 most → env 8 = .pointer (some ⟨r, 0, none⟩) → env 10 = .int .i64 e → env 11 = .int .i64 f → env 12 = .int .i64 rf → env 13 = .bool kn → (kn = true ↔ knownB x most) →
      octroilaw09_RibFull_r16 env g (thenK (cnd (.tmp 89) (sq (rg octroilaw09_RibFull_r17) (ex .ret)) (ex .normal)) (thenK (sq (rg octroilaw09_RibFull_r18) (ex .ret)) (fin Try.prog [ResultVar.tmp 6] (fun r g => r = .bool true ∧ Le h g))) .normal) := by
    intro env kn e0 e8 e10 e11 e12 e13 hkb
    cases kn with
    | true =>
      have hrf := hkn (.inl (hkb.1 rfl))
      simp (disch := omega) [octroilaw09_RibFull_r16, e13]
      simp (disch := omega) [octroilaw09_RibFull_r17, e0, e8, e12, hrf]
      refine all _ (fun p cap h' l' => ?_)
      simp (disch := omega) [hl]
      exact .to _ (.refl _) ⟨rfl, lh.trans l'⟩
    | false =>
      have hkf : ¬ knownB x most := fun q => by have := hkb.2 q; cases this
      by_cases hf : f = 1
      · have hrf := hkn (.inr hf)
        simp (disch := omega) [octroilaw09_RibFull_r16, e11, e13, hf]
        simp (disch := omega) [octroilaw09_RibFull_r17, e0, e8, e12, hrf]
        refine all _ (fun p cap h' l' => ?_)
        simp (disch := omega) [hl]
        exact .to _ (.refl _) ⟨rfl, lh.trans l'⟩
      · obtain ⟨he, hf4, hrf⟩ := hnk (fun q => q.elim hkf hf)
        simp (disch := omega) [octroilaw09_RibFull_r16, e11, e13, hf]
        rcases he with he | he
        · simp (disch := omega) [octroilaw09_RibFull_r18, e0, e8, e10, e11, e12, he, hf4, hrf]
          refine all _ (fun p cap h' l' => ?_)
          simp (disch := omega) [hl]
          exact .to _ (.refl _) ⟨rfl, lh.trans l'⟩
        · simp (disch := omega) [octroilaw09_RibFull_r18, e0, e8, e10, e11, e12, he, hf4, hrf]
          refine all _ (fun p cap h' l' => ?_)
          simp (disch := omega) [hl]
          exact .to _ (.refl _) ⟨rfl, lh.trans l'⟩
  have hxa := hx.a
  obtain ⟨q, hq⟩ : ∃ q, q = x.a / 16777216 := ⟨_, rfl⟩
  obtain ⟨u, hu⟩ : ∃ u, u = x.a % 16777216 := ⟨_, rfl⟩
  have tm : ((x.a : Nat) : Int).tmod 16777216 = (u : Int) := by rw [hu]; rfl
  have td : ((x.a : Nat) : Int).tdiv 16777216 = (q : Int) := by rw [hq]; rfl
  have w1 : IntKind.u32.wrap (q : Int) = (q : Int) := by rw [wrap_u32] <;> omega
  have w2 : IntKind.i64.wrap (q : Int) = (q : Int) := by rw [wrap_i64] <;> omega
  unfold knownB at go16
  rw [← hq, ← hu] at go16
  simp (disch := omega) [octroilaw09_RibFull_r14, e8]
  refine rrefM A ?_
  simp (disch := omega)
  by_cases k1 : x.d = 15
  · by_cases k2 : x.l = 8
    · by_cases k3 : u = 0
      · by_cases k4 : (q : Int) < most
        · simp (disch := omega) [octroilaw09_RibFull_r15, e0, e4, fx, k1, k2, tm, td, w1, w2, k3, k4]
          refine go16 _ true ?_ ?_ ?_ ?_ ?_ ?_ ?_ <;> first | (simp [k1, k2, k3, k4]; done) | simp [e0, e8, e10, e11]
        · simp (disch := omega) [octroilaw09_RibFull_r15, e0, e4, fx, k1, k2, tm, td, w1, w2, k3, k4]
          refine go16 _ false ?_ ?_ ?_ ?_ ?_ ?_ ?_ <;> first | (simp [k4]; done) | simp [e0, e8, e10, e11]
      · simp (disch := omega) [octroilaw09_RibFull_r15, e0, e4, fx, k1, k2, tm, td, w1, w2, k3]
        refine go16 _ false ?_ ?_ ?_ ?_ ?_ ?_ ?_ <;> first | (simp [k3]; done) | simp [e0, e8, e10, e11]
    · simp (disch := omega) [octroilaw09_RibFull_r15, e0, e4, fx, k1, k2]
      refine go16 _ false ?_ ?_ ?_ ?_ ?_ ?_ ?_ <;> first | (simp [k2]; done) | simp [e0, e8, e10, e11]
  · simp (disch := omega) [octroilaw09_RibFull_r15, e0, e4, fx, k1]
    refine go16 _ false ?_ ?_ ?_ ?_ ?_ ?_ ?_ <;> first | (simp [k1]; done) | simp [e0, e8, e10, e11]
end Go.Proofs.Ytmbhlbohbpepaaa

/- RibFull: the whole walk. -/
namespace Go.Proofs.Ytmbhlbohbpepaaa
open Go
set_option linter.unusedSimpArgs false
set_option linter.unusedVariables false

set_option maxRecDepth 20000 in
set_option maxHeartbeats 1000000 in
theorem full_loop {h B : Hp} {most : Int} {r b4 b5 : Nat} {x y : Rt} (hm1 : 1 ≤ most) (hm2 : most ≤ 64) (hx : x.Good) (hy : y.Good) (lB : Le h B) (n5 : h b5 = none) (n45 : b4 ≠ b5) (fx : B b4 = some (rcl x)) (fy : B b5 = some (rcl y)) :
    ∀ mm env g, FuInv B most r b4 b5 mm env g → octroilaw09_RibFull_L0 (roundK (FuInv B most r b4 b5) mm (inBlk 0 (thenK (sq (rg octroilaw09_RibFull_r10) (sq (rg octroilaw09_RibFull_r11) (sq (rg octroilaw09_RibFull_r12) (sq (rg octroilaw09_RibFull_r13) (sq (rg octroilaw09_RibFull_r14) (sq (rg octroilaw09_RibFull_r15)
      (sq (sq (rg octroilaw09_RibFull_r16) (cnd (.tmp 89) (sq (rg octroilaw09_RibFull_r17) (ex .ret)) (ex .normal))) (sq (rg octroilaw09_RibFull_r18) (ex .ret)))))))))
      (fin Try.prog [ResultVar.tmp 6] (fun r g => r = .bool true ∧ Le h g))))) env g := by
  rintro mm env g ⟨i, m, T, O, e0, e4, e5, e8, e9, him, A, F⟩
  unfold octroilaw09_RibFull_L0
  by_cases hm : mm = 0
  · have hi : (i : Int) = most := by omega
    have hnot : ¬ (i : Int) < most := by omega
    simp (disch := omega) [octroilaw09_RibFull_r6, e0, e9, hnot]
    have fy' := A.le _ _ fy
    simp (disch := omega) [octroilaw09_RibFull_r10, e5, fy']
    simp (disch := omega) [octroilaw09_RibFull_r11, e5]
    obtain ⟨y', hy'⟩ : ∃ y' : Rt, y' = { y with a := 0, l := 8, d := 15 } := ⟨_, rfl⟩
    have A1 : ROwn (B.upd b5 (rcl y')) (g.upd b5 (rcl y')) r most 0 m T i O := A.box fy
    have gy' : y'.Good := by rw [hy']; exact ⟨by simp, hy.tg⟩
    have lB' : Le h (B.upd b5 (rcl y')) := Le.put lB n5
    have fx' : (B.upd b5 (rcl y')) b4 = some (rcl x) := by rw [upd_ne n45]; exact fx
    have fy2 : (B.upd b5 (rcl y')) b5 = some (rcl y') := upd_same
    have yk : y'.key = (frt 0).key := by rw [hy']; rfl
    have eg : g.upd b5 (rcl y') = g.upd b5 (rcl { y with a := 0, l := 8, d := 15 }) := by rw [hy']
    have eq0 : (((0 : Nat) : Int)) = 0 := rfl
    change octroilaw09_RibFull_r12 _ (g.upd b5 (rcl { y with a := 0, l := 8, d := 15 })) _
    rw [← eg]
    clear eg hy' fy'
    generalize B.upd b5 (rcl y') = B' at *
    generalize g.upd b5 (rcl y') = g1 at *
    have fyg := A1.le _ _ fy2
    simp (disch := omega) [octroilaw09_RibFull_r12, e5, e8, fyg]
    refine rputM A1.m gy' (by omega) (fun g2 O2 T2 F2 M2 => ?_)
    have A2 := A1.fr F2 M2
    have ykn : getM m y'.key ≠ none := (F.2 _).2 ⟨0, by omega, yk⟩
    have hfx2 := A2.le _ _ fx'
    simp (disch := omega) [octroilaw09_RibFull_r13, e4, e8, hfx2]
    -- what Put(y) has told
    have st : ∃ (e : Int) (m2 : List (RK × Rt)), putS most 0 m y' = (e, 0, m2) ∧ (e = 0 ∨ e = 1) ∧ FullK m2 i := by
      rcases full_put (x := y') F hi with ⟨_, q⟩ | ⟨_, _, q⟩ | ⟨_, q, _⟩
      · exact ⟨1, m, q, .inr rfl, F⟩
      · exact ⟨0, _, q, .inl rfl, fullK_swap F ykn⟩
      · exact (ykn q).elim
    obtain ⟨e, m2, est, he, F2'⟩ := st
    rw [est] at A2 ⊢
    simp only [] at A2
    refine rputM A2.m hx (by omega) (fun g3 O3 T3 F3 M3 => ?_)
    have A3 := A2.fr F3 M3
    have hfx3 := A3.le _ _ fx'
    have lf := lB'.trans A3.le
    simp (disch := omega)
    rcases full_put (x := x) F2' hi with ⟨hmx, q⟩ | ⟨hmx, hkx, q⟩ | ⟨hmx, hkx, q⟩
    · rw [q] at A3 ⊢
      simp only [] at A3
      refine full_end (e := e) (f := 1) A3.m lf hx hfx3 (by rw [F2'.1]; exact hi) (fun _ => rfl) (fun z => (z (.inr rfl)).elim) _ ?_ ?_ ?_ ?_ ?_ <;> simp [e0, e4, e8]
    · rw [q] at A3 ⊢
      simp only [] at A3
      have kx := (known_iff F2' hi).1 hkx
      refine full_end (e := e) (f := 0) A3.m lf hx hfx3 (by rw [(fullK_swap F2' hkx).1]; exact hi) (fun _ => rfl) (fun z => (z (.inl kx)).elim) _ ?_ ?_ ?_ ?_ ?_ <;> simp [e0, e4, e8]
    · rw [q] at A3 ⊢
      simp only [] at A3
      have kx : ¬ knownB x most := fun z => (known_iff F2' hi).2 z hkx
      refine full_end (e := e) (f := 4) A3.m lf hx hfx3 (by rw [F2'.1]; exact hi) (fun z => by rcases z with z | z; exact (kx z).elim; omega) (fun _ => ⟨he, rfl, rfl⟩) _ ?_ ?_ ?_ ?_ ?_ <;> simp [e0, e4, e8]
  · have hlt : (i : Int) < most := by omega
    have hi64 : i < 64 := by omega
    obtain ⟨q1, q2⟩ := fullK_put F hi64 hlt
    have w1 : IntKind.u32.wrap (i : Int) = (i : Int) := by rw [wrap_u32] <;> omega
    have w2 : IntKind.u32.wrap ((i : Int) * 16777216) = ((i * 16777216 : Nat) : Int) := by rw [wrap_u32] <;> omega
    simp (disch := omega) [octroilaw09_RibFull_r6, octroilaw09_RibFull_r7, e0, e8, e9, hlt, w1, w2]
    refine rputM (x := frt i) A.m ⟨by simp only [frt]; omega, by simp [frt]⟩ (by omega) (fun g2 O2 T2 F2 M2 => ?_)
    have A2 := A.fr F2 M2
    rw [q1] at A2 ⊢
    simp only [] at A2
    simp (disch := omega) [octroilaw09_RibFull_r9, e9, wrap_i64]
    exact ⟨mm - 1, by omega, i + 1, _, T2, O2, by simp [e0], by simp [e4], by simp [e5], by simp [e8], by simp, by omega, A2, q2⟩

set_option maxRecDepth 20000 in
set_option maxHeartbeats 1000000 in
theorem RibFull_walk {h : Hp} {most : Int} {x y : Rt} (hx : x.Good) (hy : y.Good) : Ok Try.prog F_octroilaw09_RibFull #[.int .i64 most, rv x, rv y] h (fun r g => r = .bool true ∧ Le h g) := by
  refine octroilaw09_RibFull_ok (by simp) ?_
  unfold octroilaw09_RibFull_D
  simp (disch := omega) [octroilaw09_RibFull_r0]
  intro b4 hb4 b5 hb5
  obtain ⟨n54, hb5'⟩ := upd_none hb5
  have l : Le h ((h.upd b4 (rcl x)).upd b5 (rcl y)) := (Le.new hb4).trans (Le.new hb5)
  obtain ⟨f4, f5⟩ := rcl_two (h := h) (x := x) (y := y) n54
  simp (disch := omega) [octroilaw09_RibFull_r1]
  generalize (h.upd b4 (rcl x)).upd b5 (rcl y) = g at *
  refine awake_spec (fun g1 l1 => ?_)
  replace f4 := l1 _ _ f4
  replace f5 := l1 _ _ f5
  have L1 := l.trans l1
  clear l l1
  simp (disch := omega) [octroilaw09_RibFull_r2]
  refine rnewM (fun r g2 O l2 n2 M2 => ?_)
  have A : ROwn g1 g2 r (min most 64) 0 [] [] 0 O := ⟨M2, l2, n2⟩
  by_cases hm1 : most < 1
  · simp (disch := omega) [octroilaw09_RibFull_r3, octroilaw09_RibFull_r4, hm1]
    exact .to _ (.refl _) ⟨rfl, L1.trans A.le⟩
  by_cases hm2 : 64 < most
  · simp (disch := omega) [octroilaw09_RibFull_r3, octroilaw09_RibFull_r4, hm1, hm2]
    exact .to _ (.refl _) ⟨rfl, L1.trans A.le⟩
  rw [show min most 64 = most by omega] at A
  simp (disch := omega) [octroilaw09_RibFull_r3, octroilaw09_RibFull_r5, hm1, hm2]
  refine ⟨FuInv g1 most r b4 b5, ⟨most.toNat, 0, [], [], O, by simp, by simp, by simp, by simp, by simp, by omega, A, by simp, fun k => by simp [getM_nil]⟩, ?_⟩
  exact full_loop (by omega) (by omega) hx hy L1 hb5' (Ne.symm n54) f4 f5
end Go.Proofs.Ytmbhlbohbpepaaa

/- What the arguments of these laws read: their flat parts. -/
namespace Go.Proofs.Ytmbhlbohbpepaaa
open Go

def rtKs : List Lk := [.int .u32, .int .i64, .int .i64, .int .i64, .int .i64, .int .i64, .int .u16]

theorem dec_rt {H : Type} {enc : TypeId × Value → H} {w : World} {base : Nat} {spare : Nat → Bool} {held : Bool} (cs : List Value) (h : okLs enc Try.prog w base spare held rtKs cs) : ∃ x : Rt, cs = x.enc ∧ x.Good := by
  obtain ⟨a, _, rfl, w1, h⟩ := okLs_int h
  obtain ⟨l, _, rfl, w2, h⟩ := okLs_int h
  obtain ⟨d, _, rfl, w3, h⟩ := okLs_int h
  obtain ⟨ds, _, rfl, w4, h⟩ := okLs_int h
  obtain ⟨m, _, rfl, w5, h⟩ := okLs_int h
  obtain ⟨nx, _, rfl, w6, h⟩ := okLs_int h
  obtain ⟨tg, _, rfl, w7, h⟩ := okLs_int h
  obtain rfl := okLs_nil h
  obtain ⟨a', rfl, ha⟩ := u32_wf w1
  obtain ⟨t', rfl, ht⟩ := u16_wf w7
  exact ⟨⟨a', l, d, ds, m, nx, t'⟩, rfl, ⟨ha, ht⟩⟩
end Go.Proofs.Ytmbhlbohbpepaaa

/- RibFull: a full table refuses a route of a prefix and a domain that it has not, counts it, and stays; one that it has is replaced all the same: the row. No condition. -/
namespace Go.Proofs.Ytmbhlbohbpepaaa.RibFull_row
open Go Go.ChangeShapes Go.WideShapes Go.RowKit
theorem own_knob : ownKnob Try.prog.godebug = none := by kernel_rfl
theorem laid_out : laidOutB Try.prog = true := by kernel_rfl
set_option maxRecDepth 100000 in
theorem lifted (os : Os) (started : os.Started) (H : Type) (enc : TypeId × Value → H) :
    ReturnsInHanded {} Try.checked os 6 .any (Rows.ribFullSpec.pre6 enc Try.prog Try.f6 Rows.ribFullRow.domain false) (Rows.ribFullSpec.post enc Try.prog Try.f6 false true false false) := by
  refine returnsInHanded_of_change_sized (C := Try.checked) own_knob started (by kernel_rfl) Try.func6
    (ChangeSpec.witness6 (enc := enc) (C := Try.checked) false ⟨#[], #[.int .i64 0, .agg #[.int .u32 0, .int .i64 0, .int .i64 0, .int .i64 0, .int .i64 0, .int .i64 0, .int .u16 0], .agg #[.int .u32 0, .int .i64 0, .int .i64 0, .int .i64 0, .int .i64 0, .int .i64 0, .int .u16 0]], []⟩ 8 (by kernel_rfl) (by kernel_rfl) (by kernel_rfl) (by kernel_rfl)) ?_
  intro W base args ds gs before hval hW hcnd hsz _
  have hW' := hW
  obtain ⟨p, q, hA, hV, rfl, hfz, hnd⟩ := hW
  obtain ⟨rfl, rfl⟩ := trodVars_none hV
  have hA' : DataW.TrodAll enc Try.prog W 0 (fun _ => true) true Try.f6.params.toList args.toList ds p := hA
  have hval' : ∀ (j : Nat) t v, Try.f6.params[j]? = some t → args[j]? = some v → Value.okWide Try.prog W .any base t v := hval
  rw [Try.params6] at hA' hval'
  obtain ⟨v0, vs0, d0, ds0, p0, q0, hargs, rfl, rfl, h0, r0⟩ := trodAll_cons hA'
  obtain ⟨v1, vs1, d1, ds1, p1, q1, rfl, rfl, rfl, h1, r1⟩ := trodAll_cons r0
  obtain ⟨v2, vs2, d2, ds2, p2, q2, rfl, rfl, rfl, h2, r2⟩ := trodAll_cons r1
  obtain ⟨rfl, rfl, rfl⟩ := trodAll_nil r2
  obtain rfl : args = #[v0, v1, v2] := by cases args; simp_all
  obtain ⟨n0, rfl, rfl, rfl, w0⟩ := open_int Try.underlying3 (hval' 0 _ v0 rfl rfl) h0
  obtain ⟨⟨cs1⟩, rfl, k1⟩ := open_flat (ks := rtKs) 4 Try.underlying27 (by kernel_rfl) (hval' 1 _ v1 rfl rfl) h1
  obtain ⟨x1, e1, hx1⟩ := dec_rt _ k1
  simp only at e1
  subst e1
  obtain ⟨⟨cs2⟩, rfl, k2⟩ := open_flat (ks := rtKs) 4 Try.underlying27 (by kernel_rfl) (hval' 2 _ v2 rfl rfl) h2
  obtain ⟨x2, e2, hx2⟩ := dec_rt _ k2
  simp only at e2
  subst e2
  refine (below_of (RibFull_walk hx1 hx2)).mono fun e W' ⟨he, bel⟩ => ?_
  subst he
  exact ⟨_, rfl, _, _, _, [], _, [], hW', trodAll_mk1 (shut_bool (by kernel_rfl) _), trodAll_below laid_out bel (by kernel_rfl) hA, rfl, bel.frame _, fun h => by cases h⟩
theorem over : Rows.ribFullRow.holds Try.pinned (OpenSpec.ofChange Rows.ribFullSpec) :=
  OpenClaim.holds_of_wide 6 Try.f6 rfl rfl rfl rfl rfl rfl rfl ⟨rfl, rfl, rfl, rfl, rfl⟩ rfl rfl rfl rfl rfl (by kernel_rfl) Try.func6 (by kernel_rfl)
    (of_decide_eq_true (by kernel_rfl)) (by unfold Func.isWrapper; first | (rw [if_pos (by decide +kernel)]; kernel_rfl) | (rw [if_neg (by decide +kernel)]; exact ⟨rfl, rfl⟩))
    (fun os started H enc _ => lifted os started H enc)
end Go.Proofs.Ytmbhlbohbpepaaa.RibFull_row
namespace Go.Proofs.Ytmbhlbohbpepaaa
theorem ribFull_holds : Rows.RibFullSaid := RibFull_row.over
#print axioms ribFull_holds
end Go.Proofs.Ytmbhlbohbpepaaa
