/- A law's row, out of what its call does to a heap that has all of the world's blocks; and what the arguments read. -/
import Derived.ProofKit
import Derived.OpenShut
import Derived.ChangeOld
import Derived.Carry
import Derived.SizedLaws
import Derived.WideShapes
import Derived.Deep.Slices
import Derived.Test.YtmbhlbohbpepaaaRows
import Derived.Test.YtmbhlbohbpepaaaZ5

namespace Go.Proofs.Ytmbhlbohbpepaaa
open Go Go.ChangeShapes Go.WideShapes Go.RowKit Go.Deep

/-- All of a world's blocks. -/
def hpW (W : World) : Hp := fun b => W.heap[b]?

theorem below_of {P : Program} {f : FuncId} {args : Array Value} {W : World} {v0 : Value} (h : Ok P f args (hpW W) fun v h' => v = v0 ∧ Le (hpW W) h') :
    Calls P f args W fun e W' => e = .returned v0 ∧ Below W.heap.size W W' := by
  refine (h.2 W (fun _ _ e => e)).mono fun e W' ⟨v, h', e1, V, K, e2, L⟩ => ?_
  subst e2
  refine ⟨e1, K.os, K.tape, K.output, K.size, fun k hk => ?_⟩
  have hb : hpW W k = some W.heap[k] := Array.getElem?_eq_getElem hk
  rw [V _ _ (L _ _ hb)]
  exact hb.symm

section
variable {H : Type} {enc : TypeId × Value → H} {P : Program}

theorem trodAll_below (hl : laidOutB P = true) {W W' : World} (hb : Below W.heap.size W W') : ∀ {ts : List TypeId} {vs : List Value} {ds : List (DataW H)} {ps : List MemPlace},
    ts.all (fun t => P.readableRec t && decide (t < P.types.size)) = true → DataW.TrodAll enc P W 0 (fun _ => true) true ts vs ds ps → DataW.TrodAll enc P W' 0 (fun b => decide (b < W.heap.size)) true ts vs ds ps
  | [], vs, ds, ps, _, h => by
    obtain ⟨rfl, rfl, rfl⟩ := trodAll_nil h
    exact trodAll_mk0
  | t :: ts, vs, ds, ps, hr, h => by
    obtain ⟨v, vs', d, ds', p, q, rfl, rfl, rfl, h1, h2⟩ := trodAll_cons h
    simp only [List.all_cons, Bool.and_eq_true, decide_eq_true_eq] at hr
    refine trodAll_cons_mk (Below.trod hl hr.1.1 hr.1.2 h1 hb (fun x hx => ?_)) (trodAll_below hl hb (by simpa using hr.2) h2)
    obtain ⟨m, hm⟩ := h1
    exact DataW.trod_lt m _ _ _ hm x hx

/-! ### What flat cells read -/
inductive Lk where
  | int (k : IntKind)
  | bool
  | str
  | other (t : TypeId)

def flatFs (P : Program) (rec : TypeId → Option (List Lk)) (total : Nat) : List Field → Nat → Option (List Lk)
  | [], off => if off = total then some [] else none
  | f :: fs, off => if f.offset = off then
      match rec f.type, flatFs P rec total fs (off + P.cellsOf f.type) with
      | some a, some b => some (a ++ b)
      | _, _ => none
    else none

def flatK (P : Program) : Nat → TypeId → Option (List Lk)
  | 0, _ => none
  | n + 1, t => match P.underlying t with
    | some .bool => some [.bool]
    | some (.int k) => some [.int k]
    | some .string => some [.str]
    | some (.struct fs) => flatFs P (flatK P n) (P.cellsOf t) fs.toList 0
    | some (.slice _) => some [.other t]
    | some (.map _ _) => some [.other t]
    | some (.pointer _) => some [.other t]
    | _ => none

variable {w : World} {base : Nat} {spare : Nat → Bool} {held : Bool}

def okL (enc : TypeId × Value → H) (P : Program) (w : World) (base : Nat) (spare : Nat → Bool) (held : Bool) : Lk → Value → Prop
  | .int k, v => ∃ n, v = .int k n ∧ (Lit.int k n).wf = true
  | .bool, v => ∃ b, v = .bool b
  | .str, v => ∃ s, v = .string s ∧ s.size ≤ maxLen
  | .other t, v => ∃ fuel x, DataW.trod enc P w base spare held fuel t [v] = some x

def okLs (enc : TypeId × Value → H) (P : Program) (w : World) (base : Nat) (spare : Nat → Bool) (held : Bool) : List Lk → List Value → Prop
  | [], [] => True
  | k :: ks, v :: vs => okL enc P w base spare held k v ∧ okLs enc P w base spare held ks vs
  | _, _ => False

theorem okLs_nil {cs : List Value} (h : okLs enc P w base spare held [] cs) : cs = [] := by
  cases cs with
  | nil => rfl
  | cons _ _ => exact h.elim

theorem okLs_cons {k : Lk} {ks : List Lk} {cs : List Value} (h : okLs enc P w base spare held (k :: ks) cs) : ∃ v vs, cs = v :: vs ∧ okL enc P w base spare held k v ∧ okLs enc P w base spare held ks vs := by
  cases cs with
  | nil => exact h.elim
  | cons v vs => exact ⟨v, vs, rfl, h.1, h.2⟩

theorem okLs_int {k : IntKind} {ks : List Lk} {cs : List Value} (h : okLs enc P w base spare held (.int k :: ks) cs) : ∃ n vs, cs = .int k n :: vs ∧ (Lit.int k n).wf = true ∧ okLs enc P w base spare held ks vs := by
  obtain ⟨v, vs, rfl, ⟨n, rfl, hw⟩, h2⟩ := okLs_cons h
  exact ⟨n, vs, rfl, hw, h2⟩

theorem okLs_bool {ks : List Lk} {cs : List Value} (h : okLs enc P w base spare held (.bool :: ks) cs) : ∃ b vs, cs = .bool b :: vs ∧ okLs enc P w base spare held ks vs := by
  obtain ⟨v, vs, rfl, ⟨n, rfl⟩, h2⟩ := okLs_cons h
  exact ⟨n, vs, rfl, h2⟩

theorem okLs_str {ks : List Lk} {cs : List Value} (h : okLs enc P w base spare held (.str :: ks) cs) : ∃ s vs, cs = .string s :: vs ∧ s.size ≤ maxLen ∧ okLs enc P w base spare held ks vs := by
  obtain ⟨v, vs, rfl, ⟨n, rfl, hw⟩, h2⟩ := okLs_cons h
  exact ⟨n, vs, rfl, hw, h2⟩

theorem okLs_append : ∀ {a b : List Lk} {x y : List Value}, okLs enc P w base spare held a x → okLs enc P w base spare held b y → okLs enc P w base spare held (a ++ b) (x ++ y)
  | [], _, [], _, _, h => h
  | [], _, _ :: _, _, h, _ => h.elim
  | _ :: _, _, [], _, h, _ => h.elim
  | _ :: _, _, _ :: _, _, h, h' => ⟨h.1, okLs_append h.2 h'⟩

theorem flatFs_open (rec : TypeId → Option (List Lk)) (total : Nat) (cs : List Value) (hcs : cs.length = total) : ∀ (fs : List Field) (off : Nat) (ks : List Lk), flatFs P rec total fs off = some ks →
    (∀ f ∈ fs, ∀ k, rec f.type = some k → okLs enc P w base spare held k ((cs.drop f.offset).take (P.cellsOf f.type))) → okLs enc P w base spare held ks (cs.drop off)
  | [], off, ks, h, _ => by
    simp only [flatFs] at h
    split at h
    · rename_i e; cases h; rw [List.drop_of_length_le (by omega)]; trivial
    · cases h
  | f :: fs, off, ks, h, hf => by
    simp only [flatFs] at h
    split at h
    · rename_i e
      cases h1 : rec f.type with
      | none => simp [h1] at h
      | some a =>
        cases h2 : flatFs P rec total fs (off + P.cellsOf f.type) with
        | none => simp [h1, h2] at h
        | some b =>
          simp [h1, h2] at h
          subst h
          have ih := flatFs_open rec total cs hcs fs _ b h2 (fun g hg => hf g (by simp [hg]))
          have h3 := hf f (by simp) a h1
          rw [e] at h3
          have := okLs_append h3 ih
          rw [← List.drop_drop, List.take_append_drop] at this
          exact this
    · cases h

theorem flat_open : ∀ (n : Nat) (t : TypeId) (ks : List Lk) (fuel : Nat) (cs : List Value) (x : DataW H × List MemPlace), flatK P n t = some ks → DataW.trod enc P w base spare held fuel t cs = some x → okLs enc P w base spare held ks cs := by
  intro n
  induction n with
  | zero => intro t ks fuel cs x h; simp [flatK] at h
  | succ n ih =>
    intro t ks fuel cs x h ht
    have other1 : (∃ e, P.underlying t = some (.slice e)) ∨ (∃ a e, P.underlying t = some (.map a e)) ∨ (∃ e, P.underlying t = some (.pointer e)) → ∃ v, cs = [v] := by
      intro hc
      cases fuel with
      | zero => simp [DataW.trod] at ht
      | succ m =>
        unfold DataW.trod at ht
        rcases hc with ⟨e, hu⟩ | ⟨a, e, hu⟩ | ⟨e, hu⟩ <;> rw [hu] at ht <;> split at ht <;> simp_all
    cases hu : P.underlying t with
    | none => simp [flatK, hu] at h
    | some u =>
      cases u with
      | bool =>
        simp [flatK, hu] at h; subst h
        cases fuel with
        | zero => simp [DataW.trod] at ht
        | succ m =>
          unfold DataW.trod at ht
          rw [hu] at ht
          split at ht <;> simp_all
          exact ⟨⟨_, rfl⟩, trivial⟩
      | int k =>
        simp [flatK, hu] at h; subst h
        obtain ⟨n', rfl, _, hw⟩ := DataW.trod_int hu ht
        exact ⟨⟨n', rfl, hw⟩, trivial⟩
      | string =>
        simp [flatK, hu] at h; subst h
        obtain ⟨s, rfl, _, hw⟩ := DataW.trod_string hu ht
        exact ⟨⟨s, rfl, hw⟩, trivial⟩
      | struct fs =>
        simp only [flatK, hu] at h
        obtain ⟨xs, m, _, _, hlen, hxl, hf⟩ := DataW.trod_struct hu ht
        have := flatFs_open (flatK P n) (P.cellsOf t) cs hlen fs.toList 0 ks h (fun f hf' k hk => by
          obtain ⟨i, hi, he⟩ := List.getElem_of_mem hf'
          have hi' : fs[i]? = some f := by rw [← he]; simp at hi ⊢
          have h1 := hf i f hi'
          have hil : i < xs.length := by rw [hxl]; simpa using hi
          rw [List.getElem?_eq_getElem hil] at h1
          exact ih f.type k m _ _ hk h1)
        simpa using this
      | slice e =>
        simp [flatK, hu] at h; subst h
        obtain ⟨v, rfl⟩ := other1 (.inl ⟨e, hu⟩)
        exact ⟨⟨fuel, x, ht⟩, trivial⟩
      | map a e =>
        simp [flatK, hu] at h; subst h
        obtain ⟨v, rfl⟩ := other1 (.inr (.inl ⟨a, e, hu⟩))
        exact ⟨⟨fuel, x, ht⟩, trivial⟩
      | pointer e =>
        simp [flatK, hu] at h; subst h
        obtain ⟨v, rfl⟩ := other1 (.inr (.inr ⟨e, hu⟩))
        exact ⟨⟨fuel, x, ht⟩, trivial⟩
      | _ => simp [flatK, hu] at h

/-- A struct that came in by value. -/
theorem open_flat {t : TypeId} {fs : Array Field} {ks : List Lk} {W : World} {v : Value} {d : DataW H} {ps : List MemPlace} {b0 : Nat} (n : Nat) (ht : P.underlying t = some (.struct fs)) (hk : flatK P n t = some ks)
    (hv : Value.okWide P W .any b0 t v) (hd : DataW.Trod enc P W base spare held t v d ps) : ∃ cs, v = .agg cs ∧ okLs enc P W base spare held ks cs.toList := by
  obtain ⟨cs, rfl, _⟩ := okWide_struct ht hv
  obtain ⟨fuel, hf⟩ := hd
  exact ⟨cs, rfl, flat_open n t ks _ _ _ hk hf⟩

/-! ### A slice that came in -/
def ArgSl {α : Type} (h : Hp) (sz : Nat) (enc : α → List Value) (good : α → Prop) (v : Value) (xs : List α) : Prop :=
  (∀ x ∈ xs, good x) ∧ ((∃ p cap, v = .slice p 0 cap ∧ xs = []) ∨ ∃ b o cap c E fr, v = .slice (some ⟨b, o, none⟩) xs.length cap ∧ xs.length ≤ cap ∧ cap ≤ maxLen ∧ h b = some (.cells c E fr) ∧ Enc c o sz enc xs)

theorem ArgSl.le {α : Type} {h h' : Hp} {sz : Nat} {enc : α → List Value} {good : α → Prop} {v : Value} {xs : List α} (A : ArgSl h sz enc good v xs) (L : Le h h') : ArgSl h' sz enc good v xs := by
  obtain ⟨g, A⟩ := A
  rcases A with ⟨p, cap, e⟩ | ⟨b, o, cap, c, E, fr, e1, e2, e2', e3, e4⟩
  · exact ⟨g, .inl ⟨p, cap, e⟩⟩
  · exact ⟨g, .inr ⟨b, o, cap, c, E, fr, e1, e2, e2', L _ _ e3, e4⟩⟩

theorem ArgSl.shape {α : Type} {h : Hp} {sz : Nat} {enc : α → List Value} {good : α → Prop} {v : Value} {xs : List α} (A : ArgSl h sz enc good v xs) : ∃ p cap, v = .slice p xs.length cap := by
  rcases A.2 with ⟨p, cap, rfl, rfl⟩ | ⟨b, o, cap, c, E, fr, rfl, _⟩
  · exact ⟨p, cap, rfl⟩
  · exact ⟨_, cap, rfl⟩

theorem ArgSl.len {α : Type} {h : Hp} {sz : Nat} {enc : α → List Value} {good : α → Prop} {v : Value} {xs : List α} (A : ArgSl h sz enc good v xs) : xs.length ≤ maxLen := by
  rcases A.2 with ⟨p, cap, rfl, rfl⟩ | ⟨b, o, cap, c, E, fr, rfl, h1, h2, _⟩
  · simp
  · omega

theorem choose_list {α : Type} (p : Nat → α → Prop) : ∀ n, (∀ i, i < n → ∃ x, p i x) → ∃ xs : List α, xs.length = n ∧ ∀ i x, xs[i]? = some x → p i x
  | 0, _ => ⟨[], rfl, by simp⟩
  | n + 1, h => by
    obtain ⟨xs, hl, hx⟩ := choose_list p n (fun i hi => h i (by omega))
    obtain ⟨x, hx'⟩ := h n (by omega)
    refine ⟨xs ++ [x], by simp [hl], fun i y hy => ?_⟩
    rcases Nat.lt_trichotomy i n with e | e | e
    · rw [List.getElem?_append_left (by omega)] at hy; exact hx i y hy
    · subst e; rw [List.getElem?_append_right (by omega), hl] at hy; simp at hy; subst hy; exact hx'
    · rw [List.getElem?_eq_none (by simp [hl]; omega)] at hy; cases hy

theorem open_argSl {α : Type} {t e : TypeId} {ks : List Lk} {ec : α → List Value} {good : α → Prop} {W : World} {v : Value} {d : DataW H} {ps : List MemPlace} {b0 sz : Nat} (n : Nat)
    (ht : P.underlying t = some (.slice e)) (hk : flatK P n e = some ks) (hC : P.cellsOf e = sz) (h0 : 0 < sz)
    (hdec : ∀ cs, okLs enc P W 0 spare held ks cs → ∃ x, cs = ec x ∧ good x)
    (hv : Value.okWide P W .any b0 t v) (hd : DataW.Trod enc P W 0 spare held t v d ps) : ∃ xs, ArgSl (hpW W) sz ec good v xs := by
  obtain ⟨a, len, cap, rfl⟩ := okWide_slice ht hv
  obtain ⟨fuel, hf⟩ := hd
  rcases open_slice ht hf with ⟨h0, _⟩ | ⟨a', len', cap', m, n', D, Pl, hcs, _, hl, hm, hmm, _, hx⟩
  · simp [Value.cells] at h0
    obtain ⟨rfl, rfl, rfl⟩ := h0
    exact ⟨[], by simp, .inl ⟨_, _, rfl, rfl⟩⟩
  · simp [Value.cells] at hcs
    obtain ⟨rfl, rfl, rfl⟩ := hcs
    have hlm : len ≤ m := by rw [hmm]; split <;> omega
    rw [hC] at hx
    obtain ⟨xs, hxl, hxx⟩ := choose_list (fun i x => good x ∧ (ec x).length = sz ∧ (∀ j, j < sz → W.cell? (a'.add (i * sz + j)) = (ec x)[j]?)) len (fun i hi => by
      obtain ⟨cs', hc, ht'⟩ := hx i (by omega)
      obtain ⟨_, hcl, hat⟩ := World.cells?_some hc
      obtain ⟨x, rfl, hg⟩ := hdec cs' (flat_open n e ks _ _ _ hk ht')
      refine ⟨x, hg, hcl, fun j hj => ?_⟩
      rw [← Go.Deep.add_add, hat j hj])
    refine ⟨xs, fun x hx => ?_, ?_⟩
    · obtain ⟨i, hi, he⟩ := List.getElem_of_mem hx
      exact (hxx i x (by rw [List.getElem?_eq_getElem hi, he])).1
    · by_cases hl0 : len = 0
      · subst hl0
        have : xs = [] := by simpa using hxl
        exact .inl ⟨_, _, rfl, this⟩
      · right
        obtain ⟨b, o, s⟩ := a'
        have hx0 := hxx 0 xs[0] (List.getElem?_eq_getElem (by omega))
        have h1 := hx0.2.2 0 h0
        rw [List.getElem?_eq_getElem (by omega)] at h1
        simp only [Nat.zero_mul, Nat.add_zero, Addr.add, if_true, World.cell?] at h1
        split at h1
        · rename_i c E fr hb
          split at h1
          · cases h1
          · rename_i hs
            have hs' : s = none := by simpa using hs
            subst hs'
            refine ⟨b, o, cap, c, E, fr, by rw [hxl], by omega, hm, hb, fun i x hx j hj => ?_⟩
            have h2 := (hxx i x hx).2.2 j hj
            have e : ((⟨b, o, none⟩ : Addr).add (i * sz + j)) = ⟨b, o + (i * sz + j), none⟩ := by unfold Addr.add; split <;> simp_all
            rw [e] at h2
            simp only [World.cell?, hb] at h2
            rw [Nat.add_assoc]
            simpa using h2
        · cases h1
end
end Go.Proofs.Ytmbhlbohbpepaaa

/- The row bridge: numbers of arguments, parts of argument slices. -/
namespace Go.Proofs.Ytmbhlbohbpepaaa
open Go

theorem i64_wf {n : Int} (h : (Lit.int .i64 n).wf = true) : -9223372036854775808 ≤ n ∧ n < 9223372036854775808 := by
  have e1 : IntKind.i64.min = -9223372036854775808 := by decide
  have e2 : IntKind.i64.max = 9223372036854775807 := by decide
  simp [Lit.wf, e1, e2] at h
  omega

theorem u32_wf {n : Int} (h : (Lit.int .u32 n).wf = true) : ∃ m : Nat, n = m ∧ m < 2 ^ 32 := by
  have e1 : IntKind.u32.min = 0 := by decide
  have e2 : IntKind.u32.max = 4294967295 := by decide
  simp [Lit.wf, e1, e2] at h
  exact ⟨n.toNat, by omega, by omega⟩

theorem u16_wf {n : Int} (h : (Lit.int .u16 n).wf = true) : ∃ m : Nat, n = m ∧ m < 2 ^ 16 := by
  have e1 : IntKind.u16.min = 0 := by decide
  have e2 : IntKind.u16.max = 65535 := by decide
  simp [Lit.wf, e1, e2] at h
  exact ⟨n.toNat, by omega, by omega⟩

theorem u8_wf {n : Int} (h : (Lit.int .u8 n).wf = true) : ∃ m : Nat, n = m ∧ m < 2 ^ 8 := by
  have e1 : IntKind.u8.min = 0 := by decide
  have e2 : IntKind.u8.max = 255 := by decide
  simp [Lit.wf, e1, e2] at h
  exact ⟨n.toNat, by omega, by omega⟩

theorem ArgSl.at {α : Type} {h : Hp} {sz : Nat} {enc : α → List Value} {good : α → Prop} {v : Value} {xs : List α} {i : Nat} {x : α} (A : ArgSl h sz enc good v xs) (hx : xs[i]? = some x) :
    good x ∧ ∃ b o cap c E fr, v = .slice (some ⟨b, o, none⟩) xs.length cap ∧ h b = some (.cells c E fr) ∧ ∀ j, j < sz → c[o + i * sz + j]? = (enc x)[j]? := by
  refine ⟨A.1 x (List.mem_of_getElem? hx), ?_⟩
  rcases A.2 with ⟨p, cap, rfl, rfl⟩ | ⟨b, o, cap, c, E, fr, rfl, h1, h2, hb, he⟩
  · simp at hx
  · exact ⟨b, o, cap, c, E, fr, rfl, hb, he i x hx⟩

end Go.Proofs.Ytmbhlbohbpepaaa

/- Many calls of a table; RibTakes: the walk. -/
namespace Go.Proofs.Ytmbhlbohbpepaaa
open Go
set_option linter.unusedSimpArgs false
set_option linter.unusedVariables false

structure OpX where
  k : Int
  x : Rt
def OpX.enc (o : OpX) : List Value := .int .i64 o.k :: o.x.enc
def argOps9 (h : Hp) (v : Value) (xs : List OpX) : Prop := ArgSl h 8 OpX.enc (fun o => o.x.Good) v xs

theorem argOps9.get {h : Hp} {v : Value} {xs : List OpX} {i : Nat} {o : OpX} (A : argOps9 h v xs) (hx : xs[i]? = some o) :
    o.x.Good ∧ ∃ b f cap c E fr, v = .slice (some ⟨b, f, none⟩) xs.length cap ∧ h b = some (.cells c E fr) ∧ c[f + i * 8]? = some (.int .i64 o.k) ∧ c[f + i * 8 + 1]? = some (.int .u32 (o.x.a : Nat)) ∧ c[f + i * 8 + 2]? = some (.int .i64 o.x.l) ∧ c[f + i * 8 + 3]? = some (.int .i64 o.x.d) ∧
      c[f + i * 8 + 4]? = some (.int .i64 o.x.ds) ∧ c[f + i * 8 + 5]? = some (.int .i64 o.x.m) ∧ c[f + i * 8 + 6]? = some (.int .i64 o.x.nx) ∧ c[f + i * 8 + 7]? = some (.int .u16 (o.x.tg : Nat)) := by
  obtain ⟨hg, b, f, cap, c, E, fr, e, hb, he⟩ := ArgSl.at A hx
  exact ⟨hg, b, f, cap, c, E, fr, e, hb, he 0 (by omega), he 1 (by omega), he 2 (by omega), he 3 (by omega), he 4 (by omega), he 5 (by omega), he 6 (by omega), he 7 (by omega)⟩

/-- No more than there may be. -/
def Fit9 (most : Int) (m : List (RK × Rt)) : Prop := m = [] ∨ (m.length : Int) ≤ most

theorem fit_put {most rf : Int} {m : List (RK × Rt)} {x : Rt} (F : Fit9 most m) : Fit9 most (putS most rf m x).2.2 := by
  unfold putS
  split
  · exact F
  · split
    · exact F
    · rename_i h
      right
      simp only
      rw [setM_length]
      cases hg : getM m x.key with
      | none =>
        have : ¬ most ≤ (m.length : Int) := fun q => h ⟨hg, q⟩
        simp; omega
      | some y =>
        rcases F with rfl | F
        · simp [getM_nil] at hg
        · simpa using F

theorem fit_del {most : Int} {m : List (RK × Rt)} {k : RK} (F : Fit9 most m) : Fit9 most (delM k m) := by
  rcases F with rfl | F
  · exact .inl rfl
  · right
    have := (delM_sub (a := k) (m := m)).length_le
    omega

def TkInv (h0 : Hp) (most : Int) (v : Value) (xs : List OpX) (addr : Nat) (mm : Nat) (env : Env) (g : Hp) : Prop :=
  ∃ (i r : Nat) (rf : Int) (m : List (RK × Rt)) (T : PL) (k : Nat) (O : List Nat), env 0 = .int .i64 most ∧ env 1 = v ∧ env 2 = .int .u32 (addr : Nat) ∧ env 8 = .pointer (some ⟨r, 0, none⟩) ∧ env 9 = .int .i64 (i : Nat) ∧ i + mm = xs.length ∧ i ≤ xs.length ∧ k ≤ i ∧
    ROwn h0 g r (min most 64) rf m T k O ∧ Fit9 (min most 64) m

def TlInv (g0 : Hp) (is : Bool) (v : Value) (L : List Rt) (addr b : Nat) (mm : Nat) (env : Env) (g : Hp) : Prop :=
  g = g0 ∧ ∃ i : Nat, env 2 = .int .u32 (addr : Nat) ∧ env 10 = .pointer (some ⟨b, 0, none⟩) ∧ env 11 = .bool is ∧ env 12 = v ∧ env 13 = .int .i64 (i : Nat) ∧ i + mm = L.length ∧ i ≤ L.length

set_option maxRecDepth 20000 in
set_option maxHeartbeats 4000000 in
theorem takes_loop2 {h g0 : Hp} {m : List (RK × Rt)} {T : PL} {v : Value} {addr b : Nat} (R : RInv m T) (ha : addr < 2 ^ 32) (S : SlAt g0 T_api_Route 7 Rt.enc v (allR m (T.map (·.1)))) (fb : g0 b = some (rcl ((findR m T addr).getD rz))) (l : Le h g0) :
    ∀ mm env g, TlInv g0 (findR m T addr).isSome v (allR m (T.map (·.1))) addr b mm env g → octroilaw09_RibTakes_L1 (roundK (TlInv g0 (findR m T addr).isSome v (allR m (T.map (·.1))) addr b) mm (inBlk 2 (thenK (sq (rg octroilaw09_RibTakes_r20) (ex .ret)) (fin Try.prog [ResultVar.tmp 6] (fun r g => r = .bool true ∧ Le h g))))) env g := by
  rintro mm env g ⟨rfl, i, e2, e10, e11, e12, e13, him, hi⟩
  have hlen := allR_length_eq R
  have hml := R.len
  obtain ⟨p, cap, hv⟩ := S.shape'
  unfold octroilaw09_RibTakes_L1
  by_cases hm : mm = 0
  · have : i = (allR m (T.map (·.1))).length := by omega
    subst this
    simp (disch := omega) [octroilaw09_RibTakes_r16, octroilaw09_RibTakes_r20, e2, e10, e11, e12, e13, hv]
    exact .to _ (.refl _) ⟨rfl, l⟩
  · obtain ⟨y, hy⟩ : ∃ y, (allR m (T.map (·.1)))[i]? = some y := ⟨_, List.getElem?_eq_getElem (by omega)⟩
    obtain ⟨bb, cap', c, hv', hb, q0, q1, q2, q3, q4, q5, q6⟩ := rt_at S hy
    have hya := (allR_mem R).1 (List.mem_of_getElem? hy)
    obtain ⟨_, hmy, hgy⟩ := R.key _ (getM_mem hya)
    have hmy : mayR y = true := hmy
    have hgy : y.Good := hgy
    have hmb := mayR_mayB hmy
    have hi' : i < (allR m (T.map (·.1))).length := by omega
    rw [hv'] at e12
    simp (disch := omega) [octroilaw09_RibTakes_r16, e2, e10, e11, e12, e13, hi']
    simp (disch := omega) [octroilaw09_RibTakes_r17, e2, e10, e11, e12, e13, hi', hb, q0, q1]
    refine has_spec hgy.a ha ?_
    rw [hmb, Bool.true_and]
    have hp : hasB (y.a, y.l.toNat) addr = hasB (rpf y) addr := rfl
    rw [hp]
    cases hF : findR m T addr with
    | none =>
      rw [hF] at e11
      simp only [Option.isSome_none] at e11
      have hn := find_none R hF hya
      simp (disch := omega) [hn, e11, octroilaw09_RibTakes_r19, e13, wrap_i64]
      exact ⟨mm - 1, by omega, rfl, i + 1, by simp [e2], by simp [e10], by simp [e11], by simp [e12, hv'], by simp, by omega, by omega⟩
    | some x =>
      rw [hF] at e11 fb
      simp only [Option.isSome_some] at e11
      simp only [Option.getD_some] at fb
      obtain ⟨B1, B2, B3⟩ := find_is R hF
      have hgx := (R.key _ (getM_mem B1.1)).2.2
      have hgx : x.Good := hgx
      by_cases hh : hasB (rpf y) addr = true
      · have hle : ¬ x.l < y.l := by have := B3 y hya hh; omega
        by_cases he : y.a = x.a ∧ y.l = x.l
        · obtain ⟨he1, he2⟩ := he
          have hb' : ¬ cmpR y x < 0 := fun q => B1.2.2.2 y hya he1 he2 (cmpR_lt.1 q)
          have he1' := eq_true he1
          have he2' := eq_true he2
          have he3' := eq_true (show ((y.a : Nat) : Int) = ((x.a : Nat) : Int) by omega)
          clear he1 he2
          simp (disch := omega) [hh, e10, e11, e12, e13, fb, hi', hb, q0, q1, q2, q3, q4, q5, q6, hle, he1', he2', he3']
          refine better_spec hgy hgx ?_
          simp (disch := omega) [hb', octroilaw09_RibTakes_r19, e13, wrap_i64]
          exact ⟨mm - 1, by omega, rfl, i + 1, by simp [e2], by simp [e10], by simp [e11], by simp [e12, hv'], by simp, by omega, by omega⟩
        · have hne : (decide (y.a = x.a) && decide (y.l = x.l)) = false := by simp; omega
          have hne2 : (decide (((y.a : Nat) : Int) = ((x.a : Nat) : Int)) && decide (y.l = x.l)) = false := by simp; omega
          simp (disch := omega) [hh, e10, e11, e12, e13, fb, hi', hb, q0, q1, q2, q3, q4, q5, q6, hle, hne, hne2]
          simp (disch := omega) [octroilaw09_RibTakes_r19, e13, wrap_i64]
          exact ⟨mm - 1, by omega, rfl, i + 1, by simp [e2], by simp [e10], by simp [e11], by simp [e12, hv'], by simp, by omega, by omega⟩
      · have hh' : hasB (rpf y) addr = false := by simpa using hh
        by_cases he : y.a = x.a ∧ y.l = x.l
        · exfalso
          apply hh
          rw [show rpf y = rpf x by unfold rpf; rw [he.1, he.2]]
          exact B2
        · have hne : (decide (y.a = x.a) && decide (y.l = x.l)) = false := by simp; omega
          have hne2 : (decide (((y.a : Nat) : Int) = ((x.a : Nat) : Int)) && decide (y.l = x.l)) = false := by simp; omega
          simp (disch := omega) [hh', e10, e11, e12, e13, fb, hi', hb, q0, q1, q2, q3, q4, q5, q6, hne, hne2]
          simp (disch := omega) [octroilaw09_RibTakes_r19, e13, wrap_i64]
          exact ⟨mm - 1, by omega, rfl, i + 1, by simp [e2], by simp [e10], by simp [e11], by simp [e12, hv'], by simp, by omega, by omega⟩
end Go.Proofs.Ytmbhlbohbpepaaa

/- Two tables beside each other; puts in any order; Same. -/
namespace Go.Proofs.Ytmbhlbohbpepaaa
open Go
set_option linter.unusedSimpArgs false
set_option linter.unusedVariables false

/-- The table has just these routes. -/
def Just (m : List (RK × Rt)) (P : Rt → Prop) : Prop := ∀ k x, getM m k = some x ↔ (P x ∧ mayR x = true ∧ x.key = k)

theorem just_nil : Just [] (fun _ => False) := fun k x => by simp [getM_nil]

theorem just_put {most rf : Int} {m : List (RK × Rt)} {P : Rt → Prop} {x : Rt} (J : Just m P) (hn : ∀ y, P y → y.key ≠ x.key) (hl : (m.length : Int) < most) :
    Just (putS most rf m x).2.2 (fun y => P y ∨ y = x) ∧ (putS most rf m x).2.2.length ≤ m.length + 1 := by
  unfold putS
  by_cases hm : mayR x = false
  · rw [if_pos hm]
    refine ⟨fun k y => ?_, by simp⟩
    rw [J k y]
    constructor
    · rintro ⟨h1, h2, h3⟩; exact ⟨.inl h1, h2, h3⟩
    · rintro ⟨h1 | h1, h2, h3⟩
      · exact ⟨h1, h2, h3⟩
      · subst h1; rw [hm] at h2; cases h2
  · have hm' : mayR x = true := by simpa using hm
    rw [if_neg hm, if_neg (fun q => by omega)]
    refine ⟨fun k y => ?_, ?_⟩
    · simp only
      rw [getM_setM]
      by_cases hk : k = x.key
      · rw [if_pos hk]
        constructor
        · intro e; cases e; exact ⟨.inr rfl, hm', hk.symm⟩
        · rintro ⟨h1 | h1, h2, h3⟩
          · exact (hn y h1 (by rw [h3, hk])).elim
          · rw [h1]
      · rw [if_neg hk, J k y]
        constructor
        · rintro ⟨h1, h2, h3⟩; exact ⟨.inl h1, h2, h3⟩
        · rintro ⟨h1 | h1, h2, h3⟩
          · exact ⟨h1, h2, h3⟩
          · subst h1; exact (hk h3.symm).elim
    · simp only
      rw [setM_length]
      split <;> omega

theorem just_ext {m m' : List (RK × Rt)} {P P' : Rt → Prop} (J : Just m P) (J' : Just m' P') (h : ∀ x, P x ↔ P' x) : ∀ k, getM m k = getM m' k := by
  intro k
  cases e : getM m' k with
  | some x => exact (J k x).2 (by have := (J' k x).1 e; exact ⟨(h x).2 this.1, this.2⟩)
  | none =>
    cases e2 : getM m k with
    | none => rfl
    | some x =>
      have := (J k x).1 e2
      have := (J' k x).2 ⟨(h x).1 this.1, this.2⟩
      rw [e] at this; cases this

/-- Two tables of one's own. -/
structure Two (h0 g : Hp) (r s : Nat) (most : Int) (m m' : List (RK × Rt)) (k : Nat) : Prop where
  ex : ∃ rf rf' T T' O O', ROwn h0 g r most rf m T k O ∧ ROwn h0 g s most rf' m' T' k O' ∧ ∀ x, x ∈ O → x ∉ O'

theorem ROwn.other {h0 g g' : Hp} {s : Nat} {most rf : Int} {m : List (RK × Rt)} {T : PL} {k : Nat} {O O1 O1' : List Nat} (A : ROwn h0 g s most rf m T k O) (F : Fr g g' O1 O1') (d : ∀ x, x ∈ O1 → x ∉ O) (A1 : Le h0 g') :
    ROwn h0 g' s most rf m T k O ∧ ∀ x, x ∈ O1' → x ∉ O := by
  refine ⟨⟨A.m.keep fun x o hx e => F.keep x o e (fun q => d x q hx), A1, A.new⟩, fun x hx hx' => ?_⟩
  rcases F.own x hx with q | q
  · exact d x q hx'
  · obtain ⟨o, e⟩ := A.m.alive x hx'; rw [q] at e; cases e

def SameInv (g0 : Hp) (v w : Value) (L : List Rt) (mm : Nat) (env : Env) (g : Hp) : Prop :=
  g = g0 ∧ ∃ i : Nat, env 0 = v ∧ env 1 = w ∧ env 5 = .int .i64 (i : Nat) ∧ i + mm = L.length ∧ i ≤ L.length

set_option maxRecDepth 20000 in
theorem same_spec {h : Hp} {v w : Value} {L : List Rt} {Q : Value → Hp → Prop} (S : SlAt h T_api_Route 7 Rt.enc v L) (S' : SlAt h T_api_Route 7 Rt.enc w L) (hl : L.length ≤ 1000000) (hQ : Q (.bool true) h) : Ok Try.prog F_octroiref09_Same #[v, w] h Q := by
  obtain ⟨p, cap, hv⟩ := S.shape'
  obtain ⟨p', cap', hw⟩ := S'.shape'
  refine octroiref09_Same_ok (by simp) ?_
  unfold octroiref09_Same_D
  simp (disch := omega) [octroiref09_Same_r0, octroiref09_Same_r1, octroiref09_Same_r3, hv, hw]
  refine ⟨SameInv h v w L, ⟨L.length, rfl, 0, by simp [hv], by simp [hw], by simp, by omega, by omega⟩, ?_⟩
  rintro mm env g ⟨rfl, i, e0, e1, e5, him, hi⟩
  unfold octroiref09_Same_L0
  by_cases hm : mm = 0
  · have : i = L.length := by omega
    subst this
    simp (disch := omega) [octroiref09_Same_r4, octroiref09_Same_r8, e0, e1, e5, hv]
    exact .to _ (.refl _) hQ
  · obtain ⟨y, hy⟩ : ∃ y, L[i]? = some y := ⟨_, List.getElem?_eq_getElem (by omega)⟩
    obtain ⟨b, c1, c, ev, hb, q0, q1, q2, q3, q4, q5, q6⟩ := rt_at S hy
    obtain ⟨b', c1', c', ew, hb', t0, t1, t2, t3, t4, t5, t6⟩ := rt_at S' hy
    have hi' : i < L.length := by omega
    rw [ev] at e0
    rw [ew] at e1
    simp (disch := omega) [octroiref09_Same_r4, octroiref09_Same_r5, octroiref09_Same_r7, e0, e1, e5, hi', hb, hb', q0, q1, q2, q3, q4, q5, q6, t0, t1, t2, t3, t4, t5, t6, wrap_i64]
    exact ⟨mm - 1, by omega, rfl, i + 1, by simp [e0, ev], by simp [e1, ew], by simp, by omega, by omega⟩
end Go.Proofs.Ytmbhlbohbpepaaa

/- RibSwaps: which route is taken does not hang on the order in which they came: the walk. -/
namespace Go.Proofs.Ytmbhlbohbpepaaa
open Go
set_option linter.unusedSimpArgs false
set_option linter.unusedVariables false

set_option maxRecDepth 20000 in
set_option maxHeartbeats 1000000 in
theorem swaps_tail {h g : Hp} {r s : Nat} {rf rf' : Int} {m m' : List (RK × Rt)} {T T' : PL} {k addr b4 pa : Nat} {pl : Int} {O O' : List Nat} (A : ROwn h g r 64 rf m T k O) (A' : ROwn h g s 64 rf' m' T' k O') (hm : ∀ k, getM m k = getM m' k) (ha : addr < 2 ^ 32)
    (fp : g b4 = some (.cells #[.int .u32 (pa : Nat), .int .i64 pl] 24)) (env : Env) (e2 : env 2 = .int .u32 (addr : Nat)) (e4 : env 4 = .pointer (some ⟨b4, 0, none⟩)) (e8 : env 8 = .pointer (some ⟨r, 0, none⟩)) (e9 : env 9 = .pointer (some ⟨s, 0, none⟩)) :
    octroilaw09_RibSwaps_r19 env g (thenK (sq (rg octroilaw09_RibSwaps_r20) (sq (rg octroilaw09_RibSwaps_r21) (sq (rg octroilaw09_RibSwaps_r22) (sq (rg octroilaw09_RibSwaps_r23) (sq (rg octroilaw09_RibSwaps_r24) (ex .ret))))))
      (fin Try.prog [ResultVar.tmp 6] (fun r g => r = .bool true ∧ Le h g)) .normal) := by
  have R := A.m.inv
  have R' := A'.m.inv
  have eb := best_ext R R' hm pa pl
  have ef := find_ext R R' hm addr
  have ea := allR_ext R R' hm
  obtain ⟨y, hy⟩ : ∃ y, y = (bestR m pa pl).getD rz := ⟨_, rfl⟩
  obtain ⟨z, hz⟩ : ∃ z, z = (findR m T addr).getD rz := ⟨_, rfl⟩
  obtain ⟨u, hu⟩ : ∃ u, u = (bestR m pa pl).isSome := ⟨_, rfl⟩
  obtain ⟨w, hw⟩ : ∃ w, w = (findR m T addr).isSome := ⟨_, rfl⟩
  simp (disch := omega) [octroilaw09_RibSwaps_r19, e2, e4, e8, e9, fp]
  refine rbestM A.m (fun g1 l1 => ?_)
  rw [← hy, ← hu]
  simp (disch := omega)
  intro b13 hb13
  simp (disch := omega)
  have l2 := Le.new (o := rcl y) hb13
  have f13 : (g1.upd b13 (rcl y)) b13 = some (rcl y) := upd_same
  have L := l1.trans l2
  clear l1 l2 hb13
  generalize g1.upd b13 (rcl y) = g2 at *
  have fp2 := L _ _ fp
  have A2 := A.le2 L
  have A2' := A'.le2 L
  simp (disch := omega) [octroilaw09_RibSwaps_r20, e2, e4, e8, e9, fp2]
  refine rbestM A2'.m (fun g3 l3 => ?_)
  rw [← eb, ← hy, ← hu]
  simp (disch := omega)
  intro b15 hb15
  simp (disch := omega)
  have l4 := Le.new (o := rcl y) hb15
  have f15 : (g3.upd b15 (rcl y)) b15 = some (rcl y) := upd_same
  have L4 := l3.trans l4
  clear l3 l4 hb15
  generalize g3.upd b15 (rcl y) = g4 at *
  replace f13 := L4 _ _ f13
  have A4 := A2.le2 L4
  have A4' := A2'.le2 L4
  simp (disch := omega) [octroilaw09_RibSwaps_r21, e2, e4, e8, e9]
  refine rfindM A4.m ha (fun g5 l5 => ?_)
  rw [← hz, ← hw]
  simp (disch := omega)
  intro b17 hb17
  simp (disch := omega)
  have l6 := Le.new (o := rcl z) hb17
  have f17 : (g5.upd b17 (rcl z)) b17 = some (rcl z) := upd_same
  have L6 := l5.trans l6
  clear l5 l6 hb17
  generalize g5.upd b17 (rcl z) = g6 at *
  replace f13 := L6 _ _ f13
  replace f15 := L6 _ _ f15
  have A6 := A4.le2 L6
  have A6' := A4'.le2 L6
  simp (disch := omega) [octroilaw09_RibSwaps_r22, e2, e4, e8, e9]
  refine rfindM A6'.m ha (fun g7 l7 => ?_)
  rw [← ef, ← hz, ← hw]
  simp (disch := omega)
  intro b19 hb19
  simp (disch := omega)
  have l8 := Le.new (o := rcl z) hb19
  have f19 : (g7.upd b19 (rcl z)) b19 = some (rcl z) := upd_same
  have L8 := l7.trans l8
  clear l7 l8 hb19
  generalize g7.upd b19 (rcl z) = g8 at *
  replace f13 := L8 _ _ f13
  replace f15 := L8 _ _ f15
  replace f17 := L8 _ _ f17
  have A8 := A6.le2 L8
  have A8' := A6'.le2 L8
  simp (disch := omega) [octroilaw09_RibSwaps_r23, e2, e4, e8, e9]
  refine rallM A8.m (fun v1 g9 l9 S1 n1 => ?_)
  simp (disch := omega) [e9]
  refine rallM (A8'.le2 l9).m (fun v2 g10 l10 S2 n2 => ?_)
  rw [← ea] at S2
  simp (disch := omega)
  have hl := allR_length_eq R
  have hl2 := R.len
  refine same_spec (S1.le' l10) S2 (by omega) ?_
  replace f13 := l10 _ _ (l9 _ _ f13)
  replace f15 := l10 _ _ (l9 _ _ f15)
  replace f17 := l10 _ _ (l9 _ _ f17)
  replace f19 := l10 _ _ (l9 _ _ f19)
  have Lf := (A8.le2 (l9.trans l10)).le
  have key : ∀ env : Env, env 13 = .pointer (some ⟨b13, 0, none⟩) → env 14 = .bool u → env 15 = .pointer (some ⟨b15, 0, none⟩) → env 16 = .bool u → env 17 = .pointer (some ⟨b17, 0, none⟩) → env 18 = .bool w → env 19 = .pointer (some ⟨b19, 0, none⟩) → env 20 = .bool w → env 21 = .bool true →
      octroilaw09_RibSwaps_r24 env g10 (thenK (ex .ret) (fin Try.prog [ResultVar.tmp 6] (fun r g => r = .bool true ∧ Le h g)) .normal) := by
    intro env e13 e14 e15 e16 e17 e18 e19 e20 e21
    simp (disch := omega) [octroilaw09_RibSwaps_r24, e13, e14, e15, e16, e17, e18, e19, e20, e21, f13, f15, f17, f19]
    exact .to _ (.refl _) ⟨rfl, Lf⟩
  simp (disch := omega)
  refine key _ ?_ ?_ ?_ ?_ ?_ ?_ ?_ ?_ ?_ <;> simp
end Go.Proofs.Ytmbhlbohbpepaaa

/- RibSwaps: the loops and the whole walk. -/
namespace Go.Proofs.Ytmbhlbohbpepaaa
open Go
set_option linter.unusedSimpArgs false
set_option linter.unusedVariables false

def argRs (h : Hp) (v : Value) (xs : List Rt) : Prop := ArgSl h 7 Rt.enc Rt.Good v xs
theorem argRs.get {h : Hp} {v : Value} {xs : List Rt} {i : Nat} {x : Rt} (A : argRs h v xs) (hx : xs[i]? = some x) :
    x.Good ∧ ∃ b f cap c E fr, v = .slice (some ⟨b, f, none⟩) xs.length cap ∧ h b = some (.cells c E fr) ∧ c[f + i * 7]? = some (.int .u32 (x.a : Nat)) ∧ c[f + i * 7 + 1]? = some (.int .i64 x.l) ∧ c[f + i * 7 + 2]? = some (.int .i64 x.d) ∧
      c[f + i * 7 + 3]? = some (.int .i64 x.ds) ∧ c[f + i * 7 + 4]? = some (.int .i64 x.m) ∧ c[f + i * 7 + 5]? = some (.int .i64 x.nx) ∧ c[f + i * 7 + 6]? = some (.int .u16 (x.tg : Nat)) := by
  obtain ⟨hg, b, f, cap, c, E, fr, e, hb, he⟩ := ArgSl.at A hx
  exact ⟨hg, b, f, cap, c, E, fr, e, hb, he 0 (by omega), he 1 (by omega), he 2 (by omega), he 3 (by omega), he 4 (by omega), he 5 (by omega), he 6 (by omega)⟩

def DistN (xs : List Rt) (i : Nat) : Prop := ∀ a b x y, a < b → b < i → xs[a]? = some x → xs[b]? = some y → y.key ≠ x.key

def SwEnv (v : Value) (addr b4 r s : Nat) (env : Env) : Prop :=
  env 0 = v ∧ env 2 = .int .u32 (addr : Nat) ∧ env 4 = .pointer (some ⟨b4, 0, none⟩) ∧ env 8 = .pointer (some ⟨r, 0, none⟩) ∧ env 9 = .pointer (some ⟨s, 0, none⟩)

def SwInv1 (g0 : Hp) (v : Value) (xs : List Rt) (addr b4 r s : Nat) (mm : Nat) (env : Env) (g : Hp) : Prop :=
  g = g0 ∧ ∃ i : Nat, SwEnv v addr b4 r s env ∧ env 10 = .int .i64 (i : Nat) ∧ i + mm = xs.length ∧ i ≤ xs.length ∧ DistN xs i

def SwInv0 (g0 : Hp) (v : Value) (xs : List Rt) (addr b4 r s i : Nat) (mm : Nat) (env : Env) (g : Hp) : Prop :=
  g = g0 ∧ ∃ k : Nat, SwEnv v addr b4 r s env ∧ env 10 = .int .i64 (i : Nat) ∧ env 11 = .int .i64 (k : Nat) ∧ k + mm = i ∧ ∀ a x y, a < k → xs[a]? = some x → xs[i]? = some y → y.key ≠ x.key

def SwInv2 (h0 : Hp) (v : Value) (xs : List Rt) (addr b4 r s : Nat) (mm : Nat) (env : Env) (g : Hp) : Prop :=
  ∃ (i : Nat) (rf rf' : Int) (m m' : List (RK × Rt)) (T T' : PL) (O O' : List Nat), SwEnv v addr b4 r s env ∧ env 12 = .int .i64 (i : Nat) ∧ i + mm = xs.length ∧ i ≤ xs.length ∧ ROwn h0 g r 64 rf m T i O ∧ ROwn h0 g s 64 rf' m' T' i O' ∧ (∀ x, x ∈ O → x ∉ O') ∧
    m.length ≤ i ∧ m'.length ≤ i ∧ Just m (fun x => x ∈ xs.take i) ∧ Just m' (fun x => x ∈ xs.drop (xs.length - i))

theorem SwEnv.set {v : Value} {addr b4 r s d : Nat} {env : Env} {w : Value} (E : SwEnv v addr b4 r s env) (h : d ≠ 0 ∧ d ≠ 2 ∧ d ≠ 4 ∧ d ≠ 8 ∧ d ≠ 9) : SwEnv v addr b4 r s (env.set d w) := by
  obtain ⟨h0, h2, h4, h8, h9⟩ := E
  obtain ⟨d0, d2, d4, d8, d9⟩ := h
  refine ⟨?_, ?_, ?_, ?_, ?_⟩ <;> rw [Env.set_get, if_neg] <;> first | assumption | exact Ne.symm (by assumption)

set_option maxRecDepth 20000 in
set_option maxHeartbeats 1000000 in
/-- The puts, in both orders. -/
theorem swaps_loop2 {h h0 : Hp} {v : Value} {xs : List Rt} {addr b4 r s pa : Nat} {pl : Int} (A : argRs h0 v xs) (hl : xs.length ≤ 60) (ha : addr < 2 ^ 32) (D : DistN xs xs.length) (fp : h0 b4 = some (.cells #[.int .u32 (pa : Nat), .int .i64 pl] 24)) (lh : Le h h0) :
    ∀ mm env g, SwInv2 h0 v xs addr b4 r s mm env g → octroilaw09_RibSwaps_L2 (roundK (SwInv2 h0 v xs addr b4 r s) mm (inBlk 4 (thenK (sq (rg octroilaw09_RibSwaps_r19) (sq (rg octroilaw09_RibSwaps_r20) (sq (rg octroilaw09_RibSwaps_r21) (sq (rg octroilaw09_RibSwaps_r22) (sq (rg octroilaw09_RibSwaps_r23) (sq (rg octroilaw09_RibSwaps_r24) (ex .ret)))))))
      (fin Try.prog [ResultVar.tmp 6] (fun r g => r = .bool true ∧ Le h g))))) env g := by
  rintro mm env g ⟨i, rf, rf', m, m', T, T', O, O', E, e12, him, hi, A1, A2, dj, hm1, hm2, J1, J2⟩
  obtain ⟨e0, e2, e4, e8, e9⟩ := E
  obtain ⟨p, cap, hv⟩ := ArgSl.shape A
  unfold octroilaw09_RibSwaps_L2
  by_cases hm : mm = 0
  · have : i = xs.length := by omega
    subst this
    have e0' := e0
    rw [hv] at e0'
    rw [List.take_length] at J1
    rw [Nat.sub_self, List.drop_zero] at J2
    simp (disch := omega) [octroilaw09_RibSwaps_r15, e0', e12]
    have fp' := A1.le _ _ fp
    have A1' : ROwn h g r 64 rf m T xs.length O := ⟨A1.m, lh.trans A1.le, fun x hx => none_of_le lh (A1.new x hx)⟩
    have A2' : ROwn h g s 64 rf' m' T' xs.length O' := ⟨A2.m, lh.trans A2.le, fun x hx => none_of_le lh (A2.new x hx)⟩
    refine swaps_tail A1' A2' (just_ext J1 J2 (fun x => Iff.rfl)) ha fp' _ ?_ ?_ ?_ ?_ <;> simp [e2, e4, e8, e9]
  · obtain ⟨x, hx⟩ : ∃ x, xs[i]? = some x := ⟨_, List.getElem?_eq_getElem (by omega)⟩
    obtain ⟨y, hy⟩ : ∃ y, xs[xs.length - 1 - i]? = some y := ⟨_, List.getElem?_eq_getElem (by omega)⟩
    obtain ⟨hg, b, f, cap', c, Et, fr, hv', hb, q0, q1, q2, q3, q4, q5, q6⟩ := argRs.get A hx
    obtain ⟨hgy, b', f', cap2, c', Et', fr', hv2, hb2, t0, t1, t2, t3, t4, t5, t6⟩ := argRs.get A hy
    have hbb := A1.le _ _ hb
    have hi' : i < xs.length := by omega
    have e0' := e0
    rw [hv'] at e0'
    rw [hv'] at hv2
    simp only [Value.slice.injEq, Option.some.injEq, Addr.mk.injEq, true_and, and_true] at hv2
    obtain ⟨⟨rfl, rfl⟩, rfl⟩ := hv2
    rw [hb] at hb2
    cases hb2
    simp (disch := omega) [octroilaw09_RibSwaps_r15, octroilaw09_RibSwaps_r16, e0', e8, e9, e12, hi', hbb, q0, q1, q2, q3, q4, q5, q6]
    refine rputM A1.m hg (by omega) (fun g2 O2 T2 F2 M2 => ?_)
    have B1 := A1.fr F2 M2
    obtain ⟨B2, dj2⟩ := A2.other F2 dj B1.le
    have hbb2 := B1.le _ _ hb
    have nd1 : ∀ z, z ∈ xs.take i → z.key ≠ x.key := fun z hz e => by
      obtain ⟨a, ha'⟩ := List.mem_iff_getElem?.1 hz
      rw [List.getElem?_take] at ha'
      split at ha'
      · rename_i hlt
        exact D a i z x hlt (by omega) ha' hx e.symm
      · cases ha'
    obtain ⟨J1', hm1'⟩ := just_put (most := 64) (rf := rf) J1 nd1 (by omega)
    have idx : ((xs.length : Nat) : Int) - 1 - (i : Nat) = ((xs.length - 1 - i : Nat) : Int) := by omega
    have idn : (((xs.length : Nat) : Int) - 1 - (i : Nat)).toNat = xs.length - 1 - i := by omega
    have hge : (0 : Int) ≤ ((xs.length : Nat) : Int) - 1 - (i : Nat) := by omega
    have hlt : ((xs.length : Nat) : Int) - 1 - (i : Nat) < ((xs.length : Nat) : Int) := by omega
    simp (disch := omega) [octroilaw09_RibSwaps_r17, e0', e8, e9, e12, wrap_i64, idn, hbb2, t0, t1, t2, t3, t4, t5, t6]
    refine rputM B2.m hgy (by omega) (fun g3 O3 T3 F3 M3 => ?_)
    have C2 := B2.fr F3 M3
    obtain ⟨C1, dj3⟩ := B1.other F3 (fun z hz hz' => dj2 z hz' hz) C2.le
    have nd2 : ∀ z, z ∈ xs.drop (xs.length - i) → z.key ≠ y.key := fun z hz e => by
      obtain ⟨a, ha'⟩ := List.mem_iff_getElem?.1 hz
      rw [List.getElem?_drop] at ha'
      exact D (xs.length - 1 - i) (xs.length - i + a) y z (by omega) (List.getElem?_eq_some_iff.1 ha').1 hy ha' e
    obtain ⟨J2', hm2'⟩ := just_put (most := 64) (rf := rf') J2 nd2 (by omega)
    have j1 : Just (putS 64 rf m x).2.2 (fun z => z ∈ xs.take (i + 1)) := by
      rw [List.take_add_one, hx]
      intro k z
      rw [J1' k z]
      simp
    have j2 : Just (putS 64 rf' m' y).2.2 (fun z => z ∈ xs.drop (xs.length - (i + 1))) := by
      have e : xs.drop (xs.length - (i + 1)) = y :: xs.drop (xs.length - i) := by
        have hlt' : xs.length - 1 - i < xs.length := by omega
        have := List.drop_eq_getElem_cons (l := xs) (i := xs.length - 1 - i) hlt'
        rw [show xs.length - (i + 1) = xs.length - 1 - i by omega, this, show xs.length - 1 - i + 1 = xs.length - i by omega]
        rw [(List.getElem?_eq_some_iff.1 hy).2]
      rw [e]
      intro k z
      rw [J2' k z]
      simp [or_comm]
    simp (disch := omega) [octroilaw09_RibSwaps_r18, e12, wrap_i64]
    refine ⟨mm - 1, by omega, i + 1, _, _, _, _, T2, T3, O2, O3, ⟨by simp [e0], by simp [e2], by simp [e4], by simp [e8], by simp [e9]⟩, by simp, by omega, by omega, C1, C2, fun z hz hz' => dj3 z hz' hz, by omega, by omega, j1, j2⟩
end Go.Proofs.Ytmbhlbohbpepaaa

/- RibSwaps: the whole walk. -/
namespace Go.Proofs.Ytmbhlbohbpepaaa
open Go
set_option linter.unusedSimpArgs false
set_option linter.unusedVariables false

set_option maxRecDepth 20000 in
set_option maxHeartbeats 1000000 in
theorem swaps_loop0 {h g0 : Hp} {v : Value} {xs : List Rt} {addr b4 r s i : Nat} (A : argRs g0 v xs) (hl : xs.length ≤ 60) (hi : i < xs.length) (lh : Le h g0) (Q : Post)
    (hret : ∀ env, env 6 = .bool true → Q .ret env g0) (hnorm : ∀ env, SwEnv v addr b4 r s env → env 10 = .int .i64 (i : Nat) → (∀ a x y, a < i → xs[a]? = some x → xs[i]? = some y → y.key ≠ x.key) → Q .normal env g0) :
    ∀ mm env g, SwInv0 g0 v xs addr b4 r s i mm env g → octroilaw09_RibSwaps_L0 (roundK (SwInv0 g0 v xs addr b4 r s i) mm (inBlk 2 Q)) env g := by
  rintro mm env g ⟨rfl, k, E, e10, e11, hkm, hd⟩
  have E0 := E
  obtain ⟨e0, e2, e4, e8, e9⟩ := E
  unfold octroilaw09_RibSwaps_L0
  by_cases hm : mm = 0
  · have : k = i := by omega
    subst this
    simp (disch := omega) [octroilaw09_RibSwaps_r9, e10, e11]
    refine hnorm _ ?_ ?_ hd
    · exact ⟨by simp [e0], by simp [e2], by simp [e4], by simp [e8], by simp [e9]⟩
    · simp [e10]
  · obtain ⟨x, hx⟩ : ∃ x, xs[i]? = some x := ⟨_, List.getElem?_eq_getElem hi⟩
    obtain ⟨y, hy⟩ : ∃ y, xs[k]? = some y := ⟨_, List.getElem?_eq_getElem (by omega)⟩
    obtain ⟨hg, b, f, cap', c, Et, fr, hv', hb, q0, q1, q2, q3, q4, q5, q6⟩ := argRs.get A hx
    obtain ⟨hgy, b', f', cap2, c', Et', fr', hv2, hb2, t0, t1, t2, t3, t4, t5, t6⟩ := argRs.get A hy
    have e0' := e0
    rw [hv'] at e0'
    rw [hv'] at hv2
    simp only [Value.slice.injEq, Option.some.injEq, Addr.mk.injEq, true_and, and_true] at hv2
    obtain ⟨⟨rfl, rfl⟩, rfl⟩ := hv2
    rw [hb] at hb2
    cases hb2
    have hk : k < i := by omega
    have hk2 : k < xs.length := by omega
    simp (disch := omega) [octroilaw09_RibSwaps_r9, e10, e11, hk]
    by_cases hp : x.a = y.a ∧ x.l = y.l
    · have p1 := eq_true hp.1
      have p2 := eq_true hp.2
      have p3 := eq_true (show ((x.a : Nat) : Int) = ((y.a : Nat) : Int) by omega)
      by_cases hd1 : x.d = y.d
      · have p4 := eq_true hd1
        simp (disch := omega) [octroilaw09_RibSwaps_r10, octroilaw09_RibSwaps_r11, e0', e10, e11, hi, hk2, hb, q0, q1, q2, t0, t1, t2, p1, p2, p3, p4]
        exact hret _ (by simp)
      · simp (disch := omega) [octroilaw09_RibSwaps_r10, e0', e10, e11, hi, hk2, hb, q0, q1, q2, t0, t1, t2, p1, p2, p3, hd1]
        simp (disch := omega) [octroilaw09_RibSwaps_r12, e11, wrap_i64]
        refine ⟨mm - 1, by omega, rfl, k + 1, ⟨by simp [e0], by simp [e2], by simp [e4], by simp [e8], by simp [e9]⟩, by simp [e10], by simp, by omega, fun a z w ha hz hw => ?_⟩
        by_cases hak : a = k
        · subst hak; rw [hy] at hz; rw [hx] at hw; cases hz; cases hw
          intro e; simp only [Rt.key, Prod.mk.injEq] at e; exact hd1 e.2
        · exact hd a z w (by omega) hz hw
    · have n1 : (decide (x.a = y.a) && decide (x.l = y.l)) = false := by simp; omega
      have n2 : (decide (((x.a : Nat) : Int) = ((y.a : Nat) : Int)) && decide (x.l = y.l)) = false := by simp; omega
      simp (disch := omega) [octroilaw09_RibSwaps_r10, e0', e10, e11, hi, hk2, hb, q0, q1, q2, t0, t1, t2, n1, n2]
      simp (disch := omega) [octroilaw09_RibSwaps_r12, e11, wrap_i64]
      refine ⟨mm - 1, by omega, rfl, k + 1, ⟨by simp [e0], by simp [e2], by simp [e4], by simp [e8], by simp [e9]⟩, by simp [e10], by simp, by omega, fun a z w ha hz hw => ?_⟩
      by_cases hak : a = k
      · subst hak; rw [hy] at hz; rw [hx] at hw; cases hz; cases hw
        intro e; simp only [Rt.key, Prod.mk.injEq] at e; exact hp e.1
      · exact hd a z w (by omega) hz hw

set_option maxRecDepth 20000 in
set_option maxHeartbeats 1000000 in
theorem RibSwaps_walk {h : Hp} {v : Value} {xs : List Rt} {pa addr : Nat} {pl : Int} (A : argRs h v xs) (ha : addr < 2 ^ 32) :
    Ok Try.prog F_octroilaw09_RibSwaps #[v, .agg #[.int .u32 (pa : Nat), .int .i64 pl], .int .u32 (addr : Nat)] h (fun r g => r = .bool true ∧ Le h g) := by
  obtain ⟨p, cap, hv⟩ := ArgSl.shape A
  have hlen := ArgSl.len A
  have hmax : maxLen < 2 ^ 63 := by decide
  refine octroilaw09_RibSwaps_ok (by simp) ?_
  unfold octroilaw09_RibSwaps_D
  simp (disch := omega) [octroilaw09_RibSwaps_r0]
  intro b4 hb4
  have L0 : Le h (h.upd b4 (.cells #[.int .u32 (pa : Nat), .int .i64 pl] 24)) := .new hb4
  have fp : (h.upd b4 (.cells #[.int .u32 (pa : Nat), .int .i64 pl] 24)) b4 = some (.cells #[.int .u32 (pa : Nat), .int .i64 pl] 24) := upd_same
  simp (disch := omega) [octroilaw09_RibSwaps_r1]
  generalize h.upd b4 (.cells #[.int .u32 (pa : Nat), .int .i64 pl] 24) = h0 at *
  have A0 := ArgSl.le A L0
  refine awake_spec (fun h1 L1 => ?_)
  simp (disch := omega) [octroilaw09_RibSwaps_r2]
  refine rnewM (fun r h2 O l2 n2 M2 => ?_)
  have B1 : ROwn h0 h2 r 64 0 [] [] 0 O := ⟨M2, L1.trans l2, fun x m => none_of_le L1 (n2 x m)⟩
  clear M2 n2 l2 L1
  simp (disch := omega) [octroilaw09_RibSwaps_r3]
  refine rnewM (fun s h3 O' l3 n3 M3 => ?_)
  have B2 : ROwn h0 h3 s 64 0 [] [] 0 O' := ⟨M3, B1.le.trans l3, fun x m => none_of_le B1.le (n3 x m)⟩
  have dj : ∀ x, x ∈ O → x ∉ O' := fun x hx hx' => by obtain ⟨o, e⟩ := B1.m.alive x hx; rw [n3 x hx'] at e; cases e
  replace B1 := B1.le2 l3
  clear M3 n3 l3
  have Lf := L0.trans B1.le
  by_cases hbig : (60 : Int) < (xs.length : Int)
  · simp (disch := omega) [octroilaw09_RibSwaps_r4, octroilaw09_RibSwaps_r5, hv, hbig]
    exact .to _ (.refl _) ⟨rfl, Lf⟩
  have hl : xs.length ≤ 60 := by omega
  simp (disch := omega) [octroilaw09_RibSwaps_r4, octroilaw09_RibSwaps_r6, hv, hbig]
  refine ⟨SwInv1 h3 v xs addr b4 r s, ⟨xs.length, rfl, 0, ⟨by simp [hv], by simp, by simp, by simp, by simp⟩, by simp, by omega, by omega, fun a b x y h1 h2 => by omega⟩, ?_⟩
  rintro mm env g ⟨rfl, i, E, e10, him, hi, D⟩
  have E0 := E
  obtain ⟨e0, e2, e4, e8, e9⟩ := E
  have e0' := e0
  rw [hv] at e0'
  unfold octroilaw09_RibSwaps_L1
  by_cases hm : mm = 0
  · have : i = xs.length := by omega
    subst this
    simp (disch := omega) [octroilaw09_RibSwaps_r7, octroilaw09_RibSwaps_r14, e0', e10]
    refine ⟨SwInv2 h0 v xs addr b4 r s, ⟨xs.length, 0, 0, 0, [], [], [], [], O, O', ⟨by simp [e0], by simp [e2], by simp [e4], by simp [e8], by simp [e9]⟩, by simp, by omega, by omega, B1, B2, dj, by simp, by simp, fun k x => by simp [getM_nil], fun k x => by simp [getM_nil]⟩, ?_⟩
    exact swaps_loop2 A0 hl ha D fp L0
  · have hi' : i < xs.length := by omega
    simp (disch := omega) [octroilaw09_RibSwaps_r7, octroilaw09_RibSwaps_r8, e0', e10, hi']
    refine ⟨SwInv0 g v xs addr b4 r s i, ⟨i, rfl, 0, ⟨by simp [e0], by simp [e2], by simp [e4], by simp [e8], by simp [e9]⟩, by simp [e10], by simp, by omega, fun a x y h1 => by omega⟩, ?_⟩
    refine swaps_loop0 (ArgSl.le A Lf) hl hi' Lf _ ?_ ?_
    · intro env e6
      simp (disch := omega) [e6]
      exact .to _ (.refl _) ⟨rfl, Lf⟩
    · intro env E' e10' hd
      obtain ⟨e0, e2, e4, e8, e9⟩ := E'
      simp (disch := omega) [octroilaw09_RibSwaps_r13, e10', wrap_i64]
      refine ⟨mm - 1, by omega, rfl, i + 1, ⟨by simp [e0], by simp [e2], by simp [e4], by simp [e8], by simp [e9]⟩, by simp, by omega, by omega, fun a b x y hab hb hx hy => ?_⟩
      by_cases hbi : b = i
      · subst hbi; exact hd a x y hab hx hy
      · exact D a b x y hab (by omega) hx hy
end Go.Proofs.Ytmbhlbohbpepaaa

/- What the arguments of these laws read: their flat parts. -/
namespace Go.Proofs.Ytmbhlbohbpepaaa
open Go

def rtKs : List Lk := [.int .u32, .int .i64, .int .i64, .int .i64, .int .i64, .int .i64, .int .u16]

theorem dec_rt {H : Type} {enc : TypeId × Value → H} {w : World} {base : Nat} {spare : Nat → Bool} {held : Bool} (cs : List Value) (h : okLs enc Try.prog w base spare held rtKs cs) : ∃ x : Rt, cs = x.enc ∧ x.Good := by
  obtain ⟨a, _, rfl, w1, h⟩ := okLs_int h
  obtain ⟨l, _, rfl, w2, h⟩ := okLs_int h
  obtain ⟨d, _, rfl, w3, h⟩ := okLs_int h
  obtain ⟨ds, _, rfl, w4, h⟩ := okLs_int h
  obtain ⟨m, _, rfl, w5, h⟩ := okLs_int h
  obtain ⟨nx, _, rfl, w6, h⟩ := okLs_int h
  obtain ⟨tg, _, rfl, w7, h⟩ := okLs_int h
  obtain rfl := okLs_nil h
  obtain ⟨a', rfl, ha⟩ := u32_wf w1
  obtain ⟨t', rfl, ht⟩ := u16_wf w7
  exact ⟨⟨a', l, d, ds, m, nx, t'⟩, rfl, ⟨ha, ht⟩⟩
end Go.Proofs.Ytmbhlbohbpepaaa

/- What a prefix as an argument reads: its flat parts. -/
namespace Go.Proofs.Ytmbhlbohbpepaaa
open Go

structure PfR where
  a : Nat
  n : Int
def PfR.enc (x : PfR) : List Value := [.int .u32 x.a, .int .i64 x.n]
def pfKs : List Lk := [.int .u32, .int .i64]

theorem dec_pf {H : Type} {enc : TypeId × Value → H} {w : World} {base : Nat} {spare : Nat → Bool} {held : Bool} (cs : List Value) (h : okLs enc Try.prog w base spare held pfKs cs) : ∃ x : PfR, cs = x.enc ∧ x.a < 2 ^ 32 := by
  obtain ⟨a, _, rfl, w2, h⟩ := okLs_int h
  obtain ⟨n, _, rfl, w3, h⟩ := okLs_int h
  obtain rfl := okLs_nil h
  obtain ⟨a', rfl, ha⟩ := u32_wf w2
  exact ⟨⟨a', n⟩, rfl, ha⟩
end Go.Proofs.Ytmbhlbohbpepaaa

/- RibSwaps: which route is taken does not hang on the order in which they came, as long as none takes the place of another one: the row. No condition. -/
namespace Go.Proofs.Ytmbhlbohbpepaaa.RibSwaps_row
open Go Go.ChangeShapes Go.WideShapes Go.RowKit
theorem own_knob : ownKnob Try.prog.godebug = none := by kernel_rfl
theorem laid_out : laidOutB Try.prog = true := by kernel_rfl
set_option maxRecDepth 100000 in
theorem lifted (os : Os) (started : os.Started) (H : Type) (enc : TypeId × Value → H) :
    ReturnsInHanded {} Try.checked os 7 .any (Rows.ribSwapsSpec.pre6 enc Try.prog Try.f7 Rows.ribSwapsRow.domain false) (Rows.ribSwapsSpec.post enc Try.prog Try.f7 false true false false) := by
  refine returnsInHanded_of_change_sized (C := Try.checked) own_knob started (by kernel_rfl) Try.func7
    (ChangeSpec.witness6 (enc := enc) (C := Try.checked) false ⟨#[], #[.slice none 0 0, .agg #[.int .u32 0, .int .i64 0], .int .u32 0], []⟩ 8 (by kernel_rfl) (by kernel_rfl) (by kernel_rfl) (by kernel_rfl)) ?_
  intro W base args ds gs before hval hW hcnd hsz _
  have hW' := hW
  obtain ⟨p, q, hA, hV, rfl, hfz, hnd⟩ := hW
  obtain ⟨rfl, rfl⟩ := trodVars_none hV
  have hA' : DataW.TrodAll enc Try.prog W 0 (fun _ => true) true Try.f7.params.toList args.toList ds p := hA
  have hval' : ∀ (j : Nat) t v, Try.f7.params[j]? = some t → args[j]? = some v → Value.okWide Try.prog W .any base t v := hval
  rw [Try.params7] at hA' hval'
  obtain ⟨v0, vs0, d0, ds0, p0, q0, hargs, rfl, rfl, h0, r0⟩ := trodAll_cons hA'
  obtain ⟨v1, vs1, d1, ds1, p1, q1, rfl, rfl, rfl, h1, r1⟩ := trodAll_cons r0
  obtain ⟨v2, vs2, d2, ds2, p2, q2, rfl, rfl, rfl, h2, r2⟩ := trodAll_cons r1
  obtain ⟨rfl, rfl, rfl⟩ := trodAll_nil r2
  obtain rfl : args = #[v0, v1, v2] := by cases args; simp_all
  obtain ⟨xs0, A0⟩ := open_argSl (ks := rtKs) (sz := 7) 4 Try.underlying39 (by kernel_rfl) (by kernel_rfl) (by decide) dec_rt (hval' 0 _ v0 rfl rfl) h0
  obtain ⟨⟨cs1⟩, rfl, k1⟩ := open_flat (ks := pfKs) 4 Try.underlying24 (by kernel_rfl) (hval' 1 _ v1 rfl rfl) h1
  obtain ⟨x1, e1, hx1⟩ := dec_pf _ k1
  simp only at e1
  subst e1
  obtain ⟨n2, rfl, rfl, rfl, w2⟩ := open_int Try.underlying22 (hval' 2 _ v2 rfl rfl) h2
  obtain ⟨a2, rfl, ha2⟩ := u32_wf w2
  refine (below_of (RibSwaps_walk A0 ha2)).mono fun e W' ⟨he, bel⟩ => ?_
  subst he
  exact ⟨_, rfl, _, _, _, [], _, [], hW', trodAll_mk1 (shut_bool (by kernel_rfl) _), trodAll_below laid_out bel (by kernel_rfl) hA, rfl, bel.frame _, fun h => by cases h⟩
theorem over : Rows.ribSwapsRow.holds Try.pinned (OpenSpec.ofChange Rows.ribSwapsSpec) :=
  OpenClaim.holds_of_wide 7 Try.f7 rfl rfl rfl rfl rfl rfl rfl ⟨rfl, rfl, rfl, rfl, rfl⟩ rfl rfl rfl rfl rfl (by kernel_rfl) Try.func7 (by kernel_rfl)
    (of_decide_eq_true (by kernel_rfl)) (by unfold Func.isWrapper; first | (rw [if_pos (by decide +kernel)]; kernel_rfl) | (rw [if_neg (by decide +kernel)]; exact ⟨rfl, rfl⟩))
    (fun os started H enc _ => lifted os started H enc)
end Go.Proofs.Ytmbhlbohbpepaaa.RibSwaps_row
namespace Go.Proofs.Ytmbhlbohbpepaaa
theorem ribSwaps_holds : Rows.RibSwapsSaid := RibSwaps_row.over
#print axioms ribSwaps_holds
end Go.Proofs.Ytmbhlbohbpepaaa
