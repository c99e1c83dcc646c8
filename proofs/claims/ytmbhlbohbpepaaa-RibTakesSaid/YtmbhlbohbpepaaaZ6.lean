/- A law's row, out of what its call does to a heap that has all of the world's blocks; and what the arguments read. -/
import Derived.ProofKit
import Derived.OpenShut
import Derived.ChangeOld
import Derived.Carry
import Derived.SizedLaws
import Derived.WideShapes
import Derived.Deep.Slices
import Derived.Test.YtmbhlbohbpepaaaRows
import Derived.Test.YtmbhlbohbpepaaaZ5

namespace Go.Proofs.Ytmbhlbohbpepaaa
open Go Go.ChangeShapes Go.WideShapes Go.RowKit Go.Deep

/-- All of a world's blocks. -/
def hpW (W : World) : Hp := fun b => W.heap[b]?

theorem below_of {P : Program} {f : FuncId} {args : Array Value} {W : World} {v0 : Value} (h : Ok P f args (hpW W) fun v h' => v = v0 ∧ Le (hpW W) h') :
    Calls P f args W fun e W' => e = .returned v0 ∧ Below W.heap.size W W' := by
  refine (h.2 W (fun _ _ e => e)).mono fun e W' ⟨v, h', e1, V, K, e2, L⟩ => ?_
  subst e2
  refine ⟨e1, K.os, K.tape, K.output, K.size, fun k hk => ?_⟩
  have hb : hpW W k = some W.heap[k] := Array.getElem?_eq_getElem hk
  rw [V _ _ (L _ _ hb)]
  exact hb.symm

section
variable {H : Type} {enc : TypeId × Value → H} {P : Program}

theorem trodAll_below (hl : laidOutB P = true) {W W' : World} (hb : Below W.heap.size W W') : ∀ {ts : List TypeId} {vs : List Value} {ds : List (DataW H)} {ps : List MemPlace},
    ts.all (fun t => P.readableRec t && decide (t < P.types.size)) = true → DataW.TrodAll enc P W 0 (fun _ => true) true ts vs ds ps → DataW.TrodAll enc P W' 0 (fun b => decide (b < W.heap.size)) true ts vs ds ps
  | [], vs, ds, ps, _, h => by
    obtain ⟨rfl, rfl, rfl⟩ := trodAll_nil h
    exact trodAll_mk0
  | t :: ts, vs, ds, ps, hr, h => by
    obtain ⟨v, vs', d, ds', p, q, rfl, rfl, rfl, h1, h2⟩ := trodAll_cons h
    simp only [List.all_cons, Bool.and_eq_true, decide_eq_true_eq] at hr
    refine trodAll_cons_mk (Below.trod hl hr.1.1 hr.1.2 h1 hb (fun x hx => ?_)) (trodAll_below hl hb (by simpa using hr.2) h2)
    obtain ⟨m, hm⟩ := h1
    exact DataW.trod_lt m _ _ _ hm x hx

/-! ### What flat cells read -/
inductive Lk where
  | int (k : IntKind)
  | bool
  | str
  | other (t : TypeId)

def flatFs (P : Program) (rec : TypeId → Option (List Lk)) (total : Nat) : List Field → Nat → Option (List Lk)
  | [], off => if off = total then some [] else none
  | f :: fs, off => if f.offset = off then
      match rec f.type, flatFs P rec total fs (off + P.cellsOf f.type) with
      | some a, some b => some (a ++ b)
      | _, _ => none
    else none

def flatK (P : Program) : Nat → TypeId → Option (List Lk)
  | 0, _ => none
  | n + 1, t => match P.underlying t with
    | some .bool => some [.bool]
    | some (.int k) => some [.int k]
    | some .string => some [.str]
    | some (.struct fs) => flatFs P (flatK P n) (P.cellsOf t) fs.toList 0
    | some (.slice _) => some [.other t]
    | some (.map _ _) => some [.other t]
    | some (.pointer _) => some [.other t]
    | _ => none

variable {w : World} {base : Nat} {spare : Nat → Bool} {held : Bool}

def okL (enc : TypeId × Value → H) (P : Program) (w : World) (base : Nat) (spare : Nat → Bool) (held : Bool) : Lk → Value → Prop
  | .int k, v => ∃ n, v = .int k n ∧ (Lit.int k n).wf = true
  | .bool, v => ∃ b, v = .bool b
  | .str, v => ∃ s, v = .string s ∧ s.size ≤ maxLen
  | .other t, v => ∃ fuel x, DataW.trod enc P w base spare held fuel t [v] = some x

def okLs (enc : TypeId × Value → H) (P : Program) (w : World) (base : Nat) (spare : Nat → Bool) (held : Bool) : List Lk → List Value → Prop
  | [], [] => True
  | k :: ks, v :: vs => okL enc P w base spare held k v ∧ okLs enc P w base spare held ks vs
  | _, _ => False

theorem okLs_nil {cs : List Value} (h : okLs enc P w base spare held [] cs) : cs = [] := by
  cases cs with
  | nil => rfl
  | cons _ _ => exact h.elim

theorem okLs_cons {k : Lk} {ks : List Lk} {cs : List Value} (h : okLs enc P w base spare held (k :: ks) cs) : ∃ v vs, cs = v :: vs ∧ okL enc P w base spare held k v ∧ okLs enc P w base spare held ks vs := by
  cases cs with
  | nil => exact h.elim
  | cons v vs => exact ⟨v, vs, rfl, h.1, h.2⟩

theorem okLs_int {k : IntKind} {ks : List Lk} {cs : List Value} (h : okLs enc P w base spare held (.int k :: ks) cs) : ∃ n vs, cs = .int k n :: vs ∧ (Lit.int k n).wf = true ∧ okLs enc P w base spare held ks vs := by
  obtain ⟨v, vs, rfl, ⟨n, rfl, hw⟩, h2⟩ := okLs_cons h
  exact ⟨n, vs, rfl, hw, h2⟩

theorem okLs_bool {ks : List Lk} {cs : List Value} (h : okLs enc P w base spare held (.bool :: ks) cs) : ∃ b vs, cs = .bool b :: vs ∧ okLs enc P w base spare held ks vs := by
  obtain ⟨v, vs, rfl, ⟨n, rfl⟩, h2⟩ := okLs_cons h
  exact ⟨n, vs, rfl, h2⟩

theorem okLs_str {ks : List Lk} {cs : List Value} (h : okLs enc P w base spare held (.str :: ks) cs) : ∃ s vs, cs = .string s :: vs ∧ s.size ≤ maxLen ∧ okLs enc P w base spare held ks vs := by
  obtain ⟨v, vs, rfl, ⟨n, rfl, hw⟩, h2⟩ := okLs_cons h
  exact ⟨n, vs, rfl, hw, h2⟩

theorem okLs_append : ∀ {a b : List Lk} {x y : List Value}, okLs enc P w base spare held a x → okLs enc P w base spare held b y → okLs enc P w base spare held (a ++ b) (x ++ y)
  | [], _, [], _, _, h => h
  | [], _, _ :: _, _, h, _ => h.elim
  | _ :: _, _, [], _, h, _ => h.elim
  | _ :: _, _, _ :: _, _, h, h' => ⟨h.1, okLs_append h.2 h'⟩

theorem flatFs_open (rec : TypeId → Option (List Lk)) (total : Nat) (cs : List Value) (hcs : cs.length = total) : ∀ (fs : List Field) (off : Nat) (ks : List Lk), flatFs P rec total fs off = some ks →
    (∀ f ∈ fs, ∀ k, rec f.type = some k → okLs enc P w base spare held k ((cs.drop f.offset).take (P.cellsOf f.type))) → okLs enc P w base spare held ks (cs.drop off)
  | [], off, ks, h, _ => by
    simp only [flatFs] at h
    split at h
    · rename_i e; cases h; rw [List.drop_of_length_le (by omega)]; trivial
    · cases h
  | f :: fs, off, ks, h, hf => by
    simp only [flatFs] at h
    split at h
    · rename_i e
      cases h1 : rec f.type with
      | none => simp [h1] at h
      | some a =>
        cases h2 : flatFs P rec total fs (off + P.cellsOf f.type) with
        | none => simp [h1, h2] at h
        | some b =>
          simp [h1, h2] at h
          subst h
          have ih := flatFs_open rec total cs hcs fs _ b h2 (fun g hg => hf g (by simp [hg]))
          have h3 := hf f (by simp) a h1
          rw [e] at h3
          have := okLs_append h3 ih
          rw [← List.drop_drop, List.take_append_drop] at this
          exact this
    · cases h

theorem flat_open : ∀ (n : Nat) (t : TypeId) (ks : List Lk) (fuel : Nat) (cs : List Value) (x : DataW H × List MemPlace), flatK P n t = some ks → DataW.trod enc P w base spare held fuel t cs = some x → okLs enc P w base spare held ks cs := by
  intro n
  induction n with
  | zero => intro t ks fuel cs x h; simp [flatK] at h
  | succ n ih =>
    intro t ks fuel cs x h ht
    have other1 : (∃ e, P.underlying t = some (.slice e)) ∨ (∃ a e, P.underlying t = some (.map a e)) ∨ (∃ e, P.underlying t = some (.pointer e)) → ∃ v, cs = [v] := by
      intro hc
      cases fuel with
      | zero => simp [DataW.trod] at ht
      | succ m =>
        unfold DataW.trod at ht
        rcases hc with ⟨e, hu⟩ | ⟨a, e, hu⟩ | ⟨e, hu⟩ <;> rw [hu] at ht <;> split at ht <;> simp_all
    cases hu : P.underlying t with
    | none => simp [flatK, hu] at h
    | some u =>
      cases u with
      | bool =>
        simp [flatK, hu] at h; subst h
        cases fuel with
        | zero => simp [DataW.trod] at ht
        | succ m =>
          unfold DataW.trod at ht
          rw [hu] at ht
          split at ht <;> simp_all
          exact ⟨⟨_, rfl⟩, trivial⟩
      | int k =>
        simp [flatK, hu] at h; subst h
        obtain ⟨n', rfl, _, hw⟩ := DataW.trod_int hu ht
        exact ⟨⟨n', rfl, hw⟩, trivial⟩
      | string =>
        simp [flatK, hu] at h; subst h
        obtain ⟨s, rfl, _, hw⟩ := DataW.trod_string hu ht
        exact ⟨⟨s, rfl, hw⟩, trivial⟩
      | struct fs =>
        simp only [flatK, hu] at h
        obtain ⟨xs, m, _, _, hlen, hxl, hf⟩ := DataW.trod_struct hu ht
        have := flatFs_open (flatK P n) (P.cellsOf t) cs hlen fs.toList 0 ks h (fun f hf' k hk => by
          obtain ⟨i, hi, he⟩ := List.getElem_of_mem hf'
          have hi' : fs[i]? = some f := by rw [← he]; simp at hi ⊢
          have h1 := hf i f hi'
          have hil : i < xs.length := by rw [hxl]; simpa using hi
          rw [List.getElem?_eq_getElem hil] at h1
          exact ih f.type k m _ _ hk h1)
        simpa using this
      | slice e =>
        simp [flatK, hu] at h; subst h
        obtain ⟨v, rfl⟩ := other1 (.inl ⟨e, hu⟩)
        exact ⟨⟨fuel, x, ht⟩, trivial⟩
      | map a e =>
        simp [flatK, hu] at h; subst h
        obtain ⟨v, rfl⟩ := other1 (.inr (.inl ⟨a, e, hu⟩))
        exact ⟨⟨fuel, x, ht⟩, trivial⟩
      | pointer e =>
        simp [flatK, hu] at h; subst h
        obtain ⟨v, rfl⟩ := other1 (.inr (.inr ⟨e, hu⟩))
        exact ⟨⟨fuel, x, ht⟩, trivial⟩
      | _ => simp [flatK, hu] at h

/-- A struct that came in by value. -/
theorem open_flat {t : TypeId} {fs : Array Field} {ks : List Lk} {W : World} {v : Value} {d : DataW H} {ps : List MemPlace} {b0 : Nat} (n : Nat) (ht : P.underlying t = some (.struct fs)) (hk : flatK P n t = some ks)
    (hv : Value.okWide P W .any b0 t v) (hd : DataW.Trod enc P W base spare held t v d ps) : ∃ cs, v = .agg cs ∧ okLs enc P W base spare held ks cs.toList := by
  obtain ⟨cs, rfl, _⟩ := okWide_struct ht hv
  obtain ⟨fuel, hf⟩ := hd
  exact ⟨cs, rfl, flat_open n t ks _ _ _ hk hf⟩

/-! ### A slice that came in -/
def ArgSl {α : Type} (h : Hp) (sz : Nat) (enc : α → List Value) (good : α → Prop) (v : Value) (xs : List α) : Prop :=
  (∀ x ∈ xs, good x) ∧ ((∃ p cap, v = .slice p 0 cap ∧ xs = []) ∨ ∃ b o cap c E fr, v = .slice (some ⟨b, o, none⟩) xs.length cap ∧ xs.length ≤ cap ∧ cap ≤ maxLen ∧ h b = some (.cells c E fr) ∧ Enc c o sz enc xs)

theorem ArgSl.le {α : Type} {h h' : Hp} {sz : Nat} {enc : α → List Value} {good : α → Prop} {v : Value} {xs : List α} (A : ArgSl h sz enc good v xs) (L : Le h h') : ArgSl h' sz enc good v xs := by
  obtain ⟨g, A⟩ := A
  rcases A with ⟨p, cap, e⟩ | ⟨b, o, cap, c, E, fr, e1, e2, e2', e3, e4⟩
  · exact ⟨g, .inl ⟨p, cap, e⟩⟩
  · exact ⟨g, .inr ⟨b, o, cap, c, E, fr, e1, e2, e2', L _ _ e3, e4⟩⟩

theorem ArgSl.shape {α : Type} {h : Hp} {sz : Nat} {enc : α → List Value} {good : α → Prop} {v : Value} {xs : List α} (A : ArgSl h sz enc good v xs) : ∃ p cap, v = .slice p xs.length cap := by
  rcases A.2 with ⟨p, cap, rfl, rfl⟩ | ⟨b, o, cap, c, E, fr, rfl, _⟩
  · exact ⟨p, cap, rfl⟩
  · exact ⟨_, cap, rfl⟩

theorem ArgSl.len {α : Type} {h : Hp} {sz : Nat} {enc : α → List Value} {good : α → Prop} {v : Value} {xs : List α} (A : ArgSl h sz enc good v xs) : xs.length ≤ maxLen := by
  rcases A.2 with ⟨p, cap, rfl, rfl⟩ | ⟨b, o, cap, c, E, fr, rfl, h1, h2, _⟩
  · simp
  · omega

theorem choose_list {α : Type} (p : Nat → α → Prop) : ∀ n, (∀ i, i < n → ∃ x, p i x) → ∃ xs : List α, xs.length = n ∧ ∀ i x, xs[i]? = some x → p i x
  | 0, _ => ⟨[], rfl, by simp⟩
  | n + 1, h => by
    obtain ⟨xs, hl, hx⟩ := choose_list p n (fun i hi => h i (by omega))
    obtain ⟨x, hx'⟩ := h n (by omega)
    refine ⟨xs ++ [x], by simp [hl], fun i y hy => ?_⟩
    rcases Nat.lt_trichotomy i n with e | e | e
    · rw [List.getElem?_append_left (by omega)] at hy; exact hx i y hy
    · subst e; rw [List.getElem?_append_right (by omega), hl] at hy; simp at hy; subst hy; exact hx'
    · rw [List.getElem?_eq_none (by simp [hl]; omega)] at hy; cases hy

theorem open_argSl {α : Type} {t e : TypeId} {ks : List Lk} {ec : α → List Value} {good : α → Prop} {W : World} {v : Value} {d : DataW H} {ps : List MemPlace} {b0 sz : Nat} (n : Nat)
    (ht : P.underlying t = some (.slice e)) (hk : flatK P n e = some ks) (hC : P.cellsOf e = sz) (h0 : 0 < sz)
    (hdec : ∀ cs, okLs enc P W 0 spare held ks cs → ∃ x, cs = ec x ∧ good x)
    (hv : Value.okWide P W .any b0 t v) (hd : DataW.Trod enc P W 0 spare held t v d ps) : ∃ xs, ArgSl (hpW W) sz ec good v xs := by
  obtain ⟨a, len, cap, rfl⟩ := okWide_slice ht hv
  obtain ⟨fuel, hf⟩ := hd
  rcases open_slice ht hf with ⟨h0, _⟩ | ⟨a', len', cap', m, n', D, Pl, hcs, _, hl, hm, hmm, _, hx⟩
  · simp [Value.cells] at h0
    obtain ⟨rfl, rfl, rfl⟩ := h0
    exact ⟨[], by simp, .inl ⟨_, _, rfl, rfl⟩⟩
  · simp [Value.cells] at hcs
    obtain ⟨rfl, rfl, rfl⟩ := hcs
    have hlm : len ≤ m := by rw [hmm]; split <;> omega
    rw [hC] at hx
    obtain ⟨xs, hxl, hxx⟩ := choose_list (fun i x => good x ∧ (ec x).length = sz ∧ (∀ j, j < sz → W.cell? (a'.add (i * sz + j)) = (ec x)[j]?)) len (fun i hi => by
      obtain ⟨cs', hc, ht'⟩ := hx i (by omega)
      obtain ⟨_, hcl, hat⟩ := World.cells?_some hc
      obtain ⟨x, rfl, hg⟩ := hdec cs' (flat_open n e ks _ _ _ hk ht')
      refine ⟨x, hg, hcl, fun j hj => ?_⟩
      rw [← Go.Deep.add_add, hat j hj])
    refine ⟨xs, fun x hx => ?_, ?_⟩
    · obtain ⟨i, hi, he⟩ := List.getElem_of_mem hx
      exact (hxx i x (by rw [List.getElem?_eq_getElem hi, he])).1
    · by_cases hl0 : len = 0
      · subst hl0
        have : xs = [] := by simpa using hxl
        exact .inl ⟨_, _, rfl, this⟩
      · right
        obtain ⟨b, o, s⟩ := a'
        have hx0 := hxx 0 xs[0] (List.getElem?_eq_getElem (by omega))
        have h1 := hx0.2.2 0 h0
        rw [List.getElem?_eq_getElem (by omega)] at h1
        simp only [Nat.zero_mul, Nat.add_zero, Addr.add, if_true, World.cell?] at h1
        split at h1
        · rename_i c E fr hb
          split at h1
          · cases h1
          · rename_i hs
            have hs' : s = none := by simpa using hs
            subst hs'
            refine ⟨b, o, cap, c, E, fr, by rw [hxl], by omega, hm, hb, fun i x hx j hj => ?_⟩
            have h2 := (hxx i x hx).2.2 j hj
            have e : ((⟨b, o, none⟩ : Addr).add (i * sz + j)) = ⟨b, o + (i * sz + j), none⟩ := by unfold Addr.add; split <;> simp_all
            rw [e] at h2
            simp only [World.cell?, hb] at h2
            rw [Nat.add_assoc]
            simpa using h2
        · cases h1
end
end Go.Proofs.Ytmbhlbohbpepaaa

/- The row bridge: numbers of arguments, parts of argument slices. -/
namespace Go.Proofs.Ytmbhlbohbpepaaa
open Go

theorem i64_wf {n : Int} (h : (Lit.int .i64 n).wf = true) : -9223372036854775808 ≤ n ∧ n < 9223372036854775808 := by
  have e1 : IntKind.i64.min = -9223372036854775808 := by decide
  have e2 : IntKind.i64.max = 9223372036854775807 := by decide
  simp [Lit.wf, e1, e2] at h
  omega

theorem u32_wf {n : Int} (h : (Lit.int .u32 n).wf = true) : ∃ m : Nat, n = m ∧ m < 2 ^ 32 := by
  have e1 : IntKind.u32.min = 0 := by decide
  have e2 : IntKind.u32.max = 4294967295 := by decide
  simp [Lit.wf, e1, e2] at h
  exact ⟨n.toNat, by omega, by omega⟩

theorem u16_wf {n : Int} (h : (Lit.int .u16 n).wf = true) : ∃ m : Nat, n = m ∧ m < 2 ^ 16 := by
  have e1 : IntKind.u16.min = 0 := by decide
  have e2 : IntKind.u16.max = 65535 := by decide
  simp [Lit.wf, e1, e2] at h
  exact ⟨n.toNat, by omega, by omega⟩

theorem u8_wf {n : Int} (h : (Lit.int .u8 n).wf = true) : ∃ m : Nat, n = m ∧ m < 2 ^ 8 := by
  have e1 : IntKind.u8.min = 0 := by decide
  have e2 : IntKind.u8.max = 255 := by decide
  simp [Lit.wf, e1, e2] at h
  exact ⟨n.toNat, by omega, by omega⟩

theorem ArgSl.at {α : Type} {h : Hp} {sz : Nat} {enc : α → List Value} {good : α → Prop} {v : Value} {xs : List α} {i : Nat} {x : α} (A : ArgSl h sz enc good v xs) (hx : xs[i]? = some x) :
    good x ∧ ∃ b o cap c E fr, v = .slice (some ⟨b, o, none⟩) xs.length cap ∧ h b = some (.cells c E fr) ∧ ∀ j, j < sz → c[o + i * sz + j]? = (enc x)[j]? := by
  refine ⟨A.1 x (List.mem_of_getElem? hx), ?_⟩
  rcases A.2 with ⟨p, cap, rfl, rfl⟩ | ⟨b, o, cap, c, E, fr, rfl, h1, h2, hb, he⟩
  · simp at hx
  · exact ⟨b, o, cap, c, E, fr, rfl, hb, he i x hx⟩

end Go.Proofs.Ytmbhlbohbpepaaa

/- Many calls of a table; RibTakes: the walk. -/
namespace Go.Proofs.Ytmbhlbohbpepaaa
open Go
set_option linter.unusedSimpArgs false
set_option linter.unusedVariables false

structure OpX where
  k : Int
  x : Rt
def OpX.enc (o : OpX) : List Value := .int .i64 o.k :: o.x.enc
def argOps9 (h : Hp) (v : Value) (xs : List OpX) : Prop := ArgSl h 8 OpX.enc (fun o => o.x.Good) v xs

theorem argOps9.get {h : Hp} {v : Value} {xs : List OpX} {i : Nat} {o : OpX} (A : argOps9 h v xs) (hx : xs[i]? = some o) :
    o.x.Good ∧ ∃ b f cap c E fr, v = .slice (some ⟨b, f, none⟩) xs.length cap ∧ h b = some (.cells c E fr) ∧ c[f + i * 8]? = some (.int .i64 o.k) ∧ c[f + i * 8 + 1]? = some (.int .u32 (o.x.a : Nat)) ∧ c[f + i * 8 + 2]? = some (.int .i64 o.x.l) ∧ c[f + i * 8 + 3]? = some (.int .i64 o.x.d) ∧
      c[f + i * 8 + 4]? = some (.int .i64 o.x.ds) ∧ c[f + i * 8 + 5]? = some (.int .i64 o.x.m) ∧ c[f + i * 8 + 6]? = some (.int .i64 o.x.nx) ∧ c[f + i * 8 + 7]? = some (.int .u16 (o.x.tg : Nat)) := by
  obtain ⟨hg, b, f, cap, c, E, fr, e, hb, he⟩ := ArgSl.at A hx
  exact ⟨hg, b, f, cap, c, E, fr, e, hb, he 0 (by omega), he 1 (by omega), he 2 (by omega), he 3 (by omega), he 4 (by omega), he 5 (by omega), he 6 (by omega), he 7 (by omega)⟩

/-- No more than there may be. -/
def Fit9 (most : Int) (m : List (RK × Rt)) : Prop := m = [] ∨ (m.length : Int) ≤ most

theorem fit_put {most rf : Int} {m : List (RK × Rt)} {x : Rt} (F : Fit9 most m) : Fit9 most (putS most rf m x).2.2 := by
  unfold putS
  split
  · exact F
  · split
    · exact F
    · rename_i h
      right
      simp only
      rw [setM_length]
      cases hg : getM m x.key with
      | none =>
        have : ¬ most ≤ (m.length : Int) := fun q => h ⟨hg, q⟩
        simp; omega
      | some y =>
        rcases F with rfl | F
        · simp [getM_nil] at hg
        · simpa using F

theorem fit_del {most : Int} {m : List (RK × Rt)} {k : RK} (F : Fit9 most m) : Fit9 most (delM k m) := by
  rcases F with rfl | F
  · exact .inl rfl
  · right
    have := (delM_sub (a := k) (m := m)).length_le
    omega

def TkInv (h0 : Hp) (most : Int) (v : Value) (xs : List OpX) (addr : Nat) (mm : Nat) (env : Env) (g : Hp) : Prop :=
  ∃ (i r : Nat) (rf : Int) (m : List (RK × Rt)) (T : PL) (k : Nat) (O : List Nat), env 0 = .int .i64 most ∧ env 1 = v ∧ env 2 = .int .u32 (addr : Nat) ∧ env 8 = .pointer (some ⟨r, 0, none⟩) ∧ env 9 = .int .i64 (i : Nat) ∧ i + mm = xs.length ∧ i ≤ xs.length ∧ k ≤ i ∧
    ROwn h0 g r (min most 64) rf m T k O ∧ Fit9 (min most 64) m

def TlInv (g0 : Hp) (is : Bool) (v : Value) (L : List Rt) (addr b : Nat) (mm : Nat) (env : Env) (g : Hp) : Prop :=
  g = g0 ∧ ∃ i : Nat, env 2 = .int .u32 (addr : Nat) ∧ env 10 = .pointer (some ⟨b, 0, none⟩) ∧ env 11 = .bool is ∧ env 12 = v ∧ env 13 = .int .i64 (i : Nat) ∧ i + mm = L.length ∧ i ≤ L.length

set_option maxRecDepth 20000 in
set_option maxHeartbeats 4000000 in
theorem takes_loop2 {h g0 : Hp} {m : List (RK × Rt)} {T : PL} {v : Value} {addr b : Nat} (R : RInv m T) (ha : addr < 2 ^ 32) (S : SlAt g0 T_api_Route 7 Rt.enc v (allR m (T.map (·.1)))) (fb : g0 b = some (rcl ((findR m T addr).getD rz))) (l : Le h g0) :
    ∀ mm env g, TlInv g0 (findR m T addr).isSome v (allR m (T.map (·.1))) addr b mm env g → octroilaw09_RibTakes_L1 (roundK (TlInv g0 (findR m T addr).isSome v (allR m (T.map (·.1))) addr b) mm (inBlk 2 (thenK (sq (rg octroilaw09_RibTakes_r20) (ex .ret)) (fin Try.prog [ResultVar.tmp 6] (fun r g => r = .bool true ∧ Le h g))))) env g := by
  rintro mm env g ⟨rfl, i, e2, e10, e11, e12, e13, him, hi⟩
  have hlen := allR_length_eq R
  have hml := R.len
  obtain ⟨p, cap, hv⟩ := S.shape'
  unfold octroilaw09_RibTakes_L1
  by_cases hm : mm = 0
  · have : i = (allR m (T.map (·.1))).length := by omega
    subst this
    simp (disch := omega) [octroilaw09_RibTakes_r16, octroilaw09_RibTakes_r20, e2, e10, e11, e12, e13, hv]
    exact .to _ (.refl _) ⟨rfl, l⟩
  · obtain ⟨y, hy⟩ : ∃ y, (allR m (T.map (·.1)))[i]? = some y := ⟨_, List.getElem?_eq_getElem (by omega)⟩
    obtain ⟨bb, cap', c, hv', hb, q0, q1, q2, q3, q4, q5, q6⟩ := rt_at S hy
    have hya := (allR_mem R).1 (List.mem_of_getElem? hy)
    obtain ⟨_, hmy, hgy⟩ := R.key _ (getM_mem hya)
    have hmy : mayR y = true := hmy
    have hgy : y.Good := hgy
    have hmb := mayR_mayB hmy
    have hi' : i < (allR m (T.map (·.1))).length := by omega
    rw [hv'] at e12
    simp (disch := omega) [octroilaw09_RibTakes_r16, e2, e10, e11, e12, e13, hi']
    simp (disch := omega) [octroilaw09_RibTakes_r17, e2, e10, e11, e12, e13, hi', hb, q0, q1]
    refine has_spec hgy.a ha ?_
    rw [hmb, Bool.true_and]
    have hp : hasB (y.a, y.l.toNat) addr = hasB (rpf y) addr := rfl
    rw [hp]
    cases hF : findR m T addr with
    | none =>
      rw [hF] at e11
      simp only [Option.isSome_none] at e11
      have hn := find_none R hF hya
      simp (disch := omega) [hn, e11, octroilaw09_RibTakes_r19, e13, wrap_i64]
      exact ⟨mm - 1, by omega, rfl, i + 1, by simp [e2], by simp [e10], by simp [e11], by simp [e12, hv'], by simp, by omega, by omega⟩
    | some x =>
      rw [hF] at e11 fb
      simp only [Option.isSome_some] at e11
      simp only [Option.getD_some] at fb
      obtain ⟨B1, B2, B3⟩ := find_is R hF
      have hgx := (R.key _ (getM_mem B1.1)).2.2
      have hgx : x.Good := hgx
      by_cases hh : hasB (rpf y) addr = true
      · have hle : ¬ x.l < y.l := by have := B3 y hya hh; omega
        by_cases he : y.a = x.a ∧ y.l = x.l
        · obtain ⟨he1, he2⟩ := he
          have hb' : ¬ cmpR y x < 0 := fun q => B1.2.2.2 y hya he1 he2 (cmpR_lt.1 q)
          have he1' := eq_true he1
          have he2' := eq_true he2
          have he3' := eq_true (show ((y.a : Nat) : Int) = ((x.a : Nat) : Int) by omega)
          clear he1 he2
          simp (disch := omega) [hh, e10, e11, e12, e13, fb, hi', hb, q0, q1, q2, q3, q4, q5, q6, hle, he1', he2', he3']
          refine better_spec hgy hgx ?_
          simp (disch := omega) [hb', octroilaw09_RibTakes_r19, e13, wrap_i64]
          exact ⟨mm - 1, by omega, rfl, i + 1, by simp [e2], by simp [e10], by simp [e11], by simp [e12, hv'], by simp, by omega, by omega⟩
        · have hne : (decide (y.a = x.a) && decide (y.l = x.l)) = false := by simp; omega
          have hne2 : (decide (((y.a : Nat) : Int) = ((x.a : Nat) : Int)) && decide (y.l = x.l)) = false := by simp; omega
          simp (disch := omega) [hh, e10, e11, e12, e13, fb, hi', hb, q0, q1, q2, q3, q4, q5, q6, hle, hne, hne2]
          simp (disch := omega) [octroilaw09_RibTakes_r19, e13, wrap_i64]
          exact ⟨mm - 1, by omega, rfl, i + 1, by simp [e2], by simp [e10], by simp [e11], by simp [e12, hv'], by simp, by omega, by omega⟩
      · have hh' : hasB (rpf y) addr = false := by simpa using hh
        by_cases he : y.a = x.a ∧ y.l = x.l
        · exfalso
          apply hh
          rw [show rpf y = rpf x by unfold rpf; rw [he.1, he.2]]
          exact B2
        · have hne : (decide (y.a = x.a) && decide (y.l = x.l)) = false := by simp; omega
          have hne2 : (decide (((y.a : Nat) : Int) = ((x.a : Nat) : Int)) && decide (y.l = x.l)) = false := by simp; omega
          simp (disch := omega) [hh', e10, e11, e12, e13, fb, hi', hb, q0, q1, q2, q3, q4, q5, q6, hne, hne2]
          simp (disch := omega) [octroilaw09_RibTakes_r19, e13, wrap_i64]
          exact ⟨mm - 1, by omega, rfl, i + 1, by simp [e2], by simp [e10], by simp [e11], by simp [e12, hv'], by simp, by omega, by omega⟩
end Go.Proofs.Ytmbhlbohbpepaaa

/- RibTakes: the route that is taken for an address has it, and none of a longer prefix has: the walk. -/
namespace Go.Proofs.Ytmbhlbohbpepaaa
open Go
set_option linter.unusedSimpArgs false
set_option linter.unusedVariables false

set_option maxRecDepth 20000 in
set_option maxHeartbeats 1000000 in
theorem takes_tail {h g : Hp} {r : Nat} {most rf : Int} {m : List (RK × Rt)} {T : PL} {k addr : Nat} {O : List Nat} (A : ROwn h g r (min most 64) rf m T k O) (ft : Fit9 (min most 64) m) (ha : addr < 2 ^ 32) (env : Env) (e0 : env 0 = .int .i64 most) (e2 : env 2 = .int .u32 (addr : Nat)) (e8 : env 8 = .pointer (some ⟨r, 0, none⟩)) :
    (sq (rg octroilaw09_RibTakes_r11) (sq (rg octroilaw09_RibTakes_r12) (sq (sq (rg octroilaw09_RibTakes_r13) (cnd (.tmp 97) (sq (rg octroilaw09_RibTakes_r14) (ex .ret)) (ex .normal))) (sq (sq (rg octroilaw09_RibTakes_r15) (blk 2 (lp octroilaw09_RibTakes_L1))) (sq (rg octroilaw09_RibTakes_r20) (ex .ret))))))
      (fin Try.prog [ResultVar.tmp 6] (fun r g => r = .bool true ∧ Le h g)) env g := by
  have R := A.m.inv
  have hlen := allR_length_eq R
  have hml := R.len
  simp (disch := omega) [octroilaw09_RibTakes_r11, e0, e2, e8]
  refine rfindM A.m ha (fun g1 l1 => ?_)
  have A1 := A.le2 l1
  obtain ⟨y, hy⟩ : ∃ y, y = (findR m T addr).getD rz := ⟨_, rfl⟩
  obtain ⟨s, hs⟩ : ∃ s, s = (findR m T addr).isSome := ⟨_, rfl⟩
  rw [← hy, ← hs]
  simp (disch := omega)
  intro b hb
  have L2 := Le.new (o := rcl y) hb
  have A2 := A1.le2 L2
  have fb : (g1.upd b (rcl y)) b = some (rcl y) := upd_same
  simp (disch := omega)
  generalize g1.upd b (rcl y) = g2 at *
  simp (disch := omega) [octroilaw09_RibTakes_r12, e0, e2, e8]
  refine rallM A2.m (fun v g3 l3 S nv => ?_)
  have A3 := A2.le2 l3
  replace fb := l3 _ _ fb
  obtain ⟨p, cap, hv⟩ := S.shape'
  have c1 : ¬ (64 : Int) < ((allR m (T.map (·.1))).length : Nat) := by omega
  have c2 : ¬ 64 < (allR m (T.map (·.1))).length := by omega
  have c3 : 0 < (allR m (T.map (·.1))).length → ¬ most < ((allR m (T.map (·.1))).length : Nat) := by
    intro q
    rcases ft with rfl | ft
    · rw [hlen] at q; simp at q
    · rw [hlen]; omega
  have go : ∀ env g', g' = g3 → env 2 = .int .u32 (addr : Nat) → env 10 = .pointer (some ⟨b, 0, none⟩) → env 11 = .bool s → env 12 = v →
      octroilaw09_RibTakes_r15 env g' (thenK (blk 2 (lp octroilaw09_RibTakes_L1)) (thenK (sq (rg octroilaw09_RibTakes_r20) (ex .ret)) (fin Try.prog [ResultVar.tmp 6] (fun r g => r = .bool true ∧ Le h g))) .normal) := by
    intro env g' hg e2 e10 e11 e12
    subst hg
    simp (disch := omega) [octroilaw09_RibTakes_r15]
    refine ⟨TlInv g' s v (allR m (T.map (·.1))) addr b, ⟨(allR m (T.map (·.1))).length, rfl, 0, by simp [e2], by simp [e10], by simp [e11], by simp [e12], by simp, by omega, by omega⟩, ?_⟩
    rw [hs]
    exact takes_loop2 R ha S (by rw [← hy]; exact fb) A3.le
  have go13 : ∀ env g', g' = g3 → env 0 = .int .i64 most → env 2 = .int .u32 (addr : Nat) → env 10 = .pointer (some ⟨b, 0, none⟩) → env 11 = .bool s → env 12 = v →
      octroilaw09_RibTakes_r13 env g' (thenK (cnd (.tmp 97) (sq (rg octroilaw09_RibTakes_r14) (ex .ret)) (ex .normal)) (thenK (sq (sq (rg octroilaw09_RibTakes_r15) (blk 2 (lp octroilaw09_RibTakes_L1))) (sq (rg octroilaw09_RibTakes_r20) (ex .ret))) (fin Try.prog [ResultVar.tmp 6] (fun r g => r = .bool true ∧ Le h g))) .normal) := by
    intro env g' hg e0 e2 e10 e11 e12
    subst hg
    have e12' := e12
    rw [hv] at e12'
    by_cases hz : 0 < (allR m (T.map (·.1))).length
    · have c3' := c3 hz
      have hz' : (0 : Int) < ((allR m (T.map (·.1))).length : Nat) := by omega
      cases hF : findR m T addr with
      | none =>
        rw [hF] at hs
        simp only [Option.isSome_none] at hs
        subst hs
        simp (disch := omega) [octroilaw09_RibTakes_r13, e0, e2, e10, e11, e12', c1, c2, c3', hz, hz']
        refine go _ _ rfl ?_ ?_ ?_ ?_ <;> simp [e2, e10, e11, e12]
      | some x =>
        rw [hF] at hs hy
        simp only [Option.isSome_some, Option.getD_some] at hs hy
        subst hs hy
        obtain ⟨B1, B2, B3⟩ := find_is R hF
        obtain ⟨_, hmx, hgx⟩ := R.key _ (getM_mem B1.1)
        have hmx : mayR y = true := hmx
        have hgx : y.Good := hgx
        simp (disch := omega) [octroilaw09_RibTakes_r13, e0, e2, e10, e11, e12', fb]
        refine has_spec hgx.a ha ?_
        rw [mayR_mayB hmx, Bool.true_and, show hasB (y.a, y.l.toNat) addr = true from B2]
        simp (disch := omega) [e0, e11, e2, e10, e12', c1, c2, c3', hz, hz']
        refine go _ _ rfl ?_ ?_ ?_ ?_ <;> simp [e2, e10, e11, e12]
    · have hz' : ¬ (0 : Int) < ((allR m (T.map (·.1))).length : Nat) := by omega
      cases hF : findR m T addr with
      | none =>
        rw [hF] at hs
        simp only [Option.isSome_none] at hs
        subst hs
        simp (disch := omega) [octroilaw09_RibTakes_r13, e0, e2, e10, e11, e12', c1, c2, hz, hz']
        refine go _ _ rfl ?_ ?_ ?_ ?_ <;> simp [e2, e10, e11, e12]
      | some x =>
        exfalso
        obtain ⟨B1, B2, B3⟩ := find_is R hF
        have := (allR_mem R).2 B1.1
        exact hz (List.length_pos_of_mem this)
  refine go13 _ _ rfl ?_ ?_ ?_ ?_ ?_ <;> simp [e0, e2]

set_option maxRecDepth 20000 in
set_option maxHeartbeats 1000000 in
theorem RibTakes_walk {h : Hp} {v : Value} {xs : List OpX} {most : Int} {addr : Nat} (A : argOps9 h v xs) (ha : addr < 2 ^ 32) :
    Ok Try.prog F_octroilaw09_RibTakes #[.int .i64 most, v, .int .u32 (addr : Nat)] h (fun r g => r = .bool true ∧ Le h g) := by
  obtain ⟨p, cap, hv⟩ := ArgSl.shape A
  have hlen := ArgSl.len A
  have hmax : maxLen < 2 ^ 63 := by decide
  refine octroilaw09_RibTakes_ok (by simp) ?_
  unfold octroilaw09_RibTakes_D
  simp (disch := omega) [octroilaw09_RibTakes_r0, octroilaw09_RibTakes_r1]
  refine awake_spec (fun h1 L1 => ?_)
  simp (disch := omega) [octroilaw09_RibTakes_r2]
  refine rnewM (fun r h2 O l2 n2 M2 => ?_)
  have A2 : ROwn h h2 r (min most 64) 0 [] [] 0 O := ⟨M2, L1.trans l2, fun x m => none_of_le L1 (n2 x m)⟩
  clear M2 n2 l2
  by_cases hbig : (150 : Int) < (xs.length : Int)
  · simp (disch := omega) [octroilaw09_RibTakes_r3, octroilaw09_RibTakes_r4, hv, hbig]
    exact .to _ (.refl _) ⟨rfl, A2.le⟩
  simp (disch := omega) [octroilaw09_RibTakes_r3, octroilaw09_RibTakes_r5, hv, hbig]
  refine ⟨TkInv h most v xs addr, ⟨xs.length, 0, r, 0, [], [], 0, O, by simp, by simp [hv], by simp, by simp, by simp, by omega, by omega, by omega, A2, .inl rfl⟩, ?_⟩
  clear A2 L1
  rintro mm env g ⟨i, r, rf, m, T, k, O, e0, e1, e2, e8, e9, him, hi, hk, A1, ft⟩
  unfold octroilaw09_RibTakes_L0
  by_cases hm : mm = 0
  · have : i = xs.length := by omega
    subst this
    simp (disch := omega) [octroilaw09_RibTakes_r6, e0, e1, e2, e8, e9, hv]
    have := takes_tail A1 ft ha
      ((((env.set 33 (.int .i64 (xs.length : Nat))).set 34 (.slice p xs.length cap)).set 35 (.int .i64 (xs.length : Nat))).set 36 (.bool false)) (by simp [e0]) (by simp [e2]) (by simp [e8])
    exact this
  · obtain ⟨o, ho⟩ : ∃ o, xs[i]? = some o := ⟨_, List.getElem?_eq_getElem (by omega)⟩
    obtain ⟨hg, b, f, cap', c, E, fr, hv', hb, q0, q1, q2, q3, q4, q5, q6, q7⟩ := argOps9.get A ho
    have hb' := A1.le _ _ hb
    have hi' : i < xs.length := by omega
    rw [hv'] at e1
    by_cases hk1 : o.k = 1
    · simp (disch := omega) [octroilaw09_RibTakes_r6, octroilaw09_RibTakes_r7, e0, e1, e2, e8, e9, hi', hb', q0, hk1]
      simp (disch := omega) [octroilaw09_RibTakes_r8, e0, e1, e2, e8, e9, hi', hb', q1, q2, q3]
      refine rtakeM A1.m hg.a (by omega) (fun hn g2 l2 M2 => ?_) (fun hn g2 O2 T2 F2 M2 => ?_)
      · simp (disch := omega) [octroilaw09_RibTakes_r10, e9, wrap_i64]
        exact ⟨mm - 1, by omega, i + 1, r, rf, m, T, k, O, by simp [e0], by simp [e1, hv'], by simp [e2], by simp [e8], by simp, by omega, by omega, by omega, ⟨M2, A1.le.trans l2, A1.new⟩, ft⟩
      · simp (disch := omega) [octroilaw09_RibTakes_r10, e9, wrap_i64]
        exact ⟨mm - 1, by omega, i + 1, r, rf, _, T2, k + 1, O2, by simp [e0], by simp [e1, hv'], by simp [e2], by simp [e8], by simp, by omega, by omega, by omega, A1.fr F2 M2, fit_del ft⟩
    · simp (disch := omega) [octroilaw09_RibTakes_r6, octroilaw09_RibTakes_r7, e0, e1, e2, e8, e9, hi', hb', q0, hk1]
      simp (disch := omega) [octroilaw09_RibTakes_r9, e0, e1, e2, e8, e9, hi', hb', q1, q2, q3, q4, q5, q6, q7]
      refine rputM A1.m hg (by omega) (fun g2 O2 T2 F2 M2 => ?_)
      simp (disch := omega) [octroilaw09_RibTakes_r10, e9, wrap_i64]
      exact ⟨mm - 1, by omega, i + 1, r, _, _, T2, k + 1, O2, by simp [e0], by simp [e1, hv'], by simp [e2], by simp [e8], by simp, by omega, by omega, by omega, A1.fr F2 M2, fit_put ft⟩
end Go.Proofs.Ytmbhlbohbpepaaa

/- What the arguments of these laws read: their flat parts. -/
namespace Go.Proofs.Ytmbhlbohbpepaaa
open Go

def rtKs : List Lk := [.int .u32, .int .i64, .int .i64, .int .i64, .int .i64, .int .i64, .int .u16]

theorem dec_rt {H : Type} {enc : TypeId × Value → H} {w : World} {base : Nat} {spare : Nat → Bool} {held : Bool} (cs : List Value) (h : okLs enc Try.prog w base spare held rtKs cs) : ∃ x : Rt, cs = x.enc ∧ x.Good := by
  obtain ⟨a, _, rfl, w1, h⟩ := okLs_int h
  obtain ⟨l, _, rfl, w2, h⟩ := okLs_int h
  obtain ⟨d, _, rfl, w3, h⟩ := okLs_int h
  obtain ⟨ds, _, rfl, w4, h⟩ := okLs_int h
  obtain ⟨m, _, rfl, w5, h⟩ := okLs_int h
  obtain ⟨nx, _, rfl, w6, h⟩ := okLs_int h
  obtain ⟨tg, _, rfl, w7, h⟩ := okLs_int h
  obtain rfl := okLs_nil h
  obtain ⟨a', rfl, ha⟩ := u32_wf w1
  obtain ⟨t', rfl, ht⟩ := u16_wf w7
  exact ⟨⟨a', l, d, ds, m, nx, t'⟩, rfl, ⟨ha, ht⟩⟩
end Go.Proofs.Ytmbhlbohbpepaaa

/- What the lists of calls and of routes read: their flat parts. -/
namespace Go.Proofs.Ytmbhlbohbpepaaa
open Go

def opKs9 : List Lk := .int .i64 :: rtKs

theorem dec_op9 {H : Type} {enc : TypeId × Value → H} {w : World} {base : Nat} {spare : Nat → Bool} {held : Bool} (cs : List Value) (h : okLs enc Try.prog w base spare held opKs9 cs) : ∃ x : OpX, cs = x.enc ∧ x.x.Good := by
  obtain ⟨k, vs, rfl, w1, h⟩ := okLs_int h
  obtain ⟨x, rfl, hg⟩ := dec_rt _ h
  exact ⟨⟨k, x⟩, rfl, hg⟩
end Go.Proofs.Ytmbhlbohbpepaaa

/- RibTakes: the route that is taken for an address has it, and none of a longer prefix has; none of its prefix comes ahead of it: the row. No condition. -/
namespace Go.Proofs.Ytmbhlbohbpepaaa.RibTakes_row
open Go Go.ChangeShapes Go.WideShapes Go.RowKit
theorem own_knob : ownKnob Try.prog.godebug = none := by kernel_rfl
theorem laid_out : laidOutB Try.prog = true := by kernel_rfl
set_option maxRecDepth 100000 in
theorem lifted (os : Os) (started : os.Started) (H : Type) (enc : TypeId × Value → H) :
    ReturnsInHanded {} Try.checked os 10 .any (Rows.ribTakesSpec.pre6 enc Try.prog Try.f10 Rows.ribTakesRow.domain false) (Rows.ribTakesSpec.post enc Try.prog Try.f10 false true false false) := by
  refine returnsInHanded_of_change_sized (C := Try.checked) own_knob started (by kernel_rfl) Try.func10
    (ChangeSpec.witness6 (enc := enc) (C := Try.checked) false ⟨#[], #[.int .i64 0, .slice none 0 0, .int .u32 0], []⟩ 8 (by kernel_rfl) (by kernel_rfl) (by kernel_rfl) (by kernel_rfl)) ?_
  intro W base args ds gs before hval hW hcnd hsz _
  have hW' := hW
  obtain ⟨p, q, hA, hV, rfl, hfz, hnd⟩ := hW
  obtain ⟨rfl, rfl⟩ := trodVars_none hV
  have hA' : DataW.TrodAll enc Try.prog W 0 (fun _ => true) true Try.f10.params.toList args.toList ds p := hA
  have hval' : ∀ (j : Nat) t v, Try.f10.params[j]? = some t → args[j]? = some v → Value.okWide Try.prog W .any base t v := hval
  rw [Try.params10] at hA' hval'
  obtain ⟨v0, vs0, d0, ds0, p0, q0, hargs, rfl, rfl, h0, r0⟩ := trodAll_cons hA'
  obtain ⟨v1, vs1, d1, ds1, p1, q1, rfl, rfl, rfl, h1, r1⟩ := trodAll_cons r0
  obtain ⟨v2, vs2, d2, ds2, p2, q2, rfl, rfl, rfl, h2, r2⟩ := trodAll_cons r1
  obtain ⟨rfl, rfl, rfl⟩ := trodAll_nil r2
  obtain rfl : args = #[v0, v1, v2] := by cases args; simp_all
  obtain ⟨n0, rfl, rfl, rfl, w0⟩ := open_int Try.underlying3 (hval' 0 _ v0 rfl rfl) h0
  obtain ⟨xs1, A1⟩ := open_argSl (ks := opKs9) (sz := 8) 4 Try.underlying48 (by kernel_rfl) (by kernel_rfl) (by decide) dec_op9 (hval' 1 _ v1 rfl rfl) h1
  obtain ⟨n2, rfl, rfl, rfl, w2⟩ := open_int Try.underlying22 (hval' 2 _ v2 rfl rfl) h2
  obtain ⟨a2, rfl, ha2⟩ := u32_wf w2
  refine (below_of (RibTakes_walk A1 ha2)).mono fun e W' ⟨he, bel⟩ => ?_
  subst he
  exact ⟨_, rfl, _, _, _, [], _, [], hW', trodAll_mk1 (shut_bool (by kernel_rfl) _), trodAll_below laid_out bel (by kernel_rfl) hA, rfl, bel.frame _, fun h => by cases h⟩
theorem over : Rows.ribTakesRow.holds Try.pinned (OpenSpec.ofChange Rows.ribTakesSpec) :=
  OpenClaim.holds_of_wide 10 Try.f10 rfl rfl rfl rfl rfl rfl rfl ⟨rfl, rfl, rfl, rfl, rfl⟩ rfl rfl rfl rfl rfl (by kernel_rfl) Try.func10 (by kernel_rfl)
    (of_decide_eq_true (by kernel_rfl)) (by unfold Func.isWrapper; first | (rw [if_pos (by decide +kernel)]; kernel_rfl) | (rw [if_neg (by decide +kernel)]; exact ⟨rfl, rfl⟩))
    (fun os started H enc _ => lifted os started H enc)
end Go.Proofs.Ytmbhlbohbpepaaa.RibTakes_row
namespace Go.Proofs.Ytmbhlbohbpepaaa
theorem ribTakes_holds : Rows.RibTakesSaid := RibTakes_row.over
#print axioms ribTakes_holds
end Go.Proofs.Ytmbhlbohbpepaaa
