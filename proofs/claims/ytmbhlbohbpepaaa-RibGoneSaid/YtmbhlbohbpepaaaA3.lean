/- The trie in memory: find, Get, Take, Put, Len, New. -/
import Derived.Test.YtmbhlbohbpepaaaA2
namespace Go.Proofs.Ytmbhlbohbpepaaa
open Go
set_option linter.unusedSimpArgs false

/-- The node of a prefix, if it has something. -/
def look (ns : List Nd) (a : Nat) (n : Int) : Option (Nat × Nd) :=
  if mayB a n = true then
    match down ns 0 (bitsFrom a 0 n.toNat) with
    | some at_ => match ns[at_]? with
      | some x => if x.has = true then some (at_, x) else none
      | none => none
    | none => none
  else none

theorem find_spec {h : Hp} {t nb : Nat} {most many : Int} {ns : List Nd} {cap : Nat} {c : Array Value} {a : Nat} {n : Int} {Q : Value → Hp → Prop} (T : TrieAt h t nb most many ns cap c) (O : NsOk ns) (ha : a < 2 ^ 32)
    (hQ : Q (match look ns a n with | some (at_, _) => .pointer (some ⟨nb, at_ * 4, none⟩) | none => .pointer none) h) :
    Ok Try.prog F_trie_Trie_find #[.pointer (some ⟨t, 0, none⟩), .agg #[.int .u32 a, .int .i64 n]] h Q := by
  refine trie_Trie_find_ok (by simp) ?_
  unfold trie_Trie_find_D
  simp (disch := omega) [trie_Trie_find_r0]
  intro b hb
  have l : Le h (h.upd b (.cells #[.int .u32 a, .int .i64 n] 24)) := .new hb
  have T1 : TrieAt (h.upd b (.cells #[.int .u32 a, .int .i64 n] 24)) t nb most many ns cap c := ⟨l _ _ T.t, l _ _ T.nb, T.le, T.size, T.enc⟩
  have hbb : (h.upd b (.cells #[.int .u32 a, .int .i64 n] 24)) b = some (.cells #[.int .u32 a, .int .i64 n] 24) := by simp
  generalize h.upd b (.cells #[.int .u32 a, .int .i64 n] 24) = g at *
  have ht := T1.t
  have hnb := T1.nb
  have fin1 : ∀ v, Q v h → drp Q v g := fun v q => .to h l q
  simp (disch := omega) [trie_Trie_find_r1, hbb]
  refine may_spec ha ?_
  by_cases hm : mayB a n = true
  · obtain ⟨h0, h1⟩ := mayB_le hm
    obtain ⟨m, rfl⟩ := Int.eq_ofNat_of_zero_le h0
    simp (disch := omega) [trie_Trie_find_r3, hbb, hm]
    refine walk_spec T1 O ha (by omega) (fun at_ hat hd => ?_) (fun hd => ?_)
    · obtain ⟨x, hx⟩ : ∃ x, ns[at_]? = some x := ⟨_, List.getElem?_eq_getElem hat⟩
      obtain ⟨_, _, _, e3⟩ := T1.get hx
      simp only [look, hm, if_true, Int.toNat_natCast, hd, hx] at hQ
      cases hh : x.has with
      | true =>
        rw [hh] at e3
        simp only [hh, if_true] at hQ
        simp (disch := omega) [trie_Trie_find_r4, trie_Trie_find_r6, hbb, ht, hnb, e3]
        exact fin1 _ hQ
      | false =>
        rw [hh] at e3
        simp only [hh, Bool.false_eq_true, if_false] at hQ
        simp (disch := omega) [trie_Trie_find_r4, trie_Trie_find_r5, hbb, ht, hnb, e3]
        exact fin1 _ hQ
    · simp only [look, hm, if_true, Int.toNat_natCast, hd] at hQ
      simp (disch := omega) [trie_Trie_find_r4, trie_Trie_find_r5, hbb, ht, hnb]
      exact fin1 _ hQ
  · simp only [look, hm, if_false] at hQ
    simp (disch := omega) [trie_Trie_find_r2, hm]
    exact fin1 _ hQ

theorem look_some {ns : List Nd} {a at_ : Nat} {n : Int} {x : Nd} (h : look ns a n = some (at_, x)) : mayB a n = true ∧ down ns 0 (bitsFrom a 0 n.toNat) = some at_ ∧ ns[at_]? = some x ∧ x.has = true := by
  unfold look at h
  split at h
  · rename_i hm
    split at h
    · rename_i at2 hd
      split at h
      · rename_i y hy
        split at h
        · rename_i hh; simp at h; obtain ⟨rfl, rfl⟩ := h; exact ⟨hm, hd, hy, hh⟩
        · cases h
      · cases h
    · cases h
  · cases h

theorem get_spec {h : Hp} {t nb : Nat} {most many : Int} {ns : List Nd} {cap : Nat} {c : Array Value} {a : Nat} {n : Int} {Q : Value → Hp → Prop} (T : TrieAt h t nb most many ns cap c) (O : NsOk ns) (ha : a < 2 ^ 32)
    (hQ : Q (match look ns a n with | some (_, x) => .tuple #[.int .i64 x.n, .bool true] | none => .tuple #[.int .i64 0, .bool false]) h) :
    Ok Try.prog F_trie_Trie_Get #[.pointer (some ⟨t, 0, none⟩), .agg #[.int .u32 a, .int .i64 n]] h Q := by
  refine trie_Trie_Get_ok (by simp) ?_
  unfold trie_Trie_Get_D
  simp (disch := omega) [trie_Trie_Get_r0]
  intro b hb
  have l : Le h (h.upd b (.cells #[.int .u32 a, .int .i64 n] 24)) := .new hb
  have T1 : TrieAt (h.upd b (.cells #[.int .u32 a, .int .i64 n] 24)) t nb most many ns cap c := ⟨l _ _ T.t, l _ _ T.nb, T.le, T.size, T.enc⟩
  have hbb : (h.upd b (.cells #[.int .u32 a, .int .i64 n] 24)) b = some (.cells #[.int .u32 a, .int .i64 n] 24) := by simp
  generalize h.upd b (.cells #[.int .u32 a, .int .i64 n] 24) = g at *
  have hnb := T1.nb
  simp (disch := omega) [trie_Trie_Get_r1, hbb]
  refine find_spec T1 O ha ?_
  cases hl : look ns a n with
  | none =>
    simp only [hl] at hQ
    simp (disch := omega) [trie_Trie_Get_r2, trie_Trie_Get_r3]
    exact .to h l hQ
  | some p =>
    obtain ⟨at_, x⟩ := p
    simp only [hl] at hQ
    obtain ⟨_, _, e2, _⟩ := T1.get (look_some hl).2.2.1
    simp (disch := omega) [trie_Trie_Get_r2, trie_Trie_Get_r4, hnb, e2]
    exact .to h l hQ

/-- Where a trie has a prefix, what it has is told anew. -/
theorem Enc.setN {c : Array Value} {ns : List Nd} {at_ : Nat} {x : Nd} (E : Enc c 0 4 Nd.enc ns) (hx : ns[at_]? = some x) (hs : ns.length * 4 ≤ c.size) (k : Int) :
    Enc (c.setIfInBounds (at_ * 4 + 2) (.int .i64 k)) 0 4 Nd.enc (ns.set at_ { x with n := k }) := by
  have hat : at_ < ns.length := (List.getElem?_eq_some_iff.1 hx).1
  refine E.setCell hx (by omega) (by omega) (fun j hj => ?_)
  have hjc : j = 0 ∨ j = 1 ∨ j = 2 ∨ j = 3 := by omega
  rcases hjc with rfl | rfl | rfl | rfl <;> simp [Nd.enc]

theorem Enc.setHas {c : Array Value} {ns : List Nd} {at_ : Nat} {x : Nd} (E : Enc c 0 4 Nd.enc ns) (hx : ns[at_]? = some x) (hs : ns.length * 4 ≤ c.size) (k : Bool) :
    Enc (c.setIfInBounds (at_ * 4 + 3) (.bool k)) 0 4 Nd.enc (ns.set at_ { x with has := k }) := by
  have hat : at_ < ns.length := (List.getElem?_eq_some_iff.1 hx).1
  refine E.setCell hx (by omega) (by omega) (fun j hj => ?_)
  have hjc : j = 0 ∨ j = 1 ∨ j = 2 ∨ j = 3 := by omega
  rcases hjc with rfl | rfl | rfl | rfl <;> simp [Nd.enc]

theorem Enc.setBoth {c : Array Value} {ns : List Nd} {at_ : Nat} {x : Nd} (E : Enc c 0 4 Nd.enc ns) (hx : ns[at_]? = some x) (hs : ns.length * 4 ≤ c.size) (k : Int) (u : Bool) :
    Enc ((c.setIfInBounds (at_ * 4 + 2) (.int .i64 k)).setIfInBounds (at_ * 4 + 3) (.bool u)) 0 4 Nd.enc (ns.set at_ { x with n := k, has := u }) := by
  have hat : at_ < ns.length := (List.getElem?_eq_some_iff.1 hx).1
  have := (E.setN hx hs k).setHas (x := { x with n := k }) (at_ := at_) (by rw [List.getElem?_set_self hat]) (by simp; omega) u
  rwa [List.set_set] at this

theorem take_spec {h : Hp} {t nb : Nat} {most many : Int} {ns : List Nd} {cap : Nat} {c : Array Value} {a : Nat} {n : Int} {Q : Value → Hp → Prop} (T : TrieAt h t nb most many ns cap c) (O : NsOk ns) (ha : a < 2 ^ 32) (hmany : 0 ≤ many ∧ many ≤ 1000000)
    (h1 : look ns a n = none → Q (.int .i64 5) h)
    (h2 : ∀ at_ x h' c', look ns a n = some (at_, x) → Chg h h' t nb nb → TrieAt h' t nb most (many - 1) (ns.set at_ { x with n := 0, has := false }) cap c' → Q (.int .i64 0) h') :
    Ok Try.prog F_trie_Trie_Take #[.pointer (some ⟨t, 0, none⟩), .agg #[.int .u32 a, .int .i64 n]] h Q := by
  refine trie_Trie_Take_ok (by simp) ?_
  unfold trie_Trie_Take_D
  simp (disch := omega) [trie_Trie_Take_r0]
  intro b hb
  have l : Le h (h.upd b (.cells #[.int .u32 a, .int .i64 n] 24)) := .new hb
  have T1 : TrieAt (h.upd b (.cells #[.int .u32 a, .int .i64 n] 24)) t nb most many ns cap c := ⟨l _ _ T.t, l _ _ T.nb, T.le, T.size, T.enc⟩
  have hbb : (h.upd b (.cells #[.int .u32 a, .int .i64 n] 24)) b = some (.cells #[.int .u32 a, .int .i64 n] 24) := by simp
  generalize h.upd b (.cells #[.int .u32 a, .int .i64 n] 24) = g at *
  have ht := T1.t
  have hnb := T1.nb
  have hne := T1.ne
  simp (disch := omega) [trie_Trie_Take_r1, hbb]
  refine find_spec T1 O ha ?_
  cases hl : look ns a n with
  | none =>
    simp (disch := omega) [trie_Trie_Take_r2, trie_Trie_Take_r3]
    exact .to h l (h1 hl)
  | some p =>
    obtain ⟨at_, x⟩ := p
    obtain ⟨_, _, hx, _⟩ := look_some hl
    have hat : at_ < ns.length := (List.getElem?_eq_some_iff.1 hx).1
    obtain ⟨_, _, e2, e3⟩ := T1.get hx
    have hs : ns.length * 4 ≤ c.size := Nat.le_trans (Nat.mul_le_mul_right 4 T.le) T.size
    have e3' : (c.setIfInBounds (at_ * 4 + 2) (.int .i64 0))[at_ * 4 + 3]? = some (.bool x.has) := by rw [Array.getElem?_setIfInBounds_ne (by omega)]; exact e3
    simp (disch := omega) [trie_Trie_Take_r2, trie_Trie_Take_r4, trie_Trie_Take_r5, trie_Trie_Take_r6, ht, hnb, e2, e3, e3', hne, Ne.symm hne, wrap_i64]
    refine .to _ (.refl _) (h2 at_ x _ _ hl ⟨fun y o hy h1 h2 => ?_, .inl rfl⟩ ⟨by simp [hne], by simp [Ne.symm hne], by simpa using T.le, by simpa using T.size, T.enc.setBoth hx hs 0 false⟩)
    simp [h1, h2, l _ _ hy]


theorem new_spec {h : Hp} {most : Int} {Q : Value → Hp → Prop}
    (hQ : ∀ t nb h' c, h t = none → h nb = none → (∀ x o, h x = some o → h' x = some o) → TrieAt h' t nb most 0 [nd0] 1 c → Q (.pointer (some ⟨t, 0, none⟩)) h') :
    Ok Try.prog F_trie_New #[.int .i64 most] h Q := by
  refine trie_New_ok (by simp) ?_
  unfold trie_New_D
  simp (disch := omega) [trie_New_r0, trie_New_r1]
  intro nb hnb t ht
  obtain ⟨hne, ht'⟩ := upd_none ht
  refine .to _ (.refl _) (hQ t nb _ #[.int .i64 0, .int .i64 0, .int .i64 0, .bool false] ht' hnb (fun x o hx => ?_) ⟨by simp, by simp [Ne.symm hne], by simp, by simp, fun i x hx j hj => ?_⟩)
  · simp [ne_new hx ht', ne_new hx hnb, hx]
  · have hi : i = 0 := by
      rcases Nat.eq_zero_or_pos i with e | e
      · exact e
      · rw [List.getElem?_eq_none (by simp; omega)] at hx; cases hx
    subst hi
    simp at hx
    subst hx
    have hjc : j = 0 ∨ j = 1 ∨ j = 2 ∨ j = 3 := by omega
    rcases hjc with rfl | rfl | rfl | rfl <;> simp [Nd.enc, nd0]

theorem put_spec {h : Hp} {t nb : Nat} {most many : Int} {ns : List Nd} {cap : Nat} {c : Array Value} {a : Nat} {n k : Int} {Q : Value → Hp → Prop} (T : TrieAt h t nb most many ns cap c) (O : NsOk ns) (ha : a < 2 ^ 32) (hmany : 0 ≤ many ∧ many ≤ 1000000)
    (hf : ns.length + 32 ≤ 1000000)
    (h1 : mayB a n = false → Q (.int .i64 1) h)
    (h2 : ∀ at_ x h' c', look ns a n = some (at_, x) → Chg h h' t nb nb → TrieAt h' t nb most many (ns.set at_ { x with n := k }) cap c' → Q (.int .i64 0) h')
    (h3 : mayB a n = true → look ns a n = none → most ≤ many → Q (.int .i64 4) h)
    (h4 : ∀ x h' nb' cap' c', mayB a n = true → look ns a n = none → many < most → Chg h h' t nb nb' → NsOk (mkDown ns 0 (bitsFrom a 0 n.toNat)).2 → (mkDown ns 0 (bitsFrom a 0 n.toNat)).2[(mkDown ns 0 (bitsFrom a 0 n.toNat)).1]? = some x →
      TrieAt h' t nb' most (many + 1) ((mkDown ns 0 (bitsFrom a 0 n.toNat)).2.set (mkDown ns 0 (bitsFrom a 0 n.toNat)).1 { x with n := k, has := true }) cap' c' → Q (.int .i64 0) h') :
    Ok Try.prog F_trie_Trie_Put #[.pointer (some ⟨t, 0, none⟩), .agg #[.int .u32 a, .int .i64 n], .int .i64 k] h Q := by
  refine trie_Trie_Put_ok (by simp) ?_
  unfold trie_Trie_Put_D
  simp (disch := omega) [trie_Trie_Put_r0]
  intro b hb
  have l : Le h (h.upd b (.cells #[.int .u32 a, .int .i64 n] 24)) := .new hb
  have T1 : TrieAt (h.upd b (.cells #[.int .u32 a, .int .i64 n] 24)) t nb most many ns cap c := ⟨l _ _ T.t, l _ _ T.nb, T.le, T.size, T.enc⟩
  have hbb : (h.upd b (.cells #[.int .u32 a, .int .i64 n] 24)) b = some (.cells #[.int .u32 a, .int .i64 n] 24) := by simp
  generalize h.upd b (.cells #[.int .u32 a, .int .i64 n] 24) = g at *
  have ht := T1.t
  have hnb := T1.nb
  have hne := T1.ne
  simp (disch := omega) [trie_Trie_Put_r1, hbb]
  refine find_spec T1 O ha ?_
  simp (disch := omega) [trie_Trie_Put_r2, hbb]
  refine may_spec ha ?_
  cases hm : mayB a n with
  | false =>
    simp (disch := omega) [trie_Trie_Put_r3]
    exact .to h l (h1 hm)
  | true =>
  cases hl : look ns a n with
  | some p =>
    obtain ⟨at_, x⟩ := p
    obtain ⟨_, _, hx, _⟩ := look_some hl
    have hat : at_ < ns.length := (List.getElem?_eq_some_iff.1 hx).1
    obtain ⟨_, _, e2, e3⟩ := T1.get hx
    have hs : ns.length * 4 ≤ c.size := Nat.le_trans (Nat.mul_le_mul_right 4 T.le) T.size
    simp (disch := omega) [trie_Trie_Put_r4, trie_Trie_Put_r5, trie_Trie_Put_r6, ht, hnb, e2, hne, Ne.symm hne]
    refine .to _ (.refl _) (h2 at_ x _ _ hl ⟨fun y o hy h1 h2 => ?_, .inl rfl⟩ ⟨by simp [hne, ht], by simp, by simpa using T.le, by simpa using T.size, T.enc.setN hx hs k⟩)
    simp [h1, h2, l _ _ hy]
  | none =>
    by_cases hful : most ≤ many
    · simp (disch := omega) [trie_Trie_Put_r4, trie_Trie_Put_r7, trie_Trie_Put_r8, ht, hful]
      exact .to h l (h3 hm hl hful)
    · obtain ⟨h0, h32⟩ := mayB_le hm
      obtain ⟨m, rfl⟩ := Int.eq_ofNat_of_zero_le h0
      simp (disch := omega) [trie_Trie_Put_r4, trie_Trie_Put_r7, trie_Trie_Put_r9, hbb, ht, hful]
      refine make_spec T1 O hf ha (by omega) (fun h' nb' cap' c' C T' O' hlt => ?_)
      have ht' := T'.t
      have hnb' := T'.nb
      have hne' := T'.ne
      simp only [Int.toNat_natCast] at h4
      generalize hmk : mkDown ns 0 (bitsFrom a 0 m) = mk at *
      obtain ⟨at_, ns'⟩ := mk
      simp only at *
      obtain ⟨x, hx⟩ : ∃ x, ns'[at_]? = some x := ⟨_, List.getElem?_eq_getElem hlt⟩
      obtain ⟨_, _, e2, e3⟩ := T'.get hx
      have hs : ns'.length * 4 ≤ c'.size := Nat.le_trans (Nat.mul_le_mul_right 4 T'.le) T'.size
      have e3' : (c'.setIfInBounds (at_ * 4 + 2) (.int .i64 k))[at_ * 4 + 3]? = some (.bool x.has) := by rw [Array.getElem?_setIfInBounds_ne (by omega)]; exact e3
      simp (disch := omega) [trie_Trie_Put_r10, trie_Trie_Put_r11, trie_Trie_Put_r12, ht', hnb', e2, e3, e3', hne', Ne.symm hne', wrap_i64]
      refine .to _ (.refl _) (h4 x _ nb' cap' _ hm hl (by omega) ⟨fun y o hy h1 h2 => ?_, ?_⟩ O' hx ⟨by simp [hne'], by simp [Ne.symm hne'], by simpa using T'.le, by simpa using T'.size, T'.enc.setBoth hx hs k true⟩)
      · have hy' := C.keep y o (l _ _ hy) h1 h2
        have : y ≠ nb' := by
          rintro rfl
          rcases C.fresh with e | e
          · exact h2 e
          · rw [l _ _ hy] at e; cases e
        simp [h1, this, hy']
      · rcases C.fresh with e | e
        · exact .inl e
        · refine .inr ?_
          cases hq : h nb' with
          | none => rfl
          | some o => rw [l _ _ hq] at e; cases e
end Go.Proofs.Ytmbhlbohbpepaaa
