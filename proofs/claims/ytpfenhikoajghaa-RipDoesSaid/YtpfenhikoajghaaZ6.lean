/- tags.Has. -/
import Derived.Test.YtpfenhikoajghaaZ5

set_option linter.unusedSimpArgs false
set_option linter.unusedVariables false

namespace Go.Proofs.Ytpfenhikoajghaa
open Go
set_option linter.unusedSimpArgs false

/-- A set has a domain. -/
def hasT (t : Nat) (d : Int) : Bool := decide (0 ≤ d) && (decide (d < 16) && (t / 2 ^ d.toNat % 2 == 1))

theorem tmay_spec {d : Int} {h : Hp} {Q : Value → Hp → Prop} (hQ : Q (.bool (decide (0 ≤ d) && decide (d < 16))) h) : Ok Try.prog F_tags_may #[.int .i64 d] h Q := by
  refine tags_may_ok (by simp) ?_
  unfold tags_may_D
  by_cases h0 : 0 ≤ d
  · simp (disch := omega) [tags_may_r0, tags_may_r1, h0]
    exact .to _ (.refl _) (by simpa [h0] using hQ)
  · simp (disch := omega) [tags_may_r0, tags_may_r1, h0]
    exact .to _ (.refl _) (by simpa [h0] using hQ)

theorem thas_spec {t : Nat} {d : Int} {h : Hp} {Q : Value → Hp → Prop} (ht : t < 2 ^ 16) (hQ : Q (.bool (hasT t d)) h) : Ok Try.prog F_tags_Has #[.int .u16 (t : Nat), .int .i64 d] h Q := by
  refine tags_Has_ok (by simp) ?_
  unfold tags_Has_D
  simp (disch := omega) [tags_Has_r0, tags_Has_r1]
  refine tmay_spec ?_
  by_cases h0 : 0 ≤ d
  · by_cases h1 : d < 16
    · obtain ⟨m, rfl⟩ := Int.eq_ofNat_of_zero_le h0
      have hm : m < 16 := by omega
      have e1 : min m 16 = m := by omega
      have e2 : bits_and .u16 ((t : Int).fdiv (2 ^ m)) 1 = ((t / 2 ^ m % 2 : Nat) : Int) := by
        rw [fdiv_pow]
        have := bits_and_u16 (a := t / 2 ^ m) (b := 1) (Nat.lt_of_le_of_lt (Nat.div_le_self _ _) ht) (by omega)
        rw [Nat.and_one_is_mod] at this
        exact this
      have e3 : decide (((t / 2 ^ m % 2 : Nat) : Int) = 1) = hasT t (m : Int) := by
        unfold hasT
        rw [Bool.eq_iff_iff]
        simp only [decide_eq_true_eq, Bool.and_eq_true, beq_iff_eq, Int.toNat_natCast]
        omega
      generalize t / 2 ^ m % 2 = q at e2 e3
      simp (disch := omega) [h0, hm, h1, e1, e2]
      refine .to _ (.refl _) ?_
      rw [← e3] at hQ
      exact hQ
    · simp (disch := omega) [h0, h1]
      exact .to _ (.refl _) (by simpa [hasT, h0, h1] using hQ)
  · simp (disch := omega) [h0]
    exact .to _ (.refl _) (by simpa [hasT, h0] using hQ)
end Go.Proofs.Ytpfenhikoajghaa

/- num.Add. -/
namespace Go.Proofs.Ytpfenhikoajghaa
open Go
set_option linter.unusedSimpArgs false

/-- The sum of two numbers, or the most. -/
def addM (a b most : Int) : Int := min (max a 0) (max most 0) + min (max b 0) (max most 0 - min (max a 0) (max most 0))

theorem add_spec {a b most : Int} {h : Hp} {Q : Value → Hp → Prop} (hm : most < 9223372036854775808) (hQ : Q (.int .i64 (addM a b most)) h) : Ok Try.prog F_num_Add #[.int .i64 a, .int .i64 b, .int .i64 most] h Q := by
  refine num_Add_ok (by simp) ?_
  unfold num_Add_D
  simp (disch := omega) [num_Add_r0, num_Add_r1, num_Add_r2, wrap_i64]
  exact .to _ (.refl _) hQ
end Go.Proofs.Ytpfenhikoajghaa

/- prefix.Mask, prefix.May. -/
namespace Go.Proofs.Ytpfenhikoajghaa
open Go
set_option linter.unusedSimpArgs false

theorem mask_spec {n : Int} {h : Hp} {Q : Value → Hp → Prop} (hQ : Q (.int .u32 (maskI n)) h) : Ok Try.prog F_prefix_Mask #[.int .i64 n] h Q := by
  refine prefix_Mask_ok (by simp) ?_
  unfold prefix_Mask_D
  simp (disch := omega) [prefix_Mask_r0, prefix_Mask_r1, wrap_i64]
  exact .to h (.refl _) hQ

theorem may_spec {a : Nat} {n : Int} {h : Hp} {Q : Value → Hp → Prop} (ha : a < 2 ^ 32) (hQ : Q (.bool (mayB a n)) h) : Ok Try.prog F_prefix_May #[.agg #[.int .u32 a, .int .i64 n]] h Q := by
  refine prefix_May_ok (by simp) ?_
  unfold prefix_May_D
  simp (disch := omega) [prefix_May_r0]
  intro b hb
  by_cases h0 : 0 ≤ n
  · by_cases h1 : n ≤ 32
    · simp (disch := omega) [prefix_May_r1, h0, h1]
      refine mask_spec ?_
      obtain ⟨m, rfl⟩ := Int.eq_ofNat_of_zero_le h0
      rw [maskI_nat (by omega)]
      simp (disch := omega) [bits_andNot_msk]
      refine .to h (.new hb) ?_
      rw [mayB_eq (by omega)] at hQ
      exact hQ
    · simp (disch := omega) [prefix_May_r1, h0, h1]
      refine .to h (.new hb) ?_
      simpa [mayB, h0, h1] using hQ
  · simp (disch := omega) [prefix_May_r1, h0]
    refine .to h (.new hb) ?_
    simpa [mayB, h0] using hQ

end Go.Proofs.Ytpfenhikoajghaa

/- RIP: one route; what is heard of it. -/
namespace Go.Proofs.Ytpfenhikoajghaa
open Go
set_option linter.unusedSimpArgs false
set_option linter.unusedVariables false

structure Rr where
  m : Int
  n : Int
  e : Int
  tag : Nat
deriving DecidableEq
abbrev rcells (x : Rr) : Array Value := #[.int .i64 x.m, .int .i64 x.n, .int .i64 x.e, .int .u16 (x.tag : Nat)]
abbrev T_rt : Nat := 73
abbrev T_rip : Nat := 67
abbrev RtAt (h : Hp) (b : Nat) (x : Rr) : Prop := h b = some (.cells (rcells x) T_rt (0, 0))

def spoilR (x : Rr) (now : Int) : Rr := { x with m := 16, e := now + 120 }
def hearX (x : Rr) (f m : Int) (tag : Nat) (now : Int) : Bool × Rr :=
  if x.m < 16 ∧ x.n = 0 then (false, x)
  else if x.m < 16 ∧ x.n = f then (if m = 16 then (true, spoilR x now) else (decide (m ≠ x.m ∨ tag ≠ x.tag), ⟨m, x.n, now + 180, tag⟩))
  else if m < x.m then (true, ⟨m, f, now + 180, tag⟩) else (false, x)

section
variable {h : Hp} {b : Nat} {x : Rr} {Q : Value → Hp → Prop}

theorem reachedM (hb : RtAt h b x) (hQ : Q (.bool (decide (x.m < 16))) h) : Ok Try.prog F_rip_route_reached #[.pointer (some ⟨b, 0, none⟩)] h Q := by
  refine rip_route_reached_ok (by simp) ?_
  unfold rip_route_reached_D
  simp (disch := omega) [rip_route_reached_r0, rip_route_reached_r1, hb]
  exact .to _ (.refl _) hQ

theorem spoilM {now : Int} (hb : RtAt h b x) (h1 : -1000000000000000 ≤ now) (h2 : now ≤ 1000000000000000) (hQ : Q (.tuple #[]) (h.upd b (.cells (rcells (spoilR x now)) T_rt (0, 0)))) : Ok Try.prog F_rip_route_spoil #[.pointer (some ⟨b, 0, none⟩), .int .i64 now] h Q := by
  refine rip_route_spoil_ok (by simp) ?_
  unfold rip_route_spoil_D
  simp (disch := omega) [rip_route_spoil_r0, hb, wrap_i64]
  exact .to _ (.refl _) hQ

theorem hearM {f m : Int} {tag : Nat} {now : Int} (hb : RtAt h b x) (h1 : 0 ≤ now) (h2 : now ≤ 1099511627776) (hQ : Q (.bool (hearX x f m tag now).1) (h.upd b (.cells (rcells (hearX x f m tag now).2) T_rt (0, 0)))) :
    Ok Try.prog F_rip_route_hear #[.pointer (some ⟨b, 0, none⟩), .int .i64 f, .int .i64 m, .int .u16 (tag : Nat), .int .i64 now] h Q := by
  refine rip_route_hear_ok (by simp) ?_
  unfold rip_route_hear_D
  unfold hearX at hQ
  simp (disch := omega) [rip_route_hear_r0, rip_route_hear_r1]
  refine reachedM hb ?_
  by_cases c1 : x.m < 16
  · by_cases c2 : x.n = 0
    · rw [if_pos ⟨c1, c2⟩] at hQ
      rw [upd_self hb] at hQ
      simp (disch := omega) [c1, c2, hb, rip_route_hear_r2]
      exact .to _ (.refl _) hQ
    · rw [if_neg (fun q => c2 q.2)] at hQ
      by_cases c3 : x.n = f
      · rw [if_pos ⟨c1, c3⟩] at hQ
        have c2f : ¬ f = 0 := by omega
        by_cases c4 : m = 16
        · rw [if_pos c4] at hQ
          simp (disch := omega) [c1, c2, c2f, hb, rip_route_hear_r3]
          refine reachedM hb ?_
          simp (disch := omega) [c1, c2, c3, c4, hb]
          simp (disch := omega) [rip_route_hear_r4]
          refine spoilM hb (by omega) (by omega) ?_
          simp (disch := omega) [rip_route_hear_r5]
          exact .to _ (.refl _) hQ
        · rw [if_neg c4] at hQ
          simp (disch := omega) [c1, c2, c2f, hb, rip_route_hear_r3]
          refine reachedM hb ?_
          simp (disch := omega) [c1, c2, c3, c4, hb]
          simp (disch := omega) [rip_route_hear_r6]
          refine reachedM hb ?_
          by_cases c5 : m = x.m
          · by_cases c6 : tag = x.tag
            · subst c6
              simp (disch := omega) [c1, c2, c3, c5, hb, rip_route_hear_r7, rip_route_hear_r8, rip_route_hear_r9, wrap_i64]
              exact .to _ (.refl _) (by simpa [c5, c3] using hQ)
            · have c6' : ¬ (tag : Int) = (x.tag : Int) := by omega
              simp (disch := omega) [c1, c2, c3, c5, c6, c6', hb, rip_route_hear_r7, rip_route_hear_r8, rip_route_hear_r9, wrap_i64]
              exact .to _ (.refl _) (by simpa [c5, c6, c3] using hQ)
          · simp (disch := omega) [c1, c2, c3, c5, hb, rip_route_hear_r7, rip_route_hear_r8, rip_route_hear_r9, wrap_i64]
            exact .to _ (.refl _) (by simpa [c5, c3] using hQ)
      · rw [if_neg (fun q => c3 q.2)] at hQ
        simp (disch := omega) [c1, c2, hb, rip_route_hear_r3]
        refine reachedM hb ?_
        simp (disch := omega) [c1, c2, c3, hb]
        simp (disch := omega) [rip_route_hear_r6]
        refine reachedM hb ?_
        by_cases c5 : m < x.m
        · rw [if_pos c5] at hQ
          simp (disch := omega) [c1, c2, c3, c5, hb, rip_route_hear_r10, rip_route_hear_r11, rip_route_hear_r12, wrap_i64]
          exact .to _ (.refl _) hQ
        · rw [if_neg c5, upd_self hb] at hQ
          simp (disch := omega) [c1, c2, c3, c5, hb, rip_route_hear_r10, rip_route_hear_r13, wrap_i64]
          exact .to _ (.refl _) hQ
  · rw [if_neg (fun q => c1 q.1), if_neg (fun q => c1 q.1)] at hQ
    simp (disch := omega) [c1, hb, rip_route_hear_r3]
    refine reachedM hb ?_
    simp (disch := omega) [c1, hb]
    simp (disch := omega) [rip_route_hear_r6]
    refine reachedM hb ?_
    by_cases c5 : m < x.m
    · rw [if_pos c5] at hQ
      simp (disch := omega) [c1, c5, hb, rip_route_hear_r10, rip_route_hear_r11, rip_route_hear_r12, wrap_i64]
      exact .to _ (.refl _) hQ
    · rw [if_neg c5, upd_self hb] at hQ
      simp (disch := omega) [c1, c5, hb, rip_route_hear_r10, rip_route_hear_r13, wrap_i64]
      exact .to _ (.refl _) hQ
end

/-! ### In memory -/
abbrev RB := Nat × Rr
def rbv (x : RB) : Value := .pointer (some ⟨x.1, 0, none⟩)
abbrev RM := List (PK × RB)
abbrev RS := List (PK × Rr)
def strip (m : RM) : RS := m.map fun e => (e.1, e.2.2)

structure RipAt (h : Hp) (p r : Nat) (dom most : Int) (m : RM) : Prop where
  pt : h p = some (.cells #[.int .i64 dom, .int .i64 most, .map (some r)] T_rip (0, 0))
  mp : MapB h r kvalP rbv m
  un : Uniq m
  bl : ∀ e ∈ m, RtAt h e.2.1 e.2.2
  nb : (m.map (·.2.1)).Nodup
  gd : ∀ e ∈ m, e.1.1 < 2 ^ 32 ∧ e.2.2.tag < 2 ^ 16
  le : m.length ≤ 64

def ownR (p r : Nat) (m : RM) : List Nat := p :: r :: m.map (·.2.1)

section
variable {h h' : Hp} {p r : Nat} {dom most : Int} {m : RM}

theorem RipAt.pr (A : RipAt h p r dom most m) : p ≠ r := by
  obtain ⟨es, cl, e, _⟩ := A.mp
  rintro rfl; have := A.pt; rw [e] at this; cases this
theorem RipAt.pb (A : RipAt h p r dom most m) {e : PK × RB} (he : e ∈ m) : e.2.1 ≠ p ∧ e.2.1 ≠ r := by
  have := A.bl e he
  refine ⟨fun q => ?_, fun q => ?_⟩
  · rw [q] at this; have h2 := A.pt; rw [this] at h2; simp at h2
  · rw [q] at this; obtain ⟨es, cl, h2, _⟩ := A.mp; rw [this] at h2; cases h2
theorem RipAt.alive (A : RipAt h p r dom most m) : ∀ x, x ∈ ownR p r m → ∃ o, h x = some o := by
  intro x hx
  simp only [ownR, List.mem_cons, List.mem_map] at hx
  rcases hx with rfl | rfl | ⟨e, he, rfl⟩
  · exact ⟨_, A.pt⟩
  · exact A.mp.alive
  · exact ⟨_, A.bl e he⟩
theorem RipAt.le' (A : RipAt h p r dom most m) (l : Le h h') : RipAt h' p r dom most m := ⟨l _ _ A.pt, A.mp.le l, A.un, fun e he => l _ _ (A.bl e he), A.nb, A.gd, A.le⟩
theorem RipAt.keep (A : RipAt h p r dom most m) (k : ∀ x o, x ∈ ownR p r m → h x = some o → h' x = some o) : RipAt h' p r dom most m := by
  refine ⟨k _ _ (by simp [ownR]) A.pt, ?_, A.un, fun e he => k _ _ (by simp only [ownR, List.mem_cons, List.mem_map]; exact .inr (.inr ⟨e, he, rfl⟩)) (A.bl e he), A.nb, A.gd, A.le⟩
  obtain ⟨es, cl, e, H⟩ := A.mp
  exact ⟨es, cl, k _ _ (by simp [ownR]) e, H⟩

theorem getM_strip {m : RM} {k : PK} : getM (strip m) k = (getM m k).map (·.2) := by
  induction m with
  | nil => rfl
  | cons x xs ih =>
    rw [strip, List.map_cons, getM_cons, getM_cons]
    split
    · rfl
    · exact ih
theorem strip_length {m : RM} : (strip m).length = m.length := by simp [strip]
theorem strip_keys {m : RM} : (strip m).map (·.1) = m.map (·.1) := by simp [strip]
theorem strip_set {m : RM} {k : PK} {x : RB} : strip (setM k x m) = setM k x.2 (strip m) := by
  induction m with
  | nil => rfl
  | cons y ys ih =>
    simp only [strip, setM, List.map_cons] at *
    split
    · rfl
    · simp only [List.map_cons]; rw [ih]
theorem strip_uniq {m : RM} (u : Uniq m) : Uniq (strip m) := by unfold Uniq at *; rw [strip_keys]; exact u

/-- One route changed in place. -/
def chg (k : PK) (x : Rr) (m : RM) : RM := m.map fun e => if e.1 = k then (e.1, e.2.1, x) else e

theorem chg_keys {k : PK} {x : Rr} {m : RM} : (chg k x m).map (·.1) = m.map (·.1) := by
  unfold chg; rw [List.map_map]; refine List.map_congr_left fun e _ => ?_; simp only [Function.comp]; split <;> rfl
theorem chg_blks {k : PK} {x : Rr} {m : RM} : (chg k x m).map (·.2.1) = m.map (·.2.1) := by
  unfold chg; rw [List.map_map]; refine List.map_congr_left fun e _ => ?_; simp only [Function.comp]; split <;> rfl
theorem chg_ents {k : PK} {x : Rr} {m : RM} {es : List MapEntry} (H : Ents kvalP rbv es m) : Ents kvalP rbv es (chg k x m) := by
  induction H with
  | nil => exact .nil
  | @cons e es k' v m h1 h2 h3 ih =>
    unfold chg at *
    rw [List.map_cons]
    by_cases q : k' = k
    · simp only [q, if_true]; exact .cons (by rw [h1, q]) (by rw [h2]; rfl) ih
    · simp only [q, if_false]; exact .cons h1 h2 ih
theorem chg_strip {k : PK} {x : Rr} {m : RM} (u : Uniq m) (hin : (getM m k).isSome = true) : strip (chg k x m) = setM k x (strip m) := by
  induction m with
  | nil => cases hin
  | cons y ys ih =>
    unfold Uniq at u
    rw [List.map_cons, List.nodup_cons] at u
    rw [getM_cons] at hin
    unfold chg strip at *
    simp only [List.map_cons, setM]
    by_cases q : y.1 = k
    · rw [if_pos q, if_pos q.symm]
      congr 1
      · rw [← q]
      · rw [List.map_map]
        refine List.map_congr_left fun e he => ?_
        have : e.1 ≠ k := fun q2 => u.1 (by rw [q, ← q2]; exact List.mem_map_of_mem he)
        simp [this]
    · rw [if_neg (fun e => q e.symm)] at hin
      rw [if_neg q, if_neg (fun e => q e.symm), ih u.2 hin]
theorem chg_mem {k : PK} {x : Rr} {m : RM} {e : PK × RB} (he : e ∈ chg k x m) : (e.1 = k ∧ e.2.2 = x ∧ ∃ e' ∈ m, e'.1 = k ∧ e'.2.1 = e.2.1) ∨ (e.1 ≠ k ∧ e ∈ m) := by
  unfold chg at he
  obtain ⟨e', h1, rfl⟩ := List.mem_map.1 he
  by_cases q : e'.1 = k
  · rw [if_pos q]; exact .inl ⟨q, rfl, e', h1, q, rfl⟩
  · rw [if_neg q]; exact .inr ⟨q, h1⟩

theorem blk_inj {m : RM} (n : (m.map (·.2.1)).Nodup) {e e' : PK × RB} (h1 : e ∈ m) (h2 : e' ∈ m) (q : e.2.1 = e'.2.1) : e = e' := by
  obtain ⟨i, hi, rfl⟩ := List.mem_iff_getElem.1 h1
  obtain ⟨j, hj, rfl⟩ := List.mem_iff_getElem.1 h2
  have : i = j := (List.getElem?_inj (by simpa using hi) n).1 (by simp [hi, hj, q])
  subst this; rfl

theorem RipAt.chg (A : RipAt h p r dom most m) {e : PK × RB} (he : e ∈ m) {x : Rr} (ht : x.tag < 2 ^ 16) : RipAt (h.upd e.2.1 (.cells (rcells x) T_rt (0, 0))) p r dom most (chg e.1 x m) := by
  have hne := A.pb he
  refine ⟨by rw [upd_ne (Ne.symm hne.1)]; exact A.pt, ?_, by have := A.un; unfold Uniq at *; rw [chg_keys]; exact this, fun e' h' => ?_, by rw [chg_blks]; exact A.nb, fun e' h' => ?_, by simp [Ytpfenhikoajghaa.chg]; exact A.le⟩
  · obtain ⟨es, cl, q, H, B⟩ := A.mp
    exact ⟨es, cl, by rw [upd_ne (Ne.symm hne.2)]; exact q, chg_ents H, B⟩
  · rcases chg_mem h' with ⟨q1, q2, e2, q3, q4, q5⟩ | ⟨q1, q2⟩
    · have : e2 = e := by
        have k1 := getM_of_mem (a := e2.1) (v := e2.2) A.un q3
        have k2 := getM_of_mem (a := e.1) (v := e.2) A.un he
        rw [q4] at k1; rw [k1] at k2
        exact Prod.ext q4 (by simpa using k2)
      subst this
      show (h.upd _ _) e'.2.1 = _
      rw [← q5, upd_same, q2]
    · have : e'.2.1 ≠ e.2.1 := fun q => q1 (by rw [blk_inj A.nb q2 he q])
      show (h.upd _ _) e'.2.1 = _
      rw [upd_ne this]; exact A.bl e' q2
  · rcases chg_mem h' with ⟨q1, q2, e2, q3, q4, q5⟩ | ⟨q1, q2⟩
    · rw [q1, q2]; exact ⟨by rw [← q4]; exact (A.gd e2 q3).1, ht⟩
    · exact A.gd e' q2
end
end Go.Proofs.Ytpfenhikoajghaa

/- A look into a map, the value alone; what stays in a map. -/
namespace Go.Proofs.Ytpfenhikoajghaa
open Go
theorem fm_congr {α β : Type} {f g : α → Option β} : ∀ {l : List α}, (∀ x ∈ l, f x = g x) → l.filterMap f = l.filterMap g
  | [], _ => rfl
  | x :: xs, h => by rw [List.filterMap_cons, List.filterMap_cons, h x (by simp), fm_congr (fun y hy => h y (by simp [hy]))]

theorem take_snoc {α : Type} {l : List α} {i : Nat} {x : α} (hx : l[i]? = some x) : l.take (i + 1) = l.take i ++ [x] := by rw [List.take_add_one, hx]; rfl
theorem drop_cons {α : Type} {l : List α} {i : Nat} {x : α} (hx : l[i]? = some x) : l.drop i = x :: l.drop (i + 1) := by
  obtain ⟨h1, h2⟩ := List.getElem?_eq_some_iff.1 hx
  rw [List.drop_eq_getElem_cons h1, h2]

section
variable {P : Program} {h : Hp} {α β : Type} [DecidableEq α] {kenc : α → Value} {venc : β → Value}

theorem rr_lookup1 {t kt et : TypeId} {r : Nat} {a : α} {m : List (α × β)} {z : Value} (hu : P.underlying t = some (.map kt et)) (M : MapAt h r kenc venc m) (hck : ∀ e, rrun P (Instr.checkKey e 10000 kt (kenc a)) h = some ())
    (hfk : ∀ es : List MapEntry, Ents kenc venc es m → rrun P (Instr.findKey kt (kenc a) es) h = some ((findM a m 0).map fun x => (x.1, venc x.2))) (hz : (P.info? et).bind (·.zero) = some z) :
    rrun P (Instr.lookup t (.map (some r)) (kenc a) false) h = some (match getM m a with | some v => venc v | none => z) := by
  obtain ⟨es, clock, hr, hE⟩ := M
  unfold Instr.lookup
  rw [rrun_bnd, rr_underlying, hu, Option.bind_some]
  simp only []
  have hg : rrun P (getObj r) h = some (.map es clock) := by
    unfold getObj
    simp only [rrun, hr, isRow]
  simp only [rrun_bnd, hg, Option.bind_some, rrun_pure, hck, hfk _ hE]
  unfold getM
  cases findM a m 0 with
  | none =>
    have e : ∀ (s : Sem Value) (f : Value → Value), rrun P (f <$> s) h = (rrun P s h).map f := by
      intro s f
      have : f <$> s = s >>= fun x => pure (f x) := by simp
      rw [this, rrun_bnd]
      cases rrun P s h <;> rfl
    simp [rrun_bnd, rrun_pure, e, rr_zeroValue hz]
  | some x => simp [rrun_bnd, rrun_pure]

theorem getM_isSome {a : α} {m : List (α × β)} : (getM m a).isSome = decide (a ∈ m.map (·.1)) := by
  cases h : getM m a with
  | none => simp [getM_none.1 h]
  | some v => simp only [Option.isSome_some]; symm; rw [decide_eq_true_eq]; exact List.mem_map_of_mem (getM_mem h)

theorem setM_mem {a : α} {v : β} {m : List (α × β)} {e : α × β} (he : e ∈ setM a v m) : e = (a, v) ∨ (e ∈ m) := by
  induction m with
  | nil => simp [setM] at he; exact .inl he
  | cons y ys ih =>
    simp only [setM] at he
    split at he
    · rcases List.mem_cons.1 he with q | q
      · exact .inl q
      · exact .inr (List.mem_cons_of_mem _ q)
    · rcases List.mem_cons.1 he with q | q
      · exact .inr (by rw [q]; exact List.mem_cons_self)
      · rcases ih q with q | q
        · exact .inl q
        · exact .inr (List.mem_cons_of_mem _ q)
theorem setM_mem_ne {a : α} {v : β} : ∀ {m : List (α × β)}, Uniq m → ∀ {e : α × β}, e ∈ setM a v m → e = (a, v) ∨ (e ∈ m ∧ e.1 ≠ a)
  | [], _, e, he => by simp [setM] at he; exact .inl he
  | y :: ys, u, e, he => by
    have u' := u
    unfold Uniq at u
    rw [List.map_cons, List.nodup_cons] at u
    simp only [setM] at he
    split at he
    · rename_i q0
      rcases List.mem_cons.1 he with q | q
      · exact .inl q
      · exact .inr ⟨List.mem_cons_of_mem _ q, fun q2 => u.1 (by rw [← q0, ← q2]; exact List.mem_map_of_mem q)⟩
    · rename_i q0
      rcases List.mem_cons.1 he with q | q
      · exact .inr ⟨by rw [q]; exact List.mem_cons_self, by rw [q]; exact fun q2 => q0 q2.symm⟩
      · rcases setM_mem_ne u.2 q with q | q
        · exact .inl q
        · exact .inr ⟨List.mem_cons_of_mem _ q.1, q.2⟩
end
end Go.Proofs.Ytpfenhikoajghaa

/- RIP in memory: New, Len, order, Own, Drop, Hear. -/
namespace Go.Proofs.Ytpfenhikoajghaa
open Go
set_option linter.unusedSimpArgs false
set_option linter.unusedVariables false

theorem kp_eq {h : Hp} {p q : PK} : rrun Try.prog (Op.equal 24 (kvalP p) (kvalP q)) h = some (decide (p = q)) := by
  unfold kvalP
  rw [keq_65]
  congr 1
  rw [Bool.eq_iff_iff]
  simp only [Bool.and_true, Bool.and_eq_true, decide_eq_true_eq, Prod.ext_iff]
  omega
theorem kp_find {h : Hp} {β : Type} {venc : β → Value} {p : PK} {m : List (PK × β)} {es : List MapEntry} (H : Ents kvalP venc es m) : rrun Try.prog (Instr.findKey 24 (kvalP p) es) h = some ((findM p m 0).map fun x => (x.1, venc x.2)) :=
  rr_findKey_struct Try.underlying24 (fun q => kp_eq) H
set_option maxRecDepth 20000 in
theorem kp_look {h : Hp} {r : Nat} {p : PK} {m : RM} (M : MapB h r kvalP rbv m) :
    rrun Try.prog (Instr.lookup 65 (.map (some r)) (.agg #[.int .u32 (p.1 : Nat), .int .i64 p.2]) false) h = some (match getM m p with | some v => rbv v | none => .pointer none) := by
  have := rr_lookup1 (a := p) (z := .pointer none) Try.underlying65 M.at (fun e => ck_65) (fun es H => kp_find H) (by kernel_rfl)
  rw [show (Value.agg #[.int .u32 (p.1 : Nat), .int .i64 p.2]) = kvalP p from rfl, this]
  cases getM m p <;> rfl
set_option maxRecDepth 20000 in
theorem kp_put {h : Hp} {r : Nat} {p : PK} {b : Nat} {x : Rr} {m : RM} {K : Unit → Hp → Prop} (M : MapB h r kvalP rbv m) (hK : ∀ o, MapB (h.upd r o) r kvalP rbv (setM p (b, x) m) → K () (h.upd r o)) :
    arun Try.prog (Instr.mapUpdate 65 (.map (some r)) (.agg #[.int .u32 (p.1 : Nat), .int .i64 p.2]) (.pointer (some ⟨b, 0, none⟩))) h K :=
  arun_mapUpdateB (a := p) (v := (b, x)) (kenc := kvalP) (venc := rbv) Try.underlying65 M (fun e => ck_65) (fun es H => kp_find H) sb_65 (fun _ _ => hK _)
theorem kp_len {h : Hp} {r : Nat} {m : RM} {R : TypeId} (M : MapB h r kvalP rbv m) : rrun Try.prog (Builtin.len_ #[65] R #[.map (some r)]) h = some (.int .i64 (m.length : Nat)) :=
  rr_mapLen (kenc := kvalP) (venc := rbv) rfl Try.underlying65 M.at

section
variable {h : Hp} {p r : Nat} {dom most : Int} {m : RM} {Q : Value → Hp → Prop}

theorem rnewM (hd : most < 9223372036854775808) (hQ : ∀ p r h', Le h h' → h p = none → h r = none → p ≠ r → RipAt h' p r dom (min most 64) [] → Q (.pointer (some ⟨p, 0, none⟩)) h') : Ok Try.prog F_rip_New #[.int .i64 dom, .int .i64 most] h Q := by
  refine rip_New_ok (by simp) ?_
  unfold rip_New_D
  simp (disch := omega) [rip_New_r0, rip_New_r1]
  refine arun_makeMapB (kenc := kvalP) (venc := rbv) (fun b hb M => ?_)
  simp (disch := omega)
  intro b2 hb2
  obtain ⟨hne, hb2'⟩ := upd_none hb2
  refine .to _ (.refl _) (hQ b2 b _ ((Le.new hb).trans (Le.new hb2)) hb2' hb hne ⟨upd_same, M.le (Le.new hb2), by simp [Uniq], by simp, by simp, by simp, by simp⟩)

theorem rlenM (A : RipAt h p r dom most m) (hQ : Q (.int .i64 (m.length : Nat)) h) : Ok Try.prog F_rip_Rip_Len #[.pointer (some ⟨p, 0, none⟩)] h Q := by
  refine rip_Rip_Len_ok (by simp) ?_
  unfold rip_Rip_Len_D
  simp (disch := omega) [rip_Rip_Len_r0, rip_Rip_Len_r1, A.pt, kp_len A.mp]
  exact .to _ (.refl _) hQ

set_option maxRecDepth 20000 in
theorem rorderM (A : RipAt h p r dom most m) (hQ : ∀ v ks h', Le h h' → SlAt h' 24 2 kencP v ks → ks.Perm (m.map (·.1)) → SrtP ks → (∀ b, blkOf v = some b → h b = none) → Q v h') :
    Ok Try.prog F_rip_Rip_order #[.pointer (some ⟨p, 0, none⟩)] h Q := by
  refine rip_Rip_order_ok (by simp) ?_
  unfold rip_Rip_order_D
  simp (disch := omega) [rip_Rip_order_r0, rip_Rip_order_r1, A.pt]
  have kn : ∀ {K : Value → Hp → Prop}, (∀ Bm h1, Le h h1 → h1 Bm = some (.cells #[.map (some r)] 65 (0, 0)) → h Bm = none → K (.func (.func F_maps_Keys_map_api_Prefix_rip_route_api_Prefix_rip_route_1) #[] #[.pointer (some ⟨Bm, 0, none⟩)]) h1) →
      Ok Try.prog F_maps_Keys_map_api_Prefix_rip_route_api_Prefix_rip_route #[.map (some r)] h K := by
    intro K hK
    refine maps_Keys_map_api_Prefix_rip_route_api_Prefix_rip_route_ok (by simp) ?_
    unfold maps_Keys_map_api_Prefix_rip_route_api_Prefix_rip_route_D
    simp (disch := omega) [maps_Keys_map_api_Prefix_rip_route_api_Prefix_rip_route_r0]
    intro Bm hBm
    simp (disch := omega) [maps_Keys_map_api_Prefix_rip_route_api_Prefix_rip_route_r1]
    exact .to _ (.refl _) (hK Bm _ (.new hBm) upd_same hBm)
  refine kn (fun Bm h1 l1 hB nB => ?_)
  simp (disch := omega)
  refine slices_SortedFunc_api_Prefix_ok (by simp) ?_
  unfold slices_SortedFunc_api_Prefix_D
  simp (disch := omega) [slices_SortedFunc_api_Prefix_r0, slices_SortedFunc_api_Prefix_r1]
  have hl := A.le
  refine collectP hB (A.mp.le l1) A.un (by omega) (fun v ks h2 l2 S hp nv => ?_)
  simp (disch := omega) [slices_SortedFunc_api_Prefix_r2]
  have hkl : ks.length ≤ 64 := by rw [hp.length_eq, List.length_map]; exact hl
  refine sort_specP S (by omega) (fun d h3 hp3 hs3 k3 S3 => ?_)
  simp (disch := omega) [slices_SortedFunc_api_Prefix_r3]
  have l3 : Le h h3 := fun x o e => k3 x o (l2 _ _ (l1 _ _ e)) (fun q => by have := nv x q; rw [l1 _ _ e] at this; cases this)
  refine .to _ (.refl _) ?_
  exact .to _ (.refl _) (hQ v d h3 l3 S3 (hp3.trans hp) hs3 (fun b e => none_of_le l1 (nv b e)))

/-! ### Own, Drop, Hear -/
def ownE (S : RS) (dom most : Int) (k : PK) (n : Int) (tag : Nat) : Int :=
  if mayB k.1 k.2 = false ∨ n < 1 ∨ 16 ≤ n then 1 else if hasT tag dom = true then 6 else if getM S k = none ∧ most ≤ (S.length : Int) then 4 else 0
def ownS (S : RS) (dom most : Int) (k : PK) (n : Int) (tag : Nat) : RS := if ownE S dom most k n tag = 0 then setM k ⟨n, 0, 0, tag⟩ S else S
def dropE (S : RS) (k : PK) : Int := match getM S k with | none => 5 | some x => if x.n ≠ 0 ∨ 16 ≤ x.m then 5 else 0
def dropS (S : RS) (k : PK) (now : Int) : RS := match getM S k with | none => S | some x => if x.n ≠ 0 ∨ 16 ≤ x.m then S else setM k (spoilR x now) S

/-- What a call leaves: a table with these routes. -/
def RQ (h : Hp) (p r : Nat) (dom most : Int) (m : RM) (S' : RS) (h' : Hp) : Prop := ∃ m', RipAt h' p r dom most m' ∧ strip m' = S' ∧ Fr h h' (ownR p r m) (ownR p r m')

theorem RQ.same (A : RipAt h p r dom most m) {h' : Hp} (l : Le h h') : RQ h p r dom most m (strip m) h' := ⟨m, A.le' l, rfl, .of_le l (fun x e => .inl e)⟩

theorem RQ.ins (A : RipAt h p r dom most m) {k : PK} {b : Nat} {x : Rr} {h1 : Hp} (l1 : Le h h1) (hb : h b = none) (hx : RtAt h1 b x) {o : Obj} (M : MapB (h1.upd r o) r kvalP rbv (setM k (b, x) m)) (hk : k.1 < 2 ^ 32) (ht : x.tag < 2 ^ 16)
    (hl : (setM k (b, x) m).length ≤ 64) : RQ h p r dom most m (setM k x (strip m)) (h1.upd r o) := by
  have hbr : b ≠ r := by rintro rfl; obtain ⟨o, e⟩ := A.mp.alive; rw [hb] at e; cases e
  have hbp : b ≠ p := by rintro rfl; have := A.pt; rw [hb] at this; cases this
  have hnb : ∀ e ∈ m, e.2.1 ≠ b := fun e he q => by have := A.bl e he; rw [q, RtAt, hb] at this; cases this
  refine ⟨setM k (b, x) m, ⟨by rw [upd_ne A.pr]; exact l1 _ _ A.pt, M, A.un.set, fun e he => ?_, ?_, fun e he => ?_, hl⟩, by rw [strip_set], ?_⟩
  · rcases setM_mem he with rfl | q
    · show (h1.upd r o) b = _
      rw [upd_ne hbr]; exact hx
    · show (h1.upd r o) e.2.1 = _
      rw [upd_ne (A.pb q).2]; exact l1 _ _ (A.bl e q)
  · have key : ∀ (m : RM), (m.map (·.2.1)).Nodup → (∀ e ∈ m, e.2.1 ≠ b) → ((setM k (b, x) m).map (·.2.1)).Nodup := by
      intro m
      induction m with
      | nil => intro _ _; simp [setM]
      | cons y ys ih =>
        intro n1 n2
        rw [List.map_cons, List.nodup_cons] at n1
        simp only [setM]
        split
        · rw [List.map_cons, List.nodup_cons]
          refine ⟨fun q => ?_, n1.2⟩
          obtain ⟨e, he, q2⟩ := List.mem_map.1 q
          exact n2 e (by simp [he]) q2
        · rw [List.map_cons, List.nodup_cons]
          refine ⟨fun q => ?_, ih n1.2 (fun e he => n2 e (by simp [he]))⟩
          obtain ⟨e, he, q2⟩ := List.mem_map.1 q
          rcases setM_mem he with rfl | q3
          · exact n2 y (by simp) q2.symm
          · exact n1.1 (by rw [← q2]; exact List.mem_map_of_mem q3)
    exact key m A.nb hnb
  · rcases setM_mem he with rfl | q
    · exact ⟨hk, ht⟩
    · exact A.gd e q
  · refine ⟨fun y o' e n => ?_, fun y hy => ?_⟩
    · rw [upd_ne (by rintro rfl; exact n (by simp [ownR]))]; exact l1 _ _ e
    · simp only [ownR, List.mem_cons, List.mem_map] at hy ⊢
      rcases hy with rfl | rfl | ⟨e, he, rfl⟩
      · exact .inl (.inl rfl)
      · exact .inl (.inr (.inl rfl))
      · rcases setM_mem he with rfl | q
        · exact .inr hb
        · exact .inl (.inr (.inr ⟨e, q, rfl⟩))

theorem RQ.chg (A : RipAt h p r dom most m) {h1 : Hp} (l1 : Le h h1) {k : PK} {v : RB} (hg : getM m k = some v) {x : Rr} (ht : x.tag < 2 ^ 16) : RQ h p r dom most m (setM k x (strip m)) (h1.upd v.1 (.cells (rcells x) T_rt (0, 0))) := by
  have he := getM_mem hg
  refine ⟨_, (A.le' l1).chg he ht, chg_strip A.un (by rw [hg]; rfl), ⟨fun y o e n => ?_, fun y hy => ?_⟩⟩
  · rw [upd_ne (by rintro rfl; exact n (by simp only [ownR, List.mem_cons, List.mem_map]; exact .inr (.inr ⟨_, he, rfl⟩)))]; exact l1 _ _ e
  · rw [ownR, chg_blks] at hy; exact .inl hy

set_option maxRecDepth 20000 in
theorem rownM {k : PK} {n : Int} {tag : Nat} {now : Int} (A : RipAt h p r dom most m) (hmo : most ≤ 64) (hk : k.1 < 2 ^ 32) (ht : tag < 2 ^ 16) (hQ : ∀ h', RQ h p r dom most m (ownS (strip m) dom most k n tag) h' → Q (.int .i64 (ownE (strip m) dom most k n tag)) h') :
    Ok Try.prog F_rip_Rip_Own #[.pointer (some ⟨p, 0, none⟩), .agg #[.int .u32 (k.1 : Nat), .int .i64 k.2], .int .i64 n, .int .u16 (tag : Nat), .int .i64 now] h Q := by
  refine rip_Rip_Own_ok (by simp) ?_
  unfold rip_Rip_Own_D
  simp (disch := omega) [rip_Rip_Own_r0]
  intro b6 hb6
  have l1 : Le h (h.upd b6 (.cells #[.int .u32 (k.1 : Nat), .int .i64 k.2] 24)) := .new hb6
  have f6 : (h.upd b6 (.cells #[.int .u32 (k.1 : Nat), .int .i64 k.2] 24)) b6 = some (.cells #[.int .u32 (k.1 : Nat), .int .i64 k.2] 24) := upd_same
  generalize h.upd b6 (.cells #[.int .u32 (k.1 : Nat), .int .i64 k.2] 24) = h1 at *
  simp (disch := omega) [rip_Rip_Own_r1, f6]
  refine may_spec hk ?_
  have hpt := l1 _ _ A.pt
  have M1 := A.mp.le l1
  have lk := kp_look (p := k) M1
  have ln := fun R => kp_len (R := R) M1
  have done : ∀ c : Int, c ≠ 0 → ownE (strip m) dom most k n tag = c → Q (.int .i64 c) h1 := fun c hc e => by
    have hS : ownS (strip m) dom most k n tag = strip m := by unfold ownS; rw [e, if_neg hc]
    have := hQ h1 (by rw [hS]; exact RQ.same A l1)
    rwa [e] at this
  by_cases c1 : mayB k.1 k.2 = false
  · simp (disch := omega) [c1, rip_Rip_Own_r2]
    exact .to _ (.refl _) (done 1 (by omega) (by unfold ownE; rw [if_pos (.inl c1)]))
  have c1' : mayB k.1 k.2 = true := by simpa using c1
  by_cases c2 : n < 1
  · simp (disch := omega) [c1', c2, rip_Rip_Own_r2]
    exact .to _ (.refl _) (done 1 (by omega) (by unfold ownE; rw [if_pos (.inr (.inl c2))]))
  by_cases c3 : 16 ≤ n
  · simp (disch := omega) [c1', c2, c3, rip_Rip_Own_r2]
    exact .to _ (.refl _) (done 1 (by omega) (by unfold ownE; rw [if_pos (.inr (.inr c3))]))
  simp (disch := omega) [c1', c2, c3, rip_Rip_Own_r3, hpt]
  refine thas_spec ht ?_
  have c123 : ¬ (mayB k.1 k.2 = false ∨ n < 1 ∨ 16 ≤ n) := by rw [c1']; simp; omega
  cases c4 : hasT tag dom with
  | true =>
    simp (disch := omega) [rip_Rip_Own_r4]
    exact .to _ (.refl _) (done 6 (by omega) (by unfold ownE; rw [if_neg c123, if_pos c4]))
  | false =>
    simp (disch := omega) [rip_Rip_Own_r5, hpt, f6, lk]
    have c4' : ¬ hasT tag dom = true := by rw [c4]; simp
    have go : (getM (strip m) k = none → ¬ most ≤ ((strip m).length : Int)) → ∀ (env : Env), env 0 = .pointer (some ⟨p, 0, none⟩) → env 2 = .int .i64 n → env 3 = .int .u16 (tag : Nat) → env 6 = .pointer (some ⟨b6, 0, none⟩) →
        rip_Rip_Own_r7 env h1 (thenK (sq (rg rip_Rip_Own_r8) (ex .ret)) (fin Try.prog [.tmp 10] Q) .normal) := by
      intro hfull env e0 e2 e3 e6
      have hE : ownE (strip m) dom most k n tag = 0 := by
        unfold ownE; rw [if_neg c123, if_neg c4', if_neg (fun q => hfull q.1 q.2)]
      have hS : ownS (strip m) dom most k n tag = setM k ⟨n, 0, 0, tag⟩ (strip m) := by unfold ownS; rw [if_pos hE]
      rw [hE, hS] at hQ
      simp (disch := omega) [rip_Rip_Own_r7, e0, e2, e3, e6, hpt, f6]
      intro b7 hb7
      have l2 : Le h1 (h1.upd b7 (.cells #[.int .i64 n, .int .i64 0, .int .i64 0, .int .u16 (tag : Nat)] 73)) := .new hb7
      have f7 : (h1.upd b7 (.cells #[.int .i64 n, .int .i64 0, .int .i64 0, .int .u16 (tag : Nat)] 73)) b7 = some (.cells #[.int .i64 n, .int .i64 0, .int .i64 0, .int .u16 (tag : Nat)] 73) := upd_same
      have hpt2 := l2 _ _ hpt
      have f62 := l2 _ _ f6
      have M2 := M1.le l2
      have hb7h := none_of_le l1 hb7
      generalize h1.upd b7 (.cells #[.int .i64 n, .int .i64 0, .int .i64 0, .int .u16 (tag : Nat)] 73) = h2 at *
      simp (disch := omega) [f62, hpt2, e6]
      refine kp_put (x := ⟨n, 0, 0, tag⟩) M2 (fun o M3 => ?_)
      simp (disch := omega) [rip_Rip_Own_r8]
      refine .to _ (.refl _) (hQ _ (RQ.ins A (l1.trans l2) hb7h f7 M3 hk ht ?_))
      rw [setM_length]
      have hle := A.le
      split
      · exact hle
      · rename_i hn
        have h0 : getM (strip m) k = none := by rw [getM_strip]; cases hq : getM m k with
          | none => rfl
          | some v => rw [hq] at hn; simp at hn
        have := hfull h0
        rw [strip_length] at this; omega
    cases hg : getM m k with
    | some v =>
      obtain ⟨b, x⟩ := v
      simp (disch := omega) [rbv]
      refine go (fun q => ?_) _ ?_ ?_ ?_ ?_
      · rw [getM_strip, hg] at q; cases q
      all_goals simp
    | none =>
      have h0 : getM (strip m) k = none := by rw [getM_strip, hg]; rfl
      by_cases c5 : most ≤ (m.length : Int)
      · simp (disch := omega) [hpt, ln, c5, rip_Rip_Own_r6]
        refine .to _ (.refl _) (done 4 (by omega) ?_)
        unfold ownE
        rw [if_neg c123, if_neg c4', if_pos ⟨h0, by rw [strip_length]; exact c5⟩]
      · simp (disch := omega) [hpt, ln, c5]
        refine go (fun _ => by rw [strip_length]; exact c5) _ ?_ ?_ ?_ ?_ <;> simp

set_option maxRecDepth 20000 in
theorem rdropM {k : PK} {now : Int} (A : RipAt h p r dom most m) (h1 : 0 ≤ now) (h2 : now ≤ 1099511627776) (hQ : ∀ h', RQ h p r dom most m (dropS (strip m) k now) h' → Q (.int .i64 (dropE (strip m) k)) h') :
    Ok Try.prog F_rip_Rip_Drop #[.pointer (some ⟨p, 0, none⟩), .agg #[.int .u32 (k.1 : Nat), .int .i64 k.2], .int .i64 now] h Q := by
  refine rip_Rip_Drop_ok (by simp) ?_
  unfold rip_Rip_Drop_D
  simp (disch := omega) [rip_Rip_Drop_r0]
  intro b6 hb6
  have l1 : Le h (h.upd b6 (.cells #[.int .u32 (k.1 : Nat), .int .i64 k.2] 24)) := .new hb6
  have f6 : (h.upd b6 (.cells #[.int .u32 (k.1 : Nat), .int .i64 k.2] 24)) b6 = some (.cells #[.int .u32 (k.1 : Nat), .int .i64 k.2] 24) := upd_same
  generalize h.upd b6 (.cells #[.int .u32 (k.1 : Nat), .int .i64 k.2] 24) = g at *
  have hpt := l1 _ _ A.pt
  have lk := kp_look (p := k) (A.mp.le l1)
  unfold dropS dropE at hQ
  rw [getM_strip] at hQ
  simp (disch := omega) [rip_Rip_Drop_r1, f6, hpt, lk]
  cases hg : getM m k with
  | none =>
    rw [hg] at hQ
    simp (disch := omega) [rip_Rip_Drop_r2, rip_Rip_Drop_r3]
    exact .to _ (.refl _) (hQ _ (RQ.same A l1))
  | some v =>
    rw [hg] at hQ
    simp only [Option.map_some] at hQ
    have hb := l1 _ _ (A.bl _ (getM_mem hg))
    have hgd := A.gd _ (getM_mem hg)
    by_cases c1 : v.2.n = 0
    · by_cases c2 : 16 ≤ v.2.m
      · rw [if_pos (.inr c2), if_pos (.inr c2)] at hQ
        have c2' : ¬ v.2.m < 16 := by omega
        simp (disch := omega) [rip_Rip_Drop_r2, rbv, hb, c1]
        refine reachedM hb ?_
        simp (disch := omega) [c2', rip_Rip_Drop_r3]
        exact .to _ (.refl _) (hQ _ (RQ.same A l1))
      · have c3 : ¬ (v.2.n ≠ 0 ∨ 16 ≤ v.2.m) := by omega
        rw [if_neg c3, if_neg c3] at hQ
        have c2' : v.2.m < 16 := by omega
        simp (disch := omega) [rip_Rip_Drop_r2, rbv, hb, c1]
        refine reachedM hb ?_
        simp (disch := omega) [c2', rip_Rip_Drop_r4]
        refine spoilM hb (by omega) (by omega) ?_
        simp (disch := omega) [rip_Rip_Drop_r5]
        exact .to _ (.refl _) (hQ _ (RQ.chg A l1 hg hgd.2))
    · rw [if_pos (.inl c1), if_pos (.inl c1)] at hQ
      simp (disch := omega) [rip_Rip_Drop_r2, rip_Rip_Drop_r3, rbv, hb, c1]
      exact .to _ (.refl _) (hQ _ (RQ.same A l1))
end
end Go.Proofs.Ytpfenhikoajghaa

/- RIP in memory: Hear, Lose, Tick. -/
namespace Go.Proofs.Ytpfenhikoajghaa
open Go
set_option linter.unusedSimpArgs false
set_option linter.unusedVariables false

theorem hops_spec {a b : Int} {h : Hp} {Q : Value → Hp → Prop} (hQ : Q (.int .i64 (addM a b 16)) h) : Ok Try.prog F_metric_Hops #[.int .i64 a, .int .i64 b] h Q := by
  refine metric_Hops_ok (by simp) ?_
  unfold metric_Hops_D
  simp (disch := omega) [metric_Hops_r0, metric_Hops_r1]
  refine add_spec (by omega) ?_
  simp (disch := omega)
  exact .to _ (.refl _) hQ

def hearR (S : RS) (dom most f c : Int) (k : PK) (tag : Nat) (N now : Int) : Bool × Int × RS :=
  if f < 1 ∨ 32 < f ∨ c < 1 ∨ 16 < c ∨ mayB k.1 k.2 = false ∨ N < 1 ∨ 16 < N then (false, 1, S)
  else if hasT tag dom = true then (false, 6, S)
  else match getM S k with
    | some x => ((hearX x f (addM N c 16) tag now).1, 0, setM k (hearX x f (addM N c 16) tag now).2 S)
    | none => if addM N c 16 = 16 then (false, 0, S) else if most ≤ (S.length : Int) then (false, 4, S) else (true, 0, setM k ⟨addM N c 16, f, now + 180, tag⟩ S)

theorem hearX_tag {x : Rr} {f m : Int} {tag : Nat} {now : Int} (h1 : x.tag < 2 ^ 16) (h2 : tag < 2 ^ 16) : (hearX x f m tag now).2.tag < 2 ^ 16 := by
  unfold hearX spoilR
  split
  · exact h1
  · split
    · split
      · exact h1
      · exact h2
    · split
      · exact h2
      · exact h1

section
variable {h : Hp} {p r : Nat} {dom most : Int} {m : RM} {Q : Value → Hp → Prop}

set_option maxHeartbeats 1000000 in
set_option maxRecDepth 20000 in
theorem rhearM {f c : Int} {k : PK} {tag nx : Nat} {N now : Int} (A : RipAt h p r dom most m) (hmo : most ≤ 64) (hk : k.1 < 2 ^ 32) (ht : tag < 2 ^ 16) (n1 : 0 ≤ now) (n2 : now ≤ 1099511627776)
    (hQ : ∀ h', RQ h p r dom most m (hearR (strip m) dom most f c k tag N now).2.2 h' → Q (.tuple #[.bool (hearR (strip m) dom most f c k tag N now).1, .int .i64 (hearR (strip m) dom most f c k tag N now).2.1]) h') :
    Ok Try.prog F_rip_Rip_Hear #[.pointer (some ⟨p, 0, none⟩), .int .i64 f, .int .i64 c, .agg #[.int .u32 (k.1 : Nat), .int .i64 k.2, .int .u16 (tag : Nat), .int .u32 (nx : Nat), .int .i64 N], .int .i64 now] h Q := by
  refine rip_Rip_Hear_ok (by simp) ?_
  unfold rip_Rip_Hear_D
  simp (disch := omega) [rip_Rip_Hear_r0]
  intro b6 hb6
  have l1 : Le h (h.upd b6 (.cells #[.int .u32 (k.1 : Nat), .int .i64 k.2, .int .u16 (tag : Nat), .int .u32 (nx : Nat), .int .i64 N] 33)) := .new hb6
  have f6 : (h.upd b6 (.cells #[.int .u32 (k.1 : Nat), .int .i64 k.2, .int .u16 (tag : Nat), .int .u32 (nx : Nat), .int .i64 N] 33)) b6 = some (.cells #[.int .u32 (k.1 : Nat), .int .i64 k.2, .int .u16 (tag : Nat), .int .u32 (nx : Nat), .int .i64 N] 33) := upd_same
  generalize h.upd b6 (.cells #[.int .u32 (k.1 : Nat), .int .i64 k.2, .int .u16 (tag : Nat), .int .u32 (nx : Nat), .int .i64 N] 33) = h1 at *
  have hpt := l1 _ _ A.pt
  have M1 := A.mp.le l1
  have lk := kp_look (p := k) M1
  have ln := fun R => kp_len (R := R) M1
  have done : ∀ c' : Int, hearR (strip m) dom most f c k tag N now = (false, c', strip m) → Q (.tuple #[.bool false, .int .i64 c']) h1 := fun c' e => by
    have := hQ h1 (by rw [e]; exact RQ.same A l1)
    rwa [e] at this
  by_cases c1 : f < 1
  · simp (disch := omega) [rip_Rip_Hear_r1, rip_Rip_Hear_r2, f6, c1]
    exact .to _ (.refl _) (done 1 (by unfold hearR; rw [if_pos (.inl c1)]))
  by_cases c2 : 32 < f
  · simp (disch := omega) [rip_Rip_Hear_r1, rip_Rip_Hear_r2, f6, c1, c2]
    exact .to _ (.refl _) (done 1 (by unfold hearR; rw [if_pos (.inr (.inl c2))]))
  by_cases c3 : c < 1
  · simp (disch := omega) [rip_Rip_Hear_r1, rip_Rip_Hear_r2, f6, c1, c2, c3]
    exact .to _ (.refl _) (done 1 (by unfold hearR; rw [if_pos (.inr (.inr (.inl c3)))]))
  by_cases c4 : 16 < c
  · simp (disch := omega) [rip_Rip_Hear_r1, rip_Rip_Hear_r2, f6, c1, c2, c3, c4]
    exact .to _ (.refl _) (done 1 (by unfold hearR; rw [if_pos (.inr (.inr (.inr (.inl c4))))]))
  simp (disch := omega) [rip_Rip_Hear_r1, f6, c1, c2, c3, c4]
  refine may_spec hk ?_
  by_cases c5 : mayB k.1 k.2 = false
  · simp (disch := omega) [c5, rip_Rip_Hear_r2]
    exact .to _ (.refl _) (done 1 (by unfold hearR; rw [if_pos (.inr (.inr (.inr (.inr (.inl c5)))))]))
  have c5' : mayB k.1 k.2 = true := by simpa using c5
  by_cases c6 : N < 1
  · simp (disch := omega) [c5', f6, c6, rip_Rip_Hear_r2]
    exact .to _ (.refl _) (done 1 (by unfold hearR; rw [if_pos (.inr (.inr (.inr (.inr (.inr (.inl c6))))))]))
  by_cases c7 : 16 < N
  · simp (disch := omega) [c5', f6, c6, c7, rip_Rip_Hear_r2]
    exact .to _ (.refl _) (done 1 (by unfold hearR; rw [if_pos (.inr (.inr (.inr (.inr (.inr (.inr c7))))))]))
  have c17 : ¬ (f < 1 ∨ 32 < f ∨ c < 1 ∨ 16 < c ∨ mayB k.1 k.2 = false ∨ N < 1 ∨ 16 < N) := by rw [c5']; simp; omega
  unfold hearR at hQ
  unfold hearR at done
  rw [if_neg c17] at hQ done
  simp (disch := omega) [c5', f6, c6, c7, rip_Rip_Hear_r3, hpt]
  refine thas_spec ht ?_
  cases c8 : hasT tag dom with
  | true =>
    simp (disch := omega) [rip_Rip_Hear_r4]
    exact .to _ (.refl _) (done 6 (by rw [if_pos c8]))
  | false =>
    have c8' : ¬ hasT tag dom = true := by rw [c8]; simp
    rw [if_neg c8'] at hQ done
    simp (disch := omega) [rip_Rip_Hear_r5, f6]
    refine hops_spec ?_
    simp (disch := omega) [rip_Rip_Hear_r6, hpt, f6, lk]
    have hg0 := getM_strip (m := m) (k := k)
    have ham : addM N c 16 ≤ 16 := by unfold addM; omega
    generalize addM N c 16 = mm at *
    cases hg : getM m k with
    | some v =>
      rw [hg] at hg0
      simp only [Option.map_some] at hg0
      rw [hg0] at hQ
      simp only at hQ
      have hb := l1 _ _ (A.bl _ (getM_mem hg))
      have hgd := A.gd _ (getM_mem hg)
      simp (disch := omega) [rip_Rip_Hear_r7, rip_Rip_Hear_r8, rbv, f6]
      refine hearM (x := v.2) hb (by omega) (by omega) ?_
      simp (disch := omega)
      exact .to _ (.refl _) (hQ _ (RQ.chg A l1 hg (hearX_tag hgd.2 ht)))
    | none =>
      rw [hg] at hg0
      simp only [Option.map_none] at hg0
      rw [hg0] at hQ done
      simp only at hQ done
      by_cases c9 : mm = 16
      · rw [if_pos c9] at done
        simp (disch := omega) [rip_Rip_Hear_r7, rip_Rip_Hear_r9, rip_Rip_Hear_r10, c9]
        exact .to _ (.refl _) (done 0 rfl)
      · rw [if_neg c9] at hQ done
        by_cases c10 : most ≤ (m.length : Int)
        · rw [if_pos (by rw [strip_length]; exact c10)] at done
          simp (disch := omega) [rip_Rip_Hear_r7, rip_Rip_Hear_r9, rip_Rip_Hear_r11, rip_Rip_Hear_r12, c9, c10, hpt, ln]
          exact .to _ (.refl _) (done 4 rfl)
        · rw [if_neg (by rw [strip_length]; exact c10)] at hQ
          simp (disch := omega) [rip_Rip_Hear_r7, rip_Rip_Hear_r9, rip_Rip_Hear_r11, rip_Rip_Hear_r13, c9, c10, hpt, ln, f6, wrap_i64]
          intro b7 hb7
          have l2 : Le h1 (h1.upd b7 (.cells #[.int .i64 mm, .int .i64 f, .int .i64 (now + 180), .int .u16 (tag : Nat)] 73)) := .new hb7
          have f7 : (h1.upd b7 (.cells #[.int .i64 mm, .int .i64 f, .int .i64 (now + 180), .int .u16 (tag : Nat)] 73)) b7 = some (.cells #[.int .i64 mm, .int .i64 f, .int .i64 (now + 180), .int .u16 (tag : Nat)] 73) := upd_same
          have hpt2 := l2 _ _ hpt
          have f62 := l2 _ _ f6
          have M2 := M1.le l2
          have hb7h := none_of_le l1 hb7
          generalize h1.upd b7 (.cells #[.int .i64 mm, .int .i64 f, .int .i64 (now + 180), .int .u16 (tag : Nat)] 73) = h2 at *
          simp (disch := omega) [f62, hpt2]
          refine kp_put (x := ⟨mm, f, now + 180, tag⟩) M2 (fun o M3 => ?_)
          simp (disch := omega) [rip_Rip_Hear_r14]
          refine .to _ (.refl _) (hQ _ (RQ.ins A (l1.trans l2) hb7h f7 M3 hk ht ?_))
          rw [setM_length, hg]
          simp only [Option.isSome_none, Bool.false_eq_true, if_false]
          omega

/-! ### Lose -/
def loseP (f : Int) (x : Rr) : Bool := decide (f ≠ 0 ∧ x.n = f ∧ x.m < 16)
def loseX (f now : Int) (x : Rr) : Rr := if loseP f x then spoilR x now else x
def loseS (S : RS) (f now : Int) : RS := S.map fun e => (e.1, loseX f now e.2)
def loseB (S : RS) (f : Int) : Bool := S.any fun e => loseP f e.2

/-- What is left of a table, of which these have been worked off: each by itself. -/
def worked (pr : Rr → Option Rr) (V : List PK) (m : RM) : RM := m.filterMap fun e => if e.1 ∈ V then (pr e.2.2).map fun x => (e.1, e.2.1, x) else some e

theorem worked_nil {pr : Rr → Option Rr} {m : RM} : worked pr [] m = m := by
  unfold worked
  have : (fun e : PK × RB => if e.1 ∈ ([] : List PK) then (pr e.2.2).map fun x => (e.1, e.2.1, x) else some e) = some := by funext e; simp
  rw [this, List.filterMap_some]
theorem worked_all {pr : Rr → Option Rr} {V : List PK} {m : RM} (ha : ∀ e ∈ m, e.1 ∈ V) : worked pr V m = m.filterMap fun e => (pr e.2.2).map fun x => (e.1, e.2.1, x) := by
  unfold worked
  exact fm_congr fun e he => by rw [if_pos (ha e he)]
theorem worked_sub {pr : Rr → Option Rr} {V : List PK} {m : RM} : ((worked pr V m).map (·.1)).Sublist (m.map (·.1)) ∧ ((worked pr V m).map (·.2.1)).Sublist (m.map (·.2.1)) := by
  induction m with
  | nil => exact ⟨.slnil, .slnil⟩
  | cons e m ih =>
    unfold worked at *
    rw [List.filterMap_cons]
    by_cases hV : e.1 ∈ V
    · rw [if_pos hV]
      cases hp : pr e.2.2 with
      | none => exact ⟨ih.1.cons _, ih.2.cons _⟩
      | some x => exact ⟨ih.1.cons_cons _, ih.2.cons_cons _⟩
    · rw [if_neg hV]; exact ⟨ih.1.cons_cons _, ih.2.cons_cons _⟩
theorem worked_get {pr : Rr → Option Rr} {V : List PK} {m : RM} {e : PK × RB} (u : Uniq m) (he : e ∈ worked pr V m) (hV : e.1 ∉ V) : e ∈ m := by
  unfold worked at he
  obtain ⟨e', h1, h2⟩ := List.mem_filterMap.1 he
  by_cases q : e'.1 ∈ V
  · rw [if_pos q] at h2
    cases hp : pr e'.2.2 with
    | none => rw [hp] at h2; cases h2
    | some x => rw [hp] at h2; simp at h2; subst h2; exact absurd q hV
  · rw [if_neg q] at h2; simp at h2; subst h2; exact h1
theorem worked_in {pr : Rr → Option Rr} {V : List PK} {m : RM} {e : PK × RB} (he : e ∈ m) (hV : e.1 ∉ V) : e ∈ worked pr V m := by
  unfold worked
  exact List.mem_filterMap.2 ⟨e, he, by rw [if_neg hV]⟩

/-- One more is worked off: its route is set anew, or the same. -/
theorem worked_chg {pr : Rr → Option Rr} {V : List PK} {m : RM} {e : PK × RB} {x : Rr} (u : Uniq m) (he : e ∈ m) (hV : e.1 ∉ V) (hp : pr e.2.2 = some x) : chg e.1 x (worked pr V m) = worked pr (V ++ [e.1]) m := by
  induction m with
  | nil => cases he
  | cons y ys ih =>
    unfold Uniq at u
    rw [List.map_cons, List.nodup_cons] at u
    unfold chg worked at *
    rw [List.filterMap_cons, List.filterMap_cons]
    rcases List.mem_cons.1 he with rfl | hin
    · have hys : ∀ z ∈ ys, z.1 ≠ e.1 := fun z hz q => u.1 (by rw [← q]; exact List.mem_map_of_mem hz)
      rw [if_neg hV, if_pos (by simp), hp]
      simp only [Option.map_some, List.map_cons, if_true]
      congr 1
      rw [List.map_filterMap]
      refine fm_congr fun z hz => ?_
      have hz' := hys z hz
      by_cases q : z.1 ∈ V
      · rw [if_pos q, if_pos (by simp [q])]
        cases pr z.2.2 <;> simp [hz']
      · rw [if_neg q, if_neg (by simp [q, hz'])]
        simp [hz']
    · have hne : y.1 ≠ e.1 := fun q => u.1 (by rw [q]; exact List.mem_map_of_mem hin)
      have ih' := ih u.2 hin
      by_cases q : y.1 ∈ V
      · rw [if_pos q, if_pos (by simp [q])]
        cases pr y.2.2 with
        | none => simpa using ih'
        | some z => simp only [Option.map_some, List.map_cons, if_neg hne]; rw [ih']
      · rw [if_neg q, if_neg (by simp [q, hne])]
        simp only [List.map_cons, if_neg hne]; rw [ih']

theorem worked_del {pr : Rr → Option Rr} {V : List PK} {m : RM} {e : PK × RB} (u : Uniq m) (he : e ∈ m) (hV : e.1 ∉ V) (hp : pr e.2.2 = none) : delM e.1 (worked pr V m) = worked pr (V ++ [e.1]) m := by
  induction m with
  | nil => cases he
  | cons y ys ih =>
    unfold Uniq at u
    rw [List.map_cons, List.nodup_cons] at u
    unfold worked at *
    rw [List.filterMap_cons, List.filterMap_cons]
    rcases List.mem_cons.1 he with rfl | hin
    · have hys : ∀ z ∈ ys, z.1 ≠ e.1 := fun z hz q => u.1 (by rw [← q]; exact List.mem_map_of_mem hz)
      rw [if_neg hV, if_pos (by simp), hp]
      simp only [Option.map_none, delM, if_true]
      refine fm_congr fun z hz => ?_
      have hz' := hys z hz
      by_cases q : z.1 ∈ V
      · rw [if_pos q, if_pos (by simp [q])]
      · rw [if_neg q, if_neg (by simp [q, hz'])]
    · have hne : y.1 ≠ e.1 := fun q => u.1 (by rw [q]; exact List.mem_map_of_mem hin)
      have ih' := ih u.2 hin
      by_cases q : y.1 ∈ V
      · rw [if_pos q, if_pos (by simp [q])]
        cases pr y.2.2 with
        | none => simpa using ih'
        | some z => simp only [Option.map_some, delM, if_neg (Ne.symm hne)]; rw [ih']
      · rw [if_neg q, if_neg (by simp [q, hne])]
        simp only [delM, if_neg (Ne.symm hne)]; rw [ih']

theorem worked_strip {pr : Rr → Option Rr} {m : RM} : strip (m.filterMap fun e => (pr e.2.2).map fun x => (e.1, e.2.1, x)) = (strip m).filterMap fun e => (pr e.2).map fun x => (e.1, x) := by
  unfold strip
  rw [List.map_filterMap, List.filterMap_map]
  refine fm_congr fun e _ => ?_
  simp only [Function.comp]
  cases pr e.2.2 <;> rfl
end
end Go.Proofs.Ytpfenhikoajghaa

/- RIP in memory: Lose, Tick: walks. -/
namespace Go.Proofs.Ytpfenhikoajghaa
open Go
set_option linter.unusedSimpArgs false
set_option linter.unusedVariables false

theorem IterS.chg {h : Hp} {it r : Nat} {m : RM} {V : List PK} (I : IterS h it r kvalP rbv m V) (k : PK) (x : Rr) : IterS h it r kvalP rbv (chg k x m) V := by
  obtain ⟨u, es, cl, seen, h1, h2, h3, h4, h5, h6⟩ := I
  exact ⟨by unfold Uniq at *; rw [chg_keys]; exact u, es, cl, seen, h1, h2, chg_ents h3, h4, h5, by rw [chg_keys]; exact h6⟩

def tickP (now : Int) (x : Rr) : Bool := !(decide (x.m < 16 ∧ x.n = 0)) && decide (x.e ≤ now)
def tickX (now : Int) (x : Rr) : Option Rr := if tickP now x = true then (if x.m < 16 then some (spoilR x now) else none) else some x
def tickS (S : RS) (now : Int) : RS := S.filterMap fun e => (tickX now e.2).map fun x => (e.1, x)
def tickB (S : RS) (now : Int) : Bool := S.any fun e => tickP now e.2

theorem loseS_eq {S : RS} {f now : Int} : loseS S f now = S.filterMap fun e => ((some (loseX f now e.2)).map fun x => (e.1, x)) := by
  unfold loseS; simp [List.filterMap_eq_map']
  try rfl

/-- Some of those that have been visited. -/
def anyV (P : Rr → Bool) (V : List PK) (m : RM) : Bool := m.any fun e => decide (e.1 ∈ V) && P e.2.2
theorem anyV_nil {P : Rr → Bool} {m : RM} : anyV P [] m = false := by unfold anyV; simp
theorem anyV_snoc {P : Rr → Bool} {V : List PK} {m : RM} {e : PK × RB} (u : Uniq m) (he : e ∈ m) : anyV P (V ++ [e.1]) m = (anyV P V m || P e.2.2) := by
  unfold anyV
  rw [Bool.eq_iff_iff, Bool.or_eq_true, List.any_eq_true, List.any_eq_true]
  constructor
  · rintro ⟨y, hy, q⟩
    simp at q
    rcases q with ⟨q1 | q1, q2⟩
    · exact .inl ⟨y, hy, by simp [q1, q2]⟩
    · have : y = e := by
        have k1 := getM_of_mem (a := y.1) (v := y.2) u hy
        have k2 := getM_of_mem (a := e.1) (v := e.2) u he
        rw [q1, k2] at k1
        exact Prod.ext q1 (by simpa using k1.symm)
      subst this; exact .inr q2
  · rintro (⟨y, hy, q⟩ | q)
    · refine ⟨y, hy, ?_⟩
      simp at q ⊢
      exact ⟨.inl q.1, q.2⟩
    · exact ⟨e, he, by simp [q]⟩
theorem anyV_all {P : Rr → Bool} {V : List PK} {m : RM} (ha : ∀ e ∈ m, e.1 ∈ V) : anyV P V m = (strip m).any fun e => P e.2 := by
  unfold anyV strip
  rw [List.any_map, Bool.eq_iff_iff, List.any_eq_true, List.any_eq_true]
  constructor
  · rintro ⟨y, hy, q⟩; simp at q; exact ⟨y, hy, q.2⟩
  · rintro ⟨y, hy, q⟩; exact ⟨y, hy, by simp [ha y hy]; exact q⟩

structure Fe (h : Hp) (p r it : Nat) (dom most : Int) (pr : Rr → Option Rr) (m0 : RM) (V : List PK) (g : Hp) : Prop where
  at_ : RipAt g p r dom most (worked pr V m0)
  iter : IterS g it r kvalP rbv (worked pr V m0) V
  nd : V.Nodup
  sub : ∀ k ∈ V, k ∈ m0.map (·.1)
  keep : ∀ y o, h y = some o → y ∉ ownR p r m0 → g y = some o
  hit : h it = none

section
variable {h g : Hp} {p r it : Nat} {dom most : Int} {m0 : RM} {pr : Rr → Option Rr} {V : List PK}

theorem Fe.itn (F : Fe h p r it dom most pr m0 V g) : it ≠ p ∧ it ≠ r ∧ ∀ e ∈ worked pr V m0, it ≠ e.2.1 := by
  obtain ⟨u, es, cl, seen, h1, h2, _⟩ := F.iter
  refine ⟨?_, F.iter.ne, fun e he => ?_⟩
  · rintro rfl; have := F.at_.pt; rw [h2] at this; cases this
  · rintro rfl; have := F.at_.bl e he; rw [RtAt, h2] at this; cases this

theorem Fe.next (F : Fe h p r it dom most pr m0 V g) {o : Obj} {x : PK × RB} (I : IterS (g.upd it o) it r kvalP rbv (worked pr V m0) (V ++ [x.1])) :
    RipAt (g.upd it o) p r dom most (worked pr V m0) ∧ (∀ y o', h y = some o' → y ∉ ownR p r m0 → (g.upd it o) y = some o') := by
  have hn := F.itn
  refine ⟨F.at_.keep fun y o' hy e => ?_, fun y o' e n => ?_⟩
  · rw [upd_ne]; exact e
    rintro rfl
    simp only [ownR, List.mem_cons, List.mem_map] at hy
    rcases hy with q | q | ⟨e', he', q⟩
    · exact hn.1 q
    · exact hn.2.1 q
    · exact hn.2.2 e' he' q.symm
  · rw [upd_ne (by rintro rfl; rw [F.hit] at e; cases e)]; exact F.keep y o' e n

theorem Fe.len (F : Fe h p r it dom most pr m0 V g) (u : Uniq m0) {x : PK × RB} (hx : x ∈ m0) (hV : x.1 ∉ V) : V.length < m0.length := by
  have hnd2 : (V ++ [x.1]).Nodup := List.nodup_append.2 ⟨F.nd, by simp, fun y hy z hz => by simp at hz; subst hz; rintro rfl; exact hV hy⟩
  have := nodup_le hnd2 (K := m0.map (·.1)) (fun k hk => by
    rcases List.mem_append.1 hk with q | q
    · exact F.sub k q
    · simp at q; subst q; exact List.mem_map_of_mem hx)
  simp at this; omega

theorem Fe.ext (F : Fe h p r it dom most pr m0 V g) {x : PK × RB} (hx : x ∈ m0) (hV : x.1 ∉ V) : (V ++ [x.1]).Nodup ∧ ∀ k ∈ V ++ [x.1], k ∈ m0.map (·.1) := by
  refine ⟨List.nodup_append.2 ⟨F.nd, by simp, fun y hy z hz => by simp at hz; subst hz; rintro rfl; exact hV hy⟩, fun k hk => ?_⟩
  rcases List.mem_append.1 hk with q | q
  · exact F.sub k q
  · simp at q; subst q; exact List.mem_map_of_mem hx

theorem Fe.done (F : Fe h p r it dom most pr m0 V g) (A0 : RipAt h p r dom most m0) (hend : ∀ x ∈ worked pr V m0, x.1 ∈ V) : (∀ e ∈ m0, e.1 ∈ V) ∧ RQ h p r dom most m0 ((strip m0).filterMap fun e => (pr e.2).map fun x => (e.1, x)) g := by
  have ha : ∀ e ∈ m0, e.1 ∈ V := fun e he => Classical.byContradiction fun q => q (hend e (worked_in he q))
  refine ⟨ha, _, F.at_, ?_, ⟨F.keep, fun y hy => .inl ?_⟩⟩
  · rw [worked_all ha, worked_strip]
  · have hs := (worked_sub (pr := pr) (V := V) (m := m0)).2
    simp only [ownR, List.mem_cons] at hy ⊢
    rcases hy with q | q | q
    · exact .inl q
    · exact .inr (.inl q)
    · exact .inr (.inr (hs.subset q))
end

section
variable {h : Hp} {p r : Nat} {dom most : Int} {m : RM} {Q : Value → Hp → Prop}

def LoInv (h : Hp) (p r it : Nat) (dom most f now : Int) (m : RM) (n : Nat) (env : Env) (g : Hp) : Prop :=
  ∃ V, V.length + n = m.length ∧ Fe h p r it dom most (fun x => some (loseX f now x)) m V g ∧ env 1 = .int .i64 f ∧ env 2 = .int .i64 now ∧ env 7 = .bool (anyV (loseP f) V m) ∧ env 14 = .pointer (some ⟨it, 0, none⟩)

set_option maxRecDepth 20000 in
theorem rloseM {f now : Int} (A : RipAt h p r dom most m) (n1 : 0 ≤ now) (n2 : now ≤ 1099511627776) (hQ : ∀ h', RQ h p r dom most m (loseS (strip m) f now) h' → Q (.bool (loseB (strip m) f)) h') :
    Ok Try.prog F_rip_Rip_Lose #[.pointer (some ⟨p, 0, none⟩), .int .i64 f, .int .i64 now] h Q := by
  refine rip_Rip_Lose_ok (by simp) ?_
  unfold rip_Rip_Lose_D
  simp (disch := omega) [rip_Rip_Lose_r0, rip_Rip_Lose_r1, rip_Rip_Lose_r2, A.pt]
  refine arun_rangeS Try.underlying65 A.mp A.un (fun it o hit IS => ?_)
  simp (disch := omega)
  have F0 : Fe h p r it dom most (fun x => some (loseX f now x)) m [] (h.upd it o) := ⟨by rw [worked_nil]; exact A.le' (.new hit), by rw [worked_nil]; exact IS, .nil, by simp, fun y o' e _ => (Le.new hit) _ _ e, hit⟩
  refine ⟨LoInv h p r it dom most f now m, ⟨m.length, [], by simp, F0, by simp, by simp, by simp [anyV_nil], by simp⟩, ?_⟩
  rintro n env g ⟨V, hn, F, e1, e2, e7, e14⟩
  unfold rip_Rip_Lose_L0
  simp (disch := omega) [rip_Rip_Lose_r3, e14]
  refine arun_nextS F.iter (fun hend => ?_) (fun x o hx hxV I2 => ?_)
  · simp (disch := omega) [rip_Rip_Lose_r8, e7]
    obtain ⟨ha, q⟩ := F.done A hend
    rw [← loseS_eq] at q
    have hq := hQ _ q
    unfold loseB at hq
    rw [← anyV_all ha] at hq
    exact .to _ (.refl _) hq
  · have hxm := worked_get A.un hx hxV
    obtain ⟨A2, K2⟩ := F.next I2
    have hlen := F.len A.un hxm hxV
    have hext := F.ext hxm hxV
    have hb := A2.bl x hx
    have hgd := A2.gd x hx
    have hits := F.itn
    simp (disch := omega) [rip_Rip_Lose_r4, e14]
    refine arun_entryS I2 hx ?_
    have hany := anyV_snoc (P := loseP f) (V := V) A.un hxm
    have hch := worked_chg (pr := fun x => some (loseX f now x)) A.un hxm hxV rfl
    have A3 := A2.chg hx (x := loseX f now x.2.2) (by unfold loseX spoilR; split <;> exact hgd.2)
    have I3 := I2.chg x.1 (loseX f now x.2.2)
    rw [hch] at A3 I3
    have hblk : x.2.1 ≠ it := fun q => hits.2.2 x hx q.symm
    have hbr := (A2.pb hx).2
    have own : x.2.1 ∈ ownR p r m := by simp only [ownR, List.mem_cons, List.mem_map]; exact .inr (.inr ⟨x, hxm, rfl⟩)
    have F3 : Fe h p r it dom most (fun x => some (loseX f now x)) m (V ++ [x.1]) ((g.upd it o).upd x.2.1 (.cells (rcells (loseX f now x.2.2)) T_rt (0, 0))) :=
      ⟨A3, I3.keep (by rw [upd_ne hbr.symm]) (by rw [upd_ne hblk.symm]), hext.1, hext.2, fun y o' e nn => by rw [upd_ne (by rintro rfl; exact nn own)]; exact K2 y o' e nn, F.hit⟩
    generalize g.upd it o = g2 at *
    cases hl : loseP f x.2.2 with
    | false =>
      have hlx : loseX f now x.2.2 = x.2.2 := by unfold loseX; rw [hl]; simp
      rw [hl, Bool.or_false] at hany
      rw [hlx, upd_self hb] at F3
      have fin2 : ∀ env : Env, env 1 = .int .i64 f → env 2 = .int .i64 now → env 7 = .bool (anyV (loseP f) V m) → env 14 = .pointer (some ⟨it, 0, none⟩) → ∃ m_1, m_1 < n ∧ LoInv h p r it dom most f now m m_1 env g2 := fun env e1 e2 e7 e14 =>
        ⟨n - 1, by omega, V ++ [x.1], by simp; omega, F3, e1, e2, by rw [hany]; exact e7, e14⟩
      unfold loseP at hl
      by_cases c1 : f = 0
      · subst c1
        simp (disch := omega) [rip_Rip_Lose_r5, rbv, e1]
        refine fin2 _ ?_ ?_ ?_ ?_ <;> simp [e1, e2, e7, e14]
      by_cases c2 : x.2.2.n = f
      · have c3 : ¬ x.2.2.m < 16 := fun q => by simp [c1, c2, q] at hl
        simp (disch := omega) [rip_Rip_Lose_r5, rbv, e1, hb, c1, c2]
        refine reachedM hb ?_
        simp (disch := omega) [c3]
        refine fin2 _ ?_ ?_ ?_ ?_ <;> simp [e1, e2, e7, e14]
      · simp (disch := omega) [rip_Rip_Lose_r5, rbv, e1, hb, c1, c2]
        refine fin2 _ ?_ ?_ ?_ ?_ <;> simp [e1, e2, e7, e14]
    | true =>
      have hlx : loseX f now x.2.2 = spoilR x.2.2 now := by unfold loseX; rw [hl]; simp
      rw [hl, Bool.or_true] at hany
      rw [hlx] at F3
      unfold loseP at hl
      simp only [decide_eq_true_eq] at hl
      obtain ⟨c1, c2, c3⟩ := hl
      simp (disch := omega) [rip_Rip_Lose_r5, rbv, e1, hb, c1, c2]
      refine reachedM hb ?_
      simp (disch := omega) [c3, rip_Rip_Lose_r6, e2]
      refine spoilM hb (by omega) (by omega) ?_
      simp (disch := omega) [rip_Rip_Lose_r7]
      exact ⟨n - 1, by omega, V ++ [x.1], by simp; omega, F3, by simp [e1], by simp [e2], by simp [hany], by simp [e14]⟩

def TiInv (h : Hp) (p r it : Nat) (dom most now : Int) (m : RM) (n : Nat) (env : Env) (g : Hp) : Prop :=
  ∃ V, V.length + n = m.length ∧ Fe h p r it dom most (tickX now) m V g ∧ env 0 = .pointer (some ⟨p, 0, none⟩) ∧ env 1 = .int .i64 now ∧ env 5 = .bool (anyV (tickP now) V m) ∧ env 12 = .pointer (some ⟨it, 0, none⟩)

theorem RipAt.del {h : Hp} (A : RipAt h p r dom most m) {k : PK} {o : Obj} (M : MapB (h.upd r o) r kvalP rbv (delM k m)) : RipAt (h.upd r o) p r dom most (delM k m) :=
  ⟨by rw [upd_ne A.pr]; exact A.pt, M, A.un.del, fun e he => by show (h.upd r o) e.2.1 = _; rw [upd_ne (A.pb (delM_sub.subset he)).2]; exact A.bl e (delM_sub.subset he),
    List.Sublist.nodup (delM_sub.map _) A.nb, fun e he => A.gd e (delM_sub.subset he), Nat.le_trans delM_sub.length_le A.le⟩

set_option maxRecDepth 20000 in
theorem kp_delS {h : Hp} {it r : Nat} {k : PK} {m : RM} {V : List PK} {K : Value → Hp → Prop} (I : IterS h it r kvalP rbv m V) (hK : ∀ o, IterS (h.upd r o) it r kvalP rbv (delM k m) V → K (.tuple #[]) (h.upd r o)) :
    arun Try.prog (Builtin.delete_ #[65, 24] 0 #[.map (some r), .agg #[.int .u32 (k.1 : Nat), .int .i64 k.2]]) h K :=
  arun_mapDeleteS (a := k) (kenc := kvalP) (venc := rbv) rfl Try.underlying65 I (fun e => ck_65) (fun es H => kp_find H) hK

set_option maxHeartbeats 1000000 in
set_option maxRecDepth 20000 in
theorem rtickM {now : Int} (A : RipAt h p r dom most m) (n1 : 0 ≤ now) (n2 : now ≤ 1099511627776) (hQ : ∀ h', RQ h p r dom most m (tickS (strip m) now) h' → Q (.bool (tickB (strip m) now)) h') :
    Ok Try.prog F_rip_Rip_Tick #[.pointer (some ⟨p, 0, none⟩), .int .i64 now] h Q := by
  refine rip_Rip_Tick_ok (by simp) ?_
  unfold rip_Rip_Tick_D
  simp (disch := omega) [rip_Rip_Tick_r0, rip_Rip_Tick_r1, rip_Rip_Tick_r2, A.pt]
  refine arun_rangeS Try.underlying65 A.mp A.un (fun it o hit IS => ?_)
  simp (disch := omega)
  have F0 : Fe h p r it dom most (tickX now) m [] (h.upd it o) := ⟨by rw [worked_nil]; exact A.le' (.new hit), by rw [worked_nil]; exact IS, .nil, by simp, fun y o' e _ => (Le.new hit) _ _ e, hit⟩
  refine ⟨TiInv h p r it dom most now m, ⟨m.length, [], by simp, F0, by simp, by simp, by simp [anyV_nil], by simp⟩, ?_⟩
  rintro n env g ⟨V, hn, F, e0, e1, e5, e12⟩
  unfold rip_Rip_Tick_L0
  simp (disch := omega) [rip_Rip_Tick_r3, e12]
  refine arun_nextS F.iter (fun hend => ?_) (fun x o hx hxV I2 => ?_)
  · simp (disch := omega) [rip_Rip_Tick_r11, e5]
    obtain ⟨ha, q⟩ := F.done A hend
    have hq := hQ _ q
    unfold tickB at hq
    rw [← anyV_all ha] at hq
    exact .to _ (.refl _) hq
  · have hxm := worked_get A.un hx hxV
    obtain ⟨A2, K2⟩ := F.next I2
    have hlen := F.len A.un hxm hxV
    have hext := F.ext hxm hxV
    have hits := F.itn
    simp (disch := omega) [rip_Rip_Tick_r4, e12]
    refine arun_entryS I2 hx ?_
    simp (disch := omega)
    intro b6 hb6
    have hit2 : ∃ o', (g.upd it o) it = some o' := ⟨_, upd_same⟩
    generalize g.upd it o = g2 at *
    have L2 : Le g2 (g2.upd b6 (.cells #[.int .u32 (x.1.1 : Nat), .int .i64 x.1.2] 24)) := .new hb6
    have f6 : (g2.upd b6 (.cells #[.int .u32 (x.1.1 : Nat), .int .i64 x.1.2] 24)) b6 = some (.cells #[.int .u32 (x.1.1 : Nat), .int .i64 x.1.2] 24) := upd_same
    replace A2 := A2.le' L2
    replace I2 := I2.le L2
    replace K2 : ∀ y o', h y = some o' → y ∉ ownR p r m → (g2.upd b6 (.cells #[.int .u32 (x.1.1 : Nat), .int .i64 x.1.2] 24)) y = some o' := fun y o' e nn => L2 _ _ (K2 y o' e nn)
    have hb := A2.bl x hx
    have hgd := A2.gd x hx
    have hpt := A2.pt
    have hblk : x.2.1 ≠ it := fun q => hits.2.2 x hx q.symm
    have hbr := (A2.pb hx).2
    have own : x.2.1 ∈ ownR p r m := by simp only [ownR, List.mem_cons, List.mem_map]; exact .inr (.inr ⟨x, hxm, rfl⟩)
    simp (disch := omega)
    show rip_Rip_Tick_r5 _ (g2.upd b6 (.cells #[.int .u32 (x.1.1 : Nat), .int .i64 x.1.2] 24)) _
    generalize g2.upd b6 (.cells #[.int .u32 (x.1.1 : Nat), .int .i64 x.1.2] 24) = g3 at *
    have hany := anyV_snoc (P := tickP now) (V := V) A.un hxm
    have stay : tickP now x.2.2 = false → ∀ env : Env, env 0 = .pointer (some ⟨p, 0, none⟩) → env 1 = .int .i64 now → env 5 = .bool (anyV (tickP now) V m) → env 12 = .pointer (some ⟨it, 0, none⟩) → ∃ m_1, m_1 < n ∧ TiInv h p r it dom most now m m_1 env g3 := by
      intro hp env e0 e1 e5 e12
      have htx : tickX now x.2.2 = some x.2.2 := by unfold tickX; rw [hp]; simp
      have hch := worked_chg A.un hxm hxV htx
      have A3 := A2.chg hx (x := x.2.2) hgd.2
      have I3 := I2.chg x.1 x.2.2
      rw [hch] at A3 I3
      rw [upd_self hb] at A3
      rw [hp, Bool.or_false] at hany
      exact ⟨n - 1, by omega, V ++ [x.1], by simp; omega, ⟨A3, I3, hext.1, hext.2, K2, F.hit⟩, e0, e1, by rw [hany]; exact e5, e12⟩
    simp (disch := omega) [rip_Rip_Tick_r5, rbv]
    refine reachedM hb ?_
    by_cases c1 : x.2.2.m < 16
    · by_cases c2 : x.2.2.n = 0
      · simp (disch := omega) [rbv, c1, c2, hb]
        refine stay (by unfold tickP; simp [c1, c2]) _ ?_ ?_ ?_ ?_ <;> simp [e0, e1, e5, e12]
      · by_cases c3 : now < x.2.2.e
        · simp (disch := omega) [rbv, c1, c2, c3, hb, rip_Rip_Tick_r6, e1]
          refine stay (by unfold tickP; simp; omega) _ ?_ ?_ ?_ ?_ <;> simp [e0, e1, e5, e12]
        · have hp : tickP now x.2.2 = true := by unfold tickP; simp [c1, c2]; omega
          have htx : tickX now x.2.2 = some (spoilR x.2.2 now) := by unfold tickX; rw [hp]; simp [c1]
          have hch := worked_chg A.un hxm hxV htx
          have A3 := A2.chg hx (x := spoilR x.2.2 now) hgd.2
          have I3 := I2.chg x.1 (spoilR x.2.2 now)
          rw [hch] at A3 I3
          rw [hp, Bool.or_true] at hany
          simp (disch := omega) [rbv, c1, c2, c3, hb, rip_Rip_Tick_r6, rip_Rip_Tick_r7, e1]
          refine reachedM hb ?_
          simp (disch := omega) [rbv, c1, rip_Rip_Tick_r8, e1]
          refine spoilM hb (by omega) (by omega) ?_
          simp (disch := omega) [rip_Rip_Tick_r10]
          exact ⟨n - 1, by omega, V ++ [x.1], by simp; omega, ⟨A3, I3.keep (by rw [upd_ne hbr.symm]) (by rw [upd_ne hblk.symm]), hext.1, hext.2, fun y o' e nn => by rw [upd_ne (by rintro rfl; exact nn own)]; exact K2 y o' e nn, F.hit⟩, by simp [e0], by simp [e1], by simp [hany], by simp [e12]⟩
    · by_cases c3 : now < x.2.2.e
      · simp (disch := omega) [rbv, c1, c3, hb, rip_Rip_Tick_r6, e1]
        refine stay (by unfold tickP; simp; omega) _ ?_ ?_ ?_ ?_ <;> simp [e0, e1, e5, e12]
      · have hp : tickP now x.2.2 = true := by unfold tickP; simp [c1]; omega
        have htx : tickX now x.2.2 = none := by unfold tickX; rw [hp]; simp [c1]
        have hde := worked_del A.un hxm hxV htx
        rw [hp, Bool.or_true] at hany
        simp (disch := omega) [rbv, c1, c3, hb, rip_Rip_Tick_r6, rip_Rip_Tick_r7, e1]
        refine reachedM hb ?_
        simp (disch := omega) [rbv, c1, rip_Rip_Tick_r9, e0, hpt, f6]
        refine kp_delS I2 (fun o3 I3 => ?_)
        have A3 := A2.del I3.map
        rw [hde] at A3 I3
        simp (disch := omega) [rip_Rip_Tick_r10]
        exact ⟨n - 1, by omega, V ++ [x.1], by simp; omega, ⟨A3, I3, hext.1, hext.2, fun y o' e nn => by rw [upd_ne (by rintro rfl; exact nn (by simp [ownR]))]; exact K2 y o' e nn, F.hit⟩, by simp [e0], by simp [e1], by simp [hany], by simp [e12]⟩
end
end Go.Proofs.Ytpfenhikoajghaa

/- REnt: a flat struct (printed by wip/lib/struct.py). -/
namespace Go.Proofs.Ytpfenhikoajghaa
open Go
set_option linter.unusedSimpArgs false
set_option linter.unusedVariables false

structure REnt where
  a : Nat
  l : Int
  tag : Nat
  nx : Nat
  m : Int
deriving DecidableEq

def REnt.enc (x : REnt) : List Value := [.int .u32 (x.a : Nat), .int .i64 x.l, .int .u16 (x.tag : Nat), .int .u32 (x.nx : Nat), .int .i64 x.m]
abbrev REntv (x : REnt) : Value := .agg #[.int .u32 (x.a : Nat), .int .i64 x.l, .int .u16 (x.tag : Nat), .int .u32 (x.nx : Nat), .int .i64 x.m]
abbrev REnt.cells (x : REnt) : Array Value := #[.int .u32 (x.a : Nat), .int .i64 x.l, .int .u16 (x.tag : Nat), .int .u32 (x.nx : Nat), .int .i64 x.m]
structure REnt.Good (x : REnt) : Prop where
  a : x.a < 2 ^ 32
  tag : x.tag < 2 ^ 16
  nx : x.nx < 2 ^ 32
theorem REnt.one (x : REnt) : (REnt.enc x).length = 5 ∧ ∀ u ∈ REnt.enc x, oneCell u = true := ⟨rfl, by simp [REnt.enc]⟩

theorem REnt_at {h : Hp} {v : Value} {xs : List REnt} {i : Nat} {x : REnt} (S : SlAt h 33 5 REnt.enc v xs) (hx : xs[i]? = some x) :
    ∃ b cap c, v = .slice (some ⟨b, 0, none⟩) xs.length cap ∧ h b = some (.cells c 33 (0, 0)) ∧ c[i * 5]? = some (.int .u32 (x.a : Nat)) ∧ c[i * 5 + 1]? = some (.int .i64 x.l) ∧ c[i * 5 + 2]? = some (.int .u16 (x.tag : Nat)) ∧ c[i * 5 + 3]? = some (.int .u32 (x.nx : Nat)) ∧ c[i * 5 + 4]? = some (.int .i64 x.m) := by
  obtain ⟨b, cap, c, e, hb, H⟩ := SlAt.at' S hx
  exact ⟨b, cap, c, e, hb, H 0 (by omega), H 1 (by omega), H 2 (by omega), H 3 (by omega), H 4 (by omega)⟩

def SameInv_REnt (g0 : Hp) (v w : Value) (L : List REnt) (mm : Nat) (env : Env) (g : Hp) : Prop :=
  g = g0 ∧ ∃ i : Nat, env 0 = v ∧ env 1 = w ∧ env 5 = .int .i64 (i : Nat) ∧ i + mm = L.length ∧ i ≤ L.length

set_option maxRecDepth 20000 in
theorem same_REnt {h : Hp} {v w : Value} {L : List REnt} {Q : Value → Hp → Prop} (S : SlAt h 33 5 REnt.enc v L) (S' : SlAt h 33 5 REnt.enc w L) (hl : L.length ≤ 1000000) (hQ : Q (.bool true) h) : Ok Try.prog F_octroiref16_Same #[v, w] h Q := by
  obtain ⟨p, cap, hv⟩ := S.shape'
  obtain ⟨p', cap', hw⟩ := S'.shape'
  refine octroiref16_Same_ok (by simp) ?_
  unfold octroiref16_Same_D
  simp (disch := omega) [octroiref16_Same_r0, octroiref16_Same_r1, octroiref16_Same_r3, hv, hw]
  refine ⟨SameInv_REnt h v w L, ⟨L.length, rfl, 0, by simp [hv], by simp [hw], by simp, by omega, by omega⟩, ?_⟩
  rintro mm env g ⟨rfl, i, e0, e1, e5, him, hi⟩
  unfold octroiref16_Same_L0
  by_cases hm : mm = 0
  · have : i = L.length := by omega
    subst this
    simp (disch := omega) [octroiref16_Same_r4, octroiref16_Same_r8, e0, e1, e5, hv]
    exact .to _ (.refl _) hQ
  · obtain ⟨y, hy⟩ : ∃ y, L[i]? = some y := ⟨_, List.getElem?_eq_getElem (by omega)⟩
    obtain ⟨b, c1, c, ev, hb, q0, q1, q2, q3, q4⟩ := REnt_at S hy
    obtain ⟨b', c1', c', ew, hb', t0, t1, t2, t3, t4⟩ := REnt_at S' hy
    have hi' : i < L.length := by omega
    rw [ev] at e0
    rw [ew] at e1
    simp (disch := omega) [octroiref16_Same_r4, octroiref16_Same_r5, octroiref16_Same_r7, e0, e1, e5, hi', hb, hb', q0, q1, q2, q3, q4, t0, t1, t2, t3, t4, wrap_i64]
    exact ⟨mm - 1, by omega, rfl, i + 1, by simp [e0, ev], by simp [e1, ew], by simp, by omega, by omega⟩
end Go.Proofs.Ytpfenhikoajghaa

/- Rt: a flat struct (printed by wip/lib/struct.py). -/
namespace Go.Proofs.Ytpfenhikoajghaa
open Go
set_option linter.unusedSimpArgs false
set_option linter.unusedVariables false

structure Rt where
  a : Nat
  l : Int
  d : Int
  ds : Int
  m : Int
  nx : Int
  tg : Nat
deriving DecidableEq

def Rt.enc (x : Rt) : List Value := [.int .u32 (x.a : Nat), .int .i64 x.l, .int .i64 x.d, .int .i64 x.ds, .int .i64 x.m, .int .i64 x.nx, .int .u16 (x.tg : Nat)]
abbrev rv (x : Rt) : Value := .agg #[.int .u32 (x.a : Nat), .int .i64 x.l, .int .i64 x.d, .int .i64 x.ds, .int .i64 x.m, .int .i64 x.nx, .int .u16 (x.tg : Nat)]
abbrev Rt.cells (x : Rt) : Array Value := #[.int .u32 (x.a : Nat), .int .i64 x.l, .int .i64 x.d, .int .i64 x.ds, .int .i64 x.m, .int .i64 x.nx, .int .u16 (x.tg : Nat)]
structure Rt.Good (x : Rt) : Prop where
  a : x.a < 2 ^ 32
  tg : x.tg < 2 ^ 16
theorem Rt.one (x : Rt) : (Rt.enc x).length = 7 ∧ ∀ u ∈ Rt.enc x, oneCell u = true := ⟨rfl, by simp [Rt.enc]⟩

theorem rt_at {h : Hp} {v : Value} {xs : List Rt} {i : Nat} {x : Rt} (S : SlAt h 38 7 Rt.enc v xs) (hx : xs[i]? = some x) :
    ∃ b cap c, v = .slice (some ⟨b, 0, none⟩) xs.length cap ∧ h b = some (.cells c 38 (0, 0)) ∧ c[i * 7]? = some (.int .u32 (x.a : Nat)) ∧ c[i * 7 + 1]? = some (.int .i64 x.l) ∧ c[i * 7 + 2]? = some (.int .i64 x.d) ∧ c[i * 7 + 3]? = some (.int .i64 x.ds) ∧ c[i * 7 + 4]? = some (.int .i64 x.m) ∧ c[i * 7 + 5]? = some (.int .i64 x.nx) ∧ c[i * 7 + 6]? = some (.int .u16 (x.tg : Nat)) := by
  obtain ⟨b, cap, c, e, hb, H⟩ := SlAt.at' S hx
  exact ⟨b, cap, c, e, hb, H 0 (by omega), H 1 (by omega), H 2 (by omega), H 3 (by omega), H 4 (by omega), H 5 (by omega), H 6 (by omega)⟩
end Go.Proofs.Ytpfenhikoajghaa

/- RIP in memory: Tell, All. -/
namespace Go.Proofs.Ytpfenhikoajghaa
open Go
set_option linter.unusedSimpArgs false
set_option linter.unusedVariables false

def tellX (t : Int) (k : PK) (x : Rr) : REnt := ⟨k.1, k.2, x.tag, 0, if t ≠ 0 ∧ x.n = t then 16 else x.m⟩
def allX (dom : Int) (k : PK) (x : Rr) : Rt := ⟨k.1, k.2, dom, 120, x.m, x.n, x.tag⟩
def tellL (t : Int) (S : RS) (ks : List PK) : List REnt := ks.filterMap fun k => (getM S k).map (tellX t k)
def allL (dom : Int) (S : RS) (ks : List PK) : List Rt := ks.filterMap fun k => (getM S k).bind fun x => if x.m < 16 then some (allX dom k x) else none

theorem kp_at {h : Hp} {v : Value} {xs : List PK} {i : Nat} {x : PK} (S : SlAt h 24 2 kencP v xs) (hx : xs[i]? = some x) :
    ∃ b cap c, v = .slice (some ⟨b, 0, none⟩) xs.length cap ∧ h b = some (.cells c 24 (0, 0)) ∧ c[i * 2]? = some (.int .u32 (x.1 : Nat)) ∧ c[i * 2 + 1]? = some (.int .i64 x.2) := by
  obtain ⟨b, cap, c, e, hb, H⟩ := SlAt.at' S hx
  exact ⟨b, cap, c, e, hb, H 0 (by omega), H 1 (by omega)⟩

section
variable {h : Hp} {p r : Nat} {dom most : Int} {m : RM} {Q : Value → Hp → Prop}

def TeInv (h : Hp) (p : Nat) (t : Int) (S : RS) (kv : Value) (ks : List PK) (n : Nat) (env : Env) (g : Hp) : Prop :=
  ∃ (i : Nat) (w : Value), i + n = ks.length ∧ Le h g ∧ SlAt g 33 5 REnt.enc w (tellL t S (ks.take i)) ∧ (∀ b, blkOf w = some b → h b = none) ∧
    env 0 = .pointer (some ⟨p, 0, none⟩) ∧ env 1 = .int .i64 t ∧ env 5 = w ∧ env 11 = kv ∧ env 12 = .int .i64 (ks.length : Nat) ∧ env 13 = .int .i64 (i : Nat)

set_option maxHeartbeats 1000000 in
set_option maxRecDepth 20000 in
theorem rtellM {t : Int} (A : RipAt h p r dom most m) (hQ : ∀ w ks h', Le h h' → ks.Perm (m.map (·.1)) → SrtP ks → SlAt h' 33 5 REnt.enc w (tellL t (strip m) ks) → (∀ b, blkOf w = some b → h b = none) → Q w h') :
    Ok Try.prog F_rip_Rip_Tell #[.pointer (some ⟨p, 0, none⟩), .int .i64 t] h Q := by
  refine rip_Rip_Tell_ok (by simp) ?_
  unfold rip_Rip_Tell_D
  simp (disch := omega) [rip_Rip_Tell_r0, rip_Rip_Tell_r1, rip_Rip_Tell_r2]
  refine rorderM A (fun kv ks h1 l1 KS hp hs nk => ?_)
  have A1 := A.le' l1
  obtain ⟨ka, kc, hkv⟩ := KS.shape'
  have hkl : ks.length ≤ 64 := by rw [hp.length_eq, List.length_map]; exact A.le
  simp (disch := omega) [hkv]
  refine ⟨TeInv h1 p t (strip m) kv ks, ⟨ks.length, 0, .slice none 0 0, by omega, .refl _, .inl ⟨rfl, by simp [tellL]⟩, by simp [blkOf], by simp, by simp, by simp, by simp [hkv], by simp, by simp⟩, ?_⟩
  rintro n env g ⟨i, w, hin, lg, S, nw, e0, e1, e5, e11, e12, e13⟩
  unfold rip_Rip_Tell_L0
  by_cases hm : n = 0
  · have : i = ks.length := by omega
    subst this
    rw [List.take_of_length_le (Nat.le_refl _)] at S
    simp (disch := omega) [rip_Rip_Tell_r3, rip_Rip_Tell_r11, e5, e12, e13]
    exact .to _ (.refl _) (hQ w ks g (l1.trans lg) hp hs S (fun b e => none_of_le l1 (nw b e)))
  · obtain ⟨k, hk⟩ : ∃ k, ks[i]? = some k := ⟨_, List.getElem?_eq_getElem (by omega)⟩
    obtain ⟨b, cap, c, hv', hb, c0, c1⟩ := kp_at (KS.le' lg) hk
    rw [hkv] at hv'
    simp only [Value.slice.injEq, true_and] at hv'
    obtain ⟨rfl, rfl⟩ := hv'
    have hi' : i < ks.length := by omega
    have hkm : k ∈ m.map (·.1) := hp.mem_iff.1 (List.mem_of_getElem? hk)
    obtain ⟨v, hg⟩ : ∃ v, getM m k = some v := by
      cases hq : getM m k with
      | none => exact absurd hkm (getM_none.1 hq)
      | some v => exact ⟨v, rfl⟩
    have hgs : getM (strip m) k = some v.2 := by rw [getM_strip, hg]; rfl
    have tl : tellL t (strip m) (ks.take (i + 1)) = tellL t (strip m) (ks.take i) ++ [tellX t k v.2] := by
      rw [take_snoc hk]; unfold tellL; rw [List.filterMap_append]; simp [hgs]
    have Ag := A1.le' lg
    have tll : (tellL t (strip m) (ks.take i)).length ≤ 64 := by
      unfold tellL
      exact Nat.le_trans (List.length_filterMap_le _ _) (by rw [List.length_take]; omega)
    simp (disch := omega) [rip_Rip_Tell_r3, rip_Rip_Tell_r4, e0, e1, e5, e11, e12, e13, hi', hkv, hb, c0, c1]
    intro b7 hb7
    have l7 : Le g (g.upd b7 (.cells #[.int .u32 (k.1 : Nat), .int .i64 k.2] 24)) := .new hb7
    have f7 : (g.upd b7 (.cells #[.int .u32 (k.1 : Nat), .int .i64 k.2] 24)) b7 = some (.cells #[.int .u32 (k.1 : Nat), .int .i64 k.2] 24) := upd_same
    simp (disch := omega)
    show rip_Rip_Tell_r5 _ (g.upd b7 (.cells #[.int .u32 (k.1 : Nat), .int .i64 k.2] 24)) _
    have A7 := Ag.le' l7
    have S7 := S.le' l7
    have lg7 := lg.trans l7
    generalize g.upd b7 (.cells #[.int .u32 (k.1 : Nat), .int .i64 k.2] 24) = g7 at *
    have lk := kp_look (p := k) A7.mp
    have hbr := A7.bl _ (getM_mem hg)
    rw [hg] at lk
    simp (disch := omega) [rip_Rip_Tell_r5, e0, A7.pt, f7, lk]
    simp (disch := omega) [rip_Rip_Tell_r6, rbv, f7, hbr]
    intro b9 hb9
    have n1 := ne_new hbr hb9
    have n2 := ne_new f7 hb9
    simp (disch := omega) [n1, n2, hbr, f7]
    have l9 : Le g7 (g7.upd b9 (.cells #[.int .u32 (k.1 : Nat), .int .i64 k.2, .int .u16 (v.2.tag : Nat), .int .u32 0, .int .i64 v.2.m] 33)) := .new hb9
    have f9 : (g7.upd b9 (.cells #[.int .u32 (k.1 : Nat), .int .i64 k.2, .int .u16 (v.2.tag : Nat), .int .u32 0, .int .i64 v.2.m] 33)) b9 = some (.cells #[.int .u32 (k.1 : Nat), .int .i64 k.2, .int .u16 (v.2.tag : Nat), .int .u32 0, .int .i64 v.2.m] 33) := upd_same
    show rip_Rip_Tell_r7 _ (g7.upd b9 (.cells #[.int .u32 (k.1 : Nat), .int .i64 k.2, .int .u16 (v.2.tag : Nat), .int .u32 0, .int .i64 v.2.m] 33)) _
    have A9 := A7.le' l9
    have S9 := S7.le' l9
    have lg9 := lg7.trans l9
    have hbr9 := l9 _ _ hbr
    have nb9 : h1 b9 = none := none_of_le lg7 hb9
    have nwb : ∀ y, blkOf w = some y → y ≠ b9 := fun y e => by obtain ⟨o, q⟩ := S7.alive e; exact ne_new q hb9
    generalize g7.upd b9 (.cells #[.int .u32 (k.1 : Nat), .int .i64 k.2, .int .u16 (v.2.tag : Nat), .int .u32 0, .int .i64 v.2.m] 33) = g9 at *
    have last : ∀ (env : Env) (ga : Hp), Le h1 ga → SlAt ga 33 5 REnt.enc w (tellL t (strip m) (ks.take i)) → ga b9 = some (.cells (tellX t k v.2).cells 33 (0, 0)) →
        env 0 = .pointer (some ⟨p, 0, none⟩) → env 1 = .int .i64 t → env 5 = w → env 9 = .pointer (some ⟨b9, 0, none⟩) → env 11 = .slice (some ⟨b, 0, none⟩) ks.length kc → env 12 = .int .i64 (ks.length : Nat) → env 13 = .int .i64 (i : Nat) →
        rip_Rip_Tell_r9 env ga (inBlk 1 (thenK (rg rip_Rip_Tell_r10) (roundK (TeInv h1 p t (strip m) (.slice (some ⟨b, 0, none⟩) ks.length kc) ks) n (inBlk 0 (thenK (sq (rg rip_Rip_Tell_r11) (ex .ret)) (fin Try.prog [.tmp 4] Q))))) .normal) := by
      intro env ga la Sa fa e0 e1 e5 e9 e11 e12 e13
      simp (disch := omega) [rip_Rip_Tell_r9, e5, e9, fa]
      refine snoc_api_RipEntry Sa (y := tellX t k v.2) rfl (by simp [REnt.enc]) (by omega) (fun bb w' g' S' G hbb => ?_)
      simp (disch := omega) [rip_Rip_Tell_r10, e13, wrap_i64]
      refine ⟨n - 1, by omega, i + 1, w', by omega, fun x o e => G.keep x o (la _ _ e) (fun q => by rw [nw x q.symm] at e; cases e), by rw [tl]; exact S', fun y e => ?_, by simp [e0], by simp [e1], by simp, by simp [e11], by simp [e12], by simp⟩
      rcases G.fresh with q | q
      · exact nw y (by rw [← q]; exact e)
      · exact none_of_le la (q y e)
    by_cases c2 : t = 0
    · have ht : tellX t k v.2 = ⟨k.1, k.2, v.2.tag, 0, v.2.m⟩ := by unfold tellX; rw [if_neg (fun q => q.1 c2)]
      simp (disch := omega) [rip_Rip_Tell_r7, e1, c2]
      subst c2
      refine last _ g9 lg9 S9 (by rw [ht]; exact f9) ?_ ?_ ?_ ?_ ?_ ?_ ?_ <;> simp [e0, e1, e5, e11, e12, e13, hkv]
    · by_cases c3 : v.2.n = t
      · have ht : tellX t k v.2 = ⟨k.1, k.2, v.2.tag, 0, 16⟩ := by unfold tellX; rw [if_pos ⟨c2, c3⟩]
        simp (disch := omega) [rip_Rip_Tell_r7, rip_Rip_Tell_r8, rbv, e1, c2, c3, hbr9, f9]
        refine last _ _ (lg9.put nb9) (S9.keep fun y o e e2 => by rw [upd_ne (nwb y e)]; exact e2) (by rw [ht]; exact upd_same) ?_ ?_ ?_ ?_ ?_ ?_ ?_ <;> simp [e0, e1, e5, e11, e12, e13, hkv]
      · have ht : tellX t k v.2 = ⟨k.1, k.2, v.2.tag, 0, v.2.m⟩ := by unfold tellX; rw [if_neg (fun q => c3 q.2)]
        simp (disch := omega) [rip_Rip_Tell_r7, rbv, e1, c2, c3, hbr9]
        refine last _ g9 lg9 S9 (by rw [ht]; exact f9) ?_ ?_ ?_ ?_ ?_ ?_ ?_ <;> simp [e0, e1, e5, e11, e12, e13, hkv]

def AlInv (h : Hp) (p : Nat) (dom : Int) (S : RS) (kv : Value) (ks : List PK) (n : Nat) (env : Env) (g : Hp) : Prop :=
  ∃ (i : Nat) (w : Value), i + n = ks.length ∧ Le h g ∧ SlAt g 38 7 Rt.enc w (allL dom S (ks.take i)) ∧ (∀ b, blkOf w = some b → h b = none) ∧
    env 0 = .pointer (some ⟨p, 0, none⟩) ∧ env 3 = w ∧ env 8 = kv ∧ env 9 = .int .i64 (ks.length : Nat) ∧ env 10 = .int .i64 (i : Nat)

set_option maxHeartbeats 1000000 in
set_option maxRecDepth 20000 in
theorem rallM (A : RipAt h p r dom most m) (hQ : ∀ w ks h', Le h h' → ks.Perm (m.map (·.1)) → SrtP ks → SlAt h' 38 7 Rt.enc w (allL dom (strip m) ks) → (∀ b, blkOf w = some b → h b = none) → Q w h') :
    Ok Try.prog F_rip_Rip_All #[.pointer (some ⟨p, 0, none⟩)] h Q := by
  refine rip_Rip_All_ok (by simp) ?_
  unfold rip_Rip_All_D
  simp (disch := omega) [rip_Rip_All_r0, rip_Rip_All_r1, rip_Rip_All_r2]
  refine rorderM A (fun kv ks h1 l1 KS hp hs nk => ?_)
  have A1 := A.le' l1
  obtain ⟨ka, kc, hkv⟩ := KS.shape'
  have hkl : ks.length ≤ 64 := by rw [hp.length_eq, List.length_map]; exact A.le
  simp (disch := omega) [hkv]
  refine ⟨AlInv h1 p dom (strip m) kv ks, ⟨ks.length, 0, .slice none 0 0, by omega, .refl _, .inl ⟨rfl, by simp [allL]⟩, by simp [blkOf], by simp, by simp, by simp [hkv], by simp, by simp⟩, ?_⟩
  rintro n env g ⟨i, w, hin, lg, S, nw, e0, e3, e8, e9, e10⟩
  unfold rip_Rip_All_L0
  by_cases hm : n = 0
  · have : i = ks.length := by omega
    subst this
    rw [List.take_of_length_le (Nat.le_refl _)] at S
    simp (disch := omega) [rip_Rip_All_r3, rip_Rip_All_r9, e3, e9, e10]
    exact .to _ (.refl _) (hQ w ks g (l1.trans lg) hp hs S (fun b e => none_of_le l1 (nw b e)))
  · obtain ⟨k, hk⟩ : ∃ k, ks[i]? = some k := ⟨_, List.getElem?_eq_getElem (by omega)⟩
    obtain ⟨b, cap, c, hv', hb, c0, c1⟩ := kp_at (KS.le' lg) hk
    rw [hkv] at hv'
    simp only [Value.slice.injEq, true_and] at hv'
    obtain ⟨rfl, rfl⟩ := hv'
    have hi' : i < ks.length := by omega
    have hkm : k ∈ m.map (·.1) := hp.mem_iff.1 (List.mem_of_getElem? hk)
    obtain ⟨v, hg⟩ : ∃ v, getM m k = some v := by
      cases hq : getM m k with
      | none => exact absurd hkm (getM_none.1 hq)
      | some v => exact ⟨v, rfl⟩
    have hgs : getM (strip m) k = some v.2 := by rw [getM_strip, hg]; rfl
    have tl : allL dom (strip m) (ks.take (i + 1)) = allL dom (strip m) (ks.take i) ++ (if v.2.m < 16 then [allX dom k v.2] else []) := by
      rw [take_snoc hk]; unfold allL; rw [List.filterMap_append]; simp [hgs]; split <;> simp [*]
    have Ag := A1.le' lg
    have tll : (allL dom (strip m) (ks.take i)).length ≤ 64 := by
      unfold allL
      exact Nat.le_trans (List.length_filterMap_le _ _) (by rw [List.length_take]; omega)
    simp (disch := omega) [rip_Rip_All_r3, rip_Rip_All_r4, e0, e3, e8, e9, e10, hi', hkv, hb, c0, c1]
    intro b7 hb7
    have l7 : Le g (g.upd b7 (.cells #[.int .u32 (k.1 : Nat), .int .i64 k.2] 24)) := .new hb7
    have f7 : (g.upd b7 (.cells #[.int .u32 (k.1 : Nat), .int .i64 k.2] 24)) b7 = some (.cells #[.int .u32 (k.1 : Nat), .int .i64 k.2] 24) := upd_same
    simp (disch := omega)
    show rip_Rip_All_r5 _ (g.upd b7 (.cells #[.int .u32 (k.1 : Nat), .int .i64 k.2] 24)) _
    have A7 := Ag.le' l7
    have S7 := S.le' l7
    have lg7 := lg.trans l7
    generalize g.upd b7 (.cells #[.int .u32 (k.1 : Nat), .int .i64 k.2] 24) = g7 at *
    have lk := kp_look (p := k) A7.mp
    have hbr := A7.bl _ (getM_mem hg)
    rw [hg] at lk
    simp (disch := omega) [rip_Rip_All_r5, e0, A7.pt, f7, lk]
    simp (disch := omega) [rip_Rip_All_r6, rbv]
    refine reachedM hbr ?_
    by_cases c2 : v.2.m < 16
    · rw [if_pos c2] at tl
      simp (disch := omega) [rbv, c2, rip_Rip_All_r7, e0, e3, A7.pt, f7, hbr]
      refine snoc_api_Route S7 (y := allX dom k v.2) rfl (by simp [Rt.enc]) (by omega) (fun bb w' g' S' G hbb => ?_)
      simp (disch := omega) [rip_Rip_All_r8, e10, wrap_i64]
      refine ⟨n - 1, by omega, i + 1, w', by omega, fun x o e => G.keep x o (lg7 _ _ e) (fun q => by rw [nw x q.symm] at e; cases e), by rw [tl]; exact S', fun y e => ?_, by simp [e0], by simp, by simp [e8, hkv], by simp [e9], by simp⟩
      rcases G.fresh with q | q
      · exact nw y (by rw [← q]; exact e)
      · exact none_of_le lg7 (q y e)
    · rw [if_neg c2, List.append_nil] at tl
      simp (disch := omega) [c2, rip_Rip_All_r8, e10, wrap_i64]
      exact ⟨n - 1, by omega, i + 1, w, by omega, lg7, by rw [tl]; exact S7, nw, by simp [e0], by simp [e3], by simp [e8, hkv], by simp [e9], by simp⟩
end
end Go.Proofs.Ytpfenhikoajghaa

/- Op16: a flat struct (printed by wip/lib/struct.py). -/
namespace Go.Proofs.Ytpfenhikoajghaa
open Go
set_option linter.unusedSimpArgs false
set_option linter.unusedVariables false

structure Op16 where
  k : Int
  f : Int
  c : Int
  n : Int
  now : Int
  a : Nat
  l : Int
  tag : Nat
deriving DecidableEq

def Op16.enc (x : Op16) : List Value := [.int .i64 x.k, .int .i64 x.f, .int .i64 x.c, .int .i64 x.n, .int .i64 x.now, .int .u32 (x.a : Nat), .int .i64 x.l, .int .u16 (x.tag : Nat)]
abbrev Op16v (x : Op16) : Value := .agg #[.int .i64 x.k, .int .i64 x.f, .int .i64 x.c, .int .i64 x.n, .int .i64 x.now, .int .u32 (x.a : Nat), .int .i64 x.l, .int .u16 (x.tag : Nat)]
abbrev Op16.cells (x : Op16) : Array Value := #[.int .i64 x.k, .int .i64 x.f, .int .i64 x.c, .int .i64 x.n, .int .i64 x.now, .int .u32 (x.a : Nat), .int .i64 x.l, .int .u16 (x.tag : Nat)]
structure Op16.Good (x : Op16) : Prop where
  a : x.a < 2 ^ 32
  tag : x.tag < 2 ^ 16
theorem Op16.one (x : Op16) : (Op16.enc x).length = 8 ∧ ∀ u ∈ Op16.enc x, oneCell u = true := ⟨rfl, by simp [Op16.enc]⟩

def Op16Ks : List Lk := [.int .i64, .int .i64, .int .i64, .int .i64, .int .i64, .int .u32, .int .i64, .int .u16]
theorem dec_Op16 {H : Type} {enc : TypeId × Value → H} {w : World} {base : Nat} {spare : Nat → Bool} {held : Bool} (cs : List Value) (h : okLs enc Try.prog w base spare held Op16Ks cs) : ∃ x : Op16, cs = x.enc ∧ x.Good := by
  obtain ⟨a0, _, rfl, w0, h⟩ := okLs_int h
  obtain ⟨a1, _, rfl, w1, h⟩ := okLs_int h
  obtain ⟨a2, _, rfl, w2, h⟩ := okLs_int h
  obtain ⟨a3, _, rfl, w3, h⟩ := okLs_int h
  obtain ⟨a4, _, rfl, w4, h⟩ := okLs_int h
  obtain ⟨a5, _, rfl, w5, h⟩ := okLs_int h
  obtain ⟨a6, _, rfl, w6, h⟩ := okLs_int h
  obtain ⟨a7, _, rfl, w7, h⟩ := okLs_int h
  obtain rfl := okLs_nil h
  obtain ⟨b5, rfl, g5⟩ := u32_wf w5
  obtain ⟨b7, rfl, g7⟩ := u16_wf w7
  exact ⟨⟨a0, a1, a2, a3, a4, b5, a6, b7⟩, rfl, ⟨g5, g7⟩⟩
end Go.Proofs.Ytpfenhikoajghaa

/- RIP: a call of any kind; a table over what was there before. -/
namespace Go.Proofs.Ytpfenhikoajghaa
open Go
set_option linter.unusedSimpArgs false
set_option linter.unusedVariables false

def doesR (S : RS) (dom most : Int) (o : Op16) : Bool × Int × RS :=
  if o.k = 0 then (false, ownE S dom most (o.a, o.l) o.n o.tag, ownS S dom most (o.a, o.l) o.n o.tag)
  else if o.k = 1 then (false, dropE S (o.a, o.l), dropS S (o.a, o.l) o.now)
  else if o.k = 2 then hearR S dom most o.f o.c (o.a, o.l) o.tag o.n o.now
  else if o.k = 3 then (tickB S o.now, 0, tickS S o.now)
  else if o.k = 4 then (loseB S o.f, 0, loseS S o.f o.now)
  else (false, 0, S)

section
variable {h : Hp} {p r : Nat} {dom most : Int} {m : RM} {Q : Value → Hp → Prop}

theorem RQ.le' {h h1 h2 : Hp} {S' : RS} (l : Le h h1) (q : RQ h1 p r dom most m S' h2) : RQ h p r dom most m S' h2 := by
  obtain ⟨m', a, b, F⟩ := q
  refine ⟨m', a, b, fun x o e n => F.keep x o (l _ _ e) n, fun x hx => ?_⟩
  rcases F.own x hx with q | q
  · exact .inl q
  · exact .inr (none_of_le l q)

set_option maxHeartbeats 1000000 in
set_option maxRecDepth 20000 in
theorem rdoesM {o : Op16} (A : RipAt h p r dom most m) (hmo : most ≤ 64) (og : o.Good) (n1 : 0 ≤ o.now) (n2 : o.now ≤ 1099511627776)
    (hQ : ∀ h', RQ h p r dom most m (doesR (strip m) dom most o).2.2 h' → Q (.tuple #[.bool (doesR (strip m) dom most o).1, .int .i64 (doesR (strip m) dom most o).2.1]) h') :
    Ok Try.prog F_octroilaw16_Does #[.pointer (some ⟨p, 0, none⟩), Op16v o] h Q := by
  refine octroilaw16_Does_ok (by simp) ?_
  unfold octroilaw16_Does_D
  simp (disch := omega) [octroilaw16_Does_r0]
  intro b6 hb6
  have l1 : Le h (h.upd b6 (.cells o.cells 48)) := .new hb6
  have f6 : (h.upd b6 (.cells o.cells 48)) b6 = some (.cells o.cells 48 (0, 0)) := upd_same
  show octroilaw16_Does_r1 _ (h.upd b6 (.cells o.cells 48)) _
  generalize h.upd b6 (.cells o.cells 48) = h1 at *
  have A1 := A.le' l1
  replace hQ : ∀ h', RQ h1 p r dom most m (doesR (strip m) dom most o).2.2 h' → Q (.tuple #[.bool (doesR (strip m) dom most o).1, .int .i64 (doesR (strip m) dom most o).2.1]) h' := fun h' q => hQ h' (q.le' l1)
  unfold doesR at hQ
  by_cases k0 : o.k = 0
  · rw [if_pos k0] at hQ
    simp (disch := omega) [octroilaw16_Does_r1, octroilaw16_Does_r2, octroilaw16_Does_r3, f6, k0]
    refine rownM (k := (o.a, o.l)) A1 hmo og.a og.tag (fun h' q => ?_)
    simp (disch := omega)
    exact .to _ (.refl _) (hQ _ q)
  rw [if_neg k0] at hQ
  by_cases k1 : o.k = 1
  · rw [if_pos k1] at hQ
    simp (disch := omega) [octroilaw16_Does_r1, octroilaw16_Does_r2, octroilaw16_Does_r4, octroilaw16_Does_r5, f6, k0, k1]
    refine rdropM (k := (o.a, o.l)) A1 n1 n2 (fun h' q => ?_)
    simp (disch := omega)
    exact .to _ (.refl _) (hQ _ q)
  rw [if_neg k1] at hQ
  by_cases k2 : o.k = 2
  · rw [if_pos k2] at hQ
    simp (disch := omega) [octroilaw16_Does_r1, octroilaw16_Does_r2, octroilaw16_Does_r4, octroilaw16_Does_r6, octroilaw16_Does_r7, f6, k0, k1, k2]
    refine rhearM (k := (o.a, o.l)) (nx := 0) A1 hmo og.a og.tag n1 n2 (fun h' q => ?_)
    simp (disch := omega) [octroilaw16_Does_r8]
    exact .to _ (.refl _) (hQ _ q)
  rw [if_neg k2] at hQ
  by_cases k3 : o.k = 3
  · rw [if_pos k3] at hQ
    simp (disch := omega) [octroilaw16_Does_r1, octroilaw16_Does_r2, octroilaw16_Does_r4, octroilaw16_Does_r6, octroilaw16_Does_r9, octroilaw16_Does_r10, f6, k0, k1, k2, k3]
    refine rtickM A1 n1 n2 (fun h' q => ?_)
    simp (disch := omega)
    exact .to _ (.refl _) (hQ _ q)
  rw [if_neg k3] at hQ
  by_cases k4 : o.k = 4
  · rw [if_pos k4] at hQ
    simp (disch := omega) [octroilaw16_Does_r1, octroilaw16_Does_r2, octroilaw16_Does_r4, octroilaw16_Does_r6, octroilaw16_Does_r9, octroilaw16_Does_r11, octroilaw16_Does_r12, f6, k0, k1, k2, k3, k4]
    refine rloseM A1 n1 n2 (fun h' q => ?_)
    simp (disch := omega)
    exact .to _ (.refl _) (hQ _ q)
  rw [if_neg k4] at hQ
  simp (disch := omega) [octroilaw16_Does_r1, octroilaw16_Does_r2, octroilaw16_Does_r4, octroilaw16_Does_r6, octroilaw16_Does_r9, octroilaw16_Does_r11, octroilaw16_Does_r13, f6, k0, k1, k2, k3, k4]
  exact .to _ (.refl _) (hQ _ (RQ.same A1 (.refl _)))
end

/-! ### A table over what was there before -/
def RipO (B g : Hp) (p r : Nat) (dom most : Int) (S : RS) : Prop := ∃ m, RipAt g p r dom most m ∧ strip m = S ∧ Le B g ∧ ∀ x, x ∈ ownR p r m → B x = none

/-- What was there before, and a slice. -/
def Hp.with (B g : Hp) (w : Value) : Hp := match blkOf w with | some b => fun x => if x = b then g b else B x | none => B

theorem with_le {B g : Hp} {w : Value} (hn : ∀ b, blkOf w = some b → B b = none) : Le B (B.with g w) := by
  intro x o e
  unfold Hp.with
  cases hb : blkOf w with
  | none => exact e
  | some b =>
    simp only
    rw [if_neg (by rintro rfl; rw [hn x hb] at e; cases e)]; exact e
theorem with_up {B g : Hp} {w : Value} (l : Le B g) : Le (B.with g w) g := by
  intro x o e
  unfold Hp.with at e
  cases hb : blkOf w with
  | none => rw [hb] at e; exact l _ _ e
  | some b =>
    rw [hb] at e
    simp only at e
    split at e
    · rename_i q; rw [q]; exact e
    · exact l _ _ e
theorem SlAt.with {α : Type} {B g : Hp} {E sz : Nat} {enc : α → List Value} {w : Value} {xs : List α} (S : SlAt g E sz enc w xs) : SlAt (B.with g w) E sz enc w xs :=
  S.keep fun b o e q => by unfold Hp.with; rw [e]; simp [q]

section
variable {B g : Hp} {p r : Nat} {dom most : Int} {S : RS} {Q : Value → Hp → Prop}

theorem RipO.le (R : RipO B g p r dom most S) : Le B g := by obtain ⟨_, _, _, l, _⟩ := R; exact l
theorem RipO.to (R : RipO B g p r dom most S) {g' : Hp} (l : Le g g') : RipO B g' p r dom most S := by
  obtain ⟨m, A, e, lb, n⟩ := R; exact ⟨m, A.le' l, e, lb.trans l, n⟩
theorem RipO.less (R : RipO B g p r dom most S) {B' : Hp} (l : Le B' B) : RipO B' g p r dom most S := by
  obtain ⟨m, A, e, lb, n⟩ := R; exact ⟨m, A, e, l.trans lb, fun x hx => none_of_le l (n x hx)⟩
theorem RipO.rq (R : RipO B g p r dom most S) {S' : RS} {g' : Hp} (q : ∀ m, RipAt g p r dom most m → strip m = S → RQ g p r dom most m S' g') : RipO B g' p r dom most S' := by
  obtain ⟨m, A, e, lb, n⟩ := R
  obtain ⟨m', A', e', F⟩ := q m A e
  exact ⟨m', A', e', F.le lb n, F.new lb n⟩
/-- A new slice, of which the table has nothing, is laid to what was there before. -/
theorem RipO.with {g' : Hp} {w : Value} (R : RipO B g p r dom most S) (l : Le g g') (hn : ∀ b, blkOf w = some b → g b = none) : RipO (B.with g' w) g' p r dom most S := by
  obtain ⟨m, A, e, lb, n⟩ := R
  refine ⟨m, A.le' l, e, with_up (lb.trans l), fun x hx => ?_⟩
  unfold Hp.with
  cases hb : blkOf w with
  | none => exact n x hx
  | some b =>
    simp only
    rw [if_neg]
    · exact n x hx
    · rintro rfl
      obtain ⟨o, q⟩ := A.alive x hx
      rw [hn x hb] at q; cases q

theorem newO (hd : most < 9223372036854775808) (hQ : ∀ p r g', RipO g g' p r dom (min most 64) [] → Q (.pointer (some ⟨p, 0, none⟩)) g') : Ok Try.prog F_rip_New #[.int .i64 dom, .int .i64 most] g Q :=
  rnewM hd fun p r h' l n1 n2 _ A => hQ p r h' ⟨[], A, rfl, l, by simp [ownR, n1, n2]⟩
theorem lenO (R : RipO B g p r dom most S) (hQ : Q (.int .i64 (S.length : Nat)) g) : Ok Try.prog F_rip_Rip_Len #[.pointer (some ⟨p, 0, none⟩)] g Q := by
  obtain ⟨m, A, rfl, lb, n⟩ := R
  rw [strip_length] at hQ
  exact rlenM A hQ
theorem ownO {k : PK} {n : Int} {tag : Nat} {now : Int} (R : RipO B g p r dom most S) (hmo : most ≤ 64) (hk : k.1 < 2 ^ 32) (ht : tag < 2 ^ 16) (hQ : ∀ g', RipO B g' p r dom most (ownS S dom most k n tag) → Q (.int .i64 (ownE S dom most k n tag)) g') :
    Ok Try.prog F_rip_Rip_Own #[.pointer (some ⟨p, 0, none⟩), .agg #[.int .u32 (k.1 : Nat), .int .i64 k.2], .int .i64 n, .int .u16 (tag : Nat), .int .i64 now] g Q := by
  obtain ⟨m, A, rfl, lb, nn⟩ := R
  exact rownM A hmo hk ht fun h' ⟨m', A', e', F⟩ => hQ h' ⟨m', A', e', F.le lb nn, F.new lb nn⟩
theorem dropO {k : PK} {now : Int} (R : RipO B g p r dom most S) (h1 : 0 ≤ now) (h2 : now ≤ 1099511627776) (hQ : ∀ g', RipO B g' p r dom most (dropS S k now) → Q (.int .i64 (dropE S k)) g') :
    Ok Try.prog F_rip_Rip_Drop #[.pointer (some ⟨p, 0, none⟩), .agg #[.int .u32 (k.1 : Nat), .int .i64 k.2], .int .i64 now] g Q := by
  obtain ⟨m, A, rfl, lb, nn⟩ := R
  exact rdropM A h1 h2 fun h' ⟨m', A', e', F⟩ => hQ h' ⟨m', A', e', F.le lb nn, F.new lb nn⟩
theorem hearO {f c : Int} {k : PK} {tag nx : Nat} {N now : Int} (R : RipO B g p r dom most S) (hmo : most ≤ 64) (hk : k.1 < 2 ^ 32) (ht : tag < 2 ^ 16) (n1 : 0 ≤ now) (n2 : now ≤ 1099511627776)
    (hQ : ∀ g', RipO B g' p r dom most (hearR S dom most f c k tag N now).2.2 → Q (.tuple #[.bool (hearR S dom most f c k tag N now).1, .int .i64 (hearR S dom most f c k tag N now).2.1]) g') :
    Ok Try.prog F_rip_Rip_Hear #[.pointer (some ⟨p, 0, none⟩), .int .i64 f, .int .i64 c, .agg #[.int .u32 (k.1 : Nat), .int .i64 k.2, .int .u16 (tag : Nat), .int .u32 (nx : Nat), .int .i64 N], .int .i64 now] g Q := by
  obtain ⟨m, A, rfl, lb, nn⟩ := R
  exact rhearM A hmo hk ht n1 n2 fun h' ⟨m', A', e', F⟩ => hQ h' ⟨m', A', e', F.le lb nn, F.new lb nn⟩
theorem tickO {now : Int} (R : RipO B g p r dom most S) (n1 : 0 ≤ now) (n2 : now ≤ 1099511627776) (hQ : ∀ g', RipO B g' p r dom most (tickS S now) → Q (.bool (tickB S now)) g') :
    Ok Try.prog F_rip_Rip_Tick #[.pointer (some ⟨p, 0, none⟩), .int .i64 now] g Q := by
  obtain ⟨m, A, rfl, lb, nn⟩ := R
  exact rtickM A n1 n2 fun h' ⟨m', A', e', F⟩ => hQ h' ⟨m', A', e', F.le lb nn, F.new lb nn⟩
theorem doesO {o : Op16} (R : RipO B g p r dom most S) (hmo : most ≤ 64) (og : o.Good) (n1 : 0 ≤ o.now) (n2 : o.now ≤ 1099511627776)
    (hQ : ∀ g', RipO B g' p r dom most (doesR S dom most o).2.2 → Q (.tuple #[.bool (doesR S dom most o).1, .int .i64 (doesR S dom most o).2.1]) g') :
    Ok Try.prog F_octroilaw16_Does #[.pointer (some ⟨p, 0, none⟩), Op16v o] g Q := by
  obtain ⟨m, A, rfl, lb, nn⟩ := R
  exact rdoesM A hmo og n1 n2 fun h' ⟨m', A', e', F⟩ => hQ h' ⟨m', A', e', F.le lb nn, F.new lb nn⟩
theorem tellO {t : Int} (R : RipO B g p r dom most S) (hQ : ∀ w ks B' g', Le B B' → RipO B' g' p r dom most S → SlAt B' 33 5 REnt.enc w (tellL t S ks) → ks.Perm (S.map (·.1)) → SrtP ks → Uniq S → Q w g') :
    Ok Try.prog F_rip_Rip_Tell #[.pointer (some ⟨p, 0, none⟩), .int .i64 t] g Q := by
  have R' := R
  obtain ⟨m, A, rfl, lb, nn⟩ := R
  exact rtellM A fun w ks h' l hp hs Sl hn => hQ w ks _ h' (with_le (g := h') fun b e => none_of_le lb (hn b e)) (R'.with l hn) Sl.with (by rw [strip_keys]; exact hp) hs (strip_uniq A.un)
theorem allO (R : RipO B g p r dom most S) (hQ : ∀ w ks B' g', Le B B' → RipO B' g' p r dom most S → SlAt B' 38 7 Rt.enc w (allL dom S ks) → ks.Perm (S.map (·.1)) → SrtP ks → Uniq S → Q w g') :
    Ok Try.prog F_rip_Rip_All #[.pointer (some ⟨p, 0, none⟩)] g Q := by
  have R' := R
  obtain ⟨m, A, rfl, lb, nn⟩ := R
  exact rallM A fun w ks h' l hp hs Sl hn => hQ w ks _ h' (with_le (g := h') fun b e => none_of_le lb (hn b e)) (R'.with l hn) Sl.with (by rw [strip_keys]; exact hp) hs (strip_uniq A.un)
theorem RipO.len (R : RipO B g p r dom most S) : S.length ≤ 64 := by obtain ⟨m, A, rfl, _⟩ := R; rw [strip_length]; exact A.le
theorem RipO.uniq (R : RipO B g p r dom most S) : Uniq S := by obtain ⟨m, A, rfl, _⟩ := R; exact strip_uniq A.un
theorem RipO.good (R : RipO B g p r dom most S) : ∀ e ∈ S, e.1.1 < 2 ^ 32 ∧ e.2.tag < 2 ^ 16 := by
  obtain ⟨m, A, rfl, _⟩ := R
  intro e he
  obtain ⟨e', h1, rfl⟩ := List.mem_map.1 he
  exact A.gd e' h1
end
end Go.Proofs.Ytpfenhikoajghaa

/- Writing into one of a slice. -/
namespace Go.Proofs.Ytpfenhikoajghaa
open Go
set_option linter.unusedSimpArgs false
set_option linter.unusedVariables false

theorem stN_at {b : Nat} {E : TypeId} {k : Hp → Prop} : ∀ (vals : List Value) (o : Nat) (c : Array Value) (h : Hp), h b = some (.cells c E (0, 0)) → o + vals.length ≤ c.size → vals.all oneCell = true →
    ∃ c' : Array Value, c'.size = c.size ∧ (∀ j, j < vals.length → c'[o + j]? = vals[j]?) ∧ (∀ j, j < o ∨ o + vals.length ≤ j → c'[j]? = c[j]?) ∧ (k (h.upd b (.cells c' E (0, 0))) → stN h b o vals k)
  | [], o, c, h, hb, hs, _ => ⟨c, rfl, fun j hj => by simp at hj, fun j _ => rfl, fun q => by rw [upd_self hb] at q; exact q⟩
  | v :: vals, o, c, h, hb, hs, ho => by
    simp only [List.all_cons, Bool.and_eq_true] at ho
    simp only [List.length_cons] at hs
    have hlt : o < c.size := by omega
    obtain ⟨c', h1, h2, h3, h4⟩ := stN_at (k := k) vals (o + 1) (c.setIfInBounds o v) (h.upd b (.cells (c.setIfInBounds o v) E (0, 0))) upd_same (by simp; omega) ho.2
    refine ⟨c', by rw [h1]; simp, fun j hj => ?_, fun j hj => ?_, fun q => ?_⟩
    · cases j with
      | zero =>
        rw [h3 (o + 0) (by omega)]
        simp [hlt]
      | succ j =>
        have := h2 j (by simpa using hj)
        rw [show o + (j + 1) = o + 1 + j by omega, this]
        simp
    · simp only [List.length_cons] at hj
      rw [h3 j (by omega), Array.getElem?_setIfInBounds_ne (by omega)]
    · rw [stN_cons]
      have hc : h.cell? ⟨b, o, none⟩ = some c[o] := by unfold Hp.cell?; simp [hb, hlt]
      have hf : h.frozen? ⟨b, o, none⟩ = false := by unfold Hp.frozen?; simp [hb]
      have hset : h.setCell ⟨b, o, none⟩ v = h.upd b (.cells (c.setIfInBounds o v) E (0, 0)) := by rw [setCell_def, hb]
      rw [hc, hf, stw_ok, hset]
      refine ⟨ho.1, h4 ?_⟩
      have e : (h.upd b (.cells (c.setIfInBounds o v) E (0, 0))).upd b (.cells c' E (0, 0)) = h.upd b (.cells c' E (0, 0)) := by
        funext i; rw [upd_get, upd_get, upd_get]; split <;> simp
      rw [e]; exact q

/-- A part of one of a slice is written. -/
theorem SlAt.setPart {α : Type} {h : Hp} {E sz : Nat} {enc : α → List Value} {b cap n o : Nat} {xs : List α} {i : Nat} {x y : α} {vals : List Value} {k : Hp → Prop} (S : SlAt h E sz enc (.slice (some ⟨b, 0, none⟩) n cap) xs) (j : Nat) (ho : o = i * sz + j) (hn : n = xs.length) (hx : xs[i]? = some x) (hlen : (enc x).length = sz)
    (hone : vals.all oneCell = true) (hj : j + vals.length ≤ sz) (hy : enc y = (enc x).take j ++ (vals ++ (enc x).drop (j + vals.length)))
    (hk : ∀ h', (∀ x o, h x = some o → x ≠ b → h' x = some o) → SlAt h' E sz enc (.slice (some ⟨b, 0, none⟩) n cap) (xs.set i y) → k h') : stN h b o vals k := by
  subst hn ho
  have hi : i < xs.length := by rw [List.getElem?_eq_some_iff] at hx; exact hx.1
  rcases S with ⟨e, _⟩ | ⟨b', cap', c, e, hb, h1, h2, h3⟩
  · cases e
  · cases e
    have hs0 : i * sz + sz ≤ c.size := by
      have : (i + 1) * sz ≤ cap * sz := Nat.mul_le_mul_right sz (by omega)
      rw [Nat.add_mul] at this; omega
    obtain ⟨c', k1, k2, k3, k4⟩ := stN_at (k := k) vals (i * sz + j) c h hb (by omega) hone
    refine k4 (hk _ (fun x o e n => by rw [upd_ne n]; exact e) (.inr ⟨b, cap, c', by rw [List.length_set], upd_same, by rw [List.length_set]; exact h1, by rw [k1]; exact h2, fun j' x' hx' m hm => ?_⟩))
    rw [List.getElem?_set] at hx'
    split at hx'
    · rename_i e
      subst e
      cases hx'
      have h3' := h3 i x hx m hm
      rw [Nat.zero_add] at h3' ⊢
      rw [hy]
      have hl : ((enc x).take j).length = j := by rw [List.length_take]; omega
      by_cases q : m < j
      · rw [k3 _ (by omega), h3', List.getElem?_append_left (by omega), List.getElem?_take, if_pos q]
      · rw [List.getElem?_append_right (by omega), hl]
        by_cases q2 : m < j + vals.length
        · rw [List.getElem?_append_left (by omega), show i * sz + m = i * sz + j + (m - j) by omega, k2 _ (by omega)]
        · rw [List.getElem?_append_right (by omega), List.getElem?_drop, k3 _ (by omega), h3']
          congr 1; omega
    · rename_i e
      have := h3 j' x' hx' m hm
      rw [k3 (0 + j' * sz + m) ?_]
      · exact this
      · rw [Nat.zero_add]
        rcases Nat.lt_or_gt_of_ne e with q | q
        · right
          have : (i + 1) * sz ≤ j' * sz := Nat.mul_le_mul_right sz (by omega)
          rw [Nat.add_mul] at this; omega
        · left
          have : (j' + 1) * sz ≤ i * sz := Nat.mul_le_mul_right sz (by omega)
          rw [Nat.add_mul] at this; omega

/-- One of a slice is written. -/
theorem SlAt.setOne {α : Type} {h : Hp} {E sz : Nat} {enc : α → List Value} {b cap n : Nat} {xs : List α} {i : Nat} {x y : α} {vals : List Value} {k : Hp → Prop} (S : SlAt h E sz enc (.slice (some ⟨b, 0, none⟩) n cap) xs) (hn : n = xs.length) (hx : xs[i]? = some x) (hlen : (enc x).length = sz)
    (hone : vals.all oneCell = true) (hv : vals.length = sz) (hy : enc y = vals)
    (hk : ∀ h', (∀ x o, h x = some o → x ≠ b → h' x = some o) → SlAt h' E sz enc (.slice (some ⟨b, 0, none⟩) n cap) (xs.set i y) → k h') : stN h b (i * sz) vals k := by
  refine SlAt.setPart (j := 0) S rfl hn hx hlen hone (by omega) ?_ hk
  rw [hy]
  have : (enc x).drop (0 + vals.length) = [] := List.drop_of_length_le (by omega)
  rw [this]; simp

/-- The first of a key is the one that is written anew. -/
theorem findM_set {α β : Type} [DecidableEq α] {a : α} {v w : β} : ∀ {m : List (α × β)} {i j : Nat}, findM a m i = some (i + j, v) → m.set j (a, w) = setM a w m
  | [], i, j, h => by cases h
  | x :: xs, i, j, h => by
    simp only [findM, setM] at *
    by_cases q : a = x.1
    · rw [if_pos q] at h ⊢
      simp at h
      rw [h.1]; rfl
    · rw [if_neg q] at h ⊢
      have hle := (findM_some h).1
      obtain ⟨j', rfl⟩ : ∃ j', j = j' + 1 := ⟨j - 1, by omega⟩
      rw [List.set_cons_succ, findM_set (i := i + 1) (j := j') (by rw [h]; congr 2; omega)]
theorem getM_findM {α β : Type} [DecidableEq α] {a : α} {m : List (α × β)} {i : Nat} {v : β} (h : findM a m 0 = some (i, v)) : getM m a = some v := by unfold getM; rw [h]; rfl
theorem findM_getM {α β : Type} [DecidableEq α] {a : α} {m : List (α × β)} {v : β} (h : getM m a = some v) : ∃ i, findM a m 0 = some (i, v) ∧ m[i]? = some (a, v) := by
  unfold getM at h
  cases hf : findM a m 0 with
  | none => rw [hf] at h; cases h
  | some y =>
    rw [hf] at h
    obtain ⟨i, z⟩ := y
    simp at h
    subst h
    exact ⟨i, rfl, by have := (findM_some hf).2; simpa using this⟩
/-- The first of a key, told by what is ahead of it. -/
theorem findM_first {α β : Type} [DecidableEq α] {a : α} {v : β} : ∀ {m : List (α × β)} {i j : Nat}, m[j]? = some (a, v) → (∀ e ∈ m.take j, e.1 ≠ a) → findM a m i = some (i + j, v)
  | [], i, j, h, _ => by simp at h
  | x :: xs, i, 0, h, _ => by
    simp at h; subst h; simp [findM]
  | x :: xs, i, j + 1, h, hn => by
    have hx : x.1 ≠ a := hn x (by simp)
    simp only [findM]
    rw [if_neg (Ne.symm hx), findM_first (i := i + 1) (j := j) (by simpa using h) (fun e he => hn e (by simp [he]))]
    congr 2; omega

theorem getM_perm {α β : Type} [DecidableEq α] {m m' : List (α × β)} (u : Uniq m) (p : m.Perm m') (a : α) : getM m a = getM m' a := by
  have u' : Uniq m' := by unfold Uniq at *; exact (p.map _).nodup_iff.1 u
  cases h : getM m a with
  | some v => exact (getM_of_mem u' (p.mem_iff.1 (getM_mem h))).symm
  | none =>
    cases h' : getM m' a with
    | none => rfl
    | some v => rw [getM_of_mem u (p.mem_iff.2 (getM_mem h'))] at h; cases h
theorem perm_of_getM {α β : Type} [DecidableEq α] [DecidableEq β] {m m' : List (α × β)} (u : Uniq m) (u' : Uniq m') (h : ∀ a, getM m a = getM m' a) : m.Perm m' := by
  have nd : ∀ {l : List (α × β)}, Uniq l → l.Nodup := fun {l} ul => by unfold Uniq at ul; exact List.Pairwise.of_map (·.1) (fun a b hab he => hab (by rw [he])) ul
  refine (List.perm_ext_iff_of_nodup (nd u) (nd u')).2 fun e => ?_
  constructor
  · intro he; have := getM_of_mem (a := e.1) (v := e.2) u he; rw [h] at this; exact getM_mem this
  · intro he; have := getM_of_mem (a := e.1) (v := e.2) u' he; rw [← h] at this; exact getM_mem this
end Go.Proofs.Ytpfenhikoajghaa

/- The document's own words on prefixes: Less. -/
namespace Go.Proofs.Ytpfenhikoajghaa
open Go
set_option linter.unusedSimpArgs false

theorem rless_spec {a b : Nat} {n m : Int} {h : Hp} {Q : Value → Hp → Prop} (hQ : Q (.bool (decide (a < b) || (decide (a = b) && decide (n < m)))) h) :
    Ok Try.prog F_octroiref02_Less #[.agg #[.int .u32 a, .int .i64 n], .agg #[.int .u32 b, .int .i64 m]] h Q := by
  refine octroiref02_Less_ok (by simp) ?_
  unfold octroiref02_Less_D
  simp (disch := omega) [octroiref02_Less_r0]
  intro b1 hb1 b2 hb2
  have hne := upd_none hb2
  by_cases h1 : a < b
  · simp (disch := omega) [octroiref02_Less_r1, hne.1, Ne.symm hne.1, h1]
    exact .to h ((Le.new hb1).trans (.new hb2)) (by simpa [h1] using hQ)
  · by_cases h2 : a = b
    · subst h2
      simp (disch := omega) [octroiref02_Less_r1, hne.1, Ne.symm hne.1]
      exact .to h ((Le.new hb1).trans (.new hb2)) (by simpa using hQ)
    · have h2' : ¬ (a : Int) = (b : Int) := by omega
      simp (disch := omega) [octroiref02_Less_r1, hne.1, Ne.symm hne.1, h1, h2, h2']
      exact .to h ((Le.new hb1).trans (.new hb2)) (by simpa [h1, h2] using hQ)

end Go.Proofs.Ytpfenhikoajghaa

/- The document's RIP: its routes in memory; New, at, put. -/
namespace Go.Proofs.Ytpfenhikoajghaa
open Go
set_option linter.unusedSimpArgs false
set_option linter.unusedVariables false

abbrev T_fr : Nat := 78
abbrev T_ff : Nat := 56
def fenc (e : PK × Rr) : List Value := [.int .u32 (e.1.1 : Nat), .int .i64 e.1.2, .int .i64 e.2.m, .int .u16 (e.2.tag : Nat), .int .i64 e.2.n, .int .i64 e.2.e]
abbrev fval (e : PK × Rr) : Value := .agg #[.int .u32 (e.1.1 : Nat), .int .i64 e.1.2, .int .i64 e.2.m, .int .u16 (e.2.tag : Nat), .int .i64 e.2.n, .int .i64 e.2.e]
abbrev fcells (e : PK × Rr) : Array Value := #[.int .u32 (e.1.1 : Nat), .int .i64 e.1.2, .int .i64 e.2.m, .int .u16 (e.2.tag : Nat), .int .i64 e.2.n, .int .i64 e.2.e]
theorem fenc_one (e : PK × Rr) : (fenc e).length = 6 ∧ ∀ u ∈ fenc e, oneCell u = true := ⟨rfl, by simp [fenc]⟩
theorem fr_at {h : Hp} {v : Value} {xs : RS} {i : Nat} {x : PK × Rr} (S : SlAt h T_fr 6 fenc v xs) (hx : xs[i]? = some x) :
    ∃ b cap c, v = .slice (some ⟨b, 0, none⟩) xs.length cap ∧ h b = some (.cells c T_fr (0, 0)) ∧ c[i * 6]? = some (.int .u32 (x.1.1 : Nat)) ∧ c[i * 6 + 1]? = some (.int .i64 x.1.2) ∧ c[i * 6 + 2]? = some (.int .i64 x.2.m) ∧ c[i * 6 + 3]? = some (.int .u16 (x.2.tag : Nat)) ∧ c[i * 6 + 4]? = some (.int .i64 x.2.n) ∧ c[i * 6 + 5]? = some (.int .i64 x.2.e) := by
  obtain ⟨b, cap, c, e, hb, H⟩ := SlAt.at' S hx
  exact ⟨b, cap, c, e, hb, H 0 (by omega), H 1 (by omega), H 2 (by omega), H 3 (by omega), H 4 (by omega), H 5 (by omega)⟩

/-- The document's RIP in memory. -/
structure FfM (h : Hp) (q : Nat) (v : Value) (dom most : Int) (L : RS) : Prop where
  pt : h q = some (.cells #[.int .i64 dom, .int .i64 most, v] T_ff (0, 0))
  sl : SlAt h T_fr 6 fenc v L
  ne : blkOf v ≠ some q
  le : L.length ≤ 100000

def ownF (q : Nat) (v : Value) : List Nat := q :: (blkOf v).toList
/-- What a call leaves. -/
def FQ (h : Hp) (q : Nat) (v : Value) (dom most : Int) (L' : RS) (h' : Hp) : Prop := ∃ v', FfM h' q v' dom most L' ∧ Fr h h' (ownF q v) (ownF q v')

section
variable {h h' : Hp} {q : Nat} {v : Value} {dom most : Int} {L : RS} {Q : Value → Hp → Prop}

theorem mem_ownF {x : Nat} : x ∈ ownF q v ↔ x = q ∨ blkOf v = some x := by unfold ownF; simp
theorem FfM.alive (M : FfM h q v dom most L) : ∀ x, x ∈ ownF q v → ∃ o, h x = some o := fun x m => by
  rcases mem_ownF.1 m with rfl | e
  · exact ⟨_, M.pt⟩
  · exact M.sl.alive e
theorem FfM.keep (M : FfM h q v dom most L) (k : ∀ x o, x ∈ ownF q v → h x = some o → h' x = some o) : FfM h' q v dom most L :=
  ⟨k _ _ (mem_ownF.2 (.inl rfl)) M.pt, M.sl.keep fun b o e e2 => k _ _ (mem_ownF.2 (.inr e)) e2, M.ne, M.le⟩
theorem FfM.le' (M : FfM h q v dom most L) (l : Le h h') : FfM h' q v dom most L := M.keep fun x o _ e => l x o e
theorem FQ.same (M : FfM h q v dom most L) (l : Le h h') : FQ h q v dom most L h' := ⟨v, M.le' l, .of_le l fun _ m => .inl m⟩
theorem FQ.le' {h1 : Hp} {L' : RS} (l : Le h h1) (k : FQ h1 q v dom most L' h') : FQ h q v dom most L' h' := by
  obtain ⟨v', M, F⟩ := k
  refine ⟨v', M, ⟨fun x o e n => F.keep x o (l _ _ e) n, fun x m => ?_⟩⟩
  rcases F.own x m with k | k
  · exact .inl k
  · exact .inr (none_of_le l k)
theorem FQ.trans {h1 : Hp} {v1 : Value} {L1 L' : RS} (F : Fr h h1 (ownF q v) (ownF q v1)) (k : FQ h1 q v1 dom most L' h') : FQ h q v dom most L' h' := by
  obtain ⟨v', M, F'⟩ := k
  exact ⟨v', M, F.trans F'⟩

theorem fnewM (hQ : ∀ q h', Le h h' → h q = none → FfM h' q (.slice none 0 0) dom (min most 64) [] → Q (.pointer (some ⟨q, 0, none⟩)) h') : Ok Try.prog F_octroiref16_New #[.int .i64 dom, .int .i64 most] h Q := by
  refine octroiref16_New_ok (by simp) ?_
  unfold octroiref16_New_D
  by_cases g1 : 64 < most
  · rw [show min most 64 = 64 by omega] at hQ
    simp (disch := omega) [octroiref16_New_r0, octroiref16_New_r1, octroiref16_New_r2, octroiref16_New_r3, g1]
    intro b hb
    exact .to _ (.refl _) (hQ b _ (.new hb) hb ⟨upd_same, .inl ⟨rfl, rfl⟩, by simp [blkOf], by simp⟩)
  · rw [show min most 64 = most by omega] at hQ
    simp (disch := omega) [octroiref16_New_r0, octroiref16_New_r1, octroiref16_New_r3, g1]
    intro b hb
    exact .to _ (.refl _) (hQ b _ (.new hb) hb ⟨upd_same, .inl ⟨rfl, rfl⟩, by simp [blkOf], by simp⟩)

def atF (L : RS) (k : PK) : Int := match findM k L 0 with | some x => (x.1 : Int) | none => -1
theorem atF_some {k : PK} {i : Nat} {x : Rr} (h : findM k L 0 = some (i, x)) : atF L k = i := by unfold atF; rw [h]
theorem atF_none {k : PK} (h : getM L k = none) : atF L k = -1 := by
  unfold getM at h
  unfold atF
  cases hf : findM k L 0 with
  | none => rfl
  | some y => rw [hf] at h; cases h

def AtInv (h0 : Hp) (q b3 : Nat) (L : RS) (k : PK) (n : Nat) (env : Env) (g : Hp) : Prop :=
  ∃ i : Nat, i + n = L.length ∧ g = h0 ∧ (∀ e ∈ L.take i, e.1 ≠ k) ∧ env 0 = .pointer (some ⟨q, 0, none⟩) ∧ env 3 = .pointer (some ⟨b3, 0, none⟩) ∧ env 5 = .int .i64 (i : Nat)

set_option maxRecDepth 20000 in
theorem fatM {k : PK} (M : FfM h q v dom most L) (hQ : ∀ h', Le h h' → Q (.int .i64 (atF L k)) h') : Ok Try.prog F_octroiref16_Rip_at #[.pointer (some ⟨q, 0, none⟩), .agg #[.int .u32 (k.1 : Nat), .int .i64 k.2]] h Q := by
  refine octroiref16_Rip_at_ok (by simp) ?_
  unfold octroiref16_Rip_at_D
  simp (disch := omega) [octroiref16_Rip_at_r0]
  intro b hb
  have l1 : Le h (h.upd b (.cells #[.int .u32 (k.1 : Nat), .int .i64 k.2] 24)) := .new hb
  have f3 : (h.upd b (.cells #[.int .u32 (k.1 : Nat), .int .i64 k.2] 24)) b = some (.cells #[.int .u32 (k.1 : Nat), .int .i64 k.2] 24) := upd_same
  generalize h.upd b (.cells #[.int .u32 (k.1 : Nat), .int .i64 k.2] 24) = h1 at *
  have M1 := M.le' l1
  simp (disch := omega) [octroiref16_Rip_at_r1]
  obtain ⟨sp, scap, hv⟩ := M1.sl.shape'
  have hq := M1.pt
  have hle := M.le
  refine ⟨AtInv h1 q b L k, ⟨L.length, 0, by omega, rfl, by simp, by simp, by simp, by simp⟩, ?_⟩
  rintro n env g ⟨i, hin, rfl, hn, e0, e3, e5⟩
  unfold octroiref16_Rip_at_L0
  by_cases hm : n = 0
  · have : i = L.length := by omega
    subst this
    rw [List.take_of_length_le (Nat.le_refl _)] at hn
    have hg : getM L k = none := getM_none.2 (fun q => by obtain ⟨e, he, h2⟩ := List.mem_map.1 q; exact hn e he h2)
    rw [atF_none hg] at hQ
    simp (disch := omega) [octroiref16_Rip_at_r2, octroiref16_Rip_at_r6, e0, e3, e5, hq, hv]
    exact .to _ (.refl _) (hQ _ l1)
  · obtain ⟨x, hx⟩ : ∃ x, L[i]? = some x := ⟨_, List.getElem?_eq_getElem (by omega)⟩
    obtain ⟨b2, cap, c, hv', hb2, c0, c1, c2, c3, c4, c5⟩ := fr_at M1.sl hx
    have hi' : i < L.length := by omega
    by_cases hk : x.1 = k
    · have hf : findM k L 0 = some (0 + i, x.2) := findM_first (by rw [hx, ← hk]) hn
      rw [Nat.zero_add] at hf
      rw [atF_some hf] at hQ
      have s1 : (x.1.1 : Int) = (k.1 : Int) := by rw [hk]
      have s2 : x.1.2 = k.2 := by rw [hk]
      rw [hk] at c0 c1
      simp (disch := omega) [octroiref16_Rip_at_r2, octroiref16_Rip_at_r3, octroiref16_Rip_at_r4, e0, e3, e5, hq, hv', hb2, c0, c1, hi', f3]
      exact .to _ (.refl _) (hQ _ l1)
    · have hk' : ¬ ((x.1.1 : Int) = (k.1 : Int) ∧ x.1.2 = k.2) := fun q => hk (Prod.ext (by omega) q.2)
      have fin : ∀ env : Env, env 0 = .pointer (some ⟨q, 0, none⟩) → env 3 = .pointer (some ⟨b, 0, none⟩) → env 5 = .int .i64 (i : Nat) →
          octroiref16_Rip_at_r5 env g (roundK (AtInv g q b L k) n (inBlk 0 (thenK (sq (rg octroiref16_Rip_at_r6) (ex .ret)) (fin Try.prog [.tmp 4] Q))) .normal) := by
        intro env e0 e3 e5
        simp (disch := omega) [octroiref16_Rip_at_r5, e5, wrap_i64]
        refine ⟨n - 1, by omega, i + 1, by omega, rfl, fun e he => ?_, by simp [e0], by simp [e3], by simp⟩
        rw [take_snoc hx] at he
        rcases List.mem_append.1 he with q1 | q1
        · exact hn e q1
        · simp at q1; subst q1; exact hk
      by_cases s1 : (x.1.1 : Int) = (k.1 : Int)
      · have s2 : ¬ x.1.2 = k.2 := fun q => hk' ⟨s1, q⟩
        rw [s1] at c0
        simp (disch := omega) [octroiref16_Rip_at_r2, octroiref16_Rip_at_r3, e0, e3, e5, hq, hv', hb2, c0, c1, hi', f3, s2]
        refine fin _ ?_ ?_ ?_ <;> simp [e0, e3, e5]
      · simp (disch := omega) [octroiref16_Rip_at_r2, octroiref16_Rip_at_r3, e0, e3, e5, hq, hv', hb2, c0, c1, hi', f3, s1, show ¬ x.1.1 = k.1 by omega]
        refine fin _ ?_ ?_ ?_ <;> simp [e0, e3, e5]

/-! ### put -/
def insP (x : PK × Rr) : RS → RS
  | [] => [x]
  | y :: ys => if plt x.1 y.1 then x :: y :: ys else y :: insP x ys
theorem insP_pos {x y : PK × Rr} {ys : RS} (h : plt x.1 y.1) : insP x (y :: ys) = x :: y :: ys := by rw [insP, if_pos h]
theorem insP_neg {x y : PK × Rr} {ys : RS} (h : ¬ plt x.1 y.1) : insP x (y :: ys) = y :: insP x ys := by rw [insP, if_neg h]
theorem insP_length {x : PK × Rr} : ∀ {L : RS}, (insP x L).length = L.length + 1
  | [] => rfl
  | y :: ys => by
    by_cases h : plt x.1 y.1
    · rw [insP_pos h]; rfl
    · rw [insP_neg h, List.length_cons, insP_length]; rfl
theorem insP_perm {x : PK × Rr} : ∀ {L : RS}, (insP x L).Perm (x :: L)
  | [] => .refl _
  | y :: ys => by
    by_cases h : plt x.1 y.1
    · rw [insP_pos h]
    · rw [insP_neg h]; exact ((insP_perm (L := ys)).cons y).trans (.swap _ _ _)

def PuInv (h0 : Hp) (q b3 : Nat) (L : RS) (x : PK × Rr) (n : Nat) (env : Env) (g : Hp) : Prop :=
  ∃ (i : Nat) (w : Value) (o : RS) (dn : Bool), i + n = L.length ∧ Le h0 g ∧ SlAt g T_fr 6 fenc w o ∧ (∀ b, blkOf w = some b → h0 b = none) ∧
    (o ++ (if dn then L.drop i else insP x (L.drop i))) = insP x L ∧
    env 0 = .pointer (some ⟨q, 0, none⟩) ∧ env 3 = .pointer (some ⟨b3, 0, none⟩) ∧ env 4 = w ∧ env 5 = .bool dn ∧ env 6 = .int .i64 (i : Nat)

set_option maxHeartbeats 1000000 in
set_option maxRecDepth 20000 in
theorem fputM {x : PK × Rr} (M : FfM h q v dom most L) (hle : L.length < 100000) (hQ : ∀ h', FQ h q v dom most (insP x L) h' → Q (.tuple #[]) h') : Ok Try.prog F_octroiref16_Rip_put #[.pointer (some ⟨q, 0, none⟩), fval x] h Q := by
  refine octroiref16_Rip_put_ok (by simp) ?_
  unfold octroiref16_Rip_put_D
  simp (disch := omega) [octroiref16_Rip_put_r0]
  intro b hb
  have l1 : Le h (h.upd b (.cells (fcells x) 78)) := .new hb
  have f3 : (h.upd b (.cells (fcells x) 78)) b = some (.cells (fcells x) 78 (0, 0)) := upd_same
  show octroiref16_Rip_put_r1 _ (h.upd b (.cells (fcells x) 78)) _
  generalize h.upd b (.cells (fcells x) 78) = h1 at *
  have M1 := M.le' l1
  replace hQ : ∀ h', FQ h1 q v dom most (insP x L) h' → Q (.tuple #[]) h' := fun h' k => hQ h' (k.le' l1)
  obtain ⟨ap, acap, hv⟩ := M1.sl.shape'
  simp (disch := omega) [octroiref16_Rip_put_r1, octroiref16_Rip_put_r2, octroiref16_Rip_put_r3]
  refine ⟨PuInv h1 q b L x, ⟨L.length, 0, .slice none 0 0, [], false, by omega, .refl _, .inl ⟨rfl, rfl⟩, by simp [blkOf], by simp, by simp, by simp, by simp, by simp, by simp⟩, ?_⟩
  rintro n env g ⟨i, w, o, dn, hin, lg, S, nw, ho, e0, e3, e4, e5, e6⟩
  unfold octroiref16_Rip_put_L0
  have hq := lg _ _ M1.pt
  have f3g := lg _ _ f3
  have hol : o.length + (L.length - i) ≤ L.length + 1 := by
    have h1 := congrArg List.length ho
    rw [List.length_append, insP_length] at h1
    split at h1
    · rw [List.length_drop] at h1; omega
    · rw [insP_length, List.length_drop] at h1; omega
  have endK : ∀ (env : Env) (g : Hp) (w : Value), Le h1 g → SlAt g T_fr 6 fenc w (insP x L) → (∀ b, blkOf w = some b → h1 b = none) → env 0 = .pointer (some ⟨q, 0, none⟩) → env 4 = w →
      octroiref16_Rip_put_r13 env g (fin Try.prog [] Q .normal) := by
    intro env g w lg S nw e0 e4
    have hq := lg _ _ M1.pt
    have nq : blkOf w ≠ some q := fun e => by have := nw q e; rw [M1.pt] at this; cases this
    obtain ⟨sp, cap, hw⟩ := S.shape'
    simp (disch := omega) [octroiref16_Rip_put_r13, e0, e4, hq, hw]
    rw [← hw]
    refine .to _ (.refl _) (hQ _ ⟨w, ⟨upd_same, S.keep (fun b o e e2 => by rw [upd_ne (fun q2 => nq (by rw [← q2]; exact e))]; exact e2), nq, by rw [insP_length]; omega⟩, ⟨fun y o e n => ?_, fun y m => ?_⟩⟩)
    · rw [upd_ne (fun q2 => n (mem_ownF.2 (.inl q2)))]; exact lg _ _ e
    · rcases mem_ownF.1 m with m | m
      · exact .inl (mem_ownF.2 (.inl m))
      · exact .inr (nw y m)
  by_cases hm : n = 0
  · have : i = L.length := by omega
    subst this
    rw [List.drop_of_length_le (Nat.le_refl _)] at ho
    cases dn with
    | true =>
      simp at ho
      subst ho
      simp (disch := omega) [octroiref16_Rip_put_r4, octroiref16_Rip_put_r11, e0, e3, e4, e5, e6, hq, hv]
      refine endK _ g w lg S nw ?_ ?_ <;> simp [e0, e4]
    | false =>
      simp [insP] at ho
      simp (disch := omega) [octroiref16_Rip_put_r4, octroiref16_Rip_put_r11, octroiref16_Rip_put_r12, e0, e3, e4, e5, e6, hq, hv, f3g]
      refine snoc_octroiref16_Route S (y := x) rfl (by simp [fenc]) (by omega) (fun b9 w' g' S' G hb9 => ?_)
      rw [ho] at S'
      refine endK _ g' w' (fun x o e => G.keep x o (lg _ _ e) (fun q => by rw [nw x q.symm] at e; cases e)) S' (fun b e => ?_) ?_ ?_
      · rcases G.fresh with q1 | q1
        · exact nw b (by rw [← q1]; exact e)
        · exact none_of_le lg (q1 b e)
      · simp [e0]
      · simp
  · obtain ⟨y, hy⟩ : ∃ y, L[i]? = some y := ⟨_, List.getElem?_eq_getElem (by omega)⟩
    obtain ⟨b2, cap, c, hv', hb2, c0, c1, c2, c3, c4, c5⟩ := fr_at (M1.sl.le' lg) hy
    have hi' : i < L.length := by omega
    have dk := drop_cons hy
    have last : ∀ (env : Env) (g : Hp) (w : Value) (o : RS) (dn : Bool), Le h1 g → SlAt g T_fr 6 fenc w o → (∀ b, blkOf w = some b → h1 b = none) → o.length ≤ L.length + 1 → ((o ++ [y]) ++ (if dn then L.drop (i + 1) else insP x (L.drop (i + 1)))) = insP x L →
        env 0 = .pointer (some ⟨q, 0, none⟩) → env 3 = .pointer (some ⟨b, 0, none⟩) → env 4 = w → env 5 = .bool dn → env 6 = .int .i64 (i : Nat) →
        octroiref16_Rip_put_r9 env g (inBlk 1 (thenK (rg octroiref16_Rip_put_r10) (roundK (PuInv h1 q b L x) n (inBlk 0 (thenK (sq (sq (rg octroiref16_Rip_put_r11) (cnd (.tmp 48) (rg octroiref16_Rip_put_r12) (ex .normal))) (rg octroiref16_Rip_put_r13)) (fin Try.prog [] Q))))) .normal) := by
      intro env g w o dn lg S nw hol ho e0 e3 e4 e5 e6
      obtain ⟨b2, cap, c, hv', hb2, c0, c1, c2, c3, c4, c5⟩ := fr_at (M1.sl.le' lg) hy
      have hq := lg _ _ M1.pt
      simp (disch := omega) [octroiref16_Rip_put_r9, e0, e3, e4, e5, e6, hq, hv', hb2, c0, c1, c2, c3, c4, c5, hi']
      refine snoc_octroiref16_Route S (y := y) rfl (by simp [fenc]) (by omega) (fun b9 w' g' S' G hb9 => ?_)
      simp (disch := omega) [octroiref16_Rip_put_r10, e6, wrap_i64]
      refine ⟨n - 1, by omega, i + 1, w', _, dn, by omega, fun x o e => G.keep x o (lg _ _ e) (fun q => by rw [nw x q.symm] at e; cases e), S', fun b e => ?_, ho, by simp [e0], by simp [e3], by simp, by simp [e5], by simp⟩
      rcases G.fresh with q1 | q1
      · exact nw b (by rw [← q1]; exact e)
      · exact none_of_le lg (q1 b e)
    have hlt : (decide (x.1.1 < y.1.1) || (decide (x.1.1 = y.1.1) && decide (x.1.2 < y.1.2))) = decide (plt x.1 y.1) := by rw [Bool.eq_iff_iff, decide_eq_true_eq]; exact pltB_iff
    rw [dk] at ho
    simp (disch := omega) [octroiref16_Rip_put_r4, octroiref16_Rip_put_r5, e0, e3, e4, e5, e6, hq, hv', hb2, c0, c1, c2, c3, c4, c5, hi', f3g]
    refine rless_spec ?_
    rw [hlt]
    cases dn with
    | true =>
      simp (disch := omega) [octroiref16_Rip_put_r6, octroiref16_Rip_put_r8, e5]
      refine last _ g w o true lg S nw (by omega) (by simpa using ho) ?_ ?_ ?_ ?_ ?_ <;> simp [e0, e3, e4, e5, e6]
    | false =>
      simp only [Bool.false_eq_true, if_false] at ho
      by_cases hgt : plt x.1 y.1
      · rw [insP_pos hgt] at ho
        rw [decide_eq_true hgt]
        simp (disch := omega) [octroiref16_Rip_put_r6, octroiref16_Rip_put_r7, e0, e3, e4, e5, e6, f3g]
        refine snoc_octroiref16_Route S (y := x) rfl (by simp [fenc]) (by omega) (fun b9 w' g' S' G hb9 => ?_)
        simp (disch := omega) [octroiref16_Rip_put_r8]
        refine last _ g' w' _ true (fun x o e => G.keep x o (lg _ _ e) (fun q => by rw [nw x q.symm] at e; cases e)) S' (fun b e => ?_) (by simp; omega) (by simpa using ho) ?_ ?_ ?_ ?_ ?_
        · rcases G.fresh with q1 | q1
          · exact nw b (by rw [← q1]; exact e)
          · exact none_of_le lg (q1 b e)
        all_goals simp [e0, e3, e6]
      · rw [insP_neg hgt] at ho
        rw [decide_eq_false hgt]
        simp (disch := omega) [octroiref16_Rip_put_r6, octroiref16_Rip_put_r8, e5]
        refine last _ g w o false lg S nw (by omega) (by simpa using ho) ?_ ?_ ?_ ?_ ?_ <;> simp [e0, e3, e4, e5, e6]
end
end Go.Proofs.Ytpfenhikoajghaa

/- The document's own words on prefixes: Mask, May. -/
namespace Go.Proofs.Ytpfenhikoajghaa
open Go
set_option linter.unusedSimpArgs false

def MaskInv (n : Nat) (g0 : Hp) (m : Nat) (env : Env) (g : Hp) : Prop :=
  ∃ i, g = g0 ∧ env 0 = .int .i64 (n : Nat) ∧ env 3 = .int .u32 (msk i : Nat) ∧ (∃ w : Nat, w = 2 ^ 31 / 2 ^ i ∧ env 4 = .int .u32 (w : Nat)) ∧ env 5 = .int .i64 (i : Nat) ∧ i + m = n

theorem rmask_spec {n : Nat} {h : Hp} {Q : Value → Hp → Prop} (hn : n ≤ 32) (hQ : Q (.int .u32 (msk n : Nat)) h) : Ok Try.prog F_octroiref02_Mask #[.int .i64 (n : Nat)] h Q := by
  refine octroiref02_Mask_ok (by simp) ?_
  unfold octroiref02_Mask_D
  simp (disch := omega) [octroiref02_Mask_r0, octroiref02_Mask_r1, octroiref02_Mask_r2, octroiref02_Mask_r3]
  refine ⟨MaskInv n h, ⟨n, 0, rfl, by simp, by simp [msk], ⟨2 ^ 31, by decide, by simp⟩, by simp, by omega⟩, ?_⟩
  rintro m env g ⟨i, rfl, e0, e3, ⟨w, hw, e4⟩, e5, him⟩
  unfold octroiref02_Mask_L0
  by_cases hm : m = 0
  · have hin : i = n := by omega
    subst hin
    simp (disch := omega) [octroiref02_Mask_r4, octroiref02_Mask_r8, e0, e3, e4, e5]
    exact .to _ (.refl _) hQ
  · obtain ⟨m, rfl⟩ : ∃ k, m = k + 1 := ⟨m - 1, by omega⟩
    have hlt : i < n := by omega
    have h32 : i < 32 := by omega
    obtain ⟨k1, k2, k3, k4⟩ := msk_step h32
    rw [← hw] at k1 k3 k4
    have h32' : (i : Int) < 32 := by omega
    have w1 : IntKind.u32.wrap ((msk i : Int) + (w : Int)) = (msk (i + 1) : Nat) := by
      rw [wrap_u32 (by omega) (by omega)]; omega
    have w2 : IntKind.u32.wrap ((w : Int).tdiv 2) = ((w / 2 : Nat) : Int) := by
      have e : (w : Int).tdiv 2 = ((w / 2 : Nat) : Int) := by rw [Int.tdiv_eq_ediv_of_nonneg (by omega)]; omega
      rw [e, wrap_u32 (by omega) (by omega)]
    simp (disch := omega) [octroiref02_Mask_r4, octroiref02_Mask_r5, octroiref02_Mask_r6, octroiref02_Mask_r7, e0, e3, e4, e5, hlt, h32, h32', w1, w2, wrap_i64]
    exact ⟨m, by omega, i + 1, rfl, by simp [e0], by simp, ⟨w / 2, k4.symm, by simp; rw [wrap_u32 (by omega) (by omega)]⟩, by simp, by omega⟩

theorem rmay_spec {a : Nat} {n : Int} {h : Hp} {Q : Value → Hp → Prop} (ha : a < 2 ^ 32) (hQ : Q (.bool (mayB a n)) h) : Ok Try.prog F_octroiref02_May #[.agg #[.int .u32 a, .int .i64 n]] h Q := by
  refine octroiref02_May_ok (by simp) ?_
  unfold octroiref02_May_D
  simp (disch := omega) [octroiref02_May_r0]
  intro b hb
  by_cases h0 : 0 ≤ n
  · by_cases h1 : n ≤ 32
    · obtain ⟨m, rfl⟩ := Int.eq_ofNat_of_zero_le h0
      simp (disch := omega) [octroiref02_May_r1, h0, h1]
      refine rmask_spec (by omega) ?_
      have hm := msk_lt m
      have hand := bits_and_u32 ha hm
      rw [and_msk ha (by omega)] at hand
      have hdec : decide (a / 2 ^ (32 - m) * 2 ^ (32 - m) = a) = mayB a (m : Int) := by
        rw [mayB_eq (by omega), Bool.eq_iff_iff]
        simp only [decide_eq_true_eq]
        have := Nat.div_add_mod a (2 ^ (32 - m))
        rw [Nat.mul_comm] at this
        rw [← cast_mod]
        omega
      generalize a / 2 ^ (32 - m) * 2 ^ (32 - m) = q at *
      simp (disch := omega) [hand]
      refine .to h (.new hb) ?_
      rw [← hdec] at hQ
      rw [cast_eq q a] at hQ
      exact hQ
    · simp (disch := omega) [octroiref02_May_r1, h0, h1]
      refine .to h (.new hb) ?_
      simpa [mayB, h0, h1] using hQ
  · simp (disch := omega) [octroiref02_May_r1, h0]
    refine .to h (.new hb) ?_
    simpa [mayB, h0] using hQ

end Go.Proofs.Ytpfenhikoajghaa

/- The document's own words on tags: Has. -/
namespace Go.Proofs.Ytpfenhikoajghaa
open Go
set_option linter.unusedSimpArgs false

theorem ris_spec {d : Int} {h : Hp} {Q : Value → Hp → Prop} (hQ : Q (.bool (decide (0 ≤ d) && decide (d < 16))) h) : Ok Try.prog F_octroiref03_is #[.int .i64 d] h Q := by
  refine octroiref03_is_ok (by simp) ?_
  unfold octroiref03_is_D
  by_cases h0 : 0 ≤ d
  · simp (disch := omega) [octroiref03_is_r0, octroiref03_is_r1, h0]
    exact .to _ (.refl _) (by simpa [h0] using hQ)
  · simp (disch := omega) [octroiref03_is_r0, octroiref03_is_r1, h0]
    exact .to _ (.refl _) (by simpa [h0] using hQ)

def BitInv (g0 : Hp) (d : Nat) (n : Nat) (env : Env) (g : Hp) : Prop :=
  ∃ i p : Nat, g = g0 ∧ i + n = d ∧ p = 2 ^ i ∧ env 0 = .int .i64 (d : Nat) ∧ env 3 = .int .i64 (p : Nat) ∧ env 4 = .int .i64 (i : Nat)

theorem rbit_spec {d : Nat} {h : Hp} {Q : Value → Hp → Prop} (hd : d < 16) (hQ : Q (.int .i64 ((2 ^ d : Nat) : Int)) h) : Ok Try.prog F_octroiref03_bit #[.int .i64 (d : Nat)] h Q := by
  refine octroiref03_bit_ok (by simp) ?_
  unfold octroiref03_bit_D
  simp (disch := omega) [octroiref03_bit_r0, octroiref03_bit_r1, octroiref03_bit_r2]
  refine ⟨BitInv h d, ⟨d, 0, 1, rfl, by omega, rfl, by simp, by simp, by simp⟩, ?_⟩
  rintro n env g ⟨i, p, rfl, hin, hp, e0, e3, e4⟩
  unfold octroiref03_bit_L0
  have hpl : p ≤ 65536 := by rw [hp]; exact Nat.pow_le_pow_right (by omega) (by omega : i ≤ 16)
  by_cases hm : n = 0
  · have : i = d := by omega
    subst this
    rw [← hp] at hQ
    simp (disch := omega) [octroiref03_bit_r3, octroiref03_bit_r6, e0, e3, e4]
    exact .to _ (.refl _) hQ
  · have hlt : i < d := by omega
    simp (disch := omega) [octroiref03_bit_r3, octroiref03_bit_r4, octroiref03_bit_r5, e0, e3, e4, hlt, wrap_i64]
    exact ⟨n - 1, by omega, i + 1, 2 * p, rfl, by omega, by rw [hp, Nat.pow_succ, Nat.mul_comm], by simp [e0], by simp, by simp⟩

theorem rhasT_spec {t : Nat} {d : Int} {h : Hp} {Q : Value → Hp → Prop} (ht : t < 2 ^ 16) (hQ : Q (.bool (hasT t d)) h) : Ok Try.prog F_octroiref03_Has #[.int .u16 (t : Nat), .int .i64 d] h Q := by
  refine octroiref03_Has_ok (by simp) ?_
  unfold octroiref03_Has_D
  simp (disch := omega) [octroiref03_Has_r0, octroiref03_Has_r1]
  refine ris_spec ?_
  by_cases h0 : 0 ≤ d
  · by_cases h1 : d < 16
    · obtain ⟨m, rfl⟩ := Int.eq_ofNat_of_zero_le h0
      have hm : m < 16 := by omega
      simp (disch := omega) [octroiref03_Has_r2, hm, h1]
      refine rbit_spec hm ?_
      have hp0 : 0 < 2 ^ m := Nat.two_pow_pos _
      have hpl : 2 ^ m ≤ 65536 := Nat.pow_le_pow_right (by omega) (by omega : m ≤ 16)
      have e3 : decide (((t / 2 ^ m % 2 : Nat) : Int) = 1) = hasT t (m : Int) := by
        unfold hasT
        rw [Bool.eq_iff_iff]
        simp only [decide_eq_true_eq, Bool.and_eq_true, beq_iff_eq, Int.toNat_natCast]
        omega
      generalize hq : 2 ^ m = q at *
      have ed : (t : Int).tdiv (q : Nat) = ((t / q : Nat) : Int) := by rw [Int.tdiv_eq_ediv_of_nonneg (by omega)]; rfl
      have hle : t / q ≤ t := Nat.div_le_self _ _
      have em : ((t / q : Nat) : Int).tmod 2 = ((t / q % 2 : Nat) : Int) := by rw [Int.tmod_eq_emod_of_nonneg (Int.natCast_nonneg _)]; rfl
      have hq0 : ¬ (q : Int) = 0 := by omega
      generalize t / q = z at *
      generalize z % 2 = y at *
      simp (disch := omega) [h1, hq0, ed, em, wrap_i64]
      refine .to _ (.refl _) ?_
      rw [← e3] at hQ
      exact hQ
    · simp (disch := omega) [octroiref03_Has_r2, h0, h1]
      exact .to _ (.refl _) (by simpa [hasT, h0, h1] using hQ)
  · simp (disch := omega) [octroiref03_Has_r2, h0]
    exact .to _ (.refl _) (by simpa [hasT, h0] using hQ)
end Go.Proofs.Ytpfenhikoajghaa

/- The document's own words on numbers: Add. -/
namespace Go.Proofs.Ytpfenhikoajghaa
open Go
set_option linter.unusedSimpArgs false

theorem radd_spec {a b most : Int} {h : Hp} {Q : Value → Hp → Prop} (hm : most < 9223372036854775808) (hQ : Q (.int .i64 (addM a b most)) h) : Ok Try.prog F_octroiref01_Add #[.int .i64 a, .int .i64 b, .int .i64 most] h Q := by
  refine octroiref01_Add_ok (by simp) ?_
  unfold octroiref01_Add_D
  have last : ∀ (env : Env) (a' b' m' : Int), a' = max a 0 → b' = max b 0 → m' = max most 0 → env 0 = .int .i64 a' → env 1 = .int .i64 b' → env 2 = .int .i64 m' →
      octroiref01_Add_r7 env h (thenK (cnd (.tmp 22) (sq (rg octroiref01_Add_r8) (ex .ret)) (ex .normal)) (thenK (sq (rg octroiref01_Add_r9) (ex .ret)) (fin Try.prog [.tmp 6] Q)) .normal) := by
    intro env a' b' m' ha hb hm' e0 e1 e2
    by_cases c1 : m' < a'
    · have : m' = addM a b most := by unfold addM; omega
      simp (disch := omega) [octroiref01_Add_r7, octroiref01_Add_r8, e0, e1, e2, c1]
      rw [this]
      exact .to _ (.refl _) hQ
    · by_cases c2 : m' - a' < b'
      · have : m' = addM a b most := by unfold addM; omega
        simp (disch := omega) [octroiref01_Add_r7, octroiref01_Add_r8, e0, e1, e2, c1, c2, wrap_i64]
        rw [this]
        exact .to _ (.refl _) hQ
      · have : a' + b' = addM a b most := by unfold addM; omega
        simp (disch := omega) [octroiref01_Add_r7, octroiref01_Add_r9, e0, e1, e2, c1, c2, wrap_i64]
        rw [this]
        exact .to _ (.refl _) hQ
  by_cases c1 : a < 0 <;> by_cases c2 : b < 0 <;> by_cases c3 : most < 0 <;>
    (simp (disch := omega) [octroiref01_Add_r0, octroiref01_Add_r1, octroiref01_Add_r2, octroiref01_Add_r3, octroiref01_Add_r4, octroiref01_Add_r5, octroiref01_Add_r6, c1, c2, c3]
     refine last _ (max a 0) (max b 0) (max most 0) rfl rfl rfl ?_ ?_ ?_ <;> simp <;> omega)
end Go.Proofs.Ytpfenhikoajghaa

/- The document's RIP: Own, Drop, known, Hear. -/
namespace Go.Proofs.Ytpfenhikoajghaa
open Go
set_option linter.unusedSimpArgs false
set_option linter.unusedVariables false

section
variable {h h' : Hp} {q : Nat} {v : Value} {dom most : Int} {L : RS} {Q : Value → Hp → Prop}

/-- A write into the list's block. -/
theorem FfM.wr {b cap n : Nat} {L' : RS} (M : FfM h q (.slice (some ⟨b, 0, none⟩) n cap) dom most L) (K : ∀ x o, h x = some o → x ≠ b → h' x = some o) (S : SlAt h' T_fr 6 fenc (.slice (some ⟨b, 0, none⟩) n cap) L') (hl : L'.length = L.length) :
    FfM h' q (.slice (some ⟨b, 0, none⟩) n cap) dom most L' ∧ Fr h h' (ownF q (.slice (some ⟨b, 0, none⟩) n cap)) (ownF q (.slice (some ⟨b, 0, none⟩) n cap)) := by
  have ne : q ≠ b := by rintro rfl; exact M.ne rfl
  refine ⟨⟨K _ _ M.pt ne, S, M.ne, by rw [hl]; exact M.le⟩, ⟨fun x o e n => K x o e fun q => n (mem_ownF.2 (.inr (by rw [q]; rfl))), fun _ m => .inl m⟩⟩

set_option maxRecDepth 20000 in
theorem fgarbageM {i : Nat} {x : PK × Rr} {now : Int} (M : FfM h q v dom most L) (hx : L[i]? = some x) (n1 : 0 ≤ now) (n2 : now ≤ 1099511627776) (hQ : ∀ h', FQ h q v dom most (L.set i (x.1, spoilR x.2 now)) h' → Q (.tuple #[]) h') :
    Ok Try.prog F_octroiref16_Rip_garbage #[.pointer (some ⟨q, 0, none⟩), .int .i64 (i : Nat), .int .i64 now] h Q := by
  refine octroiref16_Rip_garbage_ok (by simp) ?_
  unfold octroiref16_Rip_garbage_D
  obtain ⟨b, cap, c, hv, hb, c0, c1, c2, c3, c4, c5⟩ := fr_at M.sl hx
  have hi : i < L.length := by rw [List.getElem?_eq_some_iff] at hx; exact hx.1
  have hq := M.pt
  subst hv
  simp (disch := omega) [-stN_cons, octroiref16_Rip_garbage_r0, hq, hb, hi]

  refine SlAt.setPart (y := (x.1, { x.2 with m := 16 })) (vals := [.int .i64 16]) M.sl 2 (by omega) rfl hx rfl rfl (by simp) rfl (fun h1 K1 S1 => ?_)
  obtain ⟨M1, F1⟩ := M.wr K1 S1 (by simp)
  have hq1 := M1.pt
  have hi1 : i < (L.set i (x.1, { x.2 with m := 16 })).length := by simp; exact hi
  have hx1 : (L.set i (x.1, { x.2 with m := 16 }))[i]? = some (x.1, { x.2 with m := 16 }) := by simp [hi]
  simp (disch := omega) [-stN_cons, octroiref16_Rip_garbage_r1, hq1, hi, wrap_i64]
  refine SlAt.setPart (y := (x.1, spoilR x.2 now)) (vals := [.int .i64 (now + 120)]) S1 5 (by omega) (by simp) hx1 rfl rfl (by simp) rfl (fun h2 K2 S2 => ?_)
  obtain ⟨M2, F2⟩ := M1.wr K2 S2 (by simp)
  rw [List.set_set] at M2
  exact .to _ (.refl _) (hQ _ ⟨_, M2, F1.trans F2⟩)

set_option maxHeartbeats 1000000 in
set_option maxRecDepth 20000 in
theorem fknownM {i : Nat} {k : PK} {x : Rr} {f m now : Int} {tag : Nat} (M : FfM h q v dom most L) (hx : L[i]? = some (k, x)) (n1 : 0 ≤ now) (n2 : now ≤ 1099511627776)
    (hQ : ∀ h', FQ h q v dom most (L.set i (k, (hearX x f m tag now).2)) h' → Q (.bool (hearX x f m tag now).1) h') :
    Ok Try.prog F_octroiref16_Rip_known #[.pointer (some ⟨q, 0, none⟩), .int .i64 (i : Nat), .int .i64 f, .int .i64 m, .int .u16 (tag : Nat), .int .i64 now] h Q := by
  refine octroiref16_Rip_known_ok (by simp) ?_
  unfold octroiref16_Rip_known_D
  have hi : i < L.length := by rw [List.getElem?_eq_some_iff] at hx; exact hx.1
  have hself : L.set i (k, x) = L := by
    refine List.ext_getElem? fun j => ?_
    rw [List.getElem?_set]
    split
    · rename_i e; subst e; simp [hi]; exact (List.getElem?_eq_some_iff.1 hx).2.symm
    · rfl
  obtain ⟨b, cap, c, hv, hb, c0, c1, c2, c3, c4, c5⟩ := fr_at M.sl hx
  have hq := M.pt
  subst hv
  simp (disch := omega) [octroiref16_Rip_known_r0, octroiref16_Rip_known_r1, hq, hb, hi, c0, c1, c2, c3, c4, c5]
  intro b13 hb13
  have l1 : Le h (h.upd b13 (.cells (fcells (k, x)) 78)) := .new hb13
  have f13 : (h.upd b13 (.cells (fcells (k, x)) 78)) b13 = some (.cells (fcells (k, x)) 78 (0, 0)) := upd_same
  have nb : b13 ≠ b := by rintro rfl; rw [hb] at hb13; cases hb13
  simp (disch := omega)
  show octroiref16_Rip_known_r2 _ (h.upd b13 (.cells (fcells (k, x)) 78)) _
  generalize h.upd b13 (.cells (fcells (k, x)) 78) = h1 at *
  have M1 := M.le' l1
  replace hQ : ∀ h', FQ h1 q _ dom most (L.set i (k, (hearX x f m tag now).2)) h' → Q (.bool (hearX x f m tag now).1) h' := fun h' k => hQ h' (k.le' l1)
  have hq1 := M1.pt
  have hb1 := l1 _ _ hb
  unfold hearX at hQ
  have upto : ∀ env : Env, env 0 = .pointer (some ⟨q, 0, none⟩) → env 1 = .int .i64 (i : Nat) → env 2 = .int .i64 f → env 3 = .int .i64 m → env 4 = .int .u16 (tag : Nat) → env 5 = .int .i64 now → env 13 = .pointer (some ⟨b13, 0, none⟩) →
      (∀ h', FQ h1 q (.slice (some ⟨b, 0, none⟩) L.length cap) dom most (L.set i (k, (if m < x.m then (true, (⟨m, f, now + 180, tag⟩ : Rr)) else (false, x)).2)) h' → Q (.bool (if m < x.m then (true, (⟨m, f, now + 180, tag⟩ : Rr)) else (false, x)).1) h') →
      octroiref16_Rip_known_r13 env h1 (thenK (cnd (.tmp 82) (sq (rg octroiref16_Rip_known_r14) (ex .ret)) (ex .normal)) (thenK (sq (rg octroiref16_Rip_known_r15) (sq (rg octroiref16_Rip_known_r16) (ex .ret))) (fin Try.prog [.tmp 12] Q)) .normal) := by
    intro env e0 e1 e2 e3 e4 e5 e13 hQ
    by_cases g1 : m < x.m
    · have g1' : ¬ x.m ≤ m := by omega
      rw [if_pos g1] at hQ
      simp (disch := omega) [octroiref16_Rip_known_r13, e0, e1, e2, e3, e4, e5, e13, f13, g1, g1']
      simp (disch := omega) [octroiref16_Rip_known_r15, e0, e1, e2, e3, e4, e5, e13, f13, g1, g1', hq1, hi, wrap_i64]
      unfold stA
      refine SlAt.setOne (y := (k, ⟨m, f, now + 180, tag⟩)) M1.sl rfl hx rfl (by simp) rfl rfl (fun h2 K2 S2 => ⟨trivial, ?_⟩)
      obtain ⟨M2, F2⟩ := M1.wr K2 S2 (by simp)
      simp (disch := omega) [octroiref16_Rip_known_r16]
      exact .to _ (.refl _) (hQ _ ⟨_, M2, F2⟩)
    · have g1' : x.m ≤ m := by omega
      rw [if_neg g1, hself] at hQ
      simp (disch := omega) [octroiref16_Rip_known_r13, octroiref16_Rip_known_r14, e0, e1, e2, e3, e4, e5, e13, f13, g1, g1']
      exact .to _ (.refl _) (hQ _ (.same M1 (.refl _)))
  by_cases g0 : x.m < 16
  · by_cases g1 : x.n = 0
    · rw [if_pos ⟨g0, g1⟩, hself] at hQ
      simp (disch := omega) [octroiref16_Rip_known_r2, octroiref16_Rip_known_r3, octroiref16_Rip_known_r4, f13, g0, g1]
      exact .to _ (.refl _) (hQ _ (.same M1 (.refl _)))
    · rw [if_neg (fun q => g1 q.2)] at hQ
      by_cases g2 : x.n = f
      · have gf : ¬ f = 0 := by omega
        rw [if_pos ⟨g0, g2⟩] at hQ
        by_cases g3 : m = 16
        · rw [if_pos g3] at hQ
          simp (disch := omega) [octroiref16_Rip_known_r2, octroiref16_Rip_known_r3, octroiref16_Rip_known_r5, octroiref16_Rip_known_r6, octroiref16_Rip_known_r7, f13, g0, g1, g2, gf, g3]
          refine fgarbageM M1 hx n1 n2 (fun h2 k2 => ?_)
          simp (disch := omega) [octroiref16_Rip_known_r8]
          exact .to _ (.refl _) (hQ _ k2)
        · rw [if_neg g3] at hQ
          simp (disch := omega) [-stN_cons, octroiref16_Rip_known_r2, octroiref16_Rip_known_r3, octroiref16_Rip_known_r5, octroiref16_Rip_known_r6, octroiref16_Rip_known_r9, f13, g0, g1, g2, gf, g3, hq1, hi, wrap_i64]
          refine SlAt.setPart (y := (k, { x with e := now + 180 })) (vals := [.int .i64 (now + 180)]) M1.sl 5 (by omega) rfl hx rfl rfl (by simp) rfl (fun h2 K2 S2 => ?_)
          obtain ⟨M2, F2⟩ := M1.wr K2 S2 (by simp)
          have hq2 := M2.pt
          have hx2 : (L.set i (k, { x with e := now + 180 }))[i]? = some (k, { x with e := now + 180 }) := by simp [hi]
          have f13b := K2 _ _ f13 nb
          simp (disch := omega) [-stN_cons, octroiref16_Rip_known_r10, hq2, hi]
          refine SlAt.setPart (y := (k, { x with e := now + 180, m := m })) (vals := [.int .i64 m]) S2 2 (by omega) (by simp) hx2 rfl rfl (by simp) rfl (fun h3 K3 S3 => ?_)
          obtain ⟨M3, F3⟩ := M2.wr K3 S3 (by simp)
          have hq3 := M3.pt
          rw [List.set_set] at M3 S3
          have hx3 : (L.set i (k, { x with e := now + 180, m := m }))[i]? = some (k, { x with e := now + 180, m := m }) := by simp [hi]
          have f13c := K3 _ _ f13b nb
          simp (disch := omega) [-stN_cons, octroiref16_Rip_known_r11, hq3, hi]
          refine SlAt.setPart (y := (k, { x with e := now + 180, m := m, tag := tag })) (vals := [.int .u16 (tag : Nat)]) S3 3 (by omega) (by simp) hx3 rfl rfl (by simp) rfl (fun h4 K4 S4 => ?_)
          obtain ⟨M4, F4⟩ := M3.wr K4 S4 (by simp)
          rw [List.set_set] at M4
          have f13d := K4 _ _ f13c nb
          have fin2 := hQ h4 ⟨_, M4, (F2.trans F3).trans F4⟩
          by_cases g4 : m = x.m
          · by_cases g5 : tag = x.tag
            · rw [decide_eq_false (by rw [g4, g5]; simp)] at fin2
              simp (disch := omega) [octroiref16_Rip_known_r12, f13d, g4, g5]
              exact .to _ (.refl _) fin2
            · have g5' : ¬ (tag : Int) = (x.tag : Int) := by omega
              rw [decide_eq_true (.inr g5)] at fin2
              simp (disch := omega) [octroiref16_Rip_known_r12, f13d, g4, g5, g5']
              exact .to _ (.refl _) fin2
          · rw [decide_eq_true (.inl g4)] at fin2
            simp (disch := omega) [octroiref16_Rip_known_r12, f13d, g4]
            exact .to _ (.refl _) fin2
      · rw [if_neg (fun q => g2 q.2)] at hQ
        simp (disch := omega) [octroiref16_Rip_known_r2, octroiref16_Rip_known_r3, octroiref16_Rip_known_r5, f13, g0, g1, g2]
        refine upto _ ?_ ?_ ?_ ?_ ?_ ?_ ?_ hQ <;> simp
  · rw [if_neg (fun q => g0 q.1), if_neg (fun q => g0 q.1)] at hQ
    simp (disch := omega) [octroiref16_Rip_known_r2, octroiref16_Rip_known_r3, octroiref16_Rip_known_r5, f13, g0]
    refine upto _ ?_ ?_ ?_ ?_ ?_ ?_ ?_ hQ <;> simp

/-! ### Own, Drop, Hear -/
def putR (k : PK) (x : Rr) (L : RS) : RS := if (getM L k).isSome then setM k x L else insP (k, x) L
def fownS (L : RS) (dom most : Int) (k : PK) (n : Int) (tag : Nat) : RS := if ownE L dom most k n tag = 0 then putR k ⟨n, 0, 0, tag⟩ L else L
def fdropE (L : RS) (k : PK) : Int := match getM L k with | none => 5 | some x => if x.n ≠ 0 ∨ x.m = 16 then 5 else 0
def fdropS (L : RS) (k : PK) (now : Int) : RS := match getM L k with | none => L | some x => if x.n ≠ 0 ∨ x.m = 16 then L else setM k (spoilR x now) L
def fhearR (S : RS) (dom most f c : Int) (k : PK) (tag : Nat) (N now : Int) : Bool × Int × RS :=
  if f < 1 ∨ 32 < f ∨ c < 1 ∨ 16 < c ∨ mayB k.1 k.2 = false ∨ N < 1 ∨ 16 < N then (false, 1, S)
  else if hasT tag dom = true then (false, 6, S)
  else match getM S k with
    | some x => ((hearX x f (addM N c 16) tag now).1, 0, setM k (hearX x f (addM N c 16) tag now).2 S)
    | none => if addM N c 16 = 16 then (false, 0, S) else if most ≤ (S.length : Int) then (false, 4, S) else (true, 0, insP (k, ⟨addM N c 16, f, now + 180, tag⟩) S)

theorem fpt {P : Prop} (h : P) : P := h

set_option maxHeartbeats 1000000 in
set_option maxRecDepth 20000 in
theorem fdropM {k : PK} {now : Int} (M : FfM h q v dom most L) (n1 : 0 ≤ now) (n2 : now ≤ 1099511627776) (hQ : ∀ h', FQ h q v dom most (fdropS L k now) h' → Q (.int .i64 (fdropE L k)) h') :
    Ok Try.prog F_octroiref16_Rip_Drop #[.pointer (some ⟨q, 0, none⟩), .agg #[.int .u32 (k.1 : Nat), .int .i64 k.2], .int .i64 now] h Q := by
  refine octroiref16_Rip_Drop_ok (by simp) ?_
  unfold octroiref16_Rip_Drop_D
  simp (disch := omega) [octroiref16_Rip_Drop_r0]
  intro b hb
  have l1 : Le h (h.upd b (.cells #[.int .u32 (k.1 : Nat), .int .i64 k.2] 24)) := .new hb
  have f3 : (h.upd b (.cells #[.int .u32 (k.1 : Nat), .int .i64 k.2] 24)) b = some (.cells #[.int .u32 (k.1 : Nat), .int .i64 k.2] 24) := upd_same
  generalize h.upd b (.cells #[.int .u32 (k.1 : Nat), .int .i64 k.2] 24) = h1 at *
  simp (disch := omega) [octroiref16_Rip_Drop_r1, f3]
  refine fatM (M.le' l1) (fun h2 l2 => ?_)
  replace l2 := l1.trans l2
  clear l1 f3 h1
  have M2 := M.le' l2
  replace hQ : ∀ h', FQ h2 q v dom most (fdropS L k now) h' → Q (.int .i64 (fdropE L k)) h' := fun h' k => hQ h' (k.le' l2)
  unfold fdropS fdropE at hQ
  have hq := M2.pt
  cases hg : getM L k with
  | none =>
    rw [hg] at hQ
    rw [atF_none hg]
    simp (disch := omega) [octroiref16_Rip_Drop_r2, octroiref16_Rip_Drop_r3]
    exact .to _ (.refl _) (hQ _ (.same M2 (.refl _)))
  | some x =>
    obtain ⟨i, hf, hi⟩ := findM_getM hg
    rw [hg] at hQ
    simp only at hQ
    rw [atF_some hf]
    obtain ⟨b2, cap, c, hv, hb2, c0, c1, c2, c3, c4, c5⟩ := fr_at M2.sl hi
    have hil : i < L.length := (List.getElem?_eq_some_iff.1 hi).1
    have i0 : ¬ ((i : Nat) : Int) < 0 := by omega
    by_cases g1 : x.n = 0
    · by_cases g2 : x.m = 16
      · rw [if_pos (.inr g2), if_pos (.inr g2)] at hQ
        simp (disch := omega) [octroiref16_Rip_Drop_r2, octroiref16_Rip_Drop_r3, hq, hv, hb2, c2, c4, hil, i0, g1, g2]
        exact .to _ (.refl _) (by rw [← hv] at *; exact hQ _ (.same M2 (.refl _)))
      · rw [if_neg (by omega), if_neg (by omega)] at hQ
        simp (disch := omega) [octroiref16_Rip_Drop_r2, octroiref16_Rip_Drop_r4, hq, hv, hb2, c2, c4, hil, i0, g1, g2]
        refine fgarbageM M2 hi n1 n2 (fun h3 k3 => ?_)
        rw [show L.set i (k, spoilR x now) = setM k (spoilR x now) L from findM_set (i := 0) (v := x) (by rw [hf]; simp)] at k3
        simp (disch := omega) [octroiref16_Rip_Drop_r5]
        exact .to _ (.refl _) (hQ _ k3)
    · rw [if_pos (.inl g1), if_pos (.inl g1)] at hQ
      simp (disch := omega) [octroiref16_Rip_Drop_r2, octroiref16_Rip_Drop_r3, hq, hv, hb2, c2, c4, hil, i0, g1]
      exact .to _ (.refl _) (by rw [← hv] at *; exact hQ _ (.same M2 (.refl _)))

set_option maxHeartbeats 1000000 in
set_option maxRecDepth 20000 in
theorem fownM {k : PK} {n now : Int} {tag : Nat} (M : FfM h q v dom most L) (hle : L.length < 100000) (hk : k.1 < 2 ^ 32) (ht : tag < 2 ^ 16) (hQ : ∀ h', FQ h q v dom most (fownS L dom most k n tag) h' → Q (.int .i64 (ownE L dom most k n tag)) h') :
    Ok Try.prog F_octroiref16_Rip_Own #[.pointer (some ⟨q, 0, none⟩), .agg #[.int .u32 (k.1 : Nat), .int .i64 k.2], .int .i64 n, .int .u16 (tag : Nat), .int .i64 now] h Q := by
  refine octroiref16_Rip_Own_ok (by simp) ?_
  unfold octroiref16_Rip_Own_D
  simp (disch := omega) [octroiref16_Rip_Own_r0]
  intro b hb
  have l1 : Le h (h.upd b (.cells #[.int .u32 (k.1 : Nat), .int .i64 k.2] 24)) := .new hb
  have f3 : (h.upd b (.cells #[.int .u32 (k.1 : Nat), .int .i64 k.2] 24)) b = some (.cells #[.int .u32 (k.1 : Nat), .int .i64 k.2] 24) := upd_same
  generalize h.upd b (.cells #[.int .u32 (k.1 : Nat), .int .i64 k.2] 24) = h1 at *
  simp (disch := omega) [octroiref16_Rip_Own_r1, f3]
  refine rmay_spec hk ?_
  unfold fownS at hQ
  cases hm : mayB k.1 k.2 with
  | false =>
    rw [show ownE L dom most k n tag = 1 by unfold ownE; rw [if_pos (.inl hm)], if_neg (by simp)] at hQ
    simp (disch := omega) [octroiref16_Rip_Own_r2, octroiref16_Rip_Own_r3]
    exact .to _ (.refl _) (hQ _ (.same M l1))
  | true =>
  by_cases g1 : n < 1
  · rw [show ownE L dom most k n tag = 1 by unfold ownE; rw [if_pos (.inr (.inl g1))], if_neg (by simp)] at hQ
    simp (disch := omega) [octroiref16_Rip_Own_r2, octroiref16_Rip_Own_r3, g1]
    exact .to _ (.refl _) (hQ _ (.same M l1))
  by_cases g2 : 15 < n
  · rw [show ownE L dom most k n tag = 1 by unfold ownE; rw [if_pos (.inr (.inr (by omega)))], if_neg (by simp)] at hQ
    simp (disch := omega) [octroiref16_Rip_Own_r2, octroiref16_Rip_Own_r3, g1, g2]
    exact .to _ (.refl _) (hQ _ (.same M l1))
  have hE0 : ownE L dom most k n tag = if hasT tag dom = true then 6 else if getM L k = none ∧ most ≤ (L.length : Int) then 4 else 0 := by unfold ownE; rw [if_neg (by rw [hm]; simp; omega)]
  have M1 := M.le' l1
  have hq1 := M1.pt
  simp (disch := omega) [octroiref16_Rip_Own_r2, octroiref16_Rip_Own_r4, g1, g2, hq1]
  refine rhasT_spec ht ?_
  cases ht' : hasT tag dom with
  | true =>
    rw [hE0, if_pos ht', if_neg (by simp)] at hQ
    simp (disch := omega) [octroiref16_Rip_Own_r5, octroiref16_Rip_Own_r6]
    exact .to _ (.refl _) (hQ _ (.same M l1))
  | false =>
  rw [if_neg (by rw [ht']; simp)] at hE0
  rw [hE0] at hQ
  simp (disch := omega) [octroiref16_Rip_Own_r5, octroiref16_Rip_Own_r7, f3]
  intro b13 hb13
  have l2 : Le h1 (h1.upd b13 (.cells (fcells (k, ⟨n, 0, 0, tag⟩)) 78)) := .new hb13
  have f13 : (h1.upd b13 (.cells (fcells (k, ⟨n, 0, 0, tag⟩)) 78)) b13 = some (.cells (fcells (k, ⟨n, 0, 0, tag⟩)) 78 (0, 0)) := upd_same
  simp (disch := omega)
  show octroiref16_Rip_Own_r8 _ (h1.upd b13 (.cells (fcells (k, ⟨n, 0, 0, tag⟩)) 78)) _
  generalize h1.upd b13 (.cells (fcells (k, ⟨n, 0, 0, tag⟩)) 78) = h2 at *
  have M2 := M1.le' l2
  have f32 := l2 _ _ f3
  simp (disch := omega) [octroiref16_Rip_Own_r8, f32]
  refine fatM M2 (fun h3 l3 => ?_)
  have M3 := M2.le' l3
  have f13' := l3 _ _ f13
  have lh : Le h h3 := (l1.trans l2).trans l3
  replace hQ := fun h' k => hQ h' (FQ.le' (h1 := h3) lh k)
  have hq := M3.pt
  clear l1 l2 l3 M1 M2 f3 f32 f13 hq1
  cases hg : getM L k with
  | some x =>
    obtain ⟨i, hf, hi⟩ := findM_getM hg
    have hil : i < L.length := (List.getElem?_eq_some_iff.1 hi).1
    rw [hg, show (if some x = none ∧ most ≤ (L.length : Int) then (4 : Int) else 0) = 0 from if_neg (by simp), if_pos rfl] at hQ
    unfold putR at hQ
    rw [hg, if_pos (by simp)] at hQ
    rw [atF_some hf]
    obtain ⟨b2, cap, c, hv, hb2, c0, c1, c2, c3, c4, c5⟩ := fr_at M3.sl hi
    subst hv
    simp (disch := omega) [octroiref16_Rip_Own_r9, octroiref16_Rip_Own_r10, hq, hb2, hil, f13']
    unfold stA
    refine SlAt.setOne (y := (k, ⟨n, 0, 0, tag⟩)) M3.sl rfl hi rfl (by simp) rfl rfl (fun h4 K4 S4 => ?_)
    obtain ⟨M4, F4⟩ := M3.wr K4 S4 (by simp)
    rw [show L.set i (k, ⟨n, 0, 0, tag⟩) = setM k ⟨n, 0, 0, tag⟩ L from findM_set (i := 0) (v := x) (by rw [hf]; simp)] at M4
    simp (disch := omega) [octroiref16_Rip_Own_r11]
    exact .to _ (.refl _) (hQ _ ⟨_, M4, F4⟩)
  | none =>
    rw [hg] at hQ
    rw [atF_none hg]
    obtain ⟨sp, cap, hv⟩ := M3.sl.shape'
    by_cases g3 : most ≤ (L.length : Int)
    · rw [show (if (none : Option Rr) = none ∧ most ≤ (L.length : Int) then (4 : Int) else 0) = 4 from if_pos ⟨rfl, g3⟩, if_neg (by simp)] at hQ
      simp (disch := omega) [octroiref16_Rip_Own_r9, octroiref16_Rip_Own_r12, octroiref16_Rip_Own_r13, hq, hv, g3]
      exact .to _ (.refl _) (hQ _ (.same M3 (.refl _)))
    · rw [show (if (none : Option Rr) = none ∧ most ≤ (L.length : Int) then (4 : Int) else 0) = 0 from if_neg (fun q => g3 q.2), if_pos rfl] at hQ
      unfold putR at hQ
      rw [hg, if_neg (by simp)] at hQ
      simp (disch := omega) [octroiref16_Rip_Own_r9, octroiref16_Rip_Own_r12, octroiref16_Rip_Own_r14, hq, hv, g3, f13']
      rw [← hv]
      refine fputM (x := (k, ⟨n, 0, 0, tag⟩)) M3 hle (fun h4 k4 => ?_)
      simp (disch := omega) [octroiref16_Rip_Own_r15]
      exact .to _ (.refl _) (hQ _ k4)

set_option maxHeartbeats 1000000 in
set_option maxRecDepth 20000 in
theorem fhearM {f c : Int} {k : PK} {tag nx : Nat} {N now : Int} (M : FfM h q v dom most L) (hle : L.length < 100000) (hk : k.1 < 2 ^ 32) (ht : tag < 2 ^ 16) (n1 : 0 ≤ now) (n2 : now ≤ 1099511627776)
    (hQ : ∀ h', FQ h q v dom most (fhearR L dom most f c k tag N now).2.2 h' → Q (.tuple #[.bool (fhearR L dom most f c k tag N now).1, .int .i64 (fhearR L dom most f c k tag N now).2.1]) h') :
    Ok Try.prog F_octroiref16_Rip_Hear #[.pointer (some ⟨q, 0, none⟩), .int .i64 f, .int .i64 c, .agg #[.int .u32 (k.1 : Nat), .int .i64 k.2, .int .u16 (tag : Nat), .int .u32 (nx : Nat), .int .i64 N], .int .i64 now] h Q := by
  refine octroiref16_Rip_Hear_ok (by simp) ?_
  unfold octroiref16_Rip_Hear_D
  simp (disch := omega) [octroiref16_Rip_Hear_r0]
  intro b hb
  have l1 : Le h (h.upd b (.cells #[.int .u32 (k.1 : Nat), .int .i64 k.2, .int .u16 (tag : Nat), .int .u32 (nx : Nat), .int .i64 N] 33)) := .new hb
  have f8 : (h.upd b (.cells #[.int .u32 (k.1 : Nat), .int .i64 k.2, .int .u16 (tag : Nat), .int .u32 (nx : Nat), .int .i64 N] 33)) b = some (.cells #[.int .u32 (k.1 : Nat), .int .i64 k.2, .int .u16 (tag : Nat), .int .u32 (nx : Nat), .int .i64 N] 33) := upd_same
  generalize h.upd b (.cells #[.int .u32 (k.1 : Nat), .int .i64 k.2, .int .u16 (tag : Nat), .int .u32 (nx : Nat), .int .i64 N] 33) = h1 at *
  have M1 := M.le' l1
  simp (disch := omega) [octroiref16_Rip_Hear_r1, f8]
  refine rmay_spec hk ?_
  by_cases arg : f < 1 ∨ 32 < f ∨ c < 1 ∨ 16 < c ∨ mayB k.1 k.2 = false ∨ N < 1 ∨ 16 < N
  · have e : fhearR L dom most f c k tag N now = (false, 1, L) := by unfold fhearR; rw [if_pos arg]
    rw [e] at hQ
    have fin2 := hQ _ (.same M l1)
    simp only at fin2
    by_cases a1 : f < 1
    · simp (disch := omega) [octroiref16_Rip_Hear_r2, octroiref16_Rip_Hear_r3, f8, a1]
      exact .to _ (.refl _) fin2
    by_cases a2 : 32 < f
    · simp (disch := omega) [octroiref16_Rip_Hear_r2, octroiref16_Rip_Hear_r3, f8, a1, a2]
      exact .to _ (.refl _) fin2
    by_cases a3 : c < 1
    · simp (disch := omega) [octroiref16_Rip_Hear_r2, octroiref16_Rip_Hear_r3, f8, a1, a2, a3]
      exact .to _ (.refl _) fin2
    by_cases a4 : 16 < c
    · simp (disch := omega) [octroiref16_Rip_Hear_r2, octroiref16_Rip_Hear_r3, f8, a1, a2, a3, a4]
      exact .to _ (.refl _) fin2
    by_cases a5 : mayB k.1 k.2 = false
    · simp (disch := omega) [octroiref16_Rip_Hear_r2, octroiref16_Rip_Hear_r3, f8, a1, a2, a3, a4, a5]
      exact .to _ (.refl _) fin2
    have a5' : mayB k.1 k.2 = true := by simpa using a5
    by_cases a6 : N < 1
    · simp (disch := omega) [octroiref16_Rip_Hear_r2, octroiref16_Rip_Hear_r3, f8, a1, a2, a3, a4, a5', a6]
      exact .to _ (.refl _) fin2
    by_cases a7 : 16 < N
    · simp (disch := omega) [octroiref16_Rip_Hear_r2, octroiref16_Rip_Hear_r3, f8, a1, a2, a3, a4, a5', a6, a7]
      exact .to _ (.refl _) fin2
    · exact absurd arg (by simp [a1, a2, a3, a4, a5', a6, a7])
  have e0 : fhearR L dom most f c k tag N now = if hasT tag dom = true then (false, (6 : Int), L) else match getM L k with
    | some x => ((hearX x f (addM N c 16) tag now).1, 0, setM k (hearX x f (addM N c 16) tag now).2 L)
    | none => if addM N c 16 = 16 then (false, 0, L) else if most ≤ (L.length : Int) then (false, 4, L) else (true, 0, insP (k, ⟨addM N c 16, f, now + 180, tag⟩) L) := by unfold fhearR; rw [if_neg arg]
  have a1 : ¬ f < 1 := fun q => arg (.inl q)
  have a2 : ¬ 32 < f := fun q => arg (.inr (.inl q))
  have a3 : ¬ c < 1 := fun q => arg (.inr (.inr (.inl q)))
  have a4 : ¬ 16 < c := fun q => arg (.inr (.inr (.inr (.inl q))))
  have a5 : mayB k.1 k.2 = true := by
    cases q : mayB k.1 k.2 with
    | true => rfl
    | false => exact absurd (.inr (.inr (.inr (.inr (.inl q))))) arg
  have a6 : ¬ N < 1 := fun q => arg (.inr (.inr (.inr (.inr (.inr (.inl q))))))
  have a7 : ¬ 16 < N := fun q => arg (.inr (.inr (.inr (.inr (.inr (.inr q))))))
  clear arg
  have hq1 := M1.pt
  simp (disch := omega) [octroiref16_Rip_Hear_r2, octroiref16_Rip_Hear_r4, f8, a1, a2, a3, a4, a5, a6, a7, hq1]
  refine rhasT_spec ht ?_
  cases ht' : hasT tag dom with
  | true =>
    rw [if_pos ht'] at e0
    rw [e0] at hQ
    simp (disch := omega) [octroiref16_Rip_Hear_r5, octroiref16_Rip_Hear_r6]
    exact .to _ (.refl _) (hQ _ (.same M l1))
  | false =>
  rw [if_neg (by rw [ht']; simp)] at e0
  simp (disch := omega) [octroiref16_Rip_Hear_r5, octroiref16_Rip_Hear_r7, f8]
  refine radd_spec (by omega) ?_
  generalize addM N c 16 = m at *
  simp (disch := omega) [octroiref16_Rip_Hear_r8, f8]
  refine fatM M1 (fun h3 l3 => ?_)
  have M3 := M1.le' l3
  have f8' := l3 _ _ f8
  have lh : Le h h3 := l1.trans l3
  replace hQ := fun h' k => hQ h' (FQ.le' (h1 := h3) lh k)
  have hq := M3.pt
  clear l1 l3 M1 f8 hq1
  cases hg : getM L k with
  | some x =>
    obtain ⟨i, hf, hi⟩ := findM_getM hg
    rw [hg] at e0
    simp only at e0
    rw [e0] at hQ
    rw [atF_some hf]
    simp (disch := omega) [octroiref16_Rip_Hear_r9, octroiref16_Rip_Hear_r10, f8']
    refine fknownM M3 hi n1 n2 (fun h4 k4 => ?_)
    rw [show L.set i (k, (hearX x f m tag now).2) = setM k (hearX x f m tag now).2 L from findM_set (i := 0) (v := x) (by rw [hf]; simp)] at k4
    simp (disch := omega) [octroiref16_Rip_Hear_r11]
    exact .to _ (.refl _) (hQ _ k4)
  | none =>
    rw [hg] at e0
    simp only at e0
    rw [atF_none hg]
    obtain ⟨sp, cap, hv⟩ := M3.sl.shape'
    by_cases g1 : m = 16
    · rw [if_pos g1] at e0
      rw [e0] at hQ
      simp (disch := omega) [octroiref16_Rip_Hear_r9, octroiref16_Rip_Hear_r12, octroiref16_Rip_Hear_r13, g1]
      exact .to _ (.refl _) (hQ _ (.same M3 (.refl _)))
    rw [if_neg g1] at e0
    by_cases g3 : most ≤ (L.length : Int)
    · rw [if_pos g3] at e0
      rw [e0] at hQ
      simp (disch := omega) [octroiref16_Rip_Hear_r9, octroiref16_Rip_Hear_r12, octroiref16_Rip_Hear_r14, octroiref16_Rip_Hear_r15, hq, hv, g1, g3]
      exact .to _ (.refl _) (hQ _ (.same M3 (.refl _)))
    · rw [if_neg g3] at e0
      rw [e0] at hQ
      simp (disch := omega) [octroiref16_Rip_Hear_r9, octroiref16_Rip_Hear_r12, octroiref16_Rip_Hear_r14, octroiref16_Rip_Hear_r16, hq, hv, g1, g3, f8', wrap_i64]
      rw [← hv]
      refine fputM (x := (k, ⟨m, f, now + 180, tag⟩)) M3 hle (fun h4 k4 => ?_)
      simp (disch := omega) [octroiref16_Rip_Hear_r17]
      exact .to _ (.refl _) (hQ _ k4)
end
end Go.Proofs.Ytpfenhikoajghaa

/- The document's RIP: Tick, Lose, Tell, All. -/
namespace Go.Proofs.Ytpfenhikoajghaa
open Go
set_option linter.unusedSimpArgs false
set_option linter.unusedVariables false

section
variable {h h' : Hp} {q : Nat} {v : Value} {dom most : Int} {L : RS} {Q : Value → Hp → Prop}

theorem tickS_snoc {A : RS} {e : PK × Rr} {now : Int} : tickS (A ++ [e]) now = tickS A now ++ ((tickX now e.2).map fun x => (e.1, x)).toList := by
  unfold tickS
  rw [List.filterMap_append]
  cases h : tickX now e.2 <;> simp [List.filterMap, h]
theorem tickB_snoc {A : RS} {e : PK × Rr} {now : Int} : tickB (A ++ [e]) now = (tickB A now || tickP now e.2) := by unfold tickB; rw [List.any_append]; simp
theorem tickS_length {A : RS} {now : Int} : (tickS A now).length ≤ A.length := List.length_filterMap_le _ _

/-- A slice is one longer, and new. -/
theorem Grew.news {h0 g g' : Hp} {w w' : Value} (G : Grew g g' w w') (lg : Le h0 g) (nw : ∀ b, blkOf w = some b → h0 b = none) : Le h0 g' ∧ ∀ b, blkOf w' = some b → h0 b = none := by
  refine ⟨fun x o e => G.keep x o (lg _ _ e) (fun q => by rw [nw x q.symm] at e; cases e), fun b e => ?_⟩
  rcases G.fresh with q1 | q1
  · exact nw b (by rw [← q1]; exact e)
  · exact none_of_le lg (q1 b e)

def FtInv (h0 : Hp) (q : Nat) (L : RS) (now : Int) (n : Nat) (env : Env) (g : Hp) : Prop :=
  ∃ (i : Nat) (w : Value), i + n = L.length ∧ Le h0 g ∧ SlAt g T_fr 6 fenc w (tickS (L.take i) now) ∧ (∀ b, blkOf w = some b → h0 b = none) ∧
    env 0 = .pointer (some ⟨q, 0, none⟩) ∧ env 1 = .int .i64 now ∧ env 5 = w ∧ env 6 = .bool (tickB (L.take i) now) ∧ env 7 = .int .i64 (i : Nat)

set_option maxHeartbeats 1000000 in
set_option maxRecDepth 20000 in
theorem ftickM {now : Int} (M : FfM h q v dom most L) (n1 : 0 ≤ now) (n2 : now ≤ 1099511627776) (hQ : ∀ h', FQ h q v dom most (tickS L now) h' → Q (.bool (tickB L now)) h') : Ok Try.prog F_octroiref16_Rip_Tick #[.pointer (some ⟨q, 0, none⟩), .int .i64 now] h Q := by
  refine octroiref16_Rip_Tick_ok (by simp) ?_
  unfold octroiref16_Rip_Tick_D
  obtain ⟨ap, acap, hv⟩ := M.sl.shape'
  have hle := M.le
  simp (disch := omega) [octroiref16_Rip_Tick_r0, octroiref16_Rip_Tick_r1, octroiref16_Rip_Tick_r2, octroiref16_Rip_Tick_r3]
  refine ⟨FtInv h q L now, ⟨L.length, 0, .slice none 0 0, by omega, .refl _, .inl ⟨rfl, rfl⟩, by simp [blkOf], by simp, by simp, by simp, by simp [tickB], by simp⟩, ?_⟩
  rintro n env g ⟨i, w, hin, lg, S, nw, e0, e1, e5, e6, e7⟩
  unfold octroiref16_Rip_Tick_L0
  have hq := lg _ _ M.pt
  have hsl : (tickS (L.take i) now).length ≤ L.length := Nat.le_trans tickS_length (by rw [List.length_take]; omega)
  by_cases hm : n = 0
  · have : i = L.length := by omega
    subst this
    rw [List.take_of_length_le (Nat.le_refl _)] at S e6
    obtain ⟨sp, cap, hw⟩ := S.shape'
    have nq : blkOf w ≠ some q := fun e => by have := nw q e; rw [M.pt] at this; cases this
    simp (disch := omega) [octroiref16_Rip_Tick_r4, octroiref16_Rip_Tick_r15, octroiref16_Rip_Tick_r16, e0, e1, e5, e6, e7, hq, hv, hw]
    rw [← hw]
    refine .to _ (.refl _) (hQ _ ⟨w, ⟨upd_same, S.keep (fun b o e e2 => by rw [upd_ne (fun q2 => nq (by rw [← q2]; exact e))]; exact e2), nq, Nat.le_trans tickS_length hle⟩, ⟨fun y o e n => ?_, fun y m => ?_⟩⟩)
    · rw [upd_ne (fun q2 => n (mem_ownF.2 (.inl q2)))]; exact lg _ _ e
    · rcases mem_ownF.1 m with m | m
      · exact .inl (mem_ownF.2 (.inl m))
      · exact .inr (nw y m)
  · obtain ⟨x, hx⟩ : ∃ x, L[i]? = some x := ⟨_, List.getElem?_eq_getElem (by omega)⟩
    obtain ⟨b, cap, c, hv', hb, c0, c1, c2, c3, c4, c5⟩ := fr_at (M.sl.le' lg) hx
    have hi' : i < L.length := by omega
    have tk := take_snoc hx
    simp (disch := omega) [octroiref16_Rip_Tick_r4, octroiref16_Rip_Tick_r5, e0, e1, e5, e6, e7, hq, hv', hb, c0, c1, c2, c3, c4, c5, hi']
    intro b8 hb8
    have l8 : Le g (g.upd b8 (.cells (fcells x) 78)) := .new hb8
    have f8 : (g.upd b8 (.cells (fcells x) 78)) b8 = some (.cells (fcells x) 78 (0, 0)) := upd_same
    have nb8 : blkOf w ≠ some b8 := fun e => by obtain ⟨o, e2⟩ := S.alive e; rw [hb8] at e2; cases e2
    have h8 := none_of_le lg hb8
    simp (disch := omega)
    show octroiref16_Rip_Tick_r6 _ (g.upd b8 (.cells (fcells x) 78)) _
    generalize g.upd b8 (.cells (fcells x) 78) = g1 at *
    have S1 := S.le' l8
    have lg1 := lg.trans l8
    have inv : ∀ (env : Env) (g' : Hp) (w' : Value), Le h g' → SlAt g' T_fr 6 fenc w' (tickS (L.take (i + 1)) now) → (∀ b, blkOf w' = some b → h b = none) → env 0 = .pointer (some ⟨q, 0, none⟩) → env 1 = .int .i64 now → env 5 = w' → env 6 = .bool (tickB (L.take (i + 1)) now) → env 7 = .int .i64 (i : Nat) →
        octroiref16_Rip_Tick_r14 env g' (roundK (FtInv h q L now) n (inBlk 0 (thenK (sq (rg octroiref16_Rip_Tick_r15) (sq (rg octroiref16_Rip_Tick_r16) (ex .ret))) (fin Try.prog [.tmp 4] Q))) .normal) := by
      intro env g' w' lg' S' nw' e0 e1 e5 e6 e7
      simp (disch := omega) [octroiref16_Rip_Tick_r14, e7, wrap_i64]
      exact ⟨n - 1, by omega, i + 1, w', by omega, lg', S', nw', by simp [e0], by simp [e1], by simp [e5], by simp [e6], by simp⟩
    have own : ∀ (env : Env), tickP now x.2 = false → env 0 = .pointer (some ⟨q, 0, none⟩) → env 1 = .int .i64 now → env 5 = w → env 6 = .bool (tickB (L.take i) now) → env 7 = .int .i64 (i : Nat) → env 8 = .pointer (some ⟨b8, 0, none⟩) →
        octroiref16_Rip_Tick_r8 env g1 (inBlk 1 (thenK (rg octroiref16_Rip_Tick_r14) (roundK (FtInv h q L now) n (inBlk 0 (thenK (sq (rg octroiref16_Rip_Tick_r15) (sq (rg octroiref16_Rip_Tick_r16) (ex .ret))) (fin Try.prog [.tmp 4] Q))))) (.exit 1)) := by
      intro env hp e0 e1 e5 e6 e7 e8
      have hs : tickS (L.take (i + 1)) now = tickS (L.take i) now ++ [x] := by rw [tk, tickS_snoc]; unfold tickX; rw [hp]; simp
      have hb' : tickB (L.take (i + 1)) now = tickB (L.take i) now := by rw [tk, tickB_snoc, hp]; simp
      simp (disch := omega) [octroiref16_Rip_Tick_r8, e0, e1, e5, e6, e7, e8, f8]
      refine snoc_octroiref16_Route S1 (y := x) rfl (by simp [fenc]) (by omega) (fun b9 w' g' S' G hb9 => ?_)
      obtain ⟨lg', nw'⟩ := G.news lg1 nw
      simp (disch := omega)
      refine inv _ g' w' lg' (by rw [hs]; exact S') nw' ?_ ?_ ?_ ?_ ?_ <;> simp [e0, e1, e6, e7, hb']
    by_cases p1 : x.2.n = 0 ∧ x.2.m < 16
    · have hp : tickP now x.2 = false := by unfold tickP; simp [p1.1, p1.2]
      simp (disch := omega) [octroiref16_Rip_Tick_r6, octroiref16_Rip_Tick_r7, f8, p1.1, p1.2]
      refine own _ hp ?_ ?_ ?_ ?_ ?_ ?_ <;> simp [e0, e1, e5, e6, e7]
    · have rest : ∀ (env : Env), env 0 = .pointer (some ⟨q, 0, none⟩) → env 1 = .int .i64 now → env 5 = w → env 6 = .bool (tickB (L.take i) now) → env 7 = .int .i64 (i : Nat) → env 8 = .pointer (some ⟨b8, 0, none⟩) → env 9 = .bool false →
          octroiref16_Rip_Tick_r7 env g1 (thenK (cnd (.tmp 40) (sq (rg octroiref16_Rip_Tick_r8) (ex (.exit 1))) (ex .normal)) (thenK (sq (rg octroiref16_Rip_Tick_r9) (sq (rg octroiref16_Rip_Tick_r10) (cnd (.tmp 47) (sq (rg octroiref16_Rip_Tick_r11) (sq (rg octroiref16_Rip_Tick_r12) (rg octroiref16_Rip_Tick_r13))) (ex .normal)))) (inBlk 1 (thenK (rg octroiref16_Rip_Tick_r14) (roundK (FtInv h q L now) n (inBlk 0 (thenK (sq (rg octroiref16_Rip_Tick_r15) (sq (rg octroiref16_Rip_Tick_r16) (ex .ret))) (fin Try.prog [.tmp 4] Q))))))) .normal) := by
        intro env e0 e1 e5 e6 e7 e8 e9
        by_cases p2 : now < x.2.e
        · have hp : tickP now x.2 = false := by unfold tickP; simp; intro _; omega
          simp (disch := omega) [octroiref16_Rip_Tick_r7, e0, e1, e5, e6, e7, e8, e9, f8, p2]
          refine own _ hp ?_ ?_ ?_ ?_ ?_ ?_ <;> simp [e0, e1, e5, e6, e7, e8]
        · have hp : tickP now x.2 = true := by unfold tickP; simp; omega
          have hb' : tickB (L.take (i + 1)) now = true := by rw [tk, tickB_snoc, hp]; simp
          by_cases p3 : x.2.m < 16
          · have hs : tickS (L.take (i + 1)) now = tickS (L.take i) now ++ [(x.1, spoilR x.2 now)] := by rw [tk, tickS_snoc]; unfold tickX; rw [hp]; simp [p3]
            simp (disch := omega) [octroiref16_Rip_Tick_r7, octroiref16_Rip_Tick_r9, octroiref16_Rip_Tick_r10, octroiref16_Rip_Tick_r11, octroiref16_Rip_Tick_r12, e0, e1, e5, e6, e7, e8, e9, f8, p2, p3, wrap_i64]
            have S1u : ∀ o, SlAt (g1.upd b8 o) T_fr 6 fenc w (tickS (L.take i) now) := fun o => S1.keep fun b o' e e2 => by rw [upd_ne (fun q => nb8 (by rw [← q]; exact e))]; exact e2
            have lgu : ∀ o, Le h (g1.upd b8 o) := fun o y o' e => by rw [upd_ne (by rintro rfl; rw [h8] at e; cases e)]; exact lg1 _ _ e
            simp (disch := omega) [octroiref16_Rip_Tick_r13, e5, e8]
            refine snoc_octroiref16_Route (S1u _) (y := (x.1, spoilR x.2 now)) rfl (by simp [fenc]) (by omega) (fun b9 w' g' S' G hb9 => ?_)
            obtain ⟨lg', nw'⟩ := G.news (lgu _) nw
            simp (disch := omega)
            refine inv _ g' w' lg' (by rw [hs]; exact S') nw' ?_ ?_ ?_ ?_ ?_ <;> simp [e0, e1, e7, hb']
          · have hs : tickS (L.take (i + 1)) now = tickS (L.take i) now := by rw [tk, tickS_snoc]; unfold tickX; rw [hp]; simp [p3]
            simp (disch := omega) [octroiref16_Rip_Tick_r7, octroiref16_Rip_Tick_r9, octroiref16_Rip_Tick_r10, e0, e1, e5, e6, e7, e8, e9, f8, p2, p3]
            refine inv _ g1 w lg1 (by rw [hs]; exact S1) nw ?_ ?_ ?_ ?_ ?_ <;> simp [e0, e1, e5, e7, hb']
      by_cases z : x.2.n = 0
      · have z2 : ¬ x.2.m < 16 := fun q => p1 ⟨z, q⟩
        simp (disch := omega) [octroiref16_Rip_Tick_r6, f8, z, z2]
        refine rest _ ?_ ?_ ?_ ?_ ?_ ?_ ?_ <;> simp [e0, e1, e5, e6, e7]
      · simp (disch := omega) [octroiref16_Rip_Tick_r6, f8, z]
        refine rest _ ?_ ?_ ?_ ?_ ?_ ?_ ?_ <;> simp [e0, e1, e5, e6, e7]

/-! ### Lose -/
def flP (f : Int) (x : Rr) : Bool := decide (1 ≤ f) && (decide (x.n = f) && decide (x.m < 16))
def flX (f now : Int) (x : Rr) : Rr := if flP f x then spoilR x now else x
def flS (S : RS) (f now : Int) : RS := S.map fun e => (e.1, flX f now e.2)
def flB (S : RS) (f : Int) : Bool := S.any fun e => flP f e.2
theorem flB_snoc {A : RS} {e : PK × Rr} {f : Int} : flB (A ++ [e]) f = (flB A f || flP f e.2) := by unfold flB; rw [List.any_append]; simp
theorem flS_snoc {A : RS} {e : PK × Rr} {f now : Int} : flS (A ++ [e]) f now = flS A f now ++ [(e.1, flX f now e.2)] := by unfold flS; rw [List.map_append]; rfl

def FlInv (h0 : Hp) (q : Nat) (v : Value) (dom most f now : Int) (L : RS) (n : Nat) (env : Env) (g : Hp) : Prop :=
  ∃ (i : Nat) (w : Value), i + n = L.length ∧ FfM g q w dom most (flS (L.take i) f now ++ L.drop i) ∧ Fr h0 g (ownF q v) (ownF q w) ∧
    env 0 = .pointer (some ⟨q, 0, none⟩) ∧ env 1 = .int .i64 f ∧ env 2 = .int .i64 now ∧ env 7 = .bool (flB (L.take i) f) ∧ env 8 = .int .i64 (i : Nat)

set_option maxHeartbeats 1000000 in
set_option maxRecDepth 20000 in
theorem floseM {f now : Int} (M : FfM h q v dom most L) (n1 : 0 ≤ now) (n2 : now ≤ 1099511627776) (hQ : ∀ h', FQ h q v dom most (flS L f now) h' → Q (.bool (flB L f)) h') : Ok Try.prog F_octroiref16_Rip_Lose #[.pointer (some ⟨q, 0, none⟩), .int .i64 f, .int .i64 now] h Q := by
  refine octroiref16_Rip_Lose_ok (by simp) ?_
  unfold octroiref16_Rip_Lose_D
  have hle := M.le
  simp (disch := omega) [octroiref16_Rip_Lose_r0, octroiref16_Rip_Lose_r1, octroiref16_Rip_Lose_r2]
  refine ⟨FlInv h q v dom most f now L, ⟨L.length, 0, v, by omega, by simpa [flS] using M, .refl _ _, by simp, by simp, by simp, by simp [flB], by simp⟩, ?_⟩
  rintro n env g ⟨i, w, hin, M1, F1, e0, e1, e2, e7, e8⟩
  unfold octroiref16_Rip_Lose_L0
  have hq := M1.pt
  obtain ⟨ap, acap, hw⟩ := M1.sl.shape'
  have hlen : (flS (L.take i) f now ++ L.drop i).length = L.length := by simp [flS]; omega
  rw [hlen] at hw
  by_cases hm : n = 0
  · have : i = L.length := by omega
    subst this
    rw [List.take_of_length_le (Nat.le_refl _), List.drop_of_length_le (Nat.le_refl _), List.append_nil] at M1
    rw [List.take_of_length_le (Nat.le_refl _)] at e7
    simp (disch := omega) [octroiref16_Rip_Lose_r3, octroiref16_Rip_Lose_r8, e0, e1, e2, e7, e8, hq, hw]
    exact .to _ (.refl _) (hQ _ ⟨w, M1, F1⟩)
  · obtain ⟨x, hx⟩ : ∃ x, L[i]? = some x := ⟨_, List.getElem?_eq_getElem (by omega)⟩
    have hlt : (flS (L.take i) f now).length = i := by simp [flS]; omega
    have hx' : (flS (L.take i) f now ++ L.drop i)[i]? = some x := by rw [List.getElem?_append_right (by omega), hlt]; simpa using hx
    obtain ⟨b, cap, c, hv', hb, c0, c1, c2, c3, c4, c5⟩ := fr_at M1.sl hx'
    rw [hlen] at hv'
    have hi' : i < L.length := by omega
    have tk := take_snoc hx
    have dk := drop_cons hx
    have inv : ∀ (env : Env) (g' : Hp) (w' : Value), FfM g' q w' dom most (flS (L.take (i + 1)) f now ++ L.drop (i + 1)) → Fr h g' (ownF q v) (ownF q w') → env 0 = .pointer (some ⟨q, 0, none⟩) → env 1 = .int .i64 f → env 2 = .int .i64 now → env 7 = .bool (flB (L.take (i + 1)) f) → env 8 = .int .i64 (i : Nat) →
        octroiref16_Rip_Lose_r7 env g' (roundK (FlInv h q v dom most f now L) n (inBlk 0 (thenK (sq (rg octroiref16_Rip_Lose_r8) (ex .ret)) (fin Try.prog [.tmp 6] Q))) .normal) := by
      intro env g' w' M' F' e0 e1 e2 e7 e8
      simp (disch := omega) [octroiref16_Rip_Lose_r7, e8, wrap_i64]
      exact ⟨n - 1, by omega, i + 1, w', by omega, M', F', by simp [e0], by simp [e1], by simp [e2], by simp [e7], by simp⟩
    by_cases p : flP f x.2 = true
    · have hs : flS (L.take (i + 1)) f now ++ L.drop (i + 1) = (flS (L.take i) f now ++ L.drop i).set i (x.1, spoilR x.2 now) := by
        rw [List.set_append_right _ _ (by omega), hlt, dk, tk, flS_snoc]; unfold flX; rw [if_pos p]; simp
      have hb' : flB (L.take (i + 1)) f = true := by rw [tk, flB_snoc, p]; simp
      unfold flP at p
      simp only [Bool.and_eq_true, decide_eq_true_eq] at p
      obtain ⟨p1, p2, p3⟩ := p
      rw [p2] at c4
      simp (disch := omega) [octroiref16_Rip_Lose_r3, octroiref16_Rip_Lose_r4, octroiref16_Rip_Lose_r5, e0, e1, e2, e7, e8, hq, hv', hb, c2, c4, hi', p1, p3]
      rw [← hv']
      refine fgarbageM M1 hx' n1 n2 (fun g2 ⟨w2, M2, F2⟩ => ?_)
      simp (disch := omega) [octroiref16_Rip_Lose_r6]
      refine inv _ g2 w2 (by rw [hs]; exact M2) (F1.trans F2) ?_ ?_ ?_ ?_ ?_ <;> simp [e0, e1, e2, e8, hb']
    · have p' : flP f x.2 = false := by simpa using p
      have hs : flS (L.take (i + 1)) f now ++ L.drop (i + 1) = flS (L.take i) f now ++ L.drop i := by
        rw [dk, tk, flS_snoc]; unfold flX; rw [if_neg p]; simp
      have hb' : flB (L.take (i + 1)) f = flB (L.take i) f := by rw [tk, flB_snoc, p']; simp
      have last : ∀ (env : Env), env 0 = .pointer (some ⟨q, 0, none⟩) → env 1 = .int .i64 f → env 2 = .int .i64 now → env 7 = .bool (flB (L.take i) f) → env 8 = .int .i64 (i : Nat) →
          octroiref16_Rip_Lose_r7 env g (roundK (FlInv h q v dom most f now L) n (inBlk 0 (thenK (sq (rg octroiref16_Rip_Lose_r8) (ex .ret)) (fin Try.prog [.tmp 6] Q))) .normal) := by
        intro env e0 e1 e2 e7 e8
        exact inv _ g w (by rw [hs]; exact M1) F1 e0 e1 e2 (by rw [hb']; exact e7) e8
      by_cases p1 : 1 ≤ f
      · by_cases p2 : x.2.n = f
        · have p3 : ¬ x.2.m < 16 := fun z => p (by unfold flP; simp [p1, p2, z])
          rw [p2] at c4
          simp (disch := omega) [octroiref16_Rip_Lose_r3, octroiref16_Rip_Lose_r4, e0, e1, e2, e7, e8, hq, hv', hb, c2, c4, hi', p1, p3]
          refine last _ ?_ ?_ ?_ ?_ ?_ <;> simp [e0, e1, e2, e7, e8]
        · simp (disch := omega) [octroiref16_Rip_Lose_r3, octroiref16_Rip_Lose_r4, e0, e1, e2, e7, e8, hq, hv', hb, c2, c4, hi', p1, p2]
          refine last _ ?_ ?_ ?_ ?_ ?_ <;> simp [e0, e1, e2, e7, e8]
      · simp (disch := omega) [octroiref16_Rip_Lose_r3, octroiref16_Rip_Lose_r4, e0, e1, e2, e7, e8, hq, hv', hb, c2, c4, hi', p1]
        refine last _ ?_ ?_ ?_ ?_ ?_ <;> simp [e0, e1, e2, e7, e8]
end
end Go.Proofs.Ytpfenhikoajghaa
