/- tags.Has. -/
import Derived.Test.YtpfenhikoajghaaRows
import Derived.Test.YtpfenhikoajghaaZ5

set_option linter.unusedSimpArgs false
set_option linter.unusedVariables false

namespace Go.Proofs.Ytpfenhikoajghaa
open Go
set_option linter.unusedSimpArgs false

/-- A set has a domain. -/
def hasT (t : Nat) (d : Int) : Bool := decide (0 ≤ d) && (decide (d < 16) && (t / 2 ^ d.toNat % 2 == 1))

theorem tmay_spec {d : Int} {h : Hp} {Q : Value → Hp → Prop} (hQ : Q (.bool (decide (0 ≤ d) && decide (d < 16))) h) : Ok Try.prog F_tags_may #[.int .i64 d] h Q := by
  refine tags_may_ok (by simp) ?_
  unfold tags_may_D
  by_cases h0 : 0 ≤ d
  · simp (disch := omega) [tags_may_r0, tags_may_r1, h0]
    exact .to _ (.refl _) (by simpa [h0] using hQ)
  · simp (disch := omega) [tags_may_r0, tags_may_r1, h0]
    exact .to _ (.refl _) (by simpa [h0] using hQ)

theorem thas_spec {t : Nat} {d : Int} {h : Hp} {Q : Value → Hp → Prop} (ht : t < 2 ^ 16) (hQ : Q (.bool (hasT t d)) h) : Ok Try.prog F_tags_Has #[.int .u16 (t : Nat), .int .i64 d] h Q := by
  refine tags_Has_ok (by simp) ?_
  unfold tags_Has_D
  simp (disch := omega) [tags_Has_r0, tags_Has_r1]
  refine tmay_spec ?_
  by_cases h0 : 0 ≤ d
  · by_cases h1 : d < 16
    · obtain ⟨m, rfl⟩ := Int.eq_ofNat_of_zero_le h0
      have hm : m < 16 := by omega
      have e1 : min m 16 = m := by omega
      have e2 : bits_and .u16 ((t : Int).fdiv (2 ^ m)) 1 = ((t / 2 ^ m % 2 : Nat) : Int) := by
        rw [fdiv_pow]
        have := bits_and_u16 (a := t / 2 ^ m) (b := 1) (Nat.lt_of_le_of_lt (Nat.div_le_self _ _) ht) (by omega)
        rw [Nat.and_one_is_mod] at this
        exact this
      have e3 : decide (((t / 2 ^ m % 2 : Nat) : Int) = 1) = hasT t (m : Int) := by
        unfold hasT
        rw [Bool.eq_iff_iff]
        simp only [decide_eq_true_eq, Bool.and_eq_true, beq_iff_eq, Int.toNat_natCast]
        omega
      generalize t / 2 ^ m % 2 = q at e2 e3
      simp (disch := omega) [h0, hm, h1, e1, e2]
      refine .to _ (.refl _) ?_
      rw [← e3] at hQ
      exact hQ
    · simp (disch := omega) [h0, h1]
      exact .to _ (.refl _) (by simpa [hasT, h0, h1] using hQ)
  · simp (disch := omega) [h0]
    exact .to _ (.refl _) (by simpa [hasT, h0] using hQ)
end Go.Proofs.Ytpfenhikoajghaa

/- num.Add. -/
namespace Go.Proofs.Ytpfenhikoajghaa
open Go
set_option linter.unusedSimpArgs false

/-- The sum of two numbers, or the most. -/
def addM (a b most : Int) : Int := min (max a 0) (max most 0) + min (max b 0) (max most 0 - min (max a 0) (max most 0))

theorem add_spec {a b most : Int} {h : Hp} {Q : Value → Hp → Prop} (hm : most < 9223372036854775808) (hQ : Q (.int .i64 (addM a b most)) h) : Ok Try.prog F_num_Add #[.int .i64 a, .int .i64 b, .int .i64 most] h Q := by
  refine num_Add_ok (by simp) ?_
  unfold num_Add_D
  simp (disch := omega) [num_Add_r0, num_Add_r1, num_Add_r2, wrap_i64]
  exact .to _ (.refl _) hQ
end Go.Proofs.Ytpfenhikoajghaa

/- prefix.Mask, prefix.May. -/
namespace Go.Proofs.Ytpfenhikoajghaa
open Go
set_option linter.unusedSimpArgs false

theorem mask_spec {n : Int} {h : Hp} {Q : Value → Hp → Prop} (hQ : Q (.int .u32 (maskI n)) h) : Ok Try.prog F_prefix_Mask #[.int .i64 n] h Q := by
  refine prefix_Mask_ok (by simp) ?_
  unfold prefix_Mask_D
  simp (disch := omega) [prefix_Mask_r0, prefix_Mask_r1, wrap_i64]
  exact .to h (.refl _) hQ

theorem may_spec {a : Nat} {n : Int} {h : Hp} {Q : Value → Hp → Prop} (ha : a < 2 ^ 32) (hQ : Q (.bool (mayB a n)) h) : Ok Try.prog F_prefix_May #[.agg #[.int .u32 a, .int .i64 n]] h Q := by
  refine prefix_May_ok (by simp) ?_
  unfold prefix_May_D
  simp (disch := omega) [prefix_May_r0]
  intro b hb
  by_cases h0 : 0 ≤ n
  · by_cases h1 : n ≤ 32
    · simp (disch := omega) [prefix_May_r1, h0, h1]
      refine mask_spec ?_
      obtain ⟨m, rfl⟩ := Int.eq_ofNat_of_zero_le h0
      rw [maskI_nat (by omega)]
      simp (disch := omega) [bits_andNot_msk]
      refine .to h (.new hb) ?_
      rw [mayB_eq (by omega)] at hQ
      exact hQ
    · simp (disch := omega) [prefix_May_r1, h0, h1]
      refine .to h (.new hb) ?_
      simpa [mayB, h0, h1] using hQ
  · simp (disch := omega) [prefix_May_r1, h0]
    refine .to h (.new hb) ?_
    simpa [mayB, h0] using hQ

end Go.Proofs.Ytpfenhikoajghaa

/- RIP: one route; what is heard of it. -/
namespace Go.Proofs.Ytpfenhikoajghaa
open Go
set_option linter.unusedSimpArgs false
set_option linter.unusedVariables false

structure Rr where
  m : Int
  n : Int
  e : Int
  tag : Nat
deriving DecidableEq
abbrev rcells (x : Rr) : Array Value := #[.int .i64 x.m, .int .i64 x.n, .int .i64 x.e, .int .u16 (x.tag : Nat)]
abbrev T_rt : Nat := 73
abbrev T_rip : Nat := 67
abbrev RtAt (h : Hp) (b : Nat) (x : Rr) : Prop := h b = some (.cells (rcells x) T_rt (0, 0))

def spoilR (x : Rr) (now : Int) : Rr := { x with m := 16, e := now + 120 }
def hearX (x : Rr) (f m : Int) (tag : Nat) (now : Int) : Bool × Rr :=
  if x.m < 16 ∧ x.n = 0 then (false, x)
  else if x.m < 16 ∧ x.n = f then (if m = 16 then (true, spoilR x now) else (decide (m ≠ x.m ∨ tag ≠ x.tag), ⟨m, x.n, now + 180, tag⟩))
  else if m < x.m then (true, ⟨m, f, now + 180, tag⟩) else (false, x)

section
variable {h : Hp} {b : Nat} {x : Rr} {Q : Value → Hp → Prop}

theorem reachedM (hb : RtAt h b x) (hQ : Q (.bool (decide (x.m < 16))) h) : Ok Try.prog F_rip_route_reached #[.pointer (some ⟨b, 0, none⟩)] h Q := by
  refine rip_route_reached_ok (by simp) ?_
  unfold rip_route_reached_D
  simp (disch := omega) [rip_route_reached_r0, rip_route_reached_r1, hb]
  exact .to _ (.refl _) hQ

theorem spoilM {now : Int} (hb : RtAt h b x) (h1 : -1000000000000000 ≤ now) (h2 : now ≤ 1000000000000000) (hQ : Q (.tuple #[]) (h.upd b (.cells (rcells (spoilR x now)) T_rt (0, 0)))) : Ok Try.prog F_rip_route_spoil #[.pointer (some ⟨b, 0, none⟩), .int .i64 now] h Q := by
  refine rip_route_spoil_ok (by simp) ?_
  unfold rip_route_spoil_D
  simp (disch := omega) [rip_route_spoil_r0, hb, wrap_i64]
  exact .to _ (.refl _) hQ

theorem hearM {f m : Int} {tag : Nat} {now : Int} (hb : RtAt h b x) (h1 : 0 ≤ now) (h2 : now ≤ 1099511627776) (hQ : Q (.bool (hearX x f m tag now).1) (h.upd b (.cells (rcells (hearX x f m tag now).2) T_rt (0, 0)))) :
    Ok Try.prog F_rip_route_hear #[.pointer (some ⟨b, 0, none⟩), .int .i64 f, .int .i64 m, .int .u16 (tag : Nat), .int .i64 now] h Q := by
  refine rip_route_hear_ok (by simp) ?_
  unfold rip_route_hear_D
  unfold hearX at hQ
  simp (disch := omega) [rip_route_hear_r0, rip_route_hear_r1]
  refine reachedM hb ?_
  by_cases c1 : x.m < 16
  · by_cases c2 : x.n = 0
    · rw [if_pos ⟨c1, c2⟩] at hQ
      rw [upd_self hb] at hQ
      simp (disch := omega) [c1, c2, hb, rip_route_hear_r2]
      exact .to _ (.refl _) hQ
    · rw [if_neg (fun q => c2 q.2)] at hQ
      by_cases c3 : x.n = f
      · rw [if_pos ⟨c1, c3⟩] at hQ
        have c2f : ¬ f = 0 := by omega
        by_cases c4 : m = 16
        · rw [if_pos c4] at hQ
          simp (disch := omega) [c1, c2, c2f, hb, rip_route_hear_r3]
          refine reachedM hb ?_
          simp (disch := omega) [c1, c2, c3, c4, hb]
          simp (disch := omega) [rip_route_hear_r4]
          refine spoilM hb (by omega) (by omega) ?_
          simp (disch := omega) [rip_route_hear_r5]
          exact .to _ (.refl _) hQ
        · rw [if_neg c4] at hQ
          simp (disch := omega) [c1, c2, c2f, hb, rip_route_hear_r3]
          refine reachedM hb ?_
          simp (disch := omega) [c1, c2, c3, c4, hb]
          simp (disch := omega) [rip_route_hear_r6]
          refine reachedM hb ?_
          by_cases c5 : m = x.m
          · by_cases c6 : tag = x.tag
            · subst c6
              simp (disch := omega) [c1, c2, c3, c5, hb, rip_route_hear_r7, rip_route_hear_r8, rip_route_hear_r9, wrap_i64]
              exact .to _ (.refl _) (by simpa [c5, c3] using hQ)
            · have c6' : ¬ (tag : Int) = (x.tag : Int) := by omega
              simp (disch := omega) [c1, c2, c3, c5, c6, c6', hb, rip_route_hear_r7, rip_route_hear_r8, rip_route_hear_r9, wrap_i64]
              exact .to _ (.refl _) (by simpa [c5, c6, c3] using hQ)
          · simp (disch := omega) [c1, c2, c3, c5, hb, rip_route_hear_r7, rip_route_hear_r8, rip_route_hear_r9, wrap_i64]
            exact .to _ (.refl _) (by simpa [c5, c3] using hQ)
      · rw [if_neg (fun q => c3 q.2)] at hQ
        simp (disch := omega) [c1, c2, hb, rip_route_hear_r3]
        refine reachedM hb ?_
        simp (disch := omega) [c1, c2, c3, hb]
        simp (disch := omega) [rip_route_hear_r6]
        refine reachedM hb ?_
        by_cases c5 : m < x.m
        · rw [if_pos c5] at hQ
          simp (disch := omega) [c1, c2, c3, c5, hb, rip_route_hear_r10, rip_route_hear_r11, rip_route_hear_r12, wrap_i64]
          exact .to _ (.refl _) hQ
        · rw [if_neg c5, upd_self hb] at hQ
          simp (disch := omega) [c1, c2, c3, c5, hb, rip_route_hear_r10, rip_route_hear_r13, wrap_i64]
          exact .to _ (.refl _) hQ
  · rw [if_neg (fun q => c1 q.1), if_neg (fun q => c1 q.1)] at hQ
    simp (disch := omega) [c1, hb, rip_route_hear_r3]
    refine reachedM hb ?_
    simp (disch := omega) [c1, hb]
    simp (disch := omega) [rip_route_hear_r6]
    refine reachedM hb ?_
    by_cases c5 : m < x.m
    · rw [if_pos c5] at hQ
      simp (disch := omega) [c1, c5, hb, rip_route_hear_r10, rip_route_hear_r11, rip_route_hear_r12, wrap_i64]
      exact .to _ (.refl _) hQ
    · rw [if_neg c5, upd_self hb] at hQ
      simp (disch := omega) [c1, c5, hb, rip_route_hear_r10, rip_route_hear_r13, wrap_i64]
      exact .to _ (.refl _) hQ
end

/-! ### In memory -/
abbrev RB := Nat × Rr
def rbv (x : RB) : Value := .pointer (some ⟨x.1, 0, none⟩)
abbrev RM := List (PK × RB)
abbrev RS := List (PK × Rr)
def strip (m : RM) : RS := m.map fun e => (e.1, e.2.2)

structure RipAt (h : Hp) (p r : Nat) (dom most : Int) (m : RM) : Prop where
  pt : h p = some (.cells #[.int .i64 dom, .int .i64 most, .map (some r)] T_rip (0, 0))
  mp : MapB h r kvalP rbv m
  un : Uniq m
  bl : ∀ e ∈ m, RtAt h e.2.1 e.2.2
  nb : (m.map (·.2.1)).Nodup
  gd : ∀ e ∈ m, e.1.1 < 2 ^ 32 ∧ e.2.2.tag < 2 ^ 16
  le : m.length ≤ 64

def ownR (p r : Nat) (m : RM) : List Nat := p :: r :: m.map (·.2.1)

section
variable {h h' : Hp} {p r : Nat} {dom most : Int} {m : RM}

theorem RipAt.pr (A : RipAt h p r dom most m) : p ≠ r := by
  obtain ⟨es, cl, e, _⟩ := A.mp
  rintro rfl; have := A.pt; rw [e] at this; cases this
theorem RipAt.pb (A : RipAt h p r dom most m) {e : PK × RB} (he : e ∈ m) : e.2.1 ≠ p ∧ e.2.1 ≠ r := by
  have := A.bl e he
  refine ⟨fun q => ?_, fun q => ?_⟩
  · rw [q] at this; have h2 := A.pt; rw [this] at h2; simp at h2
  · rw [q] at this; obtain ⟨es, cl, h2, _⟩ := A.mp; rw [this] at h2; cases h2
theorem RipAt.alive (A : RipAt h p r dom most m) : ∀ x, x ∈ ownR p r m → ∃ o, h x = some o := by
  intro x hx
  simp only [ownR, List.mem_cons, List.mem_map] at hx
  rcases hx with rfl | rfl | ⟨e, he, rfl⟩
  · exact ⟨_, A.pt⟩
  · exact A.mp.alive
  · exact ⟨_, A.bl e he⟩
theorem RipAt.le' (A : RipAt h p r dom most m) (l : Le h h') : RipAt h' p r dom most m := ⟨l _ _ A.pt, A.mp.le l, A.un, fun e he => l _ _ (A.bl e he), A.nb, A.gd, A.le⟩
theorem RipAt.keep (A : RipAt h p r dom most m) (k : ∀ x o, x ∈ ownR p r m → h x = some o → h' x = some o) : RipAt h' p r dom most m := by
  refine ⟨k _ _ (by simp [ownR]) A.pt, ?_, A.un, fun e he => k _ _ (by simp only [ownR, List.mem_cons, List.mem_map]; exact .inr (.inr ⟨e, he, rfl⟩)) (A.bl e he), A.nb, A.gd, A.le⟩
  obtain ⟨es, cl, e, H⟩ := A.mp
  exact ⟨es, cl, k _ _ (by simp [ownR]) e, H⟩

theorem getM_strip {m : RM} {k : PK} : getM (strip m) k = (getM m k).map (·.2) := by
  induction m with
  | nil => rfl
  | cons x xs ih =>
    rw [strip, List.map_cons, getM_cons, getM_cons]
    split
    · rfl
    · exact ih
theorem strip_length {m : RM} : (strip m).length = m.length := by simp [strip]
theorem strip_keys {m : RM} : (strip m).map (·.1) = m.map (·.1) := by simp [strip]
theorem strip_set {m : RM} {k : PK} {x : RB} : strip (setM k x m) = setM k x.2 (strip m) := by
  induction m with
  | nil => rfl
  | cons y ys ih =>
    simp only [strip, setM, List.map_cons] at *
    split
    · rfl
    · simp only [List.map_cons]; rw [ih]
theorem strip_uniq {m : RM} (u : Uniq m) : Uniq (strip m) := by unfold Uniq at *; rw [strip_keys]; exact u

/-- One route changed in place. -/
def chg (k : PK) (x : Rr) (m : RM) : RM := m.map fun e => if e.1 = k then (e.1, e.2.1, x) else e

theorem chg_keys {k : PK} {x : Rr} {m : RM} : (chg k x m).map (·.1) = m.map (·.1) := by
  unfold chg; rw [List.map_map]; refine List.map_congr_left fun e _ => ?_; simp only [Function.comp]; split <;> rfl
theorem chg_blks {k : PK} {x : Rr} {m : RM} : (chg k x m).map (·.2.1) = m.map (·.2.1) := by
  unfold chg; rw [List.map_map]; refine List.map_congr_left fun e _ => ?_; simp only [Function.comp]; split <;> rfl
theorem chg_ents {k : PK} {x : Rr} {m : RM} {es : List MapEntry} (H : Ents kvalP rbv es m) : Ents kvalP rbv es (chg k x m) := by
  induction H with
  | nil => exact .nil
  | @cons e es k' v m h1 h2 h3 ih =>
    unfold chg at *
    rw [List.map_cons]
    by_cases q : k' = k
    · simp only [q, if_true]; exact .cons (by rw [h1, q]) (by rw [h2]; rfl) ih
    · simp only [q, if_false]; exact .cons h1 h2 ih
theorem chg_strip {k : PK} {x : Rr} {m : RM} (u : Uniq m) (hin : (getM m k).isSome = true) : strip (chg k x m) = setM k x (strip m) := by
  induction m with
  | nil => cases hin
  | cons y ys ih =>
    unfold Uniq at u
    rw [List.map_cons, List.nodup_cons] at u
    rw [getM_cons] at hin
    unfold chg strip at *
    simp only [List.map_cons, setM]
    by_cases q : y.1 = k
    · rw [if_pos q, if_pos q.symm]
      congr 1
      · rw [← q]
      · rw [List.map_map]
        refine List.map_congr_left fun e he => ?_
        have : e.1 ≠ k := fun q2 => u.1 (by rw [q, ← q2]; exact List.mem_map_of_mem he)
        simp [this]
    · rw [if_neg (fun e => q e.symm)] at hin
      rw [if_neg q, if_neg (fun e => q e.symm), ih u.2 hin]
theorem chg_mem {k : PK} {x : Rr} {m : RM} {e : PK × RB} (he : e ∈ chg k x m) : (e.1 = k ∧ e.2.2 = x ∧ ∃ e' ∈ m, e'.1 = k ∧ e'.2.1 = e.2.1) ∨ (e.1 ≠ k ∧ e ∈ m) := by
  unfold chg at he
  obtain ⟨e', h1, rfl⟩ := List.mem_map.1 he
  by_cases q : e'.1 = k
  · rw [if_pos q]; exact .inl ⟨q, rfl, e', h1, q, rfl⟩
  · rw [if_neg q]; exact .inr ⟨q, h1⟩

theorem blk_inj {m : RM} (n : (m.map (·.2.1)).Nodup) {e e' : PK × RB} (h1 : e ∈ m) (h2 : e' ∈ m) (q : e.2.1 = e'.2.1) : e = e' := by
  obtain ⟨i, hi, rfl⟩ := List.mem_iff_getElem.1 h1
  obtain ⟨j, hj, rfl⟩ := List.mem_iff_getElem.1 h2
  have : i = j := (List.getElem?_inj (by simpa using hi) n).1 (by simp [hi, hj, q])
  subst this; rfl

theorem RipAt.chg (A : RipAt h p r dom most m) {e : PK × RB} (he : e ∈ m) {x : Rr} (ht : x.tag < 2 ^ 16) : RipAt (h.upd e.2.1 (.cells (rcells x) T_rt (0, 0))) p r dom most (chg e.1 x m) := by
  have hne := A.pb he
  refine ⟨by rw [upd_ne (Ne.symm hne.1)]; exact A.pt, ?_, by have := A.un; unfold Uniq at *; rw [chg_keys]; exact this, fun e' h' => ?_, by rw [chg_blks]; exact A.nb, fun e' h' => ?_, by simp [Ytpfenhikoajghaa.chg]; exact A.le⟩
  · obtain ⟨es, cl, q, H, B⟩ := A.mp
    exact ⟨es, cl, by rw [upd_ne (Ne.symm hne.2)]; exact q, chg_ents H, B⟩
  · rcases chg_mem h' with ⟨q1, q2, e2, q3, q4, q5⟩ | ⟨q1, q2⟩
    · have : e2 = e := by
        have k1 := getM_of_mem (a := e2.1) (v := e2.2) A.un q3
        have k2 := getM_of_mem (a := e.1) (v := e.2) A.un he
        rw [q4] at k1; rw [k1] at k2
        exact Prod.ext q4 (by simpa using k2)
      subst this
      show (h.upd _ _) e'.2.1 = _
      rw [← q5, upd_same, q2]
    · have : e'.2.1 ≠ e.2.1 := fun q => q1 (by rw [blk_inj A.nb q2 he q])
      show (h.upd _ _) e'.2.1 = _
      rw [upd_ne this]; exact A.bl e' q2
  · rcases chg_mem h' with ⟨q1, q2, e2, q3, q4, q5⟩ | ⟨q1, q2⟩
    · rw [q1, q2]; exact ⟨by rw [← q4]; exact (A.gd e2 q3).1, ht⟩
    · exact A.gd e' q2
end
end Go.Proofs.Ytpfenhikoajghaa

/- A look into a map, the value alone; what stays in a map. -/
namespace Go.Proofs.Ytpfenhikoajghaa
open Go
theorem fm_congr {α β : Type} {f g : α → Option β} : ∀ {l : List α}, (∀ x ∈ l, f x = g x) → l.filterMap f = l.filterMap g
  | [], _ => rfl
  | x :: xs, h => by rw [List.filterMap_cons, List.filterMap_cons, h x (by simp), fm_congr (fun y hy => h y (by simp [hy]))]

theorem take_snoc {α : Type} {l : List α} {i : Nat} {x : α} (hx : l[i]? = some x) : l.take (i + 1) = l.take i ++ [x] := by rw [List.take_add_one, hx]; rfl
theorem drop_cons {α : Type} {l : List α} {i : Nat} {x : α} (hx : l[i]? = some x) : l.drop i = x :: l.drop (i + 1) := by
  obtain ⟨h1, h2⟩ := List.getElem?_eq_some_iff.1 hx
  rw [List.drop_eq_getElem_cons h1, h2]

section
variable {P : Program} {h : Hp} {α β : Type} [DecidableEq α] {kenc : α → Value} {venc : β → Value}

theorem rr_lookup1 {t kt et : TypeId} {r : Nat} {a : α} {m : List (α × β)} {z : Value} (hu : P.underlying t = some (.map kt et)) (M : MapAt h r kenc venc m) (hck : ∀ e, rrun P (Instr.checkKey e 10000 kt (kenc a)) h = some ())
    (hfk : ∀ es : List MapEntry, Ents kenc venc es m → rrun P (Instr.findKey kt (kenc a) es) h = some ((findM a m 0).map fun x => (x.1, venc x.2))) (hz : (P.info? et).bind (·.zero) = some z) :
    rrun P (Instr.lookup t (.map (some r)) (kenc a) false) h = some (match getM m a with | some v => venc v | none => z) := by
  obtain ⟨es, clock, hr, hE⟩ := M
  unfold Instr.lookup
  rw [rrun_bnd, rr_underlying, hu, Option.bind_some]
  simp only []
  have hg : rrun P (getObj r) h = some (.map es clock) := by
    unfold getObj
    simp only [rrun, hr, isRow]
  simp only [rrun_bnd, hg, Option.bind_some, rrun_pure, hck, hfk _ hE]
  unfold getM
  cases findM a m 0 with
  | none =>
    have e : ∀ (s : Sem Value) (f : Value → Value), rrun P (f <$> s) h = (rrun P s h).map f := by
      intro s f
      have : f <$> s = s >>= fun x => pure (f x) := by simp
      rw [this, rrun_bnd]
      cases rrun P s h <;> rfl
    simp [rrun_bnd, rrun_pure, e, rr_zeroValue hz]
  | some x => simp [rrun_bnd, rrun_pure]

theorem getM_isSome {a : α} {m : List (α × β)} : (getM m a).isSome = decide (a ∈ m.map (·.1)) := by
  cases h : getM m a with
  | none => simp [getM_none.1 h]
  | some v => simp only [Option.isSome_some]; symm; rw [decide_eq_true_eq]; exact List.mem_map_of_mem (getM_mem h)

theorem setM_mem {a : α} {v : β} {m : List (α × β)} {e : α × β} (he : e ∈ setM a v m) : e = (a, v) ∨ (e ∈ m) := by
  induction m with
  | nil => simp [setM] at he; exact .inl he
  | cons y ys ih =>
    simp only [setM] at he
    split at he
    · rcases List.mem_cons.1 he with q | q
      · exact .inl q
      · exact .inr (List.mem_cons_of_mem _ q)
    · rcases List.mem_cons.1 he with q | q
      · exact .inr (by rw [q]; exact List.mem_cons_self)
      · rcases ih q with q | q
        · exact .inl q
        · exact .inr (List.mem_cons_of_mem _ q)
theorem setM_mem_ne {a : α} {v : β} : ∀ {m : List (α × β)}, Uniq m → ∀ {e : α × β}, e ∈ setM a v m → e = (a, v) ∨ (e ∈ m ∧ e.1 ≠ a)
  | [], _, e, he => by simp [setM] at he; exact .inl he
  | y :: ys, u, e, he => by
    have u' := u
    unfold Uniq at u
    rw [List.map_cons, List.nodup_cons] at u
    simp only [setM] at he
    split at he
    · rename_i q0
      rcases List.mem_cons.1 he with q | q
      · exact .inl q
      · exact .inr ⟨List.mem_cons_of_mem _ q, fun q2 => u.1 (by rw [← q0, ← q2]; exact List.mem_map_of_mem q)⟩
    · rename_i q0
      rcases List.mem_cons.1 he with q | q
      · exact .inr ⟨by rw [q]; exact List.mem_cons_self, by rw [q]; exact fun q2 => q0 q2.symm⟩
      · rcases setM_mem_ne u.2 q with q | q
        · exact .inl q
        · exact .inr ⟨List.mem_cons_of_mem _ q.1, q.2⟩
end
end Go.Proofs.Ytpfenhikoajghaa

/- RIP in memory: New, Len, order, Own, Drop, Hear. -/
namespace Go.Proofs.Ytpfenhikoajghaa
open Go
set_option linter.unusedSimpArgs false
set_option linter.unusedVariables false

theorem kp_eq {h : Hp} {p q : PK} : rrun Try.prog (Op.equal 24 (kvalP p) (kvalP q)) h = some (decide (p = q)) := by
  unfold kvalP
  rw [keq_65]
  congr 1
  rw [Bool.eq_iff_iff]
  simp only [Bool.and_true, Bool.and_eq_true, decide_eq_true_eq, Prod.ext_iff]
  omega
theorem kp_find {h : Hp} {β : Type} {venc : β → Value} {p : PK} {m : List (PK × β)} {es : List MapEntry} (H : Ents kvalP venc es m) : rrun Try.prog (Instr.findKey 24 (kvalP p) es) h = some ((findM p m 0).map fun x => (x.1, venc x.2)) :=
  rr_findKey_struct Try.underlying24 (fun q => kp_eq) H
set_option maxRecDepth 20000 in
theorem kp_look {h : Hp} {r : Nat} {p : PK} {m : RM} (M : MapB h r kvalP rbv m) :
    rrun Try.prog (Instr.lookup 65 (.map (some r)) (.agg #[.int .u32 (p.1 : Nat), .int .i64 p.2]) false) h = some (match getM m p with | some v => rbv v | none => .pointer none) := by
  have := rr_lookup1 (a := p) (z := .pointer none) Try.underlying65 M.at (fun e => ck_65) (fun es H => kp_find H) (by kernel_rfl)
  rw [show (Value.agg #[.int .u32 (p.1 : Nat), .int .i64 p.2]) = kvalP p from rfl, this]
  cases getM m p <;> rfl
set_option maxRecDepth 20000 in
theorem kp_put {h : Hp} {r : Nat} {p : PK} {b : Nat} {x : Rr} {m : RM} {K : Unit → Hp → Prop} (M : MapB h r kvalP rbv m) (hK : ∀ o, MapB (h.upd r o) r kvalP rbv (setM p (b, x) m) → K () (h.upd r o)) :
    arun Try.prog (Instr.mapUpdate 65 (.map (some r)) (.agg #[.int .u32 (p.1 : Nat), .int .i64 p.2]) (.pointer (some ⟨b, 0, none⟩))) h K :=
  arun_mapUpdateB (a := p) (v := (b, x)) (kenc := kvalP) (venc := rbv) Try.underlying65 M (fun e => ck_65) (fun es H => kp_find H) sb_65 (fun _ _ => hK _)
theorem kp_len {h : Hp} {r : Nat} {m : RM} {R : TypeId} (M : MapB h r kvalP rbv m) : rrun Try.prog (Builtin.len_ #[65] R #[.map (some r)]) h = some (.int .i64 (m.length : Nat)) :=
  rr_mapLen (kenc := kvalP) (venc := rbv) rfl Try.underlying65 M.at

section
variable {h : Hp} {p r : Nat} {dom most : Int} {m : RM} {Q : Value → Hp → Prop}

theorem rnewM (hd : most < 9223372036854775808) (hQ : ∀ p r h', Le h h' → h p = none → h r = none → p ≠ r → RipAt h' p r dom (min most 64) [] → Q (.pointer (some ⟨p, 0, none⟩)) h') : Ok Try.prog F_rip_New #[.int .i64 dom, .int .i64 most] h Q := by
  refine rip_New_ok (by simp) ?_
  unfold rip_New_D
  simp (disch := omega) [rip_New_r0, rip_New_r1]
  refine arun_makeMapB (kenc := kvalP) (venc := rbv) (fun b hb M => ?_)
  simp (disch := omega)
  intro b2 hb2
  obtain ⟨hne, hb2'⟩ := upd_none hb2
  refine .to _ (.refl _) (hQ b2 b _ ((Le.new hb).trans (Le.new hb2)) hb2' hb hne ⟨upd_same, M.le (Le.new hb2), by simp [Uniq], by simp, by simp, by simp, by simp⟩)

theorem rlenM (A : RipAt h p r dom most m) (hQ : Q (.int .i64 (m.length : Nat)) h) : Ok Try.prog F_rip_Rip_Len #[.pointer (some ⟨p, 0, none⟩)] h Q := by
  refine rip_Rip_Len_ok (by simp) ?_
  unfold rip_Rip_Len_D
  simp (disch := omega) [rip_Rip_Len_r0, rip_Rip_Len_r1, A.pt, kp_len A.mp]
  exact .to _ (.refl _) hQ

set_option maxRecDepth 20000 in
theorem rorderM (A : RipAt h p r dom most m) (hQ : ∀ v ks h', Le h h' → SlAt h' 24 2 kencP v ks → ks.Perm (m.map (·.1)) → SrtP ks → (∀ b, blkOf v = some b → h b = none) → Q v h') :
    Ok Try.prog F_rip_Rip_order #[.pointer (some ⟨p, 0, none⟩)] h Q := by
  refine rip_Rip_order_ok (by simp) ?_
  unfold rip_Rip_order_D
  simp (disch := omega) [rip_Rip_order_r0, rip_Rip_order_r1, A.pt]
  have kn : ∀ {K : Value → Hp → Prop}, (∀ Bm h1, Le h h1 → h1 Bm = some (.cells #[.map (some r)] 65 (0, 0)) → h Bm = none → K (.func (.func F_maps_Keys_map_api_Prefix_rip_route_api_Prefix_rip_route_1) #[] #[.pointer (some ⟨Bm, 0, none⟩)]) h1) →
      Ok Try.prog F_maps_Keys_map_api_Prefix_rip_route_api_Prefix_rip_route #[.map (some r)] h K := by
    intro K hK
    refine maps_Keys_map_api_Prefix_rip_route_api_Prefix_rip_route_ok (by simp) ?_
    unfold maps_Keys_map_api_Prefix_rip_route_api_Prefix_rip_route_D
    simp (disch := omega) [maps_Keys_map_api_Prefix_rip_route_api_Prefix_rip_route_r0]
    intro Bm hBm
    simp (disch := omega) [maps_Keys_map_api_Prefix_rip_route_api_Prefix_rip_route_r1]
    exact .to _ (.refl _) (hK Bm _ (.new hBm) upd_same hBm)
  refine kn (fun Bm h1 l1 hB nB => ?_)
  simp (disch := omega)
  refine slices_SortedFunc_api_Prefix_ok (by simp) ?_
  unfold slices_SortedFunc_api_Prefix_D
  simp (disch := omega) [slices_SortedFunc_api_Prefix_r0, slices_SortedFunc_api_Prefix_r1]
  have hl := A.le
  refine collectP hB (A.mp.le l1) A.un (by omega) (fun v ks h2 l2 S hp nv => ?_)
  simp (disch := omega) [slices_SortedFunc_api_Prefix_r2]
  have hkl : ks.length ≤ 64 := by rw [hp.length_eq, List.length_map]; exact hl
  refine sort_specP S (by omega) (fun d h3 hp3 hs3 k3 S3 => ?_)
  simp (disch := omega) [slices_SortedFunc_api_Prefix_r3]
  have l3 : Le h h3 := fun x o e => k3 x o (l2 _ _ (l1 _ _ e)) (fun q => by have := nv x q; rw [l1 _ _ e] at this; cases this)
  refine .to _ (.refl _) ?_
  exact .to _ (.refl _) (hQ v d h3 l3 S3 (hp3.trans hp) hs3 (fun b e => none_of_le l1 (nv b e)))

/-! ### Own, Drop, Hear -/
def ownE (S : RS) (dom most : Int) (k : PK) (n : Int) (tag : Nat) : Int :=
  if mayB k.1 k.2 = false ∨ n < 1 ∨ 16 ≤ n then 1 else if hasT tag dom = true then 6 else if getM S k = none ∧ most ≤ (S.length : Int) then 4 else 0
def ownS (S : RS) (dom most : Int) (k : PK) (n : Int) (tag : Nat) : RS := if ownE S dom most k n tag = 0 then setM k ⟨n, 0, 0, tag⟩ S else S
def dropE (S : RS) (k : PK) : Int := match getM S k with | none => 5 | some x => if x.n ≠ 0 ∨ 16 ≤ x.m then 5 else 0
def dropS (S : RS) (k : PK) (now : Int) : RS := match getM S k with | none => S | some x => if x.n ≠ 0 ∨ 16 ≤ x.m then S else setM k (spoilR x now) S

/-- What a call leaves: a table with these routes. -/
def RQ (h : Hp) (p r : Nat) (dom most : Int) (m : RM) (S' : RS) (h' : Hp) : Prop := ∃ m', RipAt h' p r dom most m' ∧ strip m' = S' ∧ Fr h h' (ownR p r m) (ownR p r m')

theorem RQ.same (A : RipAt h p r dom most m) {h' : Hp} (l : Le h h') : RQ h p r dom most m (strip m) h' := ⟨m, A.le' l, rfl, .of_le l (fun x e => .inl e)⟩

theorem RQ.ins (A : RipAt h p r dom most m) {k : PK} {b : Nat} {x : Rr} {h1 : Hp} (l1 : Le h h1) (hb : h b = none) (hx : RtAt h1 b x) {o : Obj} (M : MapB (h1.upd r o) r kvalP rbv (setM k (b, x) m)) (hk : k.1 < 2 ^ 32) (ht : x.tag < 2 ^ 16)
    (hl : (setM k (b, x) m).length ≤ 64) : RQ h p r dom most m (setM k x (strip m)) (h1.upd r o) := by
  have hbr : b ≠ r := by rintro rfl; obtain ⟨o, e⟩ := A.mp.alive; rw [hb] at e; cases e
  have hbp : b ≠ p := by rintro rfl; have := A.pt; rw [hb] at this; cases this
  have hnb : ∀ e ∈ m, e.2.1 ≠ b := fun e he q => by have := A.bl e he; rw [q, RtAt, hb] at this; cases this
  refine ⟨setM k (b, x) m, ⟨by rw [upd_ne A.pr]; exact l1 _ _ A.pt, M, A.un.set, fun e he => ?_, ?_, fun e he => ?_, hl⟩, by rw [strip_set], ?_⟩
  · rcases setM_mem he with rfl | q
    · show (h1.upd r o) b = _
      rw [upd_ne hbr]; exact hx
    · show (h1.upd r o) e.2.1 = _
      rw [upd_ne (A.pb q).2]; exact l1 _ _ (A.bl e q)
  · have key : ∀ (m : RM), (m.map (·.2.1)).Nodup → (∀ e ∈ m, e.2.1 ≠ b) → ((setM k (b, x) m).map (·.2.1)).Nodup := by
      intro m
      induction m with
      | nil => intro _ _; simp [setM]
      | cons y ys ih =>
        intro n1 n2
        rw [List.map_cons, List.nodup_cons] at n1
        simp only [setM]
        split
        · rw [List.map_cons, List.nodup_cons]
          refine ⟨fun q => ?_, n1.2⟩
          obtain ⟨e, he, q2⟩ := List.mem_map.1 q
          exact n2 e (by simp [he]) q2
        · rw [List.map_cons, List.nodup_cons]
          refine ⟨fun q => ?_, ih n1.2 (fun e he => n2 e (by simp [he]))⟩
          obtain ⟨e, he, q2⟩ := List.mem_map.1 q
          rcases setM_mem he with rfl | q3
          · exact n2 y (by simp) q2.symm
          · exact n1.1 (by rw [← q2]; exact List.mem_map_of_mem q3)
    exact key m A.nb hnb
  · rcases setM_mem he with rfl | q
    · exact ⟨hk, ht⟩
    · exact A.gd e q
  · refine ⟨fun y o' e n => ?_, fun y hy => ?_⟩
    · rw [upd_ne (by rintro rfl; exact n (by simp [ownR]))]; exact l1 _ _ e
    · simp only [ownR, List.mem_cons, List.mem_map] at hy ⊢
      rcases hy with rfl | rfl | ⟨e, he, rfl⟩
      · exact .inl (.inl rfl)
      · exact .inl (.inr (.inl rfl))
      · rcases setM_mem he with rfl | q
        · exact .inr hb
        · exact .inl (.inr (.inr ⟨e, q, rfl⟩))

theorem RQ.chg (A : RipAt h p r dom most m) {h1 : Hp} (l1 : Le h h1) {k : PK} {v : RB} (hg : getM m k = some v) {x : Rr} (ht : x.tag < 2 ^ 16) : RQ h p r dom most m (setM k x (strip m)) (h1.upd v.1 (.cells (rcells x) T_rt (0, 0))) := by
  have he := getM_mem hg
  refine ⟨_, (A.le' l1).chg he ht, chg_strip A.un (by rw [hg]; rfl), ⟨fun y o e n => ?_, fun y hy => ?_⟩⟩
  · rw [upd_ne (by rintro rfl; exact n (by simp only [ownR, List.mem_cons, List.mem_map]; exact .inr (.inr ⟨_, he, rfl⟩)))]; exact l1 _ _ e
  · rw [ownR, chg_blks] at hy; exact .inl hy

set_option maxRecDepth 20000 in
theorem rownM {k : PK} {n : Int} {tag : Nat} {now : Int} (A : RipAt h p r dom most m) (hmo : most ≤ 64) (hk : k.1 < 2 ^ 32) (ht : tag < 2 ^ 16) (hQ : ∀ h', RQ h p r dom most m (ownS (strip m) dom most k n tag) h' → Q (.int .i64 (ownE (strip m) dom most k n tag)) h') :
    Ok Try.prog F_rip_Rip_Own #[.pointer (some ⟨p, 0, none⟩), .agg #[.int .u32 (k.1 : Nat), .int .i64 k.2], .int .i64 n, .int .u16 (tag : Nat), .int .i64 now] h Q := by
  refine rip_Rip_Own_ok (by simp) ?_
  unfold rip_Rip_Own_D
  simp (disch := omega) [rip_Rip_Own_r0]
  intro b6 hb6
  have l1 : Le h (h.upd b6 (.cells #[.int .u32 (k.1 : Nat), .int .i64 k.2] 24)) := .new hb6
  have f6 : (h.upd b6 (.cells #[.int .u32 (k.1 : Nat), .int .i64 k.2] 24)) b6 = some (.cells #[.int .u32 (k.1 : Nat), .int .i64 k.2] 24) := upd_same
  generalize h.upd b6 (.cells #[.int .u32 (k.1 : Nat), .int .i64 k.2] 24) = h1 at *
  simp (disch := omega) [rip_Rip_Own_r1, f6]
  refine may_spec hk ?_
  have hpt := l1 _ _ A.pt
  have M1 := A.mp.le l1
  have lk := kp_look (p := k) M1
  have ln := fun R => kp_len (R := R) M1
  have done : ∀ c : Int, c ≠ 0 → ownE (strip m) dom most k n tag = c → Q (.int .i64 c) h1 := fun c hc e => by
    have hS : ownS (strip m) dom most k n tag = strip m := by unfold ownS; rw [e, if_neg hc]
    have := hQ h1 (by rw [hS]; exact RQ.same A l1)
    rwa [e] at this
  by_cases c1 : mayB k.1 k.2 = false
  · simp (disch := omega) [c1, rip_Rip_Own_r2]
    exact .to _ (.refl _) (done 1 (by omega) (by unfold ownE; rw [if_pos (.inl c1)]))
  have c1' : mayB k.1 k.2 = true := by simpa using c1
  by_cases c2 : n < 1
  · simp (disch := omega) [c1', c2, rip_Rip_Own_r2]
    exact .to _ (.refl _) (done 1 (by omega) (by unfold ownE; rw [if_pos (.inr (.inl c2))]))
  by_cases c3 : 16 ≤ n
  · simp (disch := omega) [c1', c2, c3, rip_Rip_Own_r2]
    exact .to _ (.refl _) (done 1 (by omega) (by unfold ownE; rw [if_pos (.inr (.inr c3))]))
  simp (disch := omega) [c1', c2, c3, rip_Rip_Own_r3, hpt]
  refine thas_spec ht ?_
  have c123 : ¬ (mayB k.1 k.2 = false ∨ n < 1 ∨ 16 ≤ n) := by rw [c1']; simp; omega
  cases c4 : hasT tag dom with
  | true =>
    simp (disch := omega) [rip_Rip_Own_r4]
    exact .to _ (.refl _) (done 6 (by omega) (by unfold ownE; rw [if_neg c123, if_pos c4]))
  | false =>
    simp (disch := omega) [rip_Rip_Own_r5, hpt, f6, lk]
    have c4' : ¬ hasT tag dom = true := by rw [c4]; simp
    have go : (getM (strip m) k = none → ¬ most ≤ ((strip m).length : Int)) → ∀ (env : Env), env 0 = .pointer (some ⟨p, 0, none⟩) → env 2 = .int .i64 n → env 3 = .int .u16 (tag : Nat) → env 6 = .pointer (some ⟨b6, 0, none⟩) →
        rip_Rip_Own_r7 env h1 (thenK (sq (rg rip_Rip_Own_r8) (ex .ret)) (fin Try.prog [.tmp 10] Q) .normal) := by
      intro hfull env e0 e2 e3 e6
      have hE : ownE (strip m) dom most k n tag = 0 := by
        unfold ownE; rw [if_neg c123, if_neg c4', if_neg (fun q => hfull q.1 q.2)]
      have hS : ownS (strip m) dom most k n tag = setM k ⟨n, 0, 0, tag⟩ (strip m) := by unfold ownS; rw [if_pos hE]
      rw [hE, hS] at hQ
      simp (disch := omega) [rip_Rip_Own_r7, e0, e2, e3, e6, hpt, f6]
      intro b7 hb7
      have l2 : Le h1 (h1.upd b7 (.cells #[.int .i64 n, .int .i64 0, .int .i64 0, .int .u16 (tag : Nat)] 73)) := .new hb7
      have f7 : (h1.upd b7 (.cells #[.int .i64 n, .int .i64 0, .int .i64 0, .int .u16 (tag : Nat)] 73)) b7 = some (.cells #[.int .i64 n, .int .i64 0, .int .i64 0, .int .u16 (tag : Nat)] 73) := upd_same
      have hpt2 := l2 _ _ hpt
      have f62 := l2 _ _ f6
      have M2 := M1.le l2
      have hb7h := none_of_le l1 hb7
      generalize h1.upd b7 (.cells #[.int .i64 n, .int .i64 0, .int .i64 0, .int .u16 (tag : Nat)] 73) = h2 at *
      simp (disch := omega) [f62, hpt2, e6]
      refine kp_put (x := ⟨n, 0, 0, tag⟩) M2 (fun o M3 => ?_)
      simp (disch := omega) [rip_Rip_Own_r8]
      refine .to _ (.refl _) (hQ _ (RQ.ins A (l1.trans l2) hb7h f7 M3 hk ht ?_))
      rw [setM_length]
      have hle := A.le
      split
      · exact hle
      · rename_i hn
        have h0 : getM (strip m) k = none := by rw [getM_strip]; cases hq : getM m k with
          | none => rfl
          | some v => rw [hq] at hn; simp at hn
        have := hfull h0
        rw [strip_length] at this; omega
    cases hg : getM m k with
    | some v =>
      obtain ⟨b, x⟩ := v
      simp (disch := omega) [rbv]
      refine go (fun q => ?_) _ ?_ ?_ ?_ ?_
      · rw [getM_strip, hg] at q; cases q
      all_goals simp
    | none =>
      have h0 : getM (strip m) k = none := by rw [getM_strip, hg]; rfl
      by_cases c5 : most ≤ (m.length : Int)
      · simp (disch := omega) [hpt, ln, c5, rip_Rip_Own_r6]
        refine .to _ (.refl _) (done 4 (by omega) ?_)
        unfold ownE
        rw [if_neg c123, if_neg c4', if_pos ⟨h0, by rw [strip_length]; exact c5⟩]
      · simp (disch := omega) [hpt, ln, c5]
        refine go (fun _ => by rw [strip_length]; exact c5) _ ?_ ?_ ?_ ?_ <;> simp

set_option maxRecDepth 20000 in
theorem rdropM {k : PK} {now : Int} (A : RipAt h p r dom most m) (h1 : 0 ≤ now) (h2 : now ≤ 1099511627776) (hQ : ∀ h', RQ h p r dom most m (dropS (strip m) k now) h' → Q (.int .i64 (dropE (strip m) k)) h') :
    Ok Try.prog F_rip_Rip_Drop #[.pointer (some ⟨p, 0, none⟩), .agg #[.int .u32 (k.1 : Nat), .int .i64 k.2], .int .i64 now] h Q := by
  refine rip_Rip_Drop_ok (by simp) ?_
  unfold rip_Rip_Drop_D
  simp (disch := omega) [rip_Rip_Drop_r0]
  intro b6 hb6
  have l1 : Le h (h.upd b6 (.cells #[.int .u32 (k.1 : Nat), .int .i64 k.2] 24)) := .new hb6
  have f6 : (h.upd b6 (.cells #[.int .u32 (k.1 : Nat), .int .i64 k.2] 24)) b6 = some (.cells #[.int .u32 (k.1 : Nat), .int .i64 k.2] 24) := upd_same
  generalize h.upd b6 (.cells #[.int .u32 (k.1 : Nat), .int .i64 k.2] 24) = g at *
  have hpt := l1 _ _ A.pt
  have lk := kp_look (p := k) (A.mp.le l1)
  unfold dropS dropE at hQ
  rw [getM_strip] at hQ
  simp (disch := omega) [rip_Rip_Drop_r1, f6, hpt, lk]
  cases hg : getM m k with
  | none =>
    rw [hg] at hQ
    simp (disch := omega) [rip_Rip_Drop_r2, rip_Rip_Drop_r3]
    exact .to _ (.refl _) (hQ _ (RQ.same A l1))
  | some v =>
    rw [hg] at hQ
    simp only [Option.map_some] at hQ
    have hb := l1 _ _ (A.bl _ (getM_mem hg))
    have hgd := A.gd _ (getM_mem hg)
    by_cases c1 : v.2.n = 0
    · by_cases c2 : 16 ≤ v.2.m
      · rw [if_pos (.inr c2), if_pos (.inr c2)] at hQ
        have c2' : ¬ v.2.m < 16 := by omega
        simp (disch := omega) [rip_Rip_Drop_r2, rbv, hb, c1]
        refine reachedM hb ?_
        simp (disch := omega) [c2', rip_Rip_Drop_r3]
        exact .to _ (.refl _) (hQ _ (RQ.same A l1))
      · have c3 : ¬ (v.2.n ≠ 0 ∨ 16 ≤ v.2.m) := by omega
        rw [if_neg c3, if_neg c3] at hQ
        have c2' : v.2.m < 16 := by omega
        simp (disch := omega) [rip_Rip_Drop_r2, rbv, hb, c1]
        refine reachedM hb ?_
        simp (disch := omega) [c2', rip_Rip_Drop_r4]
        refine spoilM hb (by omega) (by omega) ?_
        simp (disch := omega) [rip_Rip_Drop_r5]
        exact .to _ (.refl _) (hQ _ (RQ.chg A l1 hg hgd.2))
    · rw [if_pos (.inl c1), if_pos (.inl c1)] at hQ
      simp (disch := omega) [rip_Rip_Drop_r2, rip_Rip_Drop_r3, rbv, hb, c1]
      exact .to _ (.refl _) (hQ _ (RQ.same A l1))
end
end Go.Proofs.Ytpfenhikoajghaa

/- RIP in memory: Hear, Lose, Tick. -/
namespace Go.Proofs.Ytpfenhikoajghaa
open Go
set_option linter.unusedSimpArgs false
set_option linter.unusedVariables false

theorem hops_spec {a b : Int} {h : Hp} {Q : Value → Hp → Prop} (hQ : Q (.int .i64 (addM a b 16)) h) : Ok Try.prog F_metric_Hops #[.int .i64 a, .int .i64 b] h Q := by
  refine metric_Hops_ok (by simp) ?_
  unfold metric_Hops_D
  simp (disch := omega) [metric_Hops_r0, metric_Hops_r1]
  refine add_spec (by omega) ?_
  simp (disch := omega)
  exact .to _ (.refl _) hQ

def hearR (S : RS) (dom most f c : Int) (k : PK) (tag : Nat) (N now : Int) : Bool × Int × RS :=
  if f < 1 ∨ 32 < f ∨ c < 1 ∨ 16 < c ∨ mayB k.1 k.2 = false ∨ N < 1 ∨ 16 < N then (false, 1, S)
  else if hasT tag dom = true then (false, 6, S)
  else match getM S k with
    | some x => ((hearX x f (addM N c 16) tag now).1, 0, setM k (hearX x f (addM N c 16) tag now).2 S)
    | none => if addM N c 16 = 16 then (false, 0, S) else if most ≤ (S.length : Int) then (false, 4, S) else (true, 0, setM k ⟨addM N c 16, f, now + 180, tag⟩ S)

theorem hearX_tag {x : Rr} {f m : Int} {tag : Nat} {now : Int} (h1 : x.tag < 2 ^ 16) (h2 : tag < 2 ^ 16) : (hearX x f m tag now).2.tag < 2 ^ 16 := by
  unfold hearX spoilR
  split
  · exact h1
  · split
    · split
      · exact h1
      · exact h2
    · split
      · exact h2
      · exact h1

section
variable {h : Hp} {p r : Nat} {dom most : Int} {m : RM} {Q : Value → Hp → Prop}

set_option maxHeartbeats 1000000 in
set_option maxRecDepth 20000 in
theorem rhearM {f c : Int} {k : PK} {tag nx : Nat} {N now : Int} (A : RipAt h p r dom most m) (hmo : most ≤ 64) (hk : k.1 < 2 ^ 32) (ht : tag < 2 ^ 16) (n1 : 0 ≤ now) (n2 : now ≤ 1099511627776)
    (hQ : ∀ h', RQ h p r dom most m (hearR (strip m) dom most f c k tag N now).2.2 h' → Q (.tuple #[.bool (hearR (strip m) dom most f c k tag N now).1, .int .i64 (hearR (strip m) dom most f c k tag N now).2.1]) h') :
    Ok Try.prog F_rip_Rip_Hear #[.pointer (some ⟨p, 0, none⟩), .int .i64 f, .int .i64 c, .agg #[.int .u32 (k.1 : Nat), .int .i64 k.2, .int .u16 (tag : Nat), .int .u32 (nx : Nat), .int .i64 N], .int .i64 now] h Q := by
  refine rip_Rip_Hear_ok (by simp) ?_
  unfold rip_Rip_Hear_D
  simp (disch := omega) [rip_Rip_Hear_r0]
  intro b6 hb6
  have l1 : Le h (h.upd b6 (.cells #[.int .u32 (k.1 : Nat), .int .i64 k.2, .int .u16 (tag : Nat), .int .u32 (nx : Nat), .int .i64 N] 33)) := .new hb6
  have f6 : (h.upd b6 (.cells #[.int .u32 (k.1 : Nat), .int .i64 k.2, .int .u16 (tag : Nat), .int .u32 (nx : Nat), .int .i64 N] 33)) b6 = some (.cells #[.int .u32 (k.1 : Nat), .int .i64 k.2, .int .u16 (tag : Nat), .int .u32 (nx : Nat), .int .i64 N] 33) := upd_same
  generalize h.upd b6 (.cells #[.int .u32 (k.1 : Nat), .int .i64 k.2, .int .u16 (tag : Nat), .int .u32 (nx : Nat), .int .i64 N] 33) = h1 at *
  have hpt := l1 _ _ A.pt
  have M1 := A.mp.le l1
  have lk := kp_look (p := k) M1
  have ln := fun R => kp_len (R := R) M1
  have done : ∀ c' : Int, hearR (strip m) dom most f c k tag N now = (false, c', strip m) → Q (.tuple #[.bool false, .int .i64 c']) h1 := fun c' e => by
    have := hQ h1 (by rw [e]; exact RQ.same A l1)
    rwa [e] at this
  by_cases c1 : f < 1
  · simp (disch := omega) [rip_Rip_Hear_r1, rip_Rip_Hear_r2, f6, c1]
    exact .to _ (.refl _) (done 1 (by unfold hearR; rw [if_pos (.inl c1)]))
  by_cases c2 : 32 < f
  · simp (disch := omega) [rip_Rip_Hear_r1, rip_Rip_Hear_r2, f6, c1, c2]
    exact .to _ (.refl _) (done 1 (by unfold hearR; rw [if_pos (.inr (.inl c2))]))
  by_cases c3 : c < 1
  · simp (disch := omega) [rip_Rip_Hear_r1, rip_Rip_Hear_r2, f6, c1, c2, c3]
    exact .to _ (.refl _) (done 1 (by unfold hearR; rw [if_pos (.inr (.inr (.inl c3)))]))
  by_cases c4 : 16 < c
  · simp (disch := omega) [rip_Rip_Hear_r1, rip_Rip_Hear_r2, f6, c1, c2, c3, c4]
    exact .to _ (.refl _) (done 1 (by unfold hearR; rw [if_pos (.inr (.inr (.inr (.inl c4))))]))
  simp (disch := omega) [rip_Rip_Hear_r1, f6, c1, c2, c3, c4]
  refine may_spec hk ?_
  by_cases c5 : mayB k.1 k.2 = false
  · simp (disch := omega) [c5, rip_Rip_Hear_r2]
    exact .to _ (.refl _) (done 1 (by unfold hearR; rw [if_pos (.inr (.inr (.inr (.inr (.inl c5)))))]))
  have c5' : mayB k.1 k.2 = true := by simpa using c5
  by_cases c6 : N < 1
  · simp (disch := omega) [c5', f6, c6, rip_Rip_Hear_r2]
    exact .to _ (.refl _) (done 1 (by unfold hearR; rw [if_pos (.inr (.inr (.inr (.inr (.inr (.inl c6))))))]))
  by_cases c7 : 16 < N
  · simp (disch := omega) [c5', f6, c6, c7, rip_Rip_Hear_r2]
    exact .to _ (.refl _) (done 1 (by unfold hearR; rw [if_pos (.inr (.inr (.inr (.inr (.inr (.inr c7))))))]))
  have c17 : ¬ (f < 1 ∨ 32 < f ∨ c < 1 ∨ 16 < c ∨ mayB k.1 k.2 = false ∨ N < 1 ∨ 16 < N) := by rw [c5']; simp; omega
  unfold hearR at hQ
  unfold hearR at done
  rw [if_neg c17] at hQ done
  simp (disch := omega) [c5', f6, c6, c7, rip_Rip_Hear_r3, hpt]
  refine thas_spec ht ?_
  cases c8 : hasT tag dom with
  | true =>
    simp (disch := omega) [rip_Rip_Hear_r4]
    exact .to _ (.refl _) (done 6 (by rw [if_pos c8]))
  | false =>
    have c8' : ¬ hasT tag dom = true := by rw [c8]; simp
    rw [if_neg c8'] at hQ done
    simp (disch := omega) [rip_Rip_Hear_r5, f6]
    refine hops_spec ?_
    simp (disch := omega) [rip_Rip_Hear_r6, hpt, f6, lk]
    have hg0 := getM_strip (m := m) (k := k)
    have ham : addM N c 16 ≤ 16 := by unfold addM; omega
    generalize addM N c 16 = mm at *
    cases hg : getM m k with
    | some v =>
      rw [hg] at hg0
      simp only [Option.map_some] at hg0
      rw [hg0] at hQ
      simp only at hQ
      have hb := l1 _ _ (A.bl _ (getM_mem hg))
      have hgd := A.gd _ (getM_mem hg)
      simp (disch := omega) [rip_Rip_Hear_r7, rip_Rip_Hear_r8, rbv, f6]
      refine hearM (x := v.2) hb (by omega) (by omega) ?_
      simp (disch := omega)
      exact .to _ (.refl _) (hQ _ (RQ.chg A l1 hg (hearX_tag hgd.2 ht)))
    | none =>
      rw [hg] at hg0
      simp only [Option.map_none] at hg0
      rw [hg0] at hQ done
      simp only at hQ done
      by_cases c9 : mm = 16
      · rw [if_pos c9] at done
        simp (disch := omega) [rip_Rip_Hear_r7, rip_Rip_Hear_r9, rip_Rip_Hear_r10, c9]
        exact .to _ (.refl _) (done 0 rfl)
      · rw [if_neg c9] at hQ done
        by_cases c10 : most ≤ (m.length : Int)
        · rw [if_pos (by rw [strip_length]; exact c10)] at done
          simp (disch := omega) [rip_Rip_Hear_r7, rip_Rip_Hear_r9, rip_Rip_Hear_r11, rip_Rip_Hear_r12, c9, c10, hpt, ln]
          exact .to _ (.refl _) (done 4 rfl)
        · rw [if_neg (by rw [strip_length]; exact c10)] at hQ
          simp (disch := omega) [rip_Rip_Hear_r7, rip_Rip_Hear_r9, rip_Rip_Hear_r11, rip_Rip_Hear_r13, c9, c10, hpt, ln, f6, wrap_i64]
          intro b7 hb7
          have l2 : Le h1 (h1.upd b7 (.cells #[.int .i64 mm, .int .i64 f, .int .i64 (now + 180), .int .u16 (tag : Nat)] 73)) := .new hb7
          have f7 : (h1.upd b7 (.cells #[.int .i64 mm, .int .i64 f, .int .i64 (now + 180), .int .u16 (tag : Nat)] 73)) b7 = some (.cells #[.int .i64 mm, .int .i64 f, .int .i64 (now + 180), .int .u16 (tag : Nat)] 73) := upd_same
          have hpt2 := l2 _ _ hpt
          have f62 := l2 _ _ f6
          have M2 := M1.le l2
          have hb7h := none_of_le l1 hb7
          generalize h1.upd b7 (.cells #[.int .i64 mm, .int .i64 f, .int .i64 (now + 180), .int .u16 (tag : Nat)] 73) = h2 at *
          simp (disch := omega) [f62, hpt2]
          refine kp_put (x := ⟨mm, f, now + 180, tag⟩) M2 (fun o M3 => ?_)
          simp (disch := omega) [rip_Rip_Hear_r14]
          refine .to _ (.refl _) (hQ _ (RQ.ins A (l1.trans l2) hb7h f7 M3 hk ht ?_))
          rw [setM_length, hg]
          simp only [Option.isSome_none, Bool.false_eq_true, if_false]
          omega

/-! ### Lose -/
def loseP (f : Int) (x : Rr) : Bool := decide (f ≠ 0 ∧ x.n = f ∧ x.m < 16)
def loseX (f now : Int) (x : Rr) : Rr := if loseP f x then spoilR x now else x
def loseS (S : RS) (f now : Int) : RS := S.map fun e => (e.1, loseX f now e.2)
def loseB (S : RS) (f : Int) : Bool := S.any fun e => loseP f e.2

/-- What is left of a table, of which these have been worked off: each by itself. -/
def worked (pr : Rr → Option Rr) (V : List PK) (m : RM) : RM := m.filterMap fun e => if e.1 ∈ V then (pr e.2.2).map fun x => (e.1, e.2.1, x) else some e

theorem worked_nil {pr : Rr → Option Rr} {m : RM} : worked pr [] m = m := by
  unfold worked
  have : (fun e : PK × RB => if e.1 ∈ ([] : List PK) then (pr e.2.2).map fun x => (e.1, e.2.1, x) else some e) = some := by funext e; simp
  rw [this, List.filterMap_some]
theorem worked_all {pr : Rr → Option Rr} {V : List PK} {m : RM} (ha : ∀ e ∈ m, e.1 ∈ V) : worked pr V m = m.filterMap fun e => (pr e.2.2).map fun x => (e.1, e.2.1, x) := by
  unfold worked
  exact fm_congr fun e he => by rw [if_pos (ha e he)]
theorem worked_sub {pr : Rr → Option Rr} {V : List PK} {m : RM} : ((worked pr V m).map (·.1)).Sublist (m.map (·.1)) ∧ ((worked pr V m).map (·.2.1)).Sublist (m.map (·.2.1)) := by
  induction m with
  | nil => exact ⟨.slnil, .slnil⟩
  | cons e m ih =>
    unfold worked at *
    rw [List.filterMap_cons]
    by_cases hV : e.1 ∈ V
    · rw [if_pos hV]
      cases hp : pr e.2.2 with
      | none => exact ⟨ih.1.cons _, ih.2.cons _⟩
      | some x => exact ⟨ih.1.cons_cons _, ih.2.cons_cons _⟩
    · rw [if_neg hV]; exact ⟨ih.1.cons_cons _, ih.2.cons_cons _⟩
theorem worked_get {pr : Rr → Option Rr} {V : List PK} {m : RM} {e : PK × RB} (u : Uniq m) (he : e ∈ worked pr V m) (hV : e.1 ∉ V) : e ∈ m := by
  unfold worked at he
  obtain ⟨e', h1, h2⟩ := List.mem_filterMap.1 he
  by_cases q : e'.1 ∈ V
  · rw [if_pos q] at h2
    cases hp : pr e'.2.2 with
    | none => rw [hp] at h2; cases h2
    | some x => rw [hp] at h2; simp at h2; subst h2; exact absurd q hV
  · rw [if_neg q] at h2; simp at h2; subst h2; exact h1
theorem worked_in {pr : Rr → Option Rr} {V : List PK} {m : RM} {e : PK × RB} (he : e ∈ m) (hV : e.1 ∉ V) : e ∈ worked pr V m := by
  unfold worked
  exact List.mem_filterMap.2 ⟨e, he, by rw [if_neg hV]⟩

/-- One more is worked off: its route is set anew, or the same. -/
theorem worked_chg {pr : Rr → Option Rr} {V : List PK} {m : RM} {e : PK × RB} {x : Rr} (u : Uniq m) (he : e ∈ m) (hV : e.1 ∉ V) (hp : pr e.2.2 = some x) : chg e.1 x (worked pr V m) = worked pr (V ++ [e.1]) m := by
  induction m with
  | nil => cases he
  | cons y ys ih =>
    unfold Uniq at u
    rw [List.map_cons, List.nodup_cons] at u
    unfold chg worked at *
    rw [List.filterMap_cons, List.filterMap_cons]
    rcases List.mem_cons.1 he with rfl | hin
    · have hys : ∀ z ∈ ys, z.1 ≠ e.1 := fun z hz q => u.1 (by rw [← q]; exact List.mem_map_of_mem hz)
      rw [if_neg hV, if_pos (by simp), hp]
      simp only [Option.map_some, List.map_cons, if_true]
      congr 1
      rw [List.map_filterMap]
      refine fm_congr fun z hz => ?_
      have hz' := hys z hz
      by_cases q : z.1 ∈ V
      · rw [if_pos q, if_pos (by simp [q])]
        cases pr z.2.2 <;> simp [hz']
      · rw [if_neg q, if_neg (by simp [q, hz'])]
        simp [hz']
    · have hne : y.1 ≠ e.1 := fun q => u.1 (by rw [q]; exact List.mem_map_of_mem hin)
      have ih' := ih u.2 hin
      by_cases q : y.1 ∈ V
      · rw [if_pos q, if_pos (by simp [q])]
        cases pr y.2.2 with
        | none => simpa using ih'
        | some z => simp only [Option.map_some, List.map_cons, if_neg hne]; rw [ih']
      · rw [if_neg q, if_neg (by simp [q, hne])]
        simp only [List.map_cons, if_neg hne]; rw [ih']

theorem worked_del {pr : Rr → Option Rr} {V : List PK} {m : RM} {e : PK × RB} (u : Uniq m) (he : e ∈ m) (hV : e.1 ∉ V) (hp : pr e.2.2 = none) : delM e.1 (worked pr V m) = worked pr (V ++ [e.1]) m := by
  induction m with
  | nil => cases he
  | cons y ys ih =>
    unfold Uniq at u
    rw [List.map_cons, List.nodup_cons] at u
    unfold worked at *
    rw [List.filterMap_cons, List.filterMap_cons]
    rcases List.mem_cons.1 he with rfl | hin
    · have hys : ∀ z ∈ ys, z.1 ≠ e.1 := fun z hz q => u.1 (by rw [← q]; exact List.mem_map_of_mem hz)
      rw [if_neg hV, if_pos (by simp), hp]
      simp only [Option.map_none, delM, if_true]
      refine fm_congr fun z hz => ?_
      have hz' := hys z hz
      by_cases q : z.1 ∈ V
      · rw [if_pos q, if_pos (by simp [q])]
      · rw [if_neg q, if_neg (by simp [q, hz'])]
    · have hne : y.1 ≠ e.1 := fun q => u.1 (by rw [q]; exact List.mem_map_of_mem hin)
      have ih' := ih u.2 hin
      by_cases q : y.1 ∈ V
      · rw [if_pos q, if_pos (by simp [q])]
        cases pr y.2.2 with
        | none => simpa using ih'
        | some z => simp only [Option.map_some, delM, if_neg (Ne.symm hne)]; rw [ih']
      · rw [if_neg q, if_neg (by simp [q, hne])]
        simp only [delM, if_neg (Ne.symm hne)]; rw [ih']

theorem worked_strip {pr : Rr → Option Rr} {m : RM} : strip (m.filterMap fun e => (pr e.2.2).map fun x => (e.1, e.2.1, x)) = (strip m).filterMap fun e => (pr e.2).map fun x => (e.1, x) := by
  unfold strip
  rw [List.map_filterMap, List.filterMap_map]
  refine fm_congr fun e _ => ?_
  simp only [Function.comp]
  cases pr e.2.2 <;> rfl
end
end Go.Proofs.Ytpfenhikoajghaa

/- RIP in memory: Lose, Tick: walks. -/
namespace Go.Proofs.Ytpfenhikoajghaa
open Go
set_option linter.unusedSimpArgs false
set_option linter.unusedVariables false

theorem IterS.chg {h : Hp} {it r : Nat} {m : RM} {V : List PK} (I : IterS h it r kvalP rbv m V) (k : PK) (x : Rr) : IterS h it r kvalP rbv (chg k x m) V := by
  obtain ⟨u, es, cl, seen, h1, h2, h3, h4, h5, h6⟩ := I
  exact ⟨by unfold Uniq at *; rw [chg_keys]; exact u, es, cl, seen, h1, h2, chg_ents h3, h4, h5, by rw [chg_keys]; exact h6⟩

def tickP (now : Int) (x : Rr) : Bool := !(decide (x.m < 16 ∧ x.n = 0)) && decide (x.e ≤ now)
def tickX (now : Int) (x : Rr) : Option Rr := if tickP now x = true then (if x.m < 16 then some (spoilR x now) else none) else some x
def tickS (S : RS) (now : Int) : RS := S.filterMap fun e => (tickX now e.2).map fun x => (e.1, x)
def tickB (S : RS) (now : Int) : Bool := S.any fun e => tickP now e.2

theorem loseS_eq {S : RS} {f now : Int} : loseS S f now = S.filterMap fun e => ((some (loseX f now e.2)).map fun x => (e.1, x)) := by
  unfold loseS; simp [List.filterMap_eq_map']
  try rfl

/-- Some of those that have been visited. -/
def anyV (P : Rr → Bool) (V : List PK) (m : RM) : Bool := m.any fun e => decide (e.1 ∈ V) && P e.2.2
theorem anyV_nil {P : Rr → Bool} {m : RM} : anyV P [] m = false := by unfold anyV; simp
theorem anyV_snoc {P : Rr → Bool} {V : List PK} {m : RM} {e : PK × RB} (u : Uniq m) (he : e ∈ m) : anyV P (V ++ [e.1]) m = (anyV P V m || P e.2.2) := by
  unfold anyV
  rw [Bool.eq_iff_iff, Bool.or_eq_true, List.any_eq_true, List.any_eq_true]
  constructor
  · rintro ⟨y, hy, q⟩
    simp at q
    rcases q with ⟨q1 | q1, q2⟩
    · exact .inl ⟨y, hy, by simp [q1, q2]⟩
    · have : y = e := by
        have k1 := getM_of_mem (a := y.1) (v := y.2) u hy
        have k2 := getM_of_mem (a := e.1) (v := e.2) u he
        rw [q1, k2] at k1
        exact Prod.ext q1 (by simpa using k1.symm)
      subst this; exact .inr q2
  · rintro (⟨y, hy, q⟩ | q)
    · refine ⟨y, hy, ?_⟩
      simp at q ⊢
      exact ⟨.inl q.1, q.2⟩
    · exact ⟨e, he, by simp [q]⟩
theorem anyV_all {P : Rr → Bool} {V : List PK} {m : RM} (ha : ∀ e ∈ m, e.1 ∈ V) : anyV P V m = (strip m).any fun e => P e.2 := by
  unfold anyV strip
  rw [List.any_map, Bool.eq_iff_iff, List.any_eq_true, List.any_eq_true]
  constructor
  · rintro ⟨y, hy, q⟩; simp at q; exact ⟨y, hy, q.2⟩
  · rintro ⟨y, hy, q⟩; exact ⟨y, hy, by simp [ha y hy]; exact q⟩

structure Fe (h : Hp) (p r it : Nat) (dom most : Int) (pr : Rr → Option Rr) (m0 : RM) (V : List PK) (g : Hp) : Prop where
  at_ : RipAt g p r dom most (worked pr V m0)
  iter : IterS g it r kvalP rbv (worked pr V m0) V
  nd : V.Nodup
  sub : ∀ k ∈ V, k ∈ m0.map (·.1)
  keep : ∀ y o, h y = some o → y ∉ ownR p r m0 → g y = some o
  hit : h it = none

section
variable {h g : Hp} {p r it : Nat} {dom most : Int} {m0 : RM} {pr : Rr → Option Rr} {V : List PK}

theorem Fe.itn (F : Fe h p r it dom most pr m0 V g) : it ≠ p ∧ it ≠ r ∧ ∀ e ∈ worked pr V m0, it ≠ e.2.1 := by
  obtain ⟨u, es, cl, seen, h1, h2, _⟩ := F.iter
  refine ⟨?_, F.iter.ne, fun e he => ?_⟩
  · rintro rfl; have := F.at_.pt; rw [h2] at this; cases this
  · rintro rfl; have := F.at_.bl e he; rw [RtAt, h2] at this; cases this

theorem Fe.next (F : Fe h p r it dom most pr m0 V g) {o : Obj} {x : PK × RB} (I : IterS (g.upd it o) it r kvalP rbv (worked pr V m0) (V ++ [x.1])) :
    RipAt (g.upd it o) p r dom most (worked pr V m0) ∧ (∀ y o', h y = some o' → y ∉ ownR p r m0 → (g.upd it o) y = some o') := by
  have hn := F.itn
  refine ⟨F.at_.keep fun y o' hy e => ?_, fun y o' e n => ?_⟩
  · rw [upd_ne]; exact e
    rintro rfl
    simp only [ownR, List.mem_cons, List.mem_map] at hy
    rcases hy with q | q | ⟨e', he', q⟩
    · exact hn.1 q
    · exact hn.2.1 q
    · exact hn.2.2 e' he' q.symm
  · rw [upd_ne (by rintro rfl; rw [F.hit] at e; cases e)]; exact F.keep y o' e n

theorem Fe.len (F : Fe h p r it dom most pr m0 V g) (u : Uniq m0) {x : PK × RB} (hx : x ∈ m0) (hV : x.1 ∉ V) : V.length < m0.length := by
  have hnd2 : (V ++ [x.1]).Nodup := List.nodup_append.2 ⟨F.nd, by simp, fun y hy z hz => by simp at hz; subst hz; rintro rfl; exact hV hy⟩
  have := nodup_le hnd2 (K := m0.map (·.1)) (fun k hk => by
    rcases List.mem_append.1 hk with q | q
    · exact F.sub k q
    · simp at q; subst q; exact List.mem_map_of_mem hx)
  simp at this; omega

theorem Fe.ext (F : Fe h p r it dom most pr m0 V g) {x : PK × RB} (hx : x ∈ m0) (hV : x.1 ∉ V) : (V ++ [x.1]).Nodup ∧ ∀ k ∈ V ++ [x.1], k ∈ m0.map (·.1) := by
  refine ⟨List.nodup_append.2 ⟨F.nd, by simp, fun y hy z hz => by simp at hz; subst hz; rintro rfl; exact hV hy⟩, fun k hk => ?_⟩
  rcases List.mem_append.1 hk with q | q
  · exact F.sub k q
  · simp at q; subst q; exact List.mem_map_of_mem hx

theorem Fe.done (F : Fe h p r it dom most pr m0 V g) (A0 : RipAt h p r dom most m0) (hend : ∀ x ∈ worked pr V m0, x.1 ∈ V) : (∀ e ∈ m0, e.1 ∈ V) ∧ RQ h p r dom most m0 ((strip m0).filterMap fun e => (pr e.2).map fun x => (e.1, x)) g := by
  have ha : ∀ e ∈ m0, e.1 ∈ V := fun e he => Classical.byContradiction fun q => q (hend e (worked_in he q))
  refine ⟨ha, _, F.at_, ?_, ⟨F.keep, fun y hy => .inl ?_⟩⟩
  · rw [worked_all ha, worked_strip]
  · have hs := (worked_sub (pr := pr) (V := V) (m := m0)).2
    simp only [ownR, List.mem_cons] at hy ⊢
    rcases hy with q | q | q
    · exact .inl q
    · exact .inr (.inl q)
    · exact .inr (.inr (hs.subset q))
end

section
variable {h : Hp} {p r : Nat} {dom most : Int} {m : RM} {Q : Value → Hp → Prop}

def LoInv (h : Hp) (p r it : Nat) (dom most f now : Int) (m : RM) (n : Nat) (env : Env) (g : Hp) : Prop :=
  ∃ V, V.length + n = m.length ∧ Fe h p r it dom most (fun x => some (loseX f now x)) m V g ∧ env 1 = .int .i64 f ∧ env 2 = .int .i64 now ∧ env 7 = .bool (anyV (loseP f) V m) ∧ env 14 = .pointer (some ⟨it, 0, none⟩)

set_option maxRecDepth 20000 in
theorem rloseM {f now : Int} (A : RipAt h p r dom most m) (n1 : 0 ≤ now) (n2 : now ≤ 1099511627776) (hQ : ∀ h', RQ h p r dom most m (loseS (strip m) f now) h' → Q (.bool (loseB (strip m) f)) h') :
    Ok Try.prog F_rip_Rip_Lose #[.pointer (some ⟨p, 0, none⟩), .int .i64 f, .int .i64 now] h Q := by
  refine rip_Rip_Lose_ok (by simp) ?_
  unfold rip_Rip_Lose_D
  simp (disch := omega) [rip_Rip_Lose_r0, rip_Rip_Lose_r1, rip_Rip_Lose_r2, A.pt]
  refine arun_rangeS Try.underlying65 A.mp A.un (fun it o hit IS => ?_)
  simp (disch := omega)
  have F0 : Fe h p r it dom most (fun x => some (loseX f now x)) m [] (h.upd it o) := ⟨by rw [worked_nil]; exact A.le' (.new hit), by rw [worked_nil]; exact IS, .nil, by simp, fun y o' e _ => (Le.new hit) _ _ e, hit⟩
  refine ⟨LoInv h p r it dom most f now m, ⟨m.length, [], by simp, F0, by simp, by simp, by simp [anyV_nil], by simp⟩, ?_⟩
  rintro n env g ⟨V, hn, F, e1, e2, e7, e14⟩
  unfold rip_Rip_Lose_L0
  simp (disch := omega) [rip_Rip_Lose_r3, e14]
  refine arun_nextS F.iter (fun hend => ?_) (fun x o hx hxV I2 => ?_)
  · simp (disch := omega) [rip_Rip_Lose_r8, e7]
    obtain ⟨ha, q⟩ := F.done A hend
    rw [← loseS_eq] at q
    have hq := hQ _ q
    unfold loseB at hq
    rw [← anyV_all ha] at hq
    exact .to _ (.refl _) hq
  · have hxm := worked_get A.un hx hxV
    obtain ⟨A2, K2⟩ := F.next I2
    have hlen := F.len A.un hxm hxV
    have hext := F.ext hxm hxV
    have hb := A2.bl x hx
    have hgd := A2.gd x hx
    have hits := F.itn
    simp (disch := omega) [rip_Rip_Lose_r4, e14]
    refine arun_entryS I2 hx ?_
    have hany := anyV_snoc (P := loseP f) (V := V) A.un hxm
    have hch := worked_chg (pr := fun x => some (loseX f now x)) A.un hxm hxV rfl
    have A3 := A2.chg hx (x := loseX f now x.2.2) (by unfold loseX spoilR; split <;> exact hgd.2)
    have I3 := I2.chg x.1 (loseX f now x.2.2)
    rw [hch] at A3 I3
    have hblk : x.2.1 ≠ it := fun q => hits.2.2 x hx q.symm
    have hbr := (A2.pb hx).2
    have own : x.2.1 ∈ ownR p r m := by simp only [ownR, List.mem_cons, List.mem_map]; exact .inr (.inr ⟨x, hxm, rfl⟩)
    have F3 : Fe h p r it dom most (fun x => some (loseX f now x)) m (V ++ [x.1]) ((g.upd it o).upd x.2.1 (.cells (rcells (loseX f now x.2.2)) T_rt (0, 0))) :=
      ⟨A3, I3.keep (by rw [upd_ne hbr.symm]) (by rw [upd_ne hblk.symm]), hext.1, hext.2, fun y o' e nn => by rw [upd_ne (by rintro rfl; exact nn own)]; exact K2 y o' e nn, F.hit⟩
    generalize g.upd it o = g2 at *
    cases hl : loseP f x.2.2 with
    | false =>
      have hlx : loseX f now x.2.2 = x.2.2 := by unfold loseX; rw [hl]; simp
      rw [hl, Bool.or_false] at hany
      rw [hlx, upd_self hb] at F3
      have fin2 : ∀ env : Env, env 1 = .int .i64 f → env 2 = .int .i64 now → env 7 = .bool (anyV (loseP f) V m) → env 14 = .pointer (some ⟨it, 0, none⟩) → ∃ m_1, m_1 < n ∧ LoInv h p r it dom most f now m m_1 env g2 := fun env e1 e2 e7 e14 =>
        ⟨n - 1, by omega, V ++ [x.1], by simp; omega, F3, e1, e2, by rw [hany]; exact e7, e14⟩
      unfold loseP at hl
      by_cases c1 : f = 0
      · subst c1
        simp (disch := omega) [rip_Rip_Lose_r5, rbv, e1]
        refine fin2 _ ?_ ?_ ?_ ?_ <;> simp [e1, e2, e7, e14]
      by_cases c2 : x.2.2.n = f
      · have c3 : ¬ x.2.2.m < 16 := fun q => by simp [c1, c2, q] at hl
        simp (disch := omega) [rip_Rip_Lose_r5, rbv, e1, hb, c1, c2]
        refine reachedM hb ?_
        simp (disch := omega) [c3]
        refine fin2 _ ?_ ?_ ?_ ?_ <;> simp [e1, e2, e7, e14]
      · simp (disch := omega) [rip_Rip_Lose_r5, rbv, e1, hb, c1, c2]
        refine fin2 _ ?_ ?_ ?_ ?_ <;> simp [e1, e2, e7, e14]
    | true =>
      have hlx : loseX f now x.2.2 = spoilR x.2.2 now := by unfold loseX; rw [hl]; simp
      rw [hl, Bool.or_true] at hany
      rw [hlx] at F3
      unfold loseP at hl
      simp only [decide_eq_true_eq] at hl
      obtain ⟨c1, c2, c3⟩ := hl
      simp (disch := omega) [rip_Rip_Lose_r5, rbv, e1, hb, c1, c2]
      refine reachedM hb ?_
      simp (disch := omega) [c3, rip_Rip_Lose_r6, e2]
      refine spoilM hb (by omega) (by omega) ?_
      simp (disch := omega) [rip_Rip_Lose_r7]
      exact ⟨n - 1, by omega, V ++ [x.1], by simp; omega, F3, by simp [e1], by simp [e2], by simp [hany], by simp [e14]⟩

def TiInv (h : Hp) (p r it : Nat) (dom most now : Int) (m : RM) (n : Nat) (env : Env) (g : Hp) : Prop :=
  ∃ V, V.length + n = m.length ∧ Fe h p r it dom most (tickX now) m V g ∧ env 0 = .pointer (some ⟨p, 0, none⟩) ∧ env 1 = .int .i64 now ∧ env 5 = .bool (anyV (tickP now) V m) ∧ env 12 = .pointer (some ⟨it, 0, none⟩)

theorem RipAt.del {h : Hp} (A : RipAt h p r dom most m) {k : PK} {o : Obj} (M : MapB (h.upd r o) r kvalP rbv (delM k m)) : RipAt (h.upd r o) p r dom most (delM k m) :=
  ⟨by rw [upd_ne A.pr]; exact A.pt, M, A.un.del, fun e he => by show (h.upd r o) e.2.1 = _; rw [upd_ne (A.pb (delM_sub.subset he)).2]; exact A.bl e (delM_sub.subset he),
    List.Sublist.nodup (delM_sub.map _) A.nb, fun e he => A.gd e (delM_sub.subset he), Nat.le_trans delM_sub.length_le A.le⟩

set_option maxRecDepth 20000 in
theorem kp_delS {h : Hp} {it r : Nat} {k : PK} {m : RM} {V : List PK} {K : Value → Hp → Prop} (I : IterS h it r kvalP rbv m V) (hK : ∀ o, IterS (h.upd r o) it r kvalP rbv (delM k m) V → K (.tuple #[]) (h.upd r o)) :
    arun Try.prog (Builtin.delete_ #[65, 24] 0 #[.map (some r), .agg #[.int .u32 (k.1 : Nat), .int .i64 k.2]]) h K :=
  arun_mapDeleteS (a := k) (kenc := kvalP) (venc := rbv) rfl Try.underlying65 I (fun e => ck_65) (fun es H => kp_find H) hK

set_option maxHeartbeats 1000000 in
set_option maxRecDepth 20000 in
theorem rtickM {now : Int} (A : RipAt h p r dom most m) (n1 : 0 ≤ now) (n2 : now ≤ 1099511627776) (hQ : ∀ h', RQ h p r dom most m (tickS (strip m) now) h' → Q (.bool (tickB (strip m) now)) h') :
    Ok Try.prog F_rip_Rip_Tick #[.pointer (some ⟨p, 0, none⟩), .int .i64 now] h Q := by
  refine rip_Rip_Tick_ok (by simp) ?_
  unfold rip_Rip_Tick_D
  simp (disch := omega) [rip_Rip_Tick_r0, rip_Rip_Tick_r1, rip_Rip_Tick_r2, A.pt]
  refine arun_rangeS Try.underlying65 A.mp A.un (fun it o hit IS => ?_)
  simp (disch := omega)
  have F0 : Fe h p r it dom most (tickX now) m [] (h.upd it o) := ⟨by rw [worked_nil]; exact A.le' (.new hit), by rw [worked_nil]; exact IS, .nil, by simp, fun y o' e _ => (Le.new hit) _ _ e, hit⟩
  refine ⟨TiInv h p r it dom most now m, ⟨m.length, [], by simp, F0, by simp, by simp, by simp [anyV_nil], by simp⟩, ?_⟩
  rintro n env g ⟨V, hn, F, e0, e1, e5, e12⟩
  unfold rip_Rip_Tick_L0
  simp (disch := omega) [rip_Rip_Tick_r3, e12]
  refine arun_nextS F.iter (fun hend => ?_) (fun x o hx hxV I2 => ?_)
  · simp (disch := omega) [rip_Rip_Tick_r11, e5]
    obtain ⟨ha, q⟩ := F.done A hend
    have hq := hQ _ q
    unfold tickB at hq
    rw [← anyV_all ha] at hq
    exact .to _ (.refl _) hq
  · have hxm := worked_get A.un hx hxV
    obtain ⟨A2, K2⟩ := F.next I2
    have hlen := F.len A.un hxm hxV
    have hext := F.ext hxm hxV
    have hits := F.itn
    simp (disch := omega) [rip_Rip_Tick_r4, e12]
    refine arun_entryS I2 hx ?_
    simp (disch := omega)
    intro b6 hb6
    have hit2 : ∃ o', (g.upd it o) it = some o' := ⟨_, upd_same⟩
    generalize g.upd it o = g2 at *
    have L2 : Le g2 (g2.upd b6 (.cells #[.int .u32 (x.1.1 : Nat), .int .i64 x.1.2] 24)) := .new hb6
    have f6 : (g2.upd b6 (.cells #[.int .u32 (x.1.1 : Nat), .int .i64 x.1.2] 24)) b6 = some (.cells #[.int .u32 (x.1.1 : Nat), .int .i64 x.1.2] 24) := upd_same
    replace A2 := A2.le' L2
    replace I2 := I2.le L2
    replace K2 : ∀ y o', h y = some o' → y ∉ ownR p r m → (g2.upd b6 (.cells #[.int .u32 (x.1.1 : Nat), .int .i64 x.1.2] 24)) y = some o' := fun y o' e nn => L2 _ _ (K2 y o' e nn)
    have hb := A2.bl x hx
    have hgd := A2.gd x hx
    have hpt := A2.pt
    have hblk : x.2.1 ≠ it := fun q => hits.2.2 x hx q.symm
    have hbr := (A2.pb hx).2
    have own : x.2.1 ∈ ownR p r m := by simp only [ownR, List.mem_cons, List.mem_map]; exact .inr (.inr ⟨x, hxm, rfl⟩)
    simp (disch := omega)
    show rip_Rip_Tick_r5 _ (g2.upd b6 (.cells #[.int .u32 (x.1.1 : Nat), .int .i64 x.1.2] 24)) _
    generalize g2.upd b6 (.cells #[.int .u32 (x.1.1 : Nat), .int .i64 x.1.2] 24) = g3 at *
    have hany := anyV_snoc (P := tickP now) (V := V) A.un hxm
    have stay : tickP now x.2.2 = false → ∀ env : Env, env 0 = .pointer (some ⟨p, 0, none⟩) → env 1 = .int .i64 now → env 5 = .bool (anyV (tickP now) V m) → env 12 = .pointer (some ⟨it, 0, none⟩) → ∃ m_1, m_1 < n ∧ TiInv h p r it dom most now m m_1 env g3 := by
      intro hp env e0 e1 e5 e12
      have htx : tickX now x.2.2 = some x.2.2 := by unfold tickX; rw [hp]; simp
      have hch := worked_chg A.un hxm hxV htx
      have A3 := A2.chg hx (x := x.2.2) hgd.2
      have I3 := I2.chg x.1 x.2.2
      rw [hch] at A3 I3
      rw [upd_self hb] at A3
      rw [hp, Bool.or_false] at hany
      exact ⟨n - 1, by omega, V ++ [x.1], by simp; omega, ⟨A3, I3, hext.1, hext.2, K2, F.hit⟩, e0, e1, by rw [hany]; exact e5, e12⟩
    simp (disch := omega) [rip_Rip_Tick_r5, rbv]
    refine reachedM hb ?_
    by_cases c1 : x.2.2.m < 16
    · by_cases c2 : x.2.2.n = 0
      · simp (disch := omega) [rbv, c1, c2, hb]
        refine stay (by unfold tickP; simp [c1, c2]) _ ?_ ?_ ?_ ?_ <;> simp [e0, e1, e5, e12]
      · by_cases c3 : now < x.2.2.e
        · simp (disch := omega) [rbv, c1, c2, c3, hb, rip_Rip_Tick_r6, e1]
          refine stay (by unfold tickP; simp; omega) _ ?_ ?_ ?_ ?_ <;> simp [e0, e1, e5, e12]
        · have hp : tickP now x.2.2 = true := by unfold tickP; simp [c1, c2]; omega
          have htx : tickX now x.2.2 = some (spoilR x.2.2 now) := by unfold tickX; rw [hp]; simp [c1]
          have hch := worked_chg A.un hxm hxV htx
          have A3 := A2.chg hx (x := spoilR x.2.2 now) hgd.2
          have I3 := I2.chg x.1 (spoilR x.2.2 now)
          rw [hch] at A3 I3
          rw [hp, Bool.or_true] at hany
          simp (disch := omega) [rbv, c1, c2, c3, hb, rip_Rip_Tick_r6, rip_Rip_Tick_r7, e1]
          refine reachedM hb ?_
          simp (disch := omega) [rbv, c1, rip_Rip_Tick_r8, e1]
          refine spoilM hb (by omega) (by omega) ?_
          simp (disch := omega) [rip_Rip_Tick_r10]
          exact ⟨n - 1, by omega, V ++ [x.1], by simp; omega, ⟨A3, I3.keep (by rw [upd_ne hbr.symm]) (by rw [upd_ne hblk.symm]), hext.1, hext.2, fun y o' e nn => by rw [upd_ne (by rintro rfl; exact nn own)]; exact K2 y o' e nn, F.hit⟩, by simp [e0], by simp [e1], by simp [hany], by simp [e12]⟩
    · by_cases c3 : now < x.2.2.e
      · simp (disch := omega) [rbv, c1, c3, hb, rip_Rip_Tick_r6, e1]
        refine stay (by unfold tickP; simp; omega) _ ?_ ?_ ?_ ?_ <;> simp [e0, e1, e5, e12]
      · have hp : tickP now x.2.2 = true := by unfold tickP; simp [c1]; omega
        have htx : tickX now x.2.2 = none := by unfold tickX; rw [hp]; simp [c1]
        have hde := worked_del A.un hxm hxV htx
        rw [hp, Bool.or_true] at hany
        simp (disch := omega) [rbv, c1, c3, hb, rip_Rip_Tick_r6, rip_Rip_Tick_r7, e1]
        refine reachedM hb ?_
        simp (disch := omega) [rbv, c1, rip_Rip_Tick_r9, e0, hpt, f6]
        refine kp_delS I2 (fun o3 I3 => ?_)
        have A3 := A2.del I3.map
        rw [hde] at A3 I3
        simp (disch := omega) [rip_Rip_Tick_r10]
        exact ⟨n - 1, by omega, V ++ [x.1], by simp; omega, ⟨A3, I3, hext.1, hext.2, fun y o' e nn => by rw [upd_ne (by rintro rfl; exact nn (by simp [ownR]))]; exact K2 y o' e nn, F.hit⟩, by simp [e0], by simp [e1], by simp [hany], by simp [e12]⟩
end
end Go.Proofs.Ytpfenhikoajghaa

/- REnt: a flat struct (printed by wip/lib/struct.py). -/
namespace Go.Proofs.Ytpfenhikoajghaa
open Go
set_option linter.unusedSimpArgs false
set_option linter.unusedVariables false

structure REnt where
  a : Nat
  l : Int
  tag : Nat
  nx : Nat
  m : Int
deriving DecidableEq

def REnt.enc (x : REnt) : List Value := [.int .u32 (x.a : Nat), .int .i64 x.l, .int .u16 (x.tag : Nat), .int .u32 (x.nx : Nat), .int .i64 x.m]
abbrev REntv (x : REnt) : Value := .agg #[.int .u32 (x.a : Nat), .int .i64 x.l, .int .u16 (x.tag : Nat), .int .u32 (x.nx : Nat), .int .i64 x.m]
abbrev REnt.cells (x : REnt) : Array Value := #[.int .u32 (x.a : Nat), .int .i64 x.l, .int .u16 (x.tag : Nat), .int .u32 (x.nx : Nat), .int .i64 x.m]
structure REnt.Good (x : REnt) : Prop where
  a : x.a < 2 ^ 32
  tag : x.tag < 2 ^ 16
  nx : x.nx < 2 ^ 32
theorem REnt.one (x : REnt) : (REnt.enc x).length = 5 ∧ ∀ u ∈ REnt.enc x, oneCell u = true := ⟨rfl, by simp [REnt.enc]⟩

theorem REnt_at {h : Hp} {v : Value} {xs : List REnt} {i : Nat} {x : REnt} (S : SlAt h 33 5 REnt.enc v xs) (hx : xs[i]? = some x) :
    ∃ b cap c, v = .slice (some ⟨b, 0, none⟩) xs.length cap ∧ h b = some (.cells c 33 (0, 0)) ∧ c[i * 5]? = some (.int .u32 (x.a : Nat)) ∧ c[i * 5 + 1]? = some (.int .i64 x.l) ∧ c[i * 5 + 2]? = some (.int .u16 (x.tag : Nat)) ∧ c[i * 5 + 3]? = some (.int .u32 (x.nx : Nat)) ∧ c[i * 5 + 4]? = some (.int .i64 x.m) := by
  obtain ⟨b, cap, c, e, hb, H⟩ := SlAt.at' S hx
  exact ⟨b, cap, c, e, hb, H 0 (by omega), H 1 (by omega), H 2 (by omega), H 3 (by omega), H 4 (by omega)⟩

def SameInv_REnt (g0 : Hp) (v w : Value) (L : List REnt) (mm : Nat) (env : Env) (g : Hp) : Prop :=
  g = g0 ∧ ∃ i : Nat, env 0 = v ∧ env 1 = w ∧ env 5 = .int .i64 (i : Nat) ∧ i + mm = L.length ∧ i ≤ L.length

set_option maxRecDepth 20000 in
theorem same_REnt {h : Hp} {v w : Value} {L : List REnt} {Q : Value → Hp → Prop} (S : SlAt h 33 5 REnt.enc v L) (S' : SlAt h 33 5 REnt.enc w L) (hl : L.length ≤ 1000000) (hQ : Q (.bool true) h) : Ok Try.prog F_octroiref16_Same #[v, w] h Q := by
  obtain ⟨p, cap, hv⟩ := S.shape'
  obtain ⟨p', cap', hw⟩ := S'.shape'
  refine octroiref16_Same_ok (by simp) ?_
  unfold octroiref16_Same_D
  simp (disch := omega) [octroiref16_Same_r0, octroiref16_Same_r1, octroiref16_Same_r3, hv, hw]
  refine ⟨SameInv_REnt h v w L, ⟨L.length, rfl, 0, by simp [hv], by simp [hw], by simp, by omega, by omega⟩, ?_⟩
  rintro mm env g ⟨rfl, i, e0, e1, e5, him, hi⟩
  unfold octroiref16_Same_L0
  by_cases hm : mm = 0
  · have : i = L.length := by omega
    subst this
    simp (disch := omega) [octroiref16_Same_r4, octroiref16_Same_r8, e0, e1, e5, hv]
    exact .to _ (.refl _) hQ
  · obtain ⟨y, hy⟩ : ∃ y, L[i]? = some y := ⟨_, List.getElem?_eq_getElem (by omega)⟩
    obtain ⟨b, c1, c, ev, hb, q0, q1, q2, q3, q4⟩ := REnt_at S hy
    obtain ⟨b', c1', c', ew, hb', t0, t1, t2, t3, t4⟩ := REnt_at S' hy
    have hi' : i < L.length := by omega
    rw [ev] at e0
    rw [ew] at e1
    simp (disch := omega) [octroiref16_Same_r4, octroiref16_Same_r5, octroiref16_Same_r7, e0, e1, e5, hi', hb, hb', q0, q1, q2, q3, q4, t0, t1, t2, t3, t4, wrap_i64]
    exact ⟨mm - 1, by omega, rfl, i + 1, by simp [e0, ev], by simp [e1, ew], by simp, by omega, by omega⟩
end Go.Proofs.Ytpfenhikoajghaa

/- Rt: a flat struct (printed by wip/lib/struct.py). -/
namespace Go.Proofs.Ytpfenhikoajghaa
open Go
set_option linter.unusedSimpArgs false
set_option linter.unusedVariables false

structure Rt where
  a : Nat
  l : Int
  d : Int
  ds : Int
  m : Int
  nx : Int
  tg : Nat
deriving DecidableEq

def Rt.enc (x : Rt) : List Value := [.int .u32 (x.a : Nat), .int .i64 x.l, .int .i64 x.d, .int .i64 x.ds, .int .i64 x.m, .int .i64 x.nx, .int .u16 (x.tg : Nat)]
abbrev rv (x : Rt) : Value := .agg #[.int .u32 (x.a : Nat), .int .i64 x.l, .int .i64 x.d, .int .i64 x.ds, .int .i64 x.m, .int .i64 x.nx, .int .u16 (x.tg : Nat)]
abbrev Rt.cells (x : Rt) : Array Value := #[.int .u32 (x.a : Nat), .int .i64 x.l, .int .i64 x.d, .int .i64 x.ds, .int .i64 x.m, .int .i64 x.nx, .int .u16 (x.tg : Nat)]
structure Rt.Good (x : Rt) : Prop where
  a : x.a < 2 ^ 32
  tg : x.tg < 2 ^ 16
theorem Rt.one (x : Rt) : (Rt.enc x).length = 7 ∧ ∀ u ∈ Rt.enc x, oneCell u = true := ⟨rfl, by simp [Rt.enc]⟩

theorem rt_at {h : Hp} {v : Value} {xs : List Rt} {i : Nat} {x : Rt} (S : SlAt h 38 7 Rt.enc v xs) (hx : xs[i]? = some x) :
    ∃ b cap c, v = .slice (some ⟨b, 0, none⟩) xs.length cap ∧ h b = some (.cells c 38 (0, 0)) ∧ c[i * 7]? = some (.int .u32 (x.a : Nat)) ∧ c[i * 7 + 1]? = some (.int .i64 x.l) ∧ c[i * 7 + 2]? = some (.int .i64 x.d) ∧ c[i * 7 + 3]? = some (.int .i64 x.ds) ∧ c[i * 7 + 4]? = some (.int .i64 x.m) ∧ c[i * 7 + 5]? = some (.int .i64 x.nx) ∧ c[i * 7 + 6]? = some (.int .u16 (x.tg : Nat)) := by
  obtain ⟨b, cap, c, e, hb, H⟩ := SlAt.at' S hx
  exact ⟨b, cap, c, e, hb, H 0 (by omega), H 1 (by omega), H 2 (by omega), H 3 (by omega), H 4 (by omega), H 5 (by omega), H 6 (by omega)⟩
end Go.Proofs.Ytpfenhikoajghaa

/- RIP in memory: Tell, All. -/
namespace Go.Proofs.Ytpfenhikoajghaa
open Go
set_option linter.unusedSimpArgs false
set_option linter.unusedVariables false

def tellX (t : Int) (k : PK) (x : Rr) : REnt := ⟨k.1, k.2, x.tag, 0, if t ≠ 0 ∧ x.n = t then 16 else x.m⟩
def allX (dom : Int) (k : PK) (x : Rr) : Rt := ⟨k.1, k.2, dom, 120, x.m, x.n, x.tag⟩
def tellL (t : Int) (S : RS) (ks : List PK) : List REnt := ks.filterMap fun k => (getM S k).map (tellX t k)
def allL (dom : Int) (S : RS) (ks : List PK) : List Rt := ks.filterMap fun k => (getM S k).bind fun x => if x.m < 16 then some (allX dom k x) else none

theorem kp_at {h : Hp} {v : Value} {xs : List PK} {i : Nat} {x : PK} (S : SlAt h 24 2 kencP v xs) (hx : xs[i]? = some x) :
    ∃ b cap c, v = .slice (some ⟨b, 0, none⟩) xs.length cap ∧ h b = some (.cells c 24 (0, 0)) ∧ c[i * 2]? = some (.int .u32 (x.1 : Nat)) ∧ c[i * 2 + 1]? = some (.int .i64 x.2) := by
  obtain ⟨b, cap, c, e, hb, H⟩ := SlAt.at' S hx
  exact ⟨b, cap, c, e, hb, H 0 (by omega), H 1 (by omega)⟩

section
variable {h : Hp} {p r : Nat} {dom most : Int} {m : RM} {Q : Value → Hp → Prop}

def TeInv (h : Hp) (p : Nat) (t : Int) (S : RS) (kv : Value) (ks : List PK) (n : Nat) (env : Env) (g : Hp) : Prop :=
  ∃ (i : Nat) (w : Value), i + n = ks.length ∧ Le h g ∧ SlAt g 33 5 REnt.enc w (tellL t S (ks.take i)) ∧ (∀ b, blkOf w = some b → h b = none) ∧
    env 0 = .pointer (some ⟨p, 0, none⟩) ∧ env 1 = .int .i64 t ∧ env 5 = w ∧ env 11 = kv ∧ env 12 = .int .i64 (ks.length : Nat) ∧ env 13 = .int .i64 (i : Nat)

set_option maxHeartbeats 1000000 in
set_option maxRecDepth 20000 in
theorem rtellM {t : Int} (A : RipAt h p r dom most m) (hQ : ∀ w ks h', Le h h' → ks.Perm (m.map (·.1)) → SrtP ks → SlAt h' 33 5 REnt.enc w (tellL t (strip m) ks) → (∀ b, blkOf w = some b → h b = none) → Q w h') :
    Ok Try.prog F_rip_Rip_Tell #[.pointer (some ⟨p, 0, none⟩), .int .i64 t] h Q := by
  refine rip_Rip_Tell_ok (by simp) ?_
  unfold rip_Rip_Tell_D
  simp (disch := omega) [rip_Rip_Tell_r0, rip_Rip_Tell_r1, rip_Rip_Tell_r2]
  refine rorderM A (fun kv ks h1 l1 KS hp hs nk => ?_)
  have A1 := A.le' l1
  obtain ⟨ka, kc, hkv⟩ := KS.shape'
  have hkl : ks.length ≤ 64 := by rw [hp.length_eq, List.length_map]; exact A.le
  simp (disch := omega) [hkv]
  refine ⟨TeInv h1 p t (strip m) kv ks, ⟨ks.length, 0, .slice none 0 0, by omega, .refl _, .inl ⟨rfl, by simp [tellL]⟩, by simp [blkOf], by simp, by simp, by simp, by simp [hkv], by simp, by simp⟩, ?_⟩
  rintro n env g ⟨i, w, hin, lg, S, nw, e0, e1, e5, e11, e12, e13⟩
  unfold rip_Rip_Tell_L0
  by_cases hm : n = 0
  · have : i = ks.length := by omega
    subst this
    rw [List.take_of_length_le (Nat.le_refl _)] at S
    simp (disch := omega) [rip_Rip_Tell_r3, rip_Rip_Tell_r11, e5, e12, e13]
    exact .to _ (.refl _) (hQ w ks g (l1.trans lg) hp hs S (fun b e => none_of_le l1 (nw b e)))
  · obtain ⟨k, hk⟩ : ∃ k, ks[i]? = some k := ⟨_, List.getElem?_eq_getElem (by omega)⟩
    obtain ⟨b, cap, c, hv', hb, c0, c1⟩ := kp_at (KS.le' lg) hk
    rw [hkv] at hv'
    simp only [Value.slice.injEq, true_and] at hv'
    obtain ⟨rfl, rfl⟩ := hv'
    have hi' : i < ks.length := by omega
    have hkm : k ∈ m.map (·.1) := hp.mem_iff.1 (List.mem_of_getElem? hk)
    obtain ⟨v, hg⟩ : ∃ v, getM m k = some v := by
      cases hq : getM m k with
      | none => exact absurd hkm (getM_none.1 hq)
      | some v => exact ⟨v, rfl⟩
    have hgs : getM (strip m) k = some v.2 := by rw [getM_strip, hg]; rfl
    have tl : tellL t (strip m) (ks.take (i + 1)) = tellL t (strip m) (ks.take i) ++ [tellX t k v.2] := by
      rw [take_snoc hk]; unfold tellL; rw [List.filterMap_append]; simp [hgs]
    have Ag := A1.le' lg
    have tll : (tellL t (strip m) (ks.take i)).length ≤ 64 := by
      unfold tellL
      exact Nat.le_trans (List.length_filterMap_le _ _) (by rw [List.length_take]; omega)
    simp (disch := omega) [rip_Rip_Tell_r3, rip_Rip_Tell_r4, e0, e1, e5, e11, e12, e13, hi', hkv, hb, c0, c1]
    intro b7 hb7
    have l7 : Le g (g.upd b7 (.cells #[.int .u32 (k.1 : Nat), .int .i64 k.2] 24)) := .new hb7
    have f7 : (g.upd b7 (.cells #[.int .u32 (k.1 : Nat), .int .i64 k.2] 24)) b7 = some (.cells #[.int .u32 (k.1 : Nat), .int .i64 k.2] 24) := upd_same
    simp (disch := omega)
    show rip_Rip_Tell_r5 _ (g.upd b7 (.cells #[.int .u32 (k.1 : Nat), .int .i64 k.2] 24)) _
    have A7 := Ag.le' l7
    have S7 := S.le' l7
    have lg7 := lg.trans l7
    generalize g.upd b7 (.cells #[.int .u32 (k.1 : Nat), .int .i64 k.2] 24) = g7 at *
    have lk := kp_look (p := k) A7.mp
    have hbr := A7.bl _ (getM_mem hg)
    rw [hg] at lk
    simp (disch := omega) [rip_Rip_Tell_r5, e0, A7.pt, f7, lk]
    simp (disch := omega) [rip_Rip_Tell_r6, rbv, f7, hbr]
    intro b9 hb9
    have n1 := ne_new hbr hb9
    have n2 := ne_new f7 hb9
    simp (disch := omega) [n1, n2, hbr, f7]
    have l9 : Le g7 (g7.upd b9 (.cells #[.int .u32 (k.1 : Nat), .int .i64 k.2, .int .u16 (v.2.tag : Nat), .int .u32 0, .int .i64 v.2.m] 33)) := .new hb9
    have f9 : (g7.upd b9 (.cells #[.int .u32 (k.1 : Nat), .int .i64 k.2, .int .u16 (v.2.tag : Nat), .int .u32 0, .int .i64 v.2.m] 33)) b9 = some (.cells #[.int .u32 (k.1 : Nat), .int .i64 k.2, .int .u16 (v.2.tag : Nat), .int .u32 0, .int .i64 v.2.m] 33) := upd_same
    show rip_Rip_Tell_r7 _ (g7.upd b9 (.cells #[.int .u32 (k.1 : Nat), .int .i64 k.2, .int .u16 (v.2.tag : Nat), .int .u32 0, .int .i64 v.2.m] 33)) _
    have A9 := A7.le' l9
    have S9 := S7.le' l9
    have lg9 := lg7.trans l9
    have hbr9 := l9 _ _ hbr
    have nb9 : h1 b9 = none := none_of_le lg7 hb9
    have nwb : ∀ y, blkOf w = some y → y ≠ b9 := fun y e => by obtain ⟨o, q⟩ := S7.alive e; exact ne_new q hb9
    generalize g7.upd b9 (.cells #[.int .u32 (k.1 : Nat), .int .i64 k.2, .int .u16 (v.2.tag : Nat), .int .u32 0, .int .i64 v.2.m] 33) = g9 at *
    have last : ∀ (env : Env) (ga : Hp), Le h1 ga → SlAt ga 33 5 REnt.enc w (tellL t (strip m) (ks.take i)) → ga b9 = some (.cells (tellX t k v.2).cells 33 (0, 0)) →
        env 0 = .pointer (some ⟨p, 0, none⟩) → env 1 = .int .i64 t → env 5 = w → env 9 = .pointer (some ⟨b9, 0, none⟩) → env 11 = .slice (some ⟨b, 0, none⟩) ks.length kc → env 12 = .int .i64 (ks.length : Nat) → env 13 = .int .i64 (i : Nat) →
        rip_Rip_Tell_r9 env ga (inBlk 1 (thenK (rg rip_Rip_Tell_r10) (roundK (TeInv h1 p t (strip m) (.slice (some ⟨b, 0, none⟩) ks.length kc) ks) n (inBlk 0 (thenK (sq (rg rip_Rip_Tell_r11) (ex .ret)) (fin Try.prog [.tmp 4] Q))))) .normal) := by
      intro env ga la Sa fa e0 e1 e5 e9 e11 e12 e13
      simp (disch := omega) [rip_Rip_Tell_r9, e5, e9, fa]
      refine snoc_api_RipEntry Sa (y := tellX t k v.2) rfl (by simp [REnt.enc]) (by omega) (fun bb w' g' S' G hbb => ?_)
      simp (disch := omega) [rip_Rip_Tell_r10, e13, wrap_i64]
      refine ⟨n - 1, by omega, i + 1, w', by omega, fun x o e => G.keep x o (la _ _ e) (fun q => by rw [nw x q.symm] at e; cases e), by rw [tl]; exact S', fun y e => ?_, by simp [e0], by simp [e1], by simp, by simp [e11], by simp [e12], by simp⟩
      rcases G.fresh with q | q
      · exact nw y (by rw [← q]; exact e)
      · exact none_of_le la (q y e)
    by_cases c2 : t = 0
    · have ht : tellX t k v.2 = ⟨k.1, k.2, v.2.tag, 0, v.2.m⟩ := by unfold tellX; rw [if_neg (fun q => q.1 c2)]
      simp (disch := omega) [rip_Rip_Tell_r7, e1, c2]
      subst c2
      refine last _ g9 lg9 S9 (by rw [ht]; exact f9) ?_ ?_ ?_ ?_ ?_ ?_ ?_ <;> simp [e0, e1, e5, e11, e12, e13, hkv]
    · by_cases c3 : v.2.n = t
      · have ht : tellX t k v.2 = ⟨k.1, k.2, v.2.tag, 0, 16⟩ := by unfold tellX; rw [if_pos ⟨c2, c3⟩]
        simp (disch := omega) [rip_Rip_Tell_r7, rip_Rip_Tell_r8, rbv, e1, c2, c3, hbr9, f9]
        refine last _ _ (lg9.put nb9) (S9.keep fun y o e e2 => by rw [upd_ne (nwb y e)]; exact e2) (by rw [ht]; exact upd_same) ?_ ?_ ?_ ?_ ?_ ?_ ?_ <;> simp [e0, e1, e5, e11, e12, e13, hkv]
      · have ht : tellX t k v.2 = ⟨k.1, k.2, v.2.tag, 0, v.2.m⟩ := by unfold tellX; rw [if_neg (fun q => c3 q.2)]
        simp (disch := omega) [rip_Rip_Tell_r7, rbv, e1, c2, c3, hbr9]
        refine last _ g9 lg9 S9 (by rw [ht]; exact f9) ?_ ?_ ?_ ?_ ?_ ?_ ?_ <;> simp [e0, e1, e5, e11, e12, e13, hkv]

def AlInv (h : Hp) (p : Nat) (dom : Int) (S : RS) (kv : Value) (ks : List PK) (n : Nat) (env : Env) (g : Hp) : Prop :=
  ∃ (i : Nat) (w : Value), i + n = ks.length ∧ Le h g ∧ SlAt g 38 7 Rt.enc w (allL dom S (ks.take i)) ∧ (∀ b, blkOf w = some b → h b = none) ∧
    env 0 = .pointer (some ⟨p, 0, none⟩) ∧ env 3 = w ∧ env 8 = kv ∧ env 9 = .int .i64 (ks.length : Nat) ∧ env 10 = .int .i64 (i : Nat)

set_option maxHeartbeats 1000000 in
set_option maxRecDepth 20000 in
theorem rallM (A : RipAt h p r dom most m) (hQ : ∀ w ks h', Le h h' → ks.Perm (m.map (·.1)) → SrtP ks → SlAt h' 38 7 Rt.enc w (allL dom (strip m) ks) → (∀ b, blkOf w = some b → h b = none) → Q w h') :
    Ok Try.prog F_rip_Rip_All #[.pointer (some ⟨p, 0, none⟩)] h Q := by
  refine rip_Rip_All_ok (by simp) ?_
  unfold rip_Rip_All_D
  simp (disch := omega) [rip_Rip_All_r0, rip_Rip_All_r1, rip_Rip_All_r2]
  refine rorderM A (fun kv ks h1 l1 KS hp hs nk => ?_)
  have A1 := A.le' l1
  obtain ⟨ka, kc, hkv⟩ := KS.shape'
  have hkl : ks.length ≤ 64 := by rw [hp.length_eq, List.length_map]; exact A.le
  simp (disch := omega) [hkv]
  refine ⟨AlInv h1 p dom (strip m) kv ks, ⟨ks.length, 0, .slice none 0 0, by omega, .refl _, .inl ⟨rfl, by simp [allL]⟩, by simp [blkOf], by simp, by simp, by simp [hkv], by simp, by simp⟩, ?_⟩
  rintro n env g ⟨i, w, hin, lg, S, nw, e0, e3, e8, e9, e10⟩
  unfold rip_Rip_All_L0
  by_cases hm : n = 0
  · have : i = ks.length := by omega
    subst this
    rw [List.take_of_length_le (Nat.le_refl _)] at S
    simp (disch := omega) [rip_Rip_All_r3, rip_Rip_All_r9, e3, e9, e10]
    exact .to _ (.refl _) (hQ w ks g (l1.trans lg) hp hs S (fun b e => none_of_le l1 (nw b e)))
  · obtain ⟨k, hk⟩ : ∃ k, ks[i]? = some k := ⟨_, List.getElem?_eq_getElem (by omega)⟩
    obtain ⟨b, cap, c, hv', hb, c0, c1⟩ := kp_at (KS.le' lg) hk
    rw [hkv] at hv'
    simp only [Value.slice.injEq, true_and] at hv'
    obtain ⟨rfl, rfl⟩ := hv'
    have hi' : i < ks.length := by omega
    have hkm : k ∈ m.map (·.1) := hp.mem_iff.1 (List.mem_of_getElem? hk)
    obtain ⟨v, hg⟩ : ∃ v, getM m k = some v := by
      cases hq : getM m k with
      | none => exact absurd hkm (getM_none.1 hq)
      | some v => exact ⟨v, rfl⟩
    have hgs : getM (strip m) k = some v.2 := by rw [getM_strip, hg]; rfl
    have tl : allL dom (strip m) (ks.take (i + 1)) = allL dom (strip m) (ks.take i) ++ (if v.2.m < 16 then [allX dom k v.2] else []) := by
      rw [take_snoc hk]; unfold allL; rw [List.filterMap_append]; simp [hgs]; split <;> simp [*]
    have Ag := A1.le' lg
    have tll : (allL dom (strip m) (ks.take i)).length ≤ 64 := by
      unfold allL
      exact Nat.le_trans (List.length_filterMap_le _ _) (by rw [List.length_take]; omega)
    simp (disch := omega) [rip_Rip_All_r3, rip_Rip_All_r4, e0, e3, e8, e9, e10, hi', hkv, hb, c0, c1]
    intro b7 hb7
    have l7 : Le g (g.upd b7 (.cells #[.int .u32 (k.1 : Nat), .int .i64 k.2] 24)) := .new hb7
    have f7 : (g.upd b7 (.cells #[.int .u32 (k.1 : Nat), .int .i64 k.2] 24)) b7 = some (.cells #[.int .u32 (k.1 : Nat), .int .i64 k.2] 24) := upd_same
    simp (disch := omega)
    show rip_Rip_All_r5 _ (g.upd b7 (.cells #[.int .u32 (k.1 : Nat), .int .i64 k.2] 24)) _
    have A7 := Ag.le' l7
    have S7 := S.le' l7
    have lg7 := lg.trans l7
    generalize g.upd b7 (.cells #[.int .u32 (k.1 : Nat), .int .i64 k.2] 24) = g7 at *
    have lk := kp_look (p := k) A7.mp
    have hbr := A7.bl _ (getM_mem hg)
    rw [hg] at lk
    simp (disch := omega) [rip_Rip_All_r5, e0, A7.pt, f7, lk]
    simp (disch := omega) [rip_Rip_All_r6, rbv]
    refine reachedM hbr ?_
    by_cases c2 : v.2.m < 16
    · rw [if_pos c2] at tl
      simp (disch := omega) [rbv, c2, rip_Rip_All_r7, e0, e3, A7.pt, f7, hbr]
      refine snoc_api_Route S7 (y := allX dom k v.2) rfl (by simp [Rt.enc]) (by omega) (fun bb w' g' S' G hbb => ?_)
      simp (disch := omega) [rip_Rip_All_r8, e10, wrap_i64]
      refine ⟨n - 1, by omega, i + 1, w', by omega, fun x o e => G.keep x o (lg7 _ _ e) (fun q => by rw [nw x q.symm] at e; cases e), by rw [tl]; exact S', fun y e => ?_, by simp [e0], by simp, by simp [e8, hkv], by simp [e9], by simp⟩
      rcases G.fresh with q | q
      · exact nw y (by rw [← q]; exact e)
      · exact none_of_le lg7 (q y e)
    · rw [if_neg c2, List.append_nil] at tl
      simp (disch := omega) [c2, rip_Rip_All_r8, e10, wrap_i64]
      exact ⟨n - 1, by omega, i + 1, w, by omega, lg7, by rw [tl]; exact S7, nw, by simp [e0], by simp [e3], by simp [e8, hkv], by simp [e9], by simp⟩
end
end Go.Proofs.Ytpfenhikoajghaa

/- Op16: a flat struct (printed by wip/lib/struct.py). -/
namespace Go.Proofs.Ytpfenhikoajghaa
open Go
set_option linter.unusedSimpArgs false
set_option linter.unusedVariables false

structure Op16 where
  k : Int
  f : Int
  c : Int
  n : Int
  now : Int
  a : Nat
  l : Int
  tag : Nat
deriving DecidableEq

def Op16.enc (x : Op16) : List Value := [.int .i64 x.k, .int .i64 x.f, .int .i64 x.c, .int .i64 x.n, .int .i64 x.now, .int .u32 (x.a : Nat), .int .i64 x.l, .int .u16 (x.tag : Nat)]
abbrev Op16v (x : Op16) : Value := .agg #[.int .i64 x.k, .int .i64 x.f, .int .i64 x.c, .int .i64 x.n, .int .i64 x.now, .int .u32 (x.a : Nat), .int .i64 x.l, .int .u16 (x.tag : Nat)]
abbrev Op16.cells (x : Op16) : Array Value := #[.int .i64 x.k, .int .i64 x.f, .int .i64 x.c, .int .i64 x.n, .int .i64 x.now, .int .u32 (x.a : Nat), .int .i64 x.l, .int .u16 (x.tag : Nat)]
structure Op16.Good (x : Op16) : Prop where
  a : x.a < 2 ^ 32
  tag : x.tag < 2 ^ 16
theorem Op16.one (x : Op16) : (Op16.enc x).length = 8 ∧ ∀ u ∈ Op16.enc x, oneCell u = true := ⟨rfl, by simp [Op16.enc]⟩

def Op16Ks : List Lk := [.int .i64, .int .i64, .int .i64, .int .i64, .int .i64, .int .u32, .int .i64, .int .u16]
theorem dec_Op16 {H : Type} {enc : TypeId × Value → H} {w : World} {base : Nat} {spare : Nat → Bool} {held : Bool} (cs : List Value) (h : okLs enc Try.prog w base spare held Op16Ks cs) : ∃ x : Op16, cs = x.enc ∧ x.Good := by
  obtain ⟨a0, _, rfl, w0, h⟩ := okLs_int h
  obtain ⟨a1, _, rfl, w1, h⟩ := okLs_int h
  obtain ⟨a2, _, rfl, w2, h⟩ := okLs_int h
  obtain ⟨a3, _, rfl, w3, h⟩ := okLs_int h
  obtain ⟨a4, _, rfl, w4, h⟩ := okLs_int h
  obtain ⟨a5, _, rfl, w5, h⟩ := okLs_int h
  obtain ⟨a6, _, rfl, w6, h⟩ := okLs_int h
  obtain ⟨a7, _, rfl, w7, h⟩ := okLs_int h
  obtain rfl := okLs_nil h
  obtain ⟨b5, rfl, g5⟩ := u32_wf w5
  obtain ⟨b7, rfl, g7⟩ := u16_wf w7
  exact ⟨⟨a0, a1, a2, a3, a4, b5, a6, b7⟩, rfl, ⟨g5, g7⟩⟩
end Go.Proofs.Ytpfenhikoajghaa

/- RIP: a call of any kind; a table over what was there before. -/
namespace Go.Proofs.Ytpfenhikoajghaa
open Go
set_option linter.unusedSimpArgs false
set_option linter.unusedVariables false

def doesR (S : RS) (dom most : Int) (o : Op16) : Bool × Int × RS :=
  if o.k = 0 then (false, ownE S dom most (o.a, o.l) o.n o.tag, ownS S dom most (o.a, o.l) o.n o.tag)
  else if o.k = 1 then (false, dropE S (o.a, o.l), dropS S (o.a, o.l) o.now)
  else if o.k = 2 then hearR S dom most o.f o.c (o.a, o.l) o.tag o.n o.now
  else if o.k = 3 then (tickB S o.now, 0, tickS S o.now)
  else if o.k = 4 then (loseB S o.f, 0, loseS S o.f o.now)
  else (false, 0, S)

section
variable {h : Hp} {p r : Nat} {dom most : Int} {m : RM} {Q : Value → Hp → Prop}

theorem RQ.le' {h h1 h2 : Hp} {S' : RS} (l : Le h h1) (q : RQ h1 p r dom most m S' h2) : RQ h p r dom most m S' h2 := by
  obtain ⟨m', a, b, F⟩ := q
  refine ⟨m', a, b, fun x o e n => F.keep x o (l _ _ e) n, fun x hx => ?_⟩
  rcases F.own x hx with q | q
  · exact .inl q
  · exact .inr (none_of_le l q)

set_option maxHeartbeats 1000000 in
set_option maxRecDepth 20000 in
theorem rdoesM {o : Op16} (A : RipAt h p r dom most m) (hmo : most ≤ 64) (og : o.Good) (n1 : 0 ≤ o.now) (n2 : o.now ≤ 1099511627776)
    (hQ : ∀ h', RQ h p r dom most m (doesR (strip m) dom most o).2.2 h' → Q (.tuple #[.bool (doesR (strip m) dom most o).1, .int .i64 (doesR (strip m) dom most o).2.1]) h') :
    Ok Try.prog F_octroilaw16_Does #[.pointer (some ⟨p, 0, none⟩), Op16v o] h Q := by
  refine octroilaw16_Does_ok (by simp) ?_
  unfold octroilaw16_Does_D
  simp (disch := omega) [octroilaw16_Does_r0]
  intro b6 hb6
  have l1 : Le h (h.upd b6 (.cells o.cells 48)) := .new hb6
  have f6 : (h.upd b6 (.cells o.cells 48)) b6 = some (.cells o.cells 48 (0, 0)) := upd_same
  show octroilaw16_Does_r1 _ (h.upd b6 (.cells o.cells 48)) _
  generalize h.upd b6 (.cells o.cells 48) = h1 at *
  have A1 := A.le' l1
  replace hQ : ∀ h', RQ h1 p r dom most m (doesR (strip m) dom most o).2.2 h' → Q (.tuple #[.bool (doesR (strip m) dom most o).1, .int .i64 (doesR (strip m) dom most o).2.1]) h' := fun h' q => hQ h' (q.le' l1)
  unfold doesR at hQ
  by_cases k0 : o.k = 0
  · rw [if_pos k0] at hQ
    simp (disch := omega) [octroilaw16_Does_r1, octroilaw16_Does_r2, octroilaw16_Does_r3, f6, k0]
    refine rownM (k := (o.a, o.l)) A1 hmo og.a og.tag (fun h' q => ?_)
    simp (disch := omega)
    exact .to _ (.refl _) (hQ _ q)
  rw [if_neg k0] at hQ
  by_cases k1 : o.k = 1
  · rw [if_pos k1] at hQ
    simp (disch := omega) [octroilaw16_Does_r1, octroilaw16_Does_r2, octroilaw16_Does_r4, octroilaw16_Does_r5, f6, k0, k1]
    refine rdropM (k := (o.a, o.l)) A1 n1 n2 (fun h' q => ?_)
    simp (disch := omega)
    exact .to _ (.refl _) (hQ _ q)
  rw [if_neg k1] at hQ
  by_cases k2 : o.k = 2
  · rw [if_pos k2] at hQ
    simp (disch := omega) [octroilaw16_Does_r1, octroilaw16_Does_r2, octroilaw16_Does_r4, octroilaw16_Does_r6, octroilaw16_Does_r7, f6, k0, k1, k2]
    refine rhearM (k := (o.a, o.l)) (nx := 0) A1 hmo og.a og.tag n1 n2 (fun h' q => ?_)
    simp (disch := omega) [octroilaw16_Does_r8]
    exact .to _ (.refl _) (hQ _ q)
  rw [if_neg k2] at hQ
  by_cases k3 : o.k = 3
  · rw [if_pos k3] at hQ
    simp (disch := omega) [octroilaw16_Does_r1, octroilaw16_Does_r2, octroilaw16_Does_r4, octroilaw16_Does_r6, octroilaw16_Does_r9, octroilaw16_Does_r10, f6, k0, k1, k2, k3]
    refine rtickM A1 n1 n2 (fun h' q => ?_)
    simp (disch := omega)
    exact .to _ (.refl _) (hQ _ q)
  rw [if_neg k3] at hQ
  by_cases k4 : o.k = 4
  · rw [if_pos k4] at hQ
    simp (disch := omega) [octroilaw16_Does_r1, octroilaw16_Does_r2, octroilaw16_Does_r4, octroilaw16_Does_r6, octroilaw16_Does_r9, octroilaw16_Does_r11, octroilaw16_Does_r12, f6, k0, k1, k2, k3, k4]
    refine rloseM A1 n1 n2 (fun h' q => ?_)
    simp (disch := omega)
    exact .to _ (.refl _) (hQ _ q)
  rw [if_neg k4] at hQ
  simp (disch := omega) [octroilaw16_Does_r1, octroilaw16_Does_r2, octroilaw16_Does_r4, octroilaw16_Does_r6, octroilaw16_Does_r9, octroilaw16_Does_r11, octroilaw16_Does_r13, f6, k0, k1, k2, k3, k4]
  exact .to _ (.refl _) (hQ _ (RQ.same A1 (.refl _)))
end

/-! ### A table over what was there before -/
def RipO (B g : Hp) (p r : Nat) (dom most : Int) (S : RS) : Prop := ∃ m, RipAt g p r dom most m ∧ strip m = S ∧ Le B g ∧ ∀ x, x ∈ ownR p r m → B x = none

/-- What was there before, and a slice. -/
def Hp.with (B g : Hp) (w : Value) : Hp := match blkOf w with | some b => fun x => if x = b then g b else B x | none => B

theorem with_le {B g : Hp} {w : Value} (hn : ∀ b, blkOf w = some b → B b = none) : Le B (B.with g w) := by
  intro x o e
  unfold Hp.with
  cases hb : blkOf w with
  | none => exact e
  | some b =>
    simp only
    rw [if_neg (by rintro rfl; rw [hn x hb] at e; cases e)]; exact e
theorem with_up {B g : Hp} {w : Value} (l : Le B g) : Le (B.with g w) g := by
  intro x o e
  unfold Hp.with at e
  cases hb : blkOf w with
  | none => rw [hb] at e; exact l _ _ e
  | some b =>
    rw [hb] at e
    simp only at e
    split at e
    · rename_i q; rw [q]; exact e
    · exact l _ _ e
theorem SlAt.with {α : Type} {B g : Hp} {E sz : Nat} {enc : α → List Value} {w : Value} {xs : List α} (S : SlAt g E sz enc w xs) : SlAt (B.with g w) E sz enc w xs :=
  S.keep fun b o e q => by unfold Hp.with; rw [e]; simp [q]

section
variable {B g : Hp} {p r : Nat} {dom most : Int} {S : RS} {Q : Value → Hp → Prop}

theorem RipO.le (R : RipO B g p r dom most S) : Le B g := by obtain ⟨_, _, _, l, _⟩ := R; exact l
theorem RipO.to (R : RipO B g p r dom most S) {g' : Hp} (l : Le g g') : RipO B g' p r dom most S := by
  obtain ⟨m, A, e, lb, n⟩ := R; exact ⟨m, A.le' l, e, lb.trans l, n⟩
theorem RipO.less (R : RipO B g p r dom most S) {B' : Hp} (l : Le B' B) : RipO B' g p r dom most S := by
  obtain ⟨m, A, e, lb, n⟩ := R; exact ⟨m, A, e, l.trans lb, fun x hx => none_of_le l (n x hx)⟩
theorem RipO.rq (R : RipO B g p r dom most S) {S' : RS} {g' : Hp} (q : ∀ m, RipAt g p r dom most m → strip m = S → RQ g p r dom most m S' g') : RipO B g' p r dom most S' := by
  obtain ⟨m, A, e, lb, n⟩ := R
  obtain ⟨m', A', e', F⟩ := q m A e
  exact ⟨m', A', e', F.le lb n, F.new lb n⟩
/-- A new slice, of which the table has nothing, is laid to what was there before. -/
theorem RipO.with {g' : Hp} {w : Value} (R : RipO B g p r dom most S) (l : Le g g') (hn : ∀ b, blkOf w = some b → g b = none) : RipO (B.with g' w) g' p r dom most S := by
  obtain ⟨m, A, e, lb, n⟩ := R
  refine ⟨m, A.le' l, e, with_up (lb.trans l), fun x hx => ?_⟩
  unfold Hp.with
  cases hb : blkOf w with
  | none => exact n x hx
  | some b =>
    simp only
    rw [if_neg]
    · exact n x hx
    · rintro rfl
      obtain ⟨o, q⟩ := A.alive x hx
      rw [hn x hb] at q; cases q

theorem newO (hd : most < 9223372036854775808) (hQ : ∀ p r g', RipO g g' p r dom (min most 64) [] → Q (.pointer (some ⟨p, 0, none⟩)) g') : Ok Try.prog F_rip_New #[.int .i64 dom, .int .i64 most] g Q :=
  rnewM hd fun p r h' l n1 n2 _ A => hQ p r h' ⟨[], A, rfl, l, by simp [ownR, n1, n2]⟩
theorem lenO (R : RipO B g p r dom most S) (hQ : Q (.int .i64 (S.length : Nat)) g) : Ok Try.prog F_rip_Rip_Len #[.pointer (some ⟨p, 0, none⟩)] g Q := by
  obtain ⟨m, A, rfl, lb, n⟩ := R
  rw [strip_length] at hQ
  exact rlenM A hQ
theorem ownO {k : PK} {n : Int} {tag : Nat} {now : Int} (R : RipO B g p r dom most S) (hmo : most ≤ 64) (hk : k.1 < 2 ^ 32) (ht : tag < 2 ^ 16) (hQ : ∀ g', RipO B g' p r dom most (ownS S dom most k n tag) → Q (.int .i64 (ownE S dom most k n tag)) g') :
    Ok Try.prog F_rip_Rip_Own #[.pointer (some ⟨p, 0, none⟩), .agg #[.int .u32 (k.1 : Nat), .int .i64 k.2], .int .i64 n, .int .u16 (tag : Nat), .int .i64 now] g Q := by
  obtain ⟨m, A, rfl, lb, nn⟩ := R
  exact rownM A hmo hk ht fun h' ⟨m', A', e', F⟩ => hQ h' ⟨m', A', e', F.le lb nn, F.new lb nn⟩
theorem dropO {k : PK} {now : Int} (R : RipO B g p r dom most S) (h1 : 0 ≤ now) (h2 : now ≤ 1099511627776) (hQ : ∀ g', RipO B g' p r dom most (dropS S k now) → Q (.int .i64 (dropE S k)) g') :
    Ok Try.prog F_rip_Rip_Drop #[.pointer (some ⟨p, 0, none⟩), .agg #[.int .u32 (k.1 : Nat), .int .i64 k.2], .int .i64 now] g Q := by
  obtain ⟨m, A, rfl, lb, nn⟩ := R
  exact rdropM A h1 h2 fun h' ⟨m', A', e', F⟩ => hQ h' ⟨m', A', e', F.le lb nn, F.new lb nn⟩
theorem hearO {f c : Int} {k : PK} {tag nx : Nat} {N now : Int} (R : RipO B g p r dom most S) (hmo : most ≤ 64) (hk : k.1 < 2 ^ 32) (ht : tag < 2 ^ 16) (n1 : 0 ≤ now) (n2 : now ≤ 1099511627776)
    (hQ : ∀ g', RipO B g' p r dom most (hearR S dom most f c k tag N now).2.2 → Q (.tuple #[.bool (hearR S dom most f c k tag N now).1, .int .i64 (hearR S dom most f c k tag N now).2.1]) g') :
    Ok Try.prog F_rip_Rip_Hear #[.pointer (some ⟨p, 0, none⟩), .int .i64 f, .int .i64 c, .agg #[.int .u32 (k.1 : Nat), .int .i64 k.2, .int .u16 (tag : Nat), .int .u32 (nx : Nat), .int .i64 N], .int .i64 now] g Q := by
  obtain ⟨m, A, rfl, lb, nn⟩ := R
  exact rhearM A hmo hk ht n1 n2 fun h' ⟨m', A', e', F⟩ => hQ h' ⟨m', A', e', F.le lb nn, F.new lb nn⟩
theorem tickO {now : Int} (R : RipO B g p r dom most S) (n1 : 0 ≤ now) (n2 : now ≤ 1099511627776) (hQ : ∀ g', RipO B g' p r dom most (tickS S now) → Q (.bool (tickB S now)) g') :
    Ok Try.prog F_rip_Rip_Tick #[.pointer (some ⟨p, 0, none⟩), .int .i64 now] g Q := by
  obtain ⟨m, A, rfl, lb, nn⟩ := R
  exact rtickM A n1 n2 fun h' ⟨m', A', e', F⟩ => hQ h' ⟨m', A', e', F.le lb nn, F.new lb nn⟩
theorem doesO {o : Op16} (R : RipO B g p r dom most S) (hmo : most ≤ 64) (og : o.Good) (n1 : 0 ≤ o.now) (n2 : o.now ≤ 1099511627776)
    (hQ : ∀ g', RipO B g' p r dom most (doesR S dom most o).2.2 → Q (.tuple #[.bool (doesR S dom most o).1, .int .i64 (doesR S dom most o).2.1]) g') :
    Ok Try.prog F_octroilaw16_Does #[.pointer (some ⟨p, 0, none⟩), Op16v o] g Q := by
  obtain ⟨m, A, rfl, lb, nn⟩ := R
  exact rdoesM A hmo og n1 n2 fun h' ⟨m', A', e', F⟩ => hQ h' ⟨m', A', e', F.le lb nn, F.new lb nn⟩
theorem tellO {t : Int} (R : RipO B g p r dom most S) (hQ : ∀ w ks B' g', Le B B' → RipO B' g' p r dom most S → SlAt B' 33 5 REnt.enc w (tellL t S ks) → ks.Perm (S.map (·.1)) → SrtP ks → Uniq S → Q w g') :
    Ok Try.prog F_rip_Rip_Tell #[.pointer (some ⟨p, 0, none⟩), .int .i64 t] g Q := by
  have R' := R
  obtain ⟨m, A, rfl, lb, nn⟩ := R
  exact rtellM A fun w ks h' l hp hs Sl hn => hQ w ks _ h' (with_le (g := h') fun b e => none_of_le lb (hn b e)) (R'.with l hn) Sl.with (by rw [strip_keys]; exact hp) hs (strip_uniq A.un)
theorem allO (R : RipO B g p r dom most S) (hQ : ∀ w ks B' g', Le B B' → RipO B' g' p r dom most S → SlAt B' 38 7 Rt.enc w (allL dom S ks) → ks.Perm (S.map (·.1)) → SrtP ks → Uniq S → Q w g') :
    Ok Try.prog F_rip_Rip_All #[.pointer (some ⟨p, 0, none⟩)] g Q := by
  have R' := R
  obtain ⟨m, A, rfl, lb, nn⟩ := R
  exact rallM A fun w ks h' l hp hs Sl hn => hQ w ks _ h' (with_le (g := h') fun b e => none_of_le lb (hn b e)) (R'.with l hn) Sl.with (by rw [strip_keys]; exact hp) hs (strip_uniq A.un)
theorem RipO.len (R : RipO B g p r dom most S) : S.length ≤ 64 := by obtain ⟨m, A, rfl, _⟩ := R; rw [strip_length]; exact A.le
theorem RipO.uniq (R : RipO B g p r dom most S) : Uniq S := by obtain ⟨m, A, rfl, _⟩ := R; exact strip_uniq A.un
theorem RipO.good (R : RipO B g p r dom most S) : ∀ e ∈ S, e.1.1 < 2 ^ 32 ∧ e.2.tag < 2 ^ 16 := by
  obtain ⟨m, A, rfl, _⟩ := R
  intro e he
  obtain ⟨e', h1, rfl⟩ := List.mem_map.1 he
  exact A.gd e' h1
end
end Go.Proofs.Ytpfenhikoajghaa

/- RIP: awake; Few; what a neighbour tells of a prefix that is not known. -/
namespace Go.Proofs.Ytpfenhikoajghaa
open Go
set_option linter.unusedSimpArgs false
set_option linter.unusedVariables false

set_option maxHeartbeats 1000000 in
set_option maxRecDepth 20000 in
theorem awake16 {h : Hp} {Q : Value → Hp → Prop} (hQ : ∀ h', Le h h' → Q (.bool true) h') : Ok Try.prog F_octroilaw16_awake #[] h Q := by
  refine octroilaw16_awake_ok (by simp) ?_
  unfold octroilaw16_awake_D
  simp (disch := omega) [octroilaw16_awake_r0, octroilaw16_awake_r1]
  refine newO (by omega) (fun p r g1 R1 => ?_)
  simp (disch := omega) [octroilaw16_awake_r2, octroilaw16_awake_r4]
  intro b2 hb2
  have l2 : Le g1 (g1.upd b2 (.cells #[.int .u32 167772160, .int .i64 8] 24)) := .new hb2
  have f2 : (g1.upd b2 (.cells #[.int .u32 167772160, .int .i64 8] 24)) b2 = some (.cells #[.int .u32 167772160, .int .i64 8] 24) := upd_same
  have R2 := R1.to l2
  simp (disch := omega)
  show octroilaw16_awake_r5 _ (g1.upd b2 (.cells #[.int .u32 167772160, .int .i64 8] 24)) _
  generalize g1.upd b2 (.cells #[.int .u32 167772160, .int .i64 8] 24) = g2 at *
  simp (disch := omega) [octroilaw16_awake_r5, f2]
  refine hearO (k := (167772160, 8)) (tag := 0) (nx := 0) R2 (by omega) (by decide) (by decide) (by omega) (by omega) (fun g3 R3 => ?_)
  rw [show hearR [] 0 (min 10 64) 2 1 (167772160, 8) 0 3 0 = (true, 0, [((167772160, 8), ⟨4, 2, 180, 0⟩)]) by decide] at *
  simp only at R3
  simp (disch := omega) [octroilaw16_awake_r6]
  refine allO R3 (fun w1 ks1 B4 g4 l4 R4 S4 hp4 hs4 u4 => ?_)
  have hk1 : ks1 = [(167772160, 8)] := List.perm_singleton.1 hp4
  subst hk1
  rw [show allL 0 [((167772160, 8), ⟨4, 2, 180, 0⟩)] [(167772160, 8)] = [⟨167772160, 8, 0, 120, 4, 2, 0⟩] by decide] at S4
  simp (disch := omega) [octroilaw16_awake_r7]
  refine tellO R4 (fun w2 ks2 B5 g5 l5 R5 S5 hp5 hs5 u5 => ?_)
  have hk2 : ks2 = [(167772160, 8)] := List.perm_singleton.1 hp5
  subst hk2
  rw [show tellL 2 [((167772160, 8), ⟨4, 2, 180, 0⟩)] [(167772160, 8)] = [⟨167772160, 8, 0, 0, 16⟩] by decide] at S5
  simp (disch := omega) [octroilaw16_awake_r8]
  refine tellO R5 (fun w3 ks3 B6 g6 l6 R6 S6 hp6 hs6 u6 => ?_)
  have hk3 : ks3 = [(167772160, 8)] := List.perm_singleton.1 hp6
  subst hk3
  rw [show tellL 3 [((167772160, 8), ⟨4, 2, 180, 0⟩)] [(167772160, 8)] = [⟨167772160, 8, 0, 0, 4⟩] by decide] at S6
  obtain ⟨b1, c1, d1, e1, hb1, q1⟩ := rt_at (i := 0) S4 rfl
  obtain ⟨b2', c2, d2, e2, hb2', q2⟩ := REnt_at (i := 0) S5 rfl
  obtain ⟨b3, c3, d3, e3, hb3, q3⟩ := REnt_at (i := 0) S6 rfl
  simp only [List.length_singleton] at e1 e2 e3
  subst e1 e2 e3
  simp at q1 q2 q3
  simp (disch := omega) [octroilaw16_awake_r9]
  simp (disch := omega) [octroilaw16_awake_r11]
  refine tickO R6 (by omega) (by omega) (fun g7 R7 => ?_)
  rw [show tickB [((167772160, 8), ⟨4, 2, 180, 0⟩)] 180 = true by decide]
  rw [show tickS [((167772160, 8), ⟨4, 2, 180, 0⟩)] 180 = [((167772160, 8), ⟨16, 2, 300, 0⟩)] by decide] at R7
  have t1 := R7.le _ _ (l6 _ _ (l5 _ _ hb1))
  have t2 := R7.le _ _ (l6 _ _ hb2')
  have t3 := R7.le _ _ hb3
  simp (disch := omega) [octroilaw16_awake_r12, t1, t2, t3, q1, q2, q3]
  refine allO R7 (fun w4 ks4 B8 g8 l8 R8 S8 hp8 hs8 u8 => ?_)
  have hk4 : ks4 = [(167772160, 8)] := List.perm_singleton.1 hp8
  subst hk4
  rw [show allL 0 [((167772160, 8), ⟨16, 2, 300, 0⟩)] [(167772160, 8)] = [] by decide] at S8
  obtain ⟨sp, cap, hw⟩ := S8.shape'
  subst hw
  simp (disch := omega)
  refine lenO R8 ?_
  simp (disch := omega)
  exact .to _ (.refl _) (hQ _ ((((l4.trans l5).trans l6).trans l8).trans R8.le))

/-- All calls are at times that may be. -/
def fewT (l : List Op16) : Prop := l.length ≤ 150 ∧ ∀ o ∈ l, 0 ≤ o.now ∧ o.now ≤ 1099511627776
instance (l : List Op16) : Decidable (fewT l) := by unfold fewT; infer_instance

theorem op16_at {h : Hp} {v : Value} {xs : List Op16} {i : Nat} {x : Op16} (A : ArgSl h 8 Op16.enc Op16.Good v xs) (hx : xs[i]? = some x) :
    x.Good ∧ ∃ b o cap c E fr, v = .slice (some ⟨b, o, none⟩) xs.length cap ∧ h b = some (.cells c E fr) ∧ c[o + i * 8]? = some (.int .i64 x.k) ∧ c[o + i * 8 + 1]? = some (.int .i64 x.f) ∧ c[o + i * 8 + 2]? = some (.int .i64 x.c) ∧ c[o + i * 8 + 3]? = some (.int .i64 x.n) ∧
      c[o + i * 8 + 4]? = some (.int .i64 x.now) ∧ c[o + i * 8 + 5]? = some (.int .u32 (x.a : Nat)) ∧ c[o + i * 8 + 6]? = some (.int .i64 x.l) ∧ c[o + i * 8 + 7]? = some (.int .u16 (x.tag : Nat)) := by
  obtain ⟨g, b, o, cap, c, E, fr, e, hb, H⟩ := A.at hx
  exact ⟨g, b, o, cap, c, E, fr, e, hb, H 0 (by omega), H 1 (by omega), H 2 (by omega), H 3 (by omega), H 4 (by omega), H 5 (by omega), H 6 (by omega), H 7 (by omega)⟩

def FewInv (h : Hp) (v : Value) (l : List Op16) (n : Nat) (env : Env) (g : Hp) : Prop :=
  ∃ i : Nat, g = h ∧ i + n = l.length ∧ (∀ o ∈ l.take i, 0 ≤ o.now ∧ o.now ≤ 1099511627776) ∧ env 0 = v ∧ env 3 = .int .i64 (i : Nat)

set_option maxRecDepth 20000 in
theorem fewM {h : Hp} {v : Value} {l : List Op16} {Q : Value → Hp → Prop} (A : ArgSl h 8 Op16.enc Op16.Good v l) (hQ : Q (.bool (decide (fewT l))) h) : Ok Try.prog F_octroilaw16_Few #[v] h Q := by
  refine octroilaw16_Few_ok (by simp) ?_
  unfold octroilaw16_Few_D
  obtain ⟨ap, acap, hv⟩ := A.shape
  by_cases g1 : 150 < (l.length : Int)
  · rw [decide_eq_false (fun q : fewT l => by have := q.1; omega)] at hQ
    simp (disch := omega) [octroilaw16_Few_r0, octroilaw16_Few_r1, octroilaw16_Few_r2, hv, g1]
    exact .to _ (.refl _) hQ
  · simp (disch := omega) [octroilaw16_Few_r0, octroilaw16_Few_r1, octroilaw16_Few_r3, hv, g1]
    refine ⟨FewInv h v l, ⟨l.length, 0, rfl, by omega, by simp, by simp [hv], by simp⟩, ?_⟩
    rintro n env g ⟨i, rfl, hin, hall, e0, e3⟩
    unfold octroilaw16_Few_L0
    by_cases hm : n = 0
    · have : i = l.length := by omega
      subst this
      rw [List.take_of_length_le (Nat.le_refl _)] at hall
      have hf : fewT l := ⟨by omega, hall⟩
      rw [decide_eq_true hf] at hQ
      simp (disch := omega) [octroilaw16_Few_r4, octroilaw16_Few_r8, e0, e3, hv]
      exact .to _ (.refl _) hQ
    · obtain ⟨x, hx⟩ : ∃ x, l[i]? = some x := ⟨_, List.getElem?_eq_getElem (by omega)⟩
      obtain ⟨og, b, o, cap, c, E, fr, hv', hb, q⟩ := op16_at A hx
      have hi' : i < l.length := by omega
      have bad : ¬ (0 ≤ x.now ∧ x.now ≤ 1099511627776) → ¬ fewT l := fun q1 q2 => q1 (q2.2 x (List.mem_of_getElem? hx))
      by_cases c1 : x.now < 0
      · rw [decide_eq_false (bad (by omega))] at hQ
        simp (disch := omega) [octroilaw16_Few_r4, octroilaw16_Few_r5, octroilaw16_Few_r6, e0, e3, hv', hb, q, hi', c1]
        exact .to _ (.refl _) hQ
      by_cases c2 : 1099511627776 < x.now
      · rw [decide_eq_false (bad (by omega))] at hQ
        simp (disch := omega) [octroilaw16_Few_r4, octroilaw16_Few_r5, octroilaw16_Few_r6, e0, e3, hv', hb, q, hi', c1, c2]
        exact .to _ (.refl _) hQ
      simp (disch := omega) [octroilaw16_Few_r4, octroilaw16_Few_r5, octroilaw16_Few_r7, e0, e3, hv', hb, q, hi', c1, c2, wrap_i64]
      refine ⟨n - 1, by omega, i + 1, rfl, by omega, fun o ho => ?_, by simp [e0, hv'], by simp⟩
      rw [take_snoc hx] at ho
      rcases List.mem_append.1 ho with q1 | q1
      · exact hall o q1
      · simp at q1; subst q1; omega
end Go.Proofs.Ytpfenhikoajghaa

/- RIP: what a neighbour tells of a prefix that is not known is a way by it; a better one takes its place. -/
namespace Go.Proofs.Ytpfenhikoajghaa
open Go
set_option linter.unusedSimpArgs false
set_option linter.unusedVariables false

theorem hasT_zero {d : Int} : hasT 0 d = false := by
  unfold hasT
  cases h1 : decide (0 ≤ d) <;> cases h2 : decide (d < 16) <;> simp

theorem hear_new {most f c : Int} {k : PK} {N now : Int} (hm : mayB k.1 k.2 = true) (hf : 1 ≤ f ∧ f ≤ 32) (hc : 1 ≤ c ∧ c ≤ 16) (hN : 1 ≤ N ∧ N ≤ 16) (hmo : 0 < most) (dom : Int) :
    hearR [] dom most f c k 0 N now = if 16 ≤ N + c then (false, 0, []) else (true, 0, [(k, ⟨N + c, f, now + 180, 0⟩)]) := by
  unfold hearR
  rw [if_neg (by rw [hm]; simp; omega), if_neg (by rw [hasT_zero]; simp)]
  simp only [getM_nil]
  by_cases q : 16 ≤ N + c
  · have : addM N c 16 = 16 := by unfold addM; omega
    rw [if_pos this, if_pos q]
  · have : addM N c 16 = N + c := by unfold addM; omega
    rw [this, if_neg (by omega), if_neg q, if_neg (by simp; omega)]
    rfl
theorem hear_one {dom most f c : Int} {k : PK} {x : Rr} {N now : Int} (hm : mayB k.1 k.2 = true) (hf : 1 ≤ f ∧ f ≤ 32) (hc : 1 ≤ c ∧ c ≤ 16) (hN : 1 ≤ N ∧ N ≤ 16) (hx : x.m < 16) (hn : x.n ≠ 0) (hn2 : x.n ≠ f) :
    hearR [(k, x)] dom most f c k 0 N now = if N + c < x.m then (true, 0, [(k, ⟨N + c, f, now + 180, 0⟩)]) else (false, 0, [(k, x)]) := by
  unfold hearR
  rw [if_neg (by rw [hm]; simp; omega), if_neg (by rw [hasT_zero]; simp)]
  simp only [getM_cons, if_true]
  unfold hearX
  rw [if_neg (by simp [hn]), if_neg (by simp [hn2])]
  by_cases q : N + c < x.m
  · have : addM N c 16 = N + c := by unfold addM; omega
    rw [this, if_pos q, if_pos q]
    simp [setM]
  · have : ¬ addM N c 16 < x.m := by unfold addM; omega
    rw [if_neg this, if_neg q]
    simp [setM]

theorem hear_arg {S : RS} {dom most f c : Int} {k : PK} {tag : Nat} {N now : Int} (hm : mayB k.1 k.2 = false) : hearR S dom most f c k tag N now = (false, 1, S) := by
  unfold hearR; rw [if_pos (.inr (.inr (.inr (.inr (.inl hm)))))]

set_option maxHeartbeats 2000000 in
set_option maxRecDepth 20000 in
theorem RipWays_walk {h : Hp} {k : PK} {a b one two : Int} (hk : k.1 < 2 ^ 32) :
    Ok Try.prog F_octroilaw16_RipWays #[.agg #[.int .u32 (k.1 : Nat), .int .i64 k.2], .int .i64 a, .int .i64 b, .int .i64 one, .int .i64 two] h (fun v g => v = .bool true ∧ Le h g) := by
  refine octroilaw16_RipWays_ok (by simp) ?_
  unfold octroilaw16_RipWays_D
  simp (disch := omega) [octroilaw16_RipWays_r0]
  intro b5 hb5
  have l5 : Le h (h.upd b5 (.cells #[.int .u32 (k.1 : Nat), .int .i64 k.2] 24)) := .new hb5
  have f5 : (h.upd b5 (.cells #[.int .u32 (k.1 : Nat), .int .i64 k.2] 24)) b5 = some (.cells #[.int .u32 (k.1 : Nat), .int .i64 k.2] 24) := upd_same
  generalize h.upd b5 (.cells #[.int .u32 (k.1 : Nat), .int .i64 k.2] 24) = h1 at *
  simp (disch := omega) [octroilaw16_RipWays_r1]
  refine awake16 (fun h2 l2 => ?_)
  simp (disch := omega) [octroilaw16_RipWays_r2]
  refine newO (by omega) (fun p r g1 R1 => ?_)
  replace R1 := R1.less l2
  rw [show (min 64 64 : Int) = 64 from rfl] at R1
  have hle := l5.trans R1.le
  by_cases g1' : a < 1
  · simp (disch := omega) [octroilaw16_RipWays_r3, octroilaw16_RipWays_r4, g1']
    exact .to _ (.refl _) ⟨rfl, hle⟩
  by_cases g2 : b < 1
  · simp (disch := omega) [octroilaw16_RipWays_r3, octroilaw16_RipWays_r4, g1', g2]
    exact .to _ (.refl _) ⟨rfl, hle⟩
  by_cases g3 : 16 < a
  · simp (disch := omega) [octroilaw16_RipWays_r3, octroilaw16_RipWays_r4, g1', g2, g3]
    exact .to _ (.refl _) ⟨rfl, hle⟩
  by_cases g4 : 16 < b
  · simp (disch := omega) [octroilaw16_RipWays_r3, octroilaw16_RipWays_r4, g1', g2, g3, g4]
    exact .to _ (.refl _) ⟨rfl, hle⟩
  by_cases g5 : one < 1
  · simp (disch := omega) [octroilaw16_RipWays_r3, octroilaw16_RipWays_r4, g1', g2, g3, g4, g5]
    exact .to _ (.refl _) ⟨rfl, hle⟩
  by_cases g6 : two < 1
  · simp (disch := omega) [octroilaw16_RipWays_r3, octroilaw16_RipWays_r4, g1', g2, g3, g4, g5, g6]
    exact .to _ (.refl _) ⟨rfl, hle⟩
  by_cases g7 : 16 < one
  · simp (disch := omega) [octroilaw16_RipWays_r3, octroilaw16_RipWays_r4, g1', g2, g3, g4, g5, g6, g7]
    exact .to _ (.refl _) ⟨rfl, hle⟩
  by_cases g8 : 16 < two
  · simp (disch := omega) [octroilaw16_RipWays_r3, octroilaw16_RipWays_r4, g1', g2, g3, g4, g5, g6, g7, g8]
    exact .to _ (.refl _) ⟨rfl, hle⟩
  have fb1 := R1.le _ _ f5
  simp (disch := omega) [octroilaw16_RipWays_r3, octroilaw16_RipWays_r5, g1', g2, g3, g4, g5, g6, g7, g8, fb1]
  refine hearO (k := k) (tag := 0) (nx := 0) R1 (by omega) hk (by decide) (by omega) (by omega) (fun g2 R2 => ?_)
  have fb2 := R2.le _ _ f5
  simp (disch := omega) [octroilaw16_RipWays_r6, fb2]
  refine hearO (k := k) (tag := 0) (nx := 0) R2 (by omega) hk (by decide) (by omega) (by omega) (fun g3 R3 => ?_)
  cases hm : mayB k.1 k.2 with
  | false =>
    rw [hear_arg hm] at R3 ⊢
    rw [hear_arg hm] at R3 ⊢
    simp only at R3
    simp (disch := omega) [octroilaw16_RipWays_r7, octroilaw16_RipWays_r8]
    refine lenO R3 ?_
    simp (disch := omega)
    exact .to _ (.refl _) ⟨rfl, l5.trans R3.le⟩
  | true =>
    have e1 := hear_new (most := 64) (f := 1) (c := one) (k := k) (N := a) (now := 0) hm (by omega) (by omega) (by omega) (by omega) 0
    have ea : (hearR [] 0 64 1 one k 0 a 0).2.1 = 0 := by rw [e1]; split <;> rfl
    rw [ea]
    have key : ∀ (S : RS) (c : Int), RipO h1 g3 p r 0 64 S → (∀ ks, ks.Perm (S.map (·.1)) → (16 ≤ a + one ∧ 16 ≤ b + two → allL 0 S ks = []) ∧ (b + two < a + one → b + two < 16 → allL 0 S ks = [⟨k.1, k.2, 0, 120, b + two, 2, 0⟩]) ∧ (a + one ≤ b + two → a + one < 16 → allL 0 S ks = [⟨k.1, k.2, 0, 120, a + one, 1, 0⟩])) →
        ∀ env : Env, env 1 = .int .i64 a → env 2 = .int .i64 b → env 3 = .int .i64 one → env 4 = .int .i64 two → env 12 = .pointer (some ⟨p, 0, none⟩) → env 14 = .int .i64 0 →
        octroilaw16_RipWays_r7 env g3 (thenK (cnd (.tmp 84) (sq (rg octroilaw16_RipWays_r8) (ex .ret)) (ex .normal)) (thenK (sq (rg octroilaw16_RipWays_r9) (sq (rg octroilaw16_RipWays_r10) (sq (rg octroilaw16_RipWays_r11) (sq (sq (rg octroilaw16_RipWays_r12) (cnd (.tmp 105) (sq (rg octroilaw16_RipWays_r13) (ex .ret)) (ex .normal))) (sq (sq (rg octroilaw16_RipWays_r14) (cnd (.tmp 111) (sq (rg octroilaw16_RipWays_r15) (ex .ret)) (ex .normal))) (sq (sq (rg octroilaw16_RipWays_r16) (cnd (.tmp 114) (sq (rg octroilaw16_RipWays_r17) (ex .ret)) (ex .normal))) (sq (rg octroilaw16_RipWays_r18) (ex .ret)))))))) (fin Try.prog [.tmp 10] fun v g => v = .bool true ∧ Le h g)) .normal) := by
      intro S c R hall env e1 e2 e3 e4 e12 e14
      simp (disch := omega) [octroilaw16_RipWays_r7, octroilaw16_RipWays_r9, octroilaw16_RipWays_r10, octroilaw16_RipWays_r11, e1, e2, e3, e4, e12, e14, wrap_i64]
      refine allO R (fun w ks B' g4 l4 R4 S4 hp4 hs4 u4 => ?_)
      obtain ⟨q1, q2, q3⟩ := hall ks hp4
      have lf := l5.trans (l4.trans R4.le)
      by_cases c1 : 16 ≤ a + one ∧ 16 ≤ b + two
      · rw [q1 c1] at S4
        obtain ⟨sp, cap, hw⟩ := S4.shape'
        subst hw
        simp (disch := omega) [octroilaw16_RipWays_r12, octroilaw16_RipWays_r13, c1.1, c1.2]
        exact .to _ (.refl _) ⟨rfl, lf⟩
      · have fin2 : ∀ y : Rt, allL 0 S ks = [y] → (b + two < a + one → y.m = b + two ∧ y.nx = 2) → (¬ b + two < a + one → y.m = a + one ∧ y.nx = 1) →
            ∀ env : Env, env 17 = .int .i64 (a + one) → env 18 = .int .i64 (b + two) → env 19 = w →
            octroilaw16_RipWays_r14 env g4 (thenK (cnd (.tmp 111) (sq (rg octroilaw16_RipWays_r15) (ex .ret)) (ex .normal)) (thenK (sq (sq (rg octroilaw16_RipWays_r16) (cnd (.tmp 114) (sq (rg octroilaw16_RipWays_r17) (ex .ret)) (ex .normal))) (sq (rg octroilaw16_RipWays_r18) (ex .ret))) (fin Try.prog [.tmp 10] fun v g => v = .bool true ∧ Le h g)) .normal) := by
          intro y hy y1 y2 env e17 e18 e19
          rw [hy] at S4
          obtain ⟨bb, cc, dd, ew, hbb, t0, t1, t2, t3, t4, t5, t6⟩ := rt_at (i := 0) S4 rfl
          simp only [List.length_singleton] at ew
          simp at t0 t1 t2 t3 t4 t5 t6
          have hbg := R4.le _ _ hbb
          by_cases c2 : b + two < a + one
          · simp (disch := omega) [octroilaw16_RipWays_r14, octroilaw16_RipWays_r16, octroilaw16_RipWays_r17, e17, e18, e19, ew, c2, hbg, t4, t5, (y1 c2).1, (y1 c2).2]
            exact .to _ (.refl _) ⟨rfl, lf⟩
          · simp (disch := omega) [octroilaw16_RipWays_r14, octroilaw16_RipWays_r16, octroilaw16_RipWays_r18, e17, e18, e19, ew, c2, hbg, t4, t5, (y2 c2).1, (y2 c2).2]
            exact .to _ (.refl _) ⟨rfl, lf⟩
        have fin3 : ∀ env : Env, env 17 = .int .i64 (a + one) → env 18 = .int .i64 (b + two) → env 19 = w →
            octroilaw16_RipWays_r14 env g4 (thenK (cnd (.tmp 111) (sq (rg octroilaw16_RipWays_r15) (ex .ret)) (ex .normal)) (thenK (sq (sq (rg octroilaw16_RipWays_r16) (cnd (.tmp 114) (sq (rg octroilaw16_RipWays_r17) (ex .ret)) (ex .normal))) (sq (rg octroilaw16_RipWays_r18) (ex .ret))) (fin Try.prog [.tmp 10] fun v g => v = .bool true ∧ Le h g)) .normal) := by
          intro env e17 e18 e19
          by_cases c2 : b + two < a + one
          · exact fin2 _ (q2 c2 (by omega)) (fun _ => ⟨rfl, rfl⟩) (fun q => absurd c2 q) env e17 e18 e19
          · exact fin2 _ (q3 (by omega) (by omega)) (fun q => absurd q c2) (fun _ => ⟨rfl, rfl⟩) env e17 e18 e19
        by_cases c3 : 16 ≤ a + one
        · have c4 : ¬ 16 ≤ b + two := fun q => c1 ⟨c3, q⟩
          simp (disch := omega) [octroilaw16_RipWays_r12, c3, c4]
          refine fin3 _ ?_ ?_ ?_ <;> simp
        · simp (disch := omega) [octroilaw16_RipWays_r12, c3]
          refine fin3 _ ?_ ?_ ?_ <;> simp
    have single : ∀ {ks : List PK}, ks.Perm [k] → ks = [k] := fun q => List.perm_singleton.1 q
    have hS : (∀ ks, ks.Perm ((hearR (hearR [] 0 64 1 one k 0 a 0).2.2 0 64 2 two k 0 b 0).2.2.map (·.1)) → (16 ≤ a + one ∧ 16 ≤ b + two → allL 0 (hearR (hearR [] 0 64 1 one k 0 a 0).2.2 0 64 2 two k 0 b 0).2.2 ks = []) ∧ (b + two < a + one → b + two < 16 → allL 0 (hearR (hearR [] 0 64 1 one k 0 a 0).2.2 0 64 2 two k 0 b 0).2.2 ks = [⟨k.1, k.2, 0, 120, b + two, 2, 0⟩]) ∧ (a + one ≤ b + two → a + one < 16 → allL 0 (hearR (hearR [] 0 64 1 one k 0 a 0).2.2 0 64 2 two k 0 b 0).2.2 ks = [⟨k.1, k.2, 0, 120, a + one, 1, 0⟩])) := by
      intro ks
      rw [e1]
      by_cases q1 : 16 ≤ a + one
      · rw [if_pos q1]
        rw [hear_new (most := 64) (f := 2) (c := two) (k := k) (N := b) (now := 0) hm (by omega) (by omega) (by omega) (by omega) 0]
        by_cases q2 : 16 ≤ b + two
        · rw [if_pos q2]
          intro hp
          have : ks = [] := hp.eq_nil
          subst this
          refine ⟨fun _ => rfl, fun _ _ => by omega, fun _ _ => by omega⟩
        · rw [if_neg q2]
          intro hp
          rw [single hp]
          refine ⟨fun _ => by omega, fun _ q3 => ?_, fun _ _ => by omega⟩
          simp [allL, getM_cons, allX, q3]
      · rw [if_neg q1]
        rw [hear_one (x := ⟨a + one, 1, 0 + 180, 0⟩) hm (by omega) (by omega) (by omega) (by simp; omega) (by simp) (by simp)]
        by_cases q2 : b + two < a + one
        · rw [if_pos q2]
          intro hp
          rw [single hp]
          refine ⟨fun _ => by omega, fun _ q3 => ?_, fun _ _ => by omega⟩
          simp [allL, getM_cons, allX, q3]
        · rw [if_neg q2]
          intro hp
          rw [single hp]
          refine ⟨fun _ => by omega, fun _ _ => by omega, fun _ q3 => ?_⟩
          simp [allL, getM_cons, allX, q3]
    simp (disch := omega)
    refine key _ 0 R3 hS _ ?_ ?_ ?_ ?_ ?_ ?_ <;> simp
end Go.Proofs.Ytpfenhikoajghaa

/- PfR: a flat struct (printed by wip/lib/struct.py). -/
namespace Go.Proofs.Ytpfenhikoajghaa
open Go
set_option linter.unusedSimpArgs false
set_option linter.unusedVariables false

structure PfR where
  a : Nat
  n : Int
deriving DecidableEq

def PfR.enc (x : PfR) : List Value := [.int .u32 (x.a : Nat), .int .i64 x.n]
abbrev PfRv (x : PfR) : Value := .agg #[.int .u32 (x.a : Nat), .int .i64 x.n]
abbrev PfR.cells (x : PfR) : Array Value := #[.int .u32 (x.a : Nat), .int .i64 x.n]
structure PfR.Good (x : PfR) : Prop where
  a : x.a < 2 ^ 32
theorem PfR.one (x : PfR) : (PfR.enc x).length = 2 ∧ ∀ u ∈ PfR.enc x, oneCell u = true := ⟨rfl, by simp [PfR.enc]⟩

def PfRKs : List Lk := [.int .u32, .int .i64]
theorem dec_PfR {H : Type} {enc : TypeId × Value → H} {w : World} {base : Nat} {spare : Nat → Bool} {held : Bool} (cs : List Value) (h : okLs enc Try.prog w base spare held PfRKs cs) : ∃ x : PfR, cs = x.enc ∧ x.Good := by
  obtain ⟨a0, _, rfl, w0, h⟩ := okLs_int h
  obtain ⟨a1, _, rfl, w1, h⟩ := okLs_int h
  obtain rfl := okLs_nil h
  obtain ⟨b0, rfl, g0⟩ := u32_wf w0
  exact ⟨⟨b0, a1⟩, rfl, ⟨g0⟩⟩
end Go.Proofs.Ytpfenhikoajghaa

/- RIP: when as many routes as may be are known a new one is refused; those that are known may still be heard anew. -/
namespace Go.Proofs.Ytpfenhikoajghaa
open Go
set_option linter.unusedSimpArgs false
set_option linter.unusedVariables false

def fk (c : Nat) : PK := ((200 + c) * 16777216, 8)
def isFk (c : Nat) (k : PK) : Bool := decide (k.2 = 8) && (decide (k.1 % 16777216 = 0) && (decide (200 ≤ k.1 / 16777216) && decide (k.1 / 16777216 < 200 + c)))
def FillP (c : Nat) (S : RS) : Prop := S.length = c ∧ ∀ k, getM S k = if isFk c k = true then some ⟨6, 1, 180, 0⟩ else none

theorem isFk_succ {c : Nat} {k : PK} : isFk (c + 1) k = true ↔ k = fk c ∨ isFk c k = true := by
  unfold isFk fk
  obtain ⟨a, n⟩ := k
  simp only [Bool.and_eq_true, decide_eq_true_eq, Prod.mk.injEq]
  constructor
  · rintro ⟨h1, h2, h3, h4⟩
    by_cases q : a = (200 + c) * 16777216
    · exact .inl ⟨q, h1⟩
    · exact .inr ⟨h1, h2, h3, by omega⟩
  · rintro (⟨h1, h2⟩ | ⟨h1, h2, h3, h4⟩)
    · exact ⟨h2, by omega, by omega, by omega⟩
    · exact ⟨h1, h2, h3, by omega⟩
theorem isFk_fk {c : Nat} : isFk c (fk c) = false := by
  unfold isFk fk
  simp
theorem mayB_fk {k : PK} (h1 : k.2 = 8) (h2 : k.1 % 16777216 = 0) : mayB k.1 k.2 = true := by
  unfold mayB; rw [h1]; simpa using h2
theorem fill_step {c : Nat} {S : RS} {most : Int} (F : FillP c S) (hc : (c : Int) < most) :
    (hearR S 0 most 1 1 (fk c) 0 5 0).1 = true ∧ (hearR S 0 most 1 1 (fk c) 0 5 0).2.1 = 0 ∧ FillP (c + 1) (hearR S 0 most 1 1 (fk c) 0 5 0).2.2 := by
  have hm := mayB_fk (k := fk c) rfl (by unfold fk; omega)
  unfold hearR
  rw [if_neg (by rw [hm]; simp), if_neg (by rw [hasT_zero]; simp)]
  have hg := F.2 (fk c)
  rw [isFk_fk, if_neg (by simp)] at hg
  have ha : addM 5 1 16 = 6 := by decide
  simp only [hg]
  rw [ha, if_neg (by omega), if_neg (by rw [F.1]; omega)]
  refine ⟨rfl, rfl, ?_, fun k => ?_⟩
  · show (setM (fk c) _ S).length = c + 1
    rw [setM_length, hg, F.1]; rfl
  · show getM (setM (fk c) _ S) k = _
    rw [getM_setM, F.2 k]
    by_cases q : k = fk c
    · rw [if_pos q, if_pos (isFk_succ.2 (.inl q))]; rfl
    · rw [if_neg q]
      by_cases q2 : isFk c k = true
      · rw [if_pos q2, if_pos (isFk_succ.2 (.inr q2))]
      · rw [if_neg q2, if_neg (fun q3 => (isFk_succ.1 q3).elim q q2)]

/-- What is told of any prefix, and then of the first one. -/
theorem full_end {c : Nat} {S : RS} {most n : Int} {k : PK} (F : FillP c S) (hc : (c : Int) = most) (h1 : 1 ≤ c) (n1 : 1 ≤ n) (n2 : n ≤ 14) :
    (decide ((hearR S 0 most 1 1 k 0 n 0).2.1 = 0) = isFk c k) ∧ (hearR (hearR S 0 most 1 1 k 0 n 0).2.2 0 most 2 1 (3355443200, 8) 0 1 0).2.2.length = c ∧
    (hearR (hearR S 0 most 1 1 k 0 n 0).2.2 0 most 2 1 (3355443200, 8) 0 1 0).2.1 = 0 ∧
    ((hearR (hearR S 0 most 1 1 k 0 n 0).2.2 0 most 2 1 (3355443200, 8) 0 1 0).1 = true ∨ (isFk c k = true ∧ n = 1)) := by
  have hm0 : mayB 3355443200 8 = true := by decide
  have a1 : addM 1 1 16 = 2 := by decide
  have an : addM n 1 16 = n + 1 := by unfold addM; omega
  have f0 : isFk c (3355443200, 8) = true := by unfold isFk; simp; omega
  have second : ∀ (T : RS) (x : Rr), T.length = c → getM T (3355443200, 8) = some x → x.n = 1 → x.m < 16 → (2 < x.m ∨ (isFk c k = true ∧ n = 1)) →
      (hearR T 0 most 2 1 (3355443200, 8) 0 1 0).2.2.length = c ∧ (hearR T 0 most 2 1 (3355443200, 8) 0 1 0).2.1 = 0 ∧ ((hearR T 0 most 2 1 (3355443200, 8) 0 1 0).1 = true ∨ (isFk c k = true ∧ n = 1)) := by
    intro T x hT hx hn hm16 hm
    unfold hearR
    rw [if_neg (by rw [hm0]; simp), if_neg (by rw [hasT_zero]; simp)]
    simp only [hx]
    rw [a1]
    refine ⟨by rw [setM_length, hx]; simpa using hT, trivial, ?_⟩
    rcases hm with hm | hm
    · left
      unfold hearX
      rw [if_neg (by omega), if_neg (by omega), if_pos hm]
    · exact .inr hm
  have stays : hearR S 0 most 1 1 k 0 n 0 = hearR S 0 most 1 1 k 0 n 0 → ∀ w, hearR S 0 most 1 1 k 0 n 0 = (false, w, S) → w ≠ 0 → isFk c k = false →
      (decide ((hearR S 0 most 1 1 k 0 n 0).2.1 = 0) = isFk c k) ∧ (hearR (hearR S 0 most 1 1 k 0 n 0).2.2 0 most 2 1 (3355443200, 8) 0 1 0).2.2.length = c ∧
    (hearR (hearR S 0 most 1 1 k 0 n 0).2.2 0 most 2 1 (3355443200, 8) 0 1 0).2.1 = 0 ∧
    ((hearR (hearR S 0 most 1 1 k 0 n 0).2.2 0 most 2 1 (3355443200, 8) 0 1 0).1 = true ∨ (isFk c k = true ∧ n = 1)) := by
    intro _ w hw w0 hk
    rw [hw]
    refine ⟨by rw [hk]; simpa using w0, ?_⟩
    exact second S ⟨6, 1, 180, 0⟩ F.1 (by rw [F.2, if_pos f0]) rfl (by simp) (.inl (by simp))
  cases hm : mayB k.1 k.2 with
  | false =>
    refine stays rfl 1 ?_ (by omega) ?_
    · exact hear_arg hm
    · cases hk : isFk c k with
      | false => rfl
      | true =>
        unfold isFk at hk
        simp only [Bool.and_eq_true, decide_eq_true_eq] at hk
        rw [mayB_fk hk.1 hk.2.1] at hm
        cases hm
  | true =>
    cases hk : isFk c k with
    | false =>
      refine hk ▸ stays rfl 4 ?_ (by omega) hk
      have hg := F.2 k
      rw [hk, if_neg (by simp)] at hg
      unfold hearR
      rw [if_neg (by rw [hm]; simp; omega), if_neg (by rw [hasT_zero]; simp)]
      simp only [hg]
      rw [an, if_neg (by omega), if_pos (by rw [F.1]; omega)]
    | true =>
      have hg := F.2 k
      rw [hk, if_pos rfl] at hg
      have e1 : hearR S 0 most 1 1 k 0 n 0 = (decide (n + 1 ≠ 6 ∨ (0 : Nat) ≠ 0), 0, setM k ⟨n + 1, 1, 180, 0⟩ S) := by
        unfold hearR
        rw [if_neg (by rw [hm]; simp; omega), if_neg (by rw [hasT_zero]; simp)]
        simp only [hg]
        rw [an]
        unfold hearX
        rw [if_neg (by simp), if_pos (by simp), if_neg (by omega)]
        rfl
      rw [e1]
      refine ⟨by simp, ?_⟩
      rw [hk] at second
      have hl : (setM k (⟨n + 1, 1, 180, 0⟩ : Rr) S).length = c := by rw [setM_length, hg]; simpa using F.1
      by_cases q : (3355443200, 8) = k
      · refine second _ ⟨n + 1, 1, 180, 0⟩ hl (by rw [getM_setM, if_pos q]) rfl (by simp; omega) ?_
        by_cases q1 : n = 1
        · exact .inr ⟨rfl, q1⟩
        · exact .inl (by simp; omega)
      · exact second _ ⟨6, 1, 180, 0⟩ hl (by rw [getM_setM, if_neg q, F.2, if_pos f0]) rfl (by simp) (.inl (by simp))

def RvInv (h0 : Hp) (p r b4 : Nat) (most n : Int) (cnt : Nat) (env : Env) (g : Hp) : Prop :=
  ∃ (c : Nat) (S : RS), (c : Int) + cnt = most ∧ FillP c S ∧ RipO h0 g p r 0 most S ∧ env 0 = .int .i64 most ∧ env 2 = .int .i64 n ∧ env 4 = .pointer (some ⟨b4, 0, none⟩) ∧ env 8 = .pointer (some ⟨p, 0, none⟩) ∧ env 9 = .int .i64 (c : Nat)

set_option maxHeartbeats 1000000 in
set_option maxRecDepth 20000 in
theorem RipFull_walk {h : Hp} {x0 : PfR} {most n : Int} (hk : x0.Good) (hmost : most < 9223372036854775808) :
    Ok Try.prog F_octroilaw16_RipFull #[.int .i64 most, .agg x0.enc.toArray, .int .i64 n] h (fun v g => v = .bool true ∧ Le h g) := by
  obtain ⟨k, hkx, hk1⟩ : ∃ k : PK, x0.enc.toArray = (kencP k).toArray ∧ k.1 < 2 ^ 32 := ⟨(x0.a, x0.n), rfl, hk.a⟩
  rw [hkx]
  clear hkx hk x0
  refine octroilaw16_RipFull_ok (by simp) ?_
  unfold octroilaw16_RipFull_D
  simp (disch := omega) [octroilaw16_RipFull_r0]
  intro b4 hb4
  show octroilaw16_RipFull_r1 _ (h.upd b4 (.cells #[.int .u32 (k.1 : Nat), .int .i64 k.2] 24)) _
  have l4 : Le h (h.upd b4 (.cells #[.int .u32 (k.1 : Nat), .int .i64 k.2] 24)) := .new hb4
  have f4 : (h.upd b4 (.cells #[.int .u32 (k.1 : Nat), .int .i64 k.2] 24)) b4 = some (.cells #[.int .u32 (k.1 : Nat), .int .i64 k.2] 24) := upd_same
  generalize h.upd b4 (.cells #[.int .u32 (k.1 : Nat), .int .i64 k.2] 24) = h1 at *
  simp (disch := omega) [octroilaw16_RipFull_r1]
  refine awake16 (fun h2 l2 => ?_)
  simp (disch := omega) [octroilaw16_RipFull_r2]
  refine newO (by omega) (fun p r g1 R1 => ?_)
  replace R1 := R1.less l2
  have hle := l4.trans R1.le
  by_cases m1 : most < 1
  · simp (disch := omega) [octroilaw16_RipFull_r3, octroilaw16_RipFull_r4, m1]
    exact .to _ (.refl _) ⟨rfl, hle⟩
  by_cases m2 : 20 < most
  · simp (disch := omega) [octroilaw16_RipFull_r3, octroilaw16_RipFull_r4, m1, m2]
    exact .to _ (.refl _) ⟨rfl, hle⟩
  by_cases n1 : n < 1
  · simp (disch := omega) [octroilaw16_RipFull_r3, octroilaw16_RipFull_r4, m1, m2, n1]
    exact .to _ (.refl _) ⟨rfl, hle⟩
  by_cases n2 : 14 < n
  · simp (disch := omega) [octroilaw16_RipFull_r3, octroilaw16_RipFull_r4, m1, m2, n1, n2]
    exact .to _ (.refl _) ⟨rfl, hle⟩
  rw [show min most 64 = most by omega] at R1
  simp (disch := omega) [octroilaw16_RipFull_r3, octroilaw16_RipFull_r5, m1, m2, n1, n2]
  refine ⟨RvInv h1 p r b4 most n, ⟨most.toNat, 0, [], by omega, ⟨rfl, fun k => ?_⟩, R1, by simp, by simp, by simp, by simp, by simp⟩, ?_⟩
  · rw [getM_nil, if_neg]
    unfold isFk
    simp only [Bool.and_eq_true, decide_eq_true_eq]
    omega
  rintro cnt env g ⟨c, S, hin, F, R, e0, e2, e4, e8, e9⟩
  have f4g := R.le _ _ f4
  unfold octroilaw16_RipFull_L0
  by_cases hm : cnt = 0
  · have hc : (c : Int) = most := by omega
    obtain ⟨z1, z2, z3, z4⟩ := full_end (k := k) (n := n) F hc (by omega) (by omega) (by omega)
    simp (disch := omega) [octroilaw16_RipFull_r6, octroilaw16_RipFull_r11, e0, e2, e4, e8, e9, hc, f4g]
    refine hearO (k := k) (tag := 0) (nx := 0) R (by omega) hk1 (by decide) (by omega) (by omega) (fun g3 R3 => ?_)
    have f43 := R3.le _ _ f4
    generalize hearR S 0 most 1 1 k 0 n 0 = Z1 at *
    simp (disch := omega) [octroilaw16_RipFull_r12, e0, e2, e4, e8, e9, f43]
    refine hearO (k := (3355443200, 8)) (tag := 0) (nx := 0) R3 (by omega) (by decide) (by decide) (by omega) (by omega) (fun g4 R4 => ?_)
    have f44 := R4.le _ _ f4
    generalize hearR Z1.2.2 0 most 2 1 (3355443200, 8) 0 1 0 = Z2 at *
    have fin14 : ∀ env : Env, env 0 = .int .i64 most → env 2 = .int .i64 n → env 8 = .pointer (some ⟨p, 0, none⟩) → env 13 = .int .i64 Z1.2.1 → env 14 = .bool Z2.1 → env 15 = .int .i64 Z2.2.1 → env 16 = .bool (isFk c k) →
        octroilaw16_RipFull_r14 env g4 (thenK (ex .ret) (fin Try.prog [.tmp 6] fun v g => v = .bool true ∧ Le h g) .normal) := by
      clear e0 e2 e4 e8 e9
      intro env e0 e2 e8 e13 e14 e15 e16
      rw [← z1] at e16 z4
      by_cases q : Z1.2.1 = 0
      · rw [decide_eq_true q] at e16 z4
        simp (disch := omega) [octroilaw16_RipFull_r14, e0, e2, e8, e13, e14, e15, e16, q]
        refine lenO R4 ?_
        rw [z2]
        cases hz : Z2.1 with
        | true =>
          simp (disch := omega) [hc, z3, e0, e2, e14, e15, e16, hz]
          exact .to _ (.refl _) ⟨rfl, l4.trans R4.le⟩
        | false =>
          rw [hz] at z4
          have hn1 : n = 1 := by simpa using z4
          simp (disch := omega) [hc, z3, e0, e2, e14, e15, e16, hz, hn1]
          exact .to _ (.refl _) ⟨rfl, l4.trans R4.le⟩
      · rw [decide_eq_false q] at e16 z4
        have hz : Z2.1 = true := by simpa using z4
        simp (disch := omega) [octroilaw16_RipFull_r14, e0, e2, e8, e13, e14, e15, e16, q]
        refine lenO R4 ?_
        rw [z2]
        simp (disch := omega) [hc, z3, e0, e2, e14, e15, e16, hz]
        exact .to _ (.refl _) ⟨rfl, l4.trans R4.le⟩
    have hfk : isFk c k = (decide (k.2 = 8) && (decide (k.1 % 16777216 = 0) && (decide (200 ≤ k.1 / 16777216) && decide (k.1 / 16777216 < 200 + c)))) := rfl
    rw [hfk] at fin14
    have td : (k.1 : Int).fdiv 16777216 = (k.1 : Int) / 16777216 := Int.fdiv_eq_ediv_of_nonneg _ (by omega)
    by_cases c0 : k.2 = 8
    · by_cases c1 : k.1 % 16777216 = 0
      · have c1' : (k.1 : Int) % 16777216 = 0 := by omega
        have t1 : Int.tmod (k.1 : Int) 16777216 = 0 := by rw [Int.tmod_eq_emod_of_nonneg (by omega)]; exact c1'
        by_cases c2 : 200 ≤ k.1 / 16777216
        · have c2' : 200 ≤ (k.1 : Int) / 16777216 := by omega
          by_cases c3 : k.1 / 16777216 < 200 + c
          · have c3' : (k.1 : Int) / 16777216 < 200 + most := by omega
            simp (disch := omega) [octroilaw16_RipFull_r13, e0, e2, e4, e8, e9, f44, c0, c1, c1', t1, td, c2, c2', c3, c3', wrap_i64, wrap_u32]
            refine fin14 _ ?_ ?_ ?_ ?_ ?_ ?_ ?_ <;> simp [e0, e2, e8, c0, c1, c1', c2, c3]
          · have c3' : ¬ (k.1 : Int) / 16777216 < 200 + most := by omega
            simp (disch := omega) [octroilaw16_RipFull_r13, e0, e2, e4, e8, e9, f44, c0, c1, c1', t1, td, c2, c2', c3, c3', wrap_i64, wrap_u32]
            refine fin14 _ ?_ ?_ ?_ ?_ ?_ ?_ ?_ <;> simp [e0, e2, e8, c0, c1, c1', c2, c3]
        · have c2' : ¬ 200 ≤ (k.1 : Int) / 16777216 := by omega
          simp (disch := omega) [octroilaw16_RipFull_r13, e0, e2, e4, e8, e9, f44, c0, c1, c1', t1, td, c2, c2', wrap_i64, wrap_u32]
          refine fin14 _ ?_ ?_ ?_ ?_ ?_ ?_ ?_ <;> simp [e0, e2, e8, c0, c1, c1', c2]
      · have c1' : ¬ (k.1 : Int) % 16777216 = 0 := by omega
        have t1 : ¬ Int.tmod (k.1 : Int) 16777216 = 0 := by rw [Int.tmod_eq_emod_of_nonneg (by omega)]; exact c1'
        simp (disch := omega) [octroilaw16_RipFull_r13, e0, e2, e4, e8, e9, f44, c0, c1, c1', t1]
        refine fin14 _ ?_ ?_ ?_ ?_ ?_ ?_ ?_ <;> simp [e0, e2, e8, c0, c1, c1']
    · simp (disch := omega) [octroilaw16_RipFull_r13, e0, e2, e4, e8, e9, f44, c0]
      refine fin14 _ ?_ ?_ ?_ ?_ ?_ ?_ ?_ <;> simp [e0, e2, e8, c0]
  · obtain ⟨s1, s2, s3⟩ := fill_step F (show (c : Int) < most by omega)
    have hlt : (c : Int) < most := by omega
    simp (disch := omega) [octroilaw16_RipFull_r6, octroilaw16_RipFull_r7, e0, e2, e4, e8, e9, wrap_i64, wrap_u32, hlt]
    rw [show ((200 + (c : Int)) * 16777216) = (((200 + c) * 16777216 : Nat) : Int) by omega]
    refine hearO (k := fk c) (tag := 0) (nx := 0) R (by omega) (by unfold fk; omega) (by decide) (by omega) (by omega) (fun g3 R3 => ?_)
    rw [s1, s2]
    simp (disch := omega) [octroilaw16_RipFull_r8, octroilaw16_RipFull_r10, e0, e2, e4, e8, e9, wrap_i64]
    exact ⟨cnt - 1, by omega, c + 1, _, by omega, s3, R3, by simp [e0], by simp [e2], by simp [e4], by simp [e8], by simp⟩
end Go.Proofs.Ytpfenhikoajghaa

/- RipFull: when as many routes as may be are known a new one is refused, and nothing changes; those that are known may still be heard anew: the row. No condition. -/
namespace Go.Proofs.Ytpfenhikoajghaa.RipFull_row
open Go Go.ChangeShapes Go.WideShapes Go.RowKit
theorem own_knob : ownKnob Try.prog.godebug = none := by kernel_rfl
theorem laid_out : laidOutB Try.prog = true := by kernel_rfl
set_option maxRecDepth 100000 in
theorem lifted (os : Os) (started : os.Started) (H : Type) (enc : TypeId × Value → H) :
    ReturnsInHanded {} Try.checked os 4 .any (Rows.ripFullSpec.pre6 enc Try.prog Try.f4 Rows.ripFullRow.domain false) (Rows.ripFullSpec.post enc Try.prog Try.f4 false true false false) := by
  refine returnsInHanded_of_change_sized (C := Try.checked) own_knob started (by kernel_rfl) Try.func4
    (ChangeSpec.witness6 (enc := enc) (C := Try.checked) false ⟨#[], #[.int .i64 0, .agg #[.int .u32 0, .int .i64 0], .int .i64 0], []⟩ 8 (by kernel_rfl) (by kernel_rfl) (by kernel_rfl) (by kernel_rfl)) ?_
  intro W base args ds gs before hval hW hcnd hsz _
  have hW' := hW
  obtain ⟨p, q, hA, hV, rfl, hfz, hnd⟩ := hW
  obtain ⟨rfl, rfl⟩ := trodVars_none hV
  have hA' : DataW.TrodAll enc Try.prog W 0 (fun _ => true) true Try.f4.params.toList args.toList ds p := hA
  have hval' : ∀ (j : Nat) t v, Try.f4.params[j]? = some t → args[j]? = some v → Value.okWide Try.prog W .any base t v := hval
  rw [Try.params4] at hA' hval'
  obtain ⟨v0, vs0, d0, ds0, p0, q0, hargs, rfl, rfl, h0, r0⟩ := trodAll_cons hA'
  obtain ⟨v1, vs1, d1, ds1, p1, q1, rfl, rfl, rfl, h1, r1⟩ := trodAll_cons r0
  obtain ⟨v2, vs2, d2, ds2, p2, q2, rfl, rfl, rfl, h2, r2⟩ := trodAll_cons r1
  obtain ⟨rfl, rfl, rfl⟩ := trodAll_nil r2
  obtain rfl : args = #[v0, v1, v2] := by cases args; simp_all
  obtain ⟨n0, rfl, rfl, rfl, w0⟩ := open_int Try.underlying3 (hval' 0 _ v0 rfl rfl) h0
  obtain ⟨⟨cs1⟩, rfl, k1⟩ := open_flat (ks := PfRKs) 4 Try.underlying24 (by kernel_rfl) (hval' 1 _ v1 rfl rfl) h1
  obtain ⟨x1, e1, hx1⟩ := dec_PfR _ k1
  simp only at e1
  subst e1
  obtain ⟨n2, rfl, rfl, rfl, w2⟩ := open_int Try.underlying3 (hval' 2 _ v2 rfl rfl) h2
  refine (below_of (RipFull_walk hx1 (i64_wf w0).2)).mono fun e W' ⟨he, bel⟩ => ?_
  subst he
  exact ⟨_, rfl, _, _, _, [], _, [], hW', trodAll_mk1 (shut_bool (by kernel_rfl) _), trodAll_below laid_out bel (by kernel_rfl) hA, rfl, bel.frame _, fun h => by cases h⟩
theorem over : Rows.ripFullRow.holds Try.pinned (OpenSpec.ofChange Rows.ripFullSpec) :=
  OpenClaim.holds_of_wide 4 Try.f4 rfl rfl rfl rfl rfl rfl rfl ⟨rfl, rfl, rfl, rfl, rfl⟩ rfl rfl rfl rfl rfl (by kernel_rfl) Try.func4 (by kernel_rfl)
    (of_decide_eq_true (by kernel_rfl)) (by unfold Func.isWrapper; first | (rw [if_pos (by decide +kernel)]; kernel_rfl) | (rw [if_neg (by decide +kernel)]; exact ⟨rfl, rfl⟩))
    (fun os started H enc _ => lifted os started H enc)
end Go.Proofs.Ytpfenhikoajghaa.RipFull_row
namespace Go.Proofs.Ytpfenhikoajghaa
theorem ripFull_holds : Rows.RipFullSaid := RipFull_row.over
#print axioms ripFull_holds
end Go.Proofs.Ytpfenhikoajghaa
