/- The table's plain law: its map and its trie agree, behind each call. -/
import Derived.Test.YtmbhlbohbpepaaaP4
namespace Go.Proofs.Ytmbhlbohbpepaaa
open Go
set_option linter.unusedSimpArgs false
set_option linter.unusedVariables false

def pf (k : RK) : Nat × Nat := (k.1.1, k.1.2.toNat)
def cntP (m : List (RK × Rt)) (p : Nat × Nat) : Nat := (m.map (·.1)).countP fun k => decide (pf k = p)

structure RInv (m : List (RK × Rt)) (T : PL) : Prop where
  uniq : Uniq m
  key : ∀ e ∈ m, e.1 = e.2.key ∧ mayR e.2 = true ∧ e.2.Good
  cnt : ∀ p, getL T p = if cntP m p = 0 then none else some ((cntP m p : Nat) : Int)
  len : m.length ≤ 64
  srt : Srt T

theorem nodup_sub {α : Type} [DecidableEq α] : ∀ {xs ys : List α}, xs.Nodup → (∀ x ∈ xs, x ∈ ys) → xs.length ≤ ys.length
  | [], ys, _, _ => by simp
  | x :: xs, ys, h, s => by
    rw [List.nodup_cons] at h
    have hx := s x (by simp)
    have := nodup_sub (xs := xs) (ys := ys.erase x) h.2 (fun y hy => (List.mem_erase_of_ne (fun e => h.1 (by rw [← e]; exact hy))).2 (s y (by simp [hy])))
    rw [List.length_erase_of_mem hx] at this
    have : 0 < ys.length := List.length_pos_of_mem hx
    simp only [List.length_cons]; omega

theorem Srt.nodup {T : PL} (h : Srt T) : (T.map (·.1)).Nodup := by
  unfold Srt at h
  rw [List.nodup_iff_pairwise_ne, List.pairwise_map]
  exact h.imp (fun {a b} (q : plt a.1 b.1) (e : a.1 = b.1) => plt_irrefl b.1 (by rw [e] at q; exact q))

theorem RInv.tlen {m : List (RK × Rt)} {T : PL} (R : RInv m T) : T.length ≤ m.length := by
  have := nodup_sub (xs := T.map (·.1)) (ys := (m.map (·.1)).map pf) R.srt.nodup (fun p hp => by
    obtain ⟨⟨p', k⟩, hm, rfl⟩ := List.mem_map.1 hp
    have h1 := getL_of_mem R.srt hm
    rw [R.cnt] at h1
    have h2 : cntP m p' ≠ 0 := by intro e; rw [if_pos e] at h1; cases h1
    unfold cntP at h2
    have h3 : 0 < (m.map (·.1)).countP fun k => decide (pf k = p') := by omega
    obtain ⟨k', hk, e⟩ := List.countP_pos_iff.1 h3
    exact List.mem_map.2 ⟨k', hk, by simpa using e⟩)
  simpa using this

theorem cnt_set {m : List (RK × Rt)} {k : RK} {x : Rt} {p : Nat × Nat} : cntP (setM k x m) p = if (getM m k).isSome then cntP m p else cntP m p + (if pf k = p then 1 else 0) := by
  unfold cntP
  rw [setM_keys]
  by_cases h : k ∈ m.map (·.1)
  · have h2 : getM m k ≠ none := fun q => (getM_none.1 q) h
    rw [if_pos h, if_pos (Option.isSome_iff_ne_none.2 h2)]
  · rw [if_neg h, getM_none.2 h, List.countP_append]
    by_cases hp : pf k = p <;> simp [hp]

theorem cnt_del {k : RK} {p : Nat × Nat} : ∀ {m : List (RK × Rt)}, getM m k ≠ none → cntP m p = cntP (delM k m) p + (if pf k = p then 1 else 0)
  | [], h => by simp [getM_nil] at h
  | x :: xs, h => by
    rw [getM_cons] at h
    simp only [delM]
    by_cases e : k = x.1
    · rw [if_pos e]
      unfold cntP
      rw [List.map_cons, List.countP_cons, ← e]
      by_cases hp : pf k = p <;> simp [hp]
    · rw [if_neg e]
      rw [if_neg e] at h
      have := cnt_del (p := p) h
      unfold cntP at *
      rw [List.map_cons, List.map_cons, List.countP_cons, List.countP_cons, this]
      omega

theorem cnt_pos {m : List (RK × Rt)} {k : RK} (h : getM m k ≠ none) : 0 < cntP m (pf k) := by
  rw [cnt_del h, if_pos rfl]; omega

theorem mayR_mayB {x : Rt} (h : mayR x = true) : mayB x.a x.l = true := by
  unfold mayR at h
  simp only [Bool.and_eq_true] at h
  exact h.1

/-- A new route's prefix is counted. -/
theorem RInv.add {m : List (RK × Rt)} {T : PL} {x : Rt} (R : RInv m T) (hm : mayR x = true) (hg : x.Good) (hn : getM m x.key = none) (hl : m.length < 64) :
    RInv (setM x.key x m) (putR 64 T x.a x.l ((getR T x.a x.l).getD 0 + 1)).2 := by
  have hb := mayR_mayB hm
  have hpf : pf x.key = (x.a, x.l.toNat) := rfl
  have hgr : getR T x.a x.l = getL T (pf x.key) := by unfold getR; rw [if_pos hb]; rfl
  have htl := R.tlen
  have hkey : ∀ e ∈ setM x.key x m, e.1 = e.2.key ∧ mayR e.2 = true ∧ e.2.Good := by
    intro e he
    have := getM_of_mem R.uniq.set he
    rw [getM_setM] at this
    split at this
    · rename_i q; simp at this; rw [← this, q]; exact ⟨rfl, hm, hg⟩
    · exact R.key _ (getM_mem this)
  have hlen : (setM x.key x m).length ≤ 64 := by rw [setM_length, hn]; simp; omega
  have base : ∀ q, (if q = pf x.key then some ((getL T (pf x.key)).getD 0 + 1) else getL T q) = if cntP (setM x.key x m) q = 0 then none else some ((cntP (setM x.key x m) q : Nat) : Int) := by
    intro q
    rw [cnt_set, hn]
    simp only [Option.isSome_none, Bool.false_eq_true, if_false]
    by_cases hq : q = pf x.key
    · rw [if_pos hq, if_pos hq.symm, hq, if_neg (by omega), R.cnt]
      split
      · rename_i h0; rw [h0]; rfl
      · simp
    · have hq' : ¬ pf x.key = q := fun e => hq e.symm
      rw [if_neg hq, if_neg hq', R.cnt]; rfl
  unfold putR
  rw [if_pos hb, ← hpf, hgr]
  cases hL : getL T (pf x.key) with
  | none =>
    simp only [Option.isSome_none, Bool.false_eq_true, if_false]
    rw [if_neg (by omega)]
    refine ⟨R.uniq.set, hkey, fun q => ?_, hlen, insL_srt R.srt _ hL⟩
    rw [getL_insL _ _ _ _ hL, ← base q, hL]
  | some n =>
    simp only [Option.isSome_some, if_true]
    refine ⟨R.uniq.set, hkey, fun q => ?_, hlen, setL_srt R.srt _ _⟩
    rw [getL_setL _ _ _ _ (by rw [hL]; simp), ← base q, hL]

/-- A route takes its own place's. -/
theorem RInv.swap {m : List (RK × Rt)} {T : PL} {x : Rt} (R : RInv m T) (hm : mayR x = true) (hg : x.Good) (hn : getM m x.key ≠ none) : RInv (setM x.key x m) T := by
  have hs := Option.isSome_iff_ne_none.2 hn
  refine ⟨R.uniq.set, fun e he => ?_, fun p => ?_, ?_, R.srt⟩
  · have := getM_of_mem R.uniq.set he
    rw [getM_setM] at this
    split at this
    · rename_i q; simp at this; rw [← this, q]; exact ⟨rfl, hm, hg⟩
    · exact R.key _ (getM_mem this)
  · rw [cnt_set, if_pos hs]; exact R.cnt p
  · rw [setM_length, if_pos hs]; exact R.len

/-- One that goes is counted no more. -/
theorem RInv.del {m : List (RK × Rt)} {T : PL} {k : RK} (R : RInv m T) (hn : getM m k ≠ none) :
    RInv (delM k m) (if (getR T k.1.1 k.1.2).getD 0 > 1 then (putR 64 T k.1.1 k.1.2 ((getR T k.1.1 k.1.2).getD 0 - 1)).2 else (takeR T k.1.1 k.1.2).2) := by
  obtain ⟨x, hx⟩ := Option.ne_none_iff_exists'.1 hn
  obtain ⟨hk, hm, hg⟩ := R.key _ (getM_mem hx)
  simp only at hk hm hg
  have hb : mayB k.1.1 k.1.2 = true := by rw [hk]; exact mayR_mayB hm
  have hpf : pf k = (k.1.1, k.1.2.toNat) := rfl
  have hgr : getR T k.1.1 k.1.2 = getL T (pf k) := by unfold getR; rw [if_pos hb]; rfl
  have hc := cnt_pos hn
  have hL : getL T (pf k) = some ((cntP m (pf k) : Nat) : Int) := by rw [R.cnt, if_neg (by omega)]
  have hkey : ∀ e ∈ delM k m, e.1 = e.2.key ∧ mayR e.2 = true ∧ e.2.Good := fun e he => R.key e (delM_sub.subset he)
  have hlen : (delM k m).length ≤ 64 := Nat.le_trans delM_sub.length_le R.len
  have hcd : ∀ q, cntP m q = cntP (delM k m) q + (if pf k = q then 1 else 0) := fun q => cnt_del hn
  rw [hgr, hL]
  simp only [Option.getD_some]
  by_cases h1 : ((cntP m (pf k) : Nat) : Int) > 1
  · rw [if_pos h1]
    unfold putR
    rw [if_pos hb, ← hpf, hL]
    simp only [Option.isSome_some, if_true]
    refine ⟨R.uniq.del, hkey, fun q => ?_, hlen, setL_srt R.srt _ _⟩
    rw [getL_setL _ _ _ _ (by rw [hL]; simp)]
    have := hcd q
    by_cases hq : q = pf k
    · rw [if_pos hq, if_neg (by rw [hq] at this ⊢; rw [if_pos rfl] at this; omega)]
      rw [hq] at this ⊢; rw [if_pos rfl] at this; congr 1; omega
    · rw [if_neg hq, R.cnt]
      rw [if_neg (fun e => hq e.symm)] at this
      rw [this]; rfl
  · rw [if_neg h1]
    unfold takeR
    rw [hgr, hL, ← hpf]
    simp only [Option.isSome_some, if_true]
    refine ⟨R.uniq.del, hkey, fun q => ?_, hlen, R.srt.sublist (delL_sub T _)⟩
    rw [getL_delL R.srt]
    have := hcd q
    by_cases hq : q = pf k
    · rw [if_pos hq, if_pos (by rw [hq] at this ⊢; rw [if_pos rfl] at this; omega)]
    · rw [if_neg hq, R.cnt]
      rw [if_neg (fun e => hq e.symm)] at this
      rw [this]; rfl
end Go.Proofs.Ytmbhlbohbpepaaa
