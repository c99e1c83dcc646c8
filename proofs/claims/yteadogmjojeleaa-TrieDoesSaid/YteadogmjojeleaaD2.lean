/- The document's trie in memory: at, Get, Take; all. -/
import Derived.Test.YteadogmjojeleaaD1
import Derived.Test.YteadogmjojeleaaB4
namespace Go.Proofs.Yteadogmjojeleaa
open Go
set_option linter.unusedSimpArgs false

def qe (x : (Nat × Nat) × Int) : List Value := [.int .u32 x.1.1, .int .i64 x.1.2, .int .i64 x.2]

structure RefAt (h : Hp) (r : Nat) (most : Int) (v : Value) (L : PL) : Prop where
  r : h r = some (.cells #[.int .i64 most, v] T_octroiref08_Trie (0, 0))
  l : SlAt h T_octroiref08_Pair 3 qe v L

theorem RefAt.le {h h' : Hp} {r : Nat} {most : Int} {v : Value} {L : PL} (R : RefAt h r most v L) (l : Le h h') : RefAt h' r most v L := ⟨l _ _ R.r, SlAt.le R.l l⟩

theorem RefAt.ne {h : Hp} {r : Nat} {most : Int} {v : Value} {L : PL} (R : RefAt h r most v L) : blkOf v ≠ some r := by
  intro e
  have hr := R.r
  rcases R.l with ⟨rfl, _⟩ | ⟨b, cap, c, rfl, hb, _⟩
  · cases e
  · cases e
    rw [hb] at hr
    simp at hr
    exact absurd hr.2 (by decide)

theorem SlAt.pair {h : Hp} {v : Value} {L : PL} {i : Nat} {x : (Nat × Nat) × Int} (S : SlAt h T_octroiref08_Pair 3 qe v L) (hx : L[i]? = some x) :
    ∃ b cap c, v = .slice (some ⟨b, 0, none⟩) L.length cap ∧ h b = some (.cells c T_octroiref08_Pair (0, 0)) ∧ L.length ≤ cap ∧ cap * 3 ≤ c.size ∧ Enc c 0 3 qe L ∧ c[i * 3]? = some (.int .u32 x.1.1) ∧ c[i * 3 + 1]? = some (.int .i64 x.1.2) ∧ c[i * 3 + 2]? = some (.int .i64 x.2) := by
  rcases S with ⟨_, rfl⟩ | ⟨b, cap, c, rfl, hb, h1, h2, h3⟩
  · simp at hx
  · have H : ∀ j, j < 3 → c[i * 3 + j]? = (qe x)[j]? := fun j hj => by have := h3 i x hx j hj; rwa [Nat.zero_add] at this
    exact ⟨b, cap, c, rfl, hb, h1, h2, h3, H 0 (by omega), H 1 (by omega), H 2 (by omega)⟩

theorem SlAt.pairR {h : Hp} {v : Value} {L : PL} {i : Nat} {x : (Nat × Nat) × Int} (S : SlAt h T_octroiref08_Pair 3 qe v L) (hx : L[i]? = some x) :
    ∃ b cap c, v = .slice (some ⟨b, 0, none⟩) L.length cap ∧ h b = some (.cells c T_octroiref08_Pair (0, 0)) ∧ c[i * 3]? = some (.int .u32 x.1.1) ∧ c[i * 3 + 1]? = some (.int .i64 x.1.2) ∧ c[i * 3 + 2]? = some (.int .i64 x.2) := by
  obtain ⟨b, cap, c, h1, h2, _, _, _, h3⟩ := SlAt.pair S hx
  exact ⟨b, cap, c, h1, h2, h3⟩

/-- The place of a prefix. -/
def idxR : PL → Nat → Int → Option Nat
  | [], _, _ => none
  | x :: xs, a, n => if x.1.1 = a ∧ (x.1.2 : Int) = n then some 0 else (idxR xs a n).map (· + 1)

def idxI (L : PL) (a : Nat) (n : Int) : Int := match idxR L a n with | some i => (i : Nat) | none => -1

theorem idx_get {L : PL} {a : Nat} {n : Int} {i : Nat} (h : idxR L a n = some i) : ∃ x, L[i]? = some x ∧ x.1.1 = a ∧ (x.1.2 : Int) = n := by
  induction L generalizing i with
  | nil => cases h
  | cons x xs ih =>
    simp only [idxR] at h
    split at h
    · rename_i e; cases h; exact ⟨x, rfl, e⟩
    · cases h2 : idxR xs a n with
      | none => rw [h2] at h; cases h
      | some j => rw [h2] at h; cases h; obtain ⟨y, hy, e⟩ := ih h2; exact ⟨y, by simpa using hy, e⟩

theorem idx_getL {L : PL} {a m : Nat} : (idxR L a (m : Int)).bind (fun i => (L[i]?).map (·.2)) = getL L (a, m) := by
  induction L with
  | nil => rfl
  | cons x xs ih =>
    simp only [idxR, getL]
    by_cases e : x.1 = (a, m)
    · rw [if_pos e, if_pos (by rw [e]; exact ⟨rfl, rfl⟩)]; rfl
    · rw [if_neg e, if_neg (fun h => e (Prod.ext h.1 (by have := h.2; simp only; omega)))]
      rw [← ih]
      cases idxR xs a (m : Int) with
      | none => rfl
      | some j => simp

theorem idx_setL {L : PL} {a m i : Nat} {k : Int} (h : idxR L a (m : Int) = some i) : setL L (a, m) k = L.set i ((a, m), k) := by
  induction L generalizing i with
  | nil => cases h
  | cons x xs ih =>
    simp only [idxR] at h
    simp only [setL]
    split at h
    · rename_i e; cases h
      rw [if_pos (Prod.ext e.1 (by have := e.2; simp only; omega))]; rfl
    · rename_i e
      rw [if_neg (fun h => e (by rw [h]; exact ⟨rfl, rfl⟩))]
      cases h2 : idxR xs a (m : Int) with
      | none => rw [h2] at h; cases h
      | some j => rw [h2] at h; cases h; rw [ih h2]; rfl

theorem idx_delL {L : PL} {a m i : Nat} (h : idxR L a (m : Int) = some i) : delL L (a, m) = L.take i ++ L.drop (i + 1) := by
  induction L generalizing i with
  | nil => cases h
  | cons x xs ih =>
    simp only [idxR] at h
    simp only [delL]
    split at h
    · rename_i e; cases h
      rw [if_pos (Prod.ext e.1 (by have := e.2; simp only; omega))]; rfl
    · rename_i e
      rw [if_neg (fun h => e (by rw [h]; exact ⟨rfl, rfl⟩))]
      cases h2 : idxR xs a (m : Int) with
      | none => rw [h2] at h; cases h
      | some j => rw [h2] at h; cases h; rw [ih h2]; simp

/-- One that may not be is not there. -/
theorem idx_may {L : PL} (hp : ∀ x ∈ L, Pok x.1) {a : Nat} {n : Int} {i : Nat} (h : idxR L a n = some i) : mayB a n = true := by
  obtain ⟨x, hx, e1, e2⟩ := idx_get h
  have := pok_mayB (hp x (List.mem_of_getElem? hx))
  rw [e1, e2] at this
  exact this

theorem idx_getR {L : PL} (hp : ∀ x ∈ L, Pok x.1) (a : Nat) (n : Int) : (idxR L a n).bind (fun i => (L[i]?).map (·.2)) = getR L a n := by
  unfold getR
  by_cases h : mayB a n = true
  · rw [if_pos h]
    obtain ⟨h0, _⟩ := mayB_le h
    obtain ⟨m, rfl⟩ := Int.eq_ofNat_of_zero_le h0
    exact idx_getL
  · rw [if_neg h]
    cases hi : idxR L a n with
    | none => rfl
    | some i => exact absurd (idx_may hp hi) h

def AtInv (r b : Nat) (L : PL) (a : Nat) (n : Int) (g0 : Hp) (m : Nat) (env : Env) (g : Hp) : Prop :=
  ∃ i, g = g0 ∧ env 0 = .pointer (some ⟨r, 0, none⟩) ∧ env 3 = .pointer (some ⟨b, 0, none⟩) ∧ env 5 = .int .i64 (i : Nat) ∧ i + m = L.length ∧ idxR L a n = (idxR (L.drop i) a n).map (· + i)

theorem at_spec {h : Hp} {r : Nat} {most : Int} {v : Value} {L : PL} {a : Nat} {n : Int} {Q : Value → Hp → Prop} (R : RefAt h r most v L) (hl : L.length ≤ 10000) (hQ : Q (.int .i64 (idxI L a n)) h) :
    Ok Try.prog F_octroiref08_Trie_at #[.pointer (some ⟨r, 0, none⟩), .agg #[.int .u32 a, .int .i64 n]] h Q := by
  refine octroiref08_Trie_at_ok (by simp) ?_
  unfold octroiref08_Trie_at_D
  simp (disch := omega) [octroiref08_Trie_at_r0]
  intro b hb
  simp (disch := omega) [octroiref08_Trie_at_r1]
  have hbb : (h.upd b (.cells #[.int .u32 a, .int .i64 n] 30)) b = some (.cells #[.int .u32 a, .int .i64 n] 30) := by simp
  have l : Le h (h.upd b (.cells #[.int .u32 a, .int .i64 n] 30)) := .new hb
  have R1 := R.le l
  generalize h.upd b (.cells #[.int .u32 a, .int .i64 n] 30) = g0 at *
  refine ⟨AtInv r b L a n g0, ⟨L.length, 0, rfl, by simp, by simp, by simp, by omega, by simp⟩, ?_⟩
  rintro m env g ⟨i, rfl, e0, e3, e5, him, hinv⟩
  obtain ⟨pv, cv, hv⟩ := SlAt.shape R1.l
  have hr := R1.r
  rw [hv] at hr
  unfold octroiref08_Trie_at_L0
  by_cases hm : m = 0
  · have hin : i = L.length := by omega
    subst hin
    rw [List.drop_length] at hinv
    simp (disch := omega) [octroiref08_Trie_at_r2, octroiref08_Trie_at_r6, e0, e3, e5, hr]
    refine .to h l ?_
    unfold idxI at hQ
    rw [hinv] at hQ
    exact hQ
  · obtain ⟨m, rfl⟩ : ∃ k, m = k + 1 := ⟨m - 1, by omega⟩
    have hlt : (i : Int) < (L.length : Int) := by omega
    obtain ⟨x, hx⟩ : ∃ x, L[i]? = some x := ⟨_, List.getElem?_eq_getElem (by omega)⟩
    obtain ⟨b1, cap1, c1, hv1, hb1, c10, c11, c12⟩ := SlAt.pairR R1.l hx
    rw [hv] at hv1
    rw [hv1] at hr
    have hdrop : L.drop i = x :: L.drop (i + 1) := by
      rw [List.drop_eq_getElem_cons (by omega)]
      congr 1
      rw [List.getElem?_eq_getElem (by omega)] at hx
      exact Option.some.inj hx
    rw [hdrop] at hinv
    simp only [idxR] at hinv
    by_cases he : x.1.1 = a ∧ (x.1.2 : Int) = n
    · rw [if_pos he] at hinv
      obtain ⟨he1, he2⟩ := he
      simp (disch := omega) [octroiref08_Trie_at_r2, octroiref08_Trie_at_r3, octroiref08_Trie_at_r4, e0, e3, e5, hr, hlt, hb1, hbb, c10, c11, he1, he2]
      refine .to h l ?_
      unfold idxI at hQ
      rw [hinv] at hQ
      simpa using hQ
    · rw [if_neg he] at hinv
      have hd : (decide ((x.1.1 : Int) = (a : Int)) && decide ((x.1.2 : Int) = n)) = false := by simp; omega
      simp (disch := omega) [octroiref08_Trie_at_r2, octroiref08_Trie_at_r3, octroiref08_Trie_at_r5, e0, e3, e5, hr, hlt, hb1, hbb, c10, c11, hd, wrap_i64]
      refine ⟨m, by omega, i + 1, rfl, by simp [e0], by simp [e3], by simp, by omega, ?_⟩
      rw [hinv]
      cases idxR (L.drop (i + 1)) a n with
      | none => rfl
      | some j => simp; omega

theorem rget_spec {h : Hp} {r : Nat} {most : Int} {v : Value} {L : PL} {a : Nat} {n : Int} {Q : Value → Hp → Prop} (R : RefAt h r most v L) (hp : ∀ x ∈ L, Pok x.1) (hl : L.length ≤ 10000)
    (hQ : Q (.tuple #[.int .i64 ((getR L a n).getD 0), .bool (getR L a n).isSome]) h) :
    Ok Try.prog F_octroiref08_Trie_Get #[.pointer (some ⟨r, 0, none⟩), .agg #[.int .u32 a, .int .i64 n]] h Q := by
  refine octroiref08_Trie_Get_ok (by simp) ?_
  unfold octroiref08_Trie_Get_D
  simp (disch := omega) [octroiref08_Trie_Get_r0]
  intro b hb
  simp (disch := omega) [octroiref08_Trie_Get_r1]
  have l : Le h (h.upd b (.cells #[.int .u32 a, .int .i64 n] 30)) := .new hb
  have R1 := R.le l
  generalize h.upd b (.cells #[.int .u32 a, .int .i64 n] 30) = g0 at *
  refine at_spec R1 hl ?_
  rw [← idx_getR hp] at hQ
  unfold idxI
  cases hi : idxR L a n with
  | none =>
    rw [hi] at hQ
    simp (disch := omega) [octroiref08_Trie_Get_r2, octroiref08_Trie_Get_r3]
    exact .to h l (by simpa using hQ)
  | some i =>
    obtain ⟨x, hx, _⟩ := idx_get hi
    have hil := (List.getElem?_eq_some_iff.1 hx).1
    rw [hi] at hQ
    simp only [Option.bind_some, hx, Option.map_some, Option.getD_some, Option.isSome_some] at hQ
    have hr := R1.r
    obtain ⟨b1, cap1, c1, hv1, hb1, c10, c11, c12⟩ := SlAt.pairR R1.l hx
    rw [hv1] at hr
    have hlt : (i : Int) < (L.length : Int) := by omega
    have h0 : ¬ (i : Int) < 0 := by omega
    simp (disch := omega) [octroiref08_Trie_Get_r2, octroiref08_Trie_Get_r4, hr, hb1, c12, hlt, h0]
    exact .to h l hQ

def AllInv (g0 : Hp) (va vb : Value) (n : Nat) (m : Nat) (env : Env) (g : Hp) : Prop :=
  ∃ i, g = g0 ∧ env 0 = va ∧ env 1 = vb ∧ env 5 = .int .i64 (i : Nat) ∧ i + m = n

theorem rall_spec {h : Hp} {va vb : Value} {L : PL} {Q : Value → Hp → Prop} (Sa : SlAt h T_api_Prefix 2 pe va (L.map (·.1))) (Sb : SlAt h T_octroiref08_Pair 3 qe vb L) (hl : L.length ≤ 10000) (hQ : Q (.bool true) h) :
    Ok Try.prog F_octroilaw08_all #[va, vb] h Q := by
  refine octroilaw08_all_ok (by simp) ?_
  unfold octroilaw08_all_D
  obtain ⟨pa, ca, hva⟩ := SlAt.shape Sa
  obtain ⟨pb, cb, hvb⟩ := SlAt.shape Sb
  rw [List.length_map] at hva
  simp (disch := omega) [octroilaw08_all_r0, octroilaw08_all_r1, octroilaw08_all_r3, hva, hvb]
  refine ⟨AllInv h va vb L.length, ⟨L.length, 0, rfl, by simp [hva], by simp [hvb], by simp, by omega⟩, ?_⟩
  rintro m env g ⟨i, rfl, e0, e1, e5, him⟩
  unfold octroilaw08_all_L0
  by_cases hm : m = 0
  · have hin : i = L.length := by omega
    subst hin
    simp (disch := omega) [octroilaw08_all_r4, octroilaw08_all_r8, e0, e1, e5, hva]
    exact .to _ (.refl _) hQ
  · obtain ⟨m, rfl⟩ : ∃ k, m = k + 1 := ⟨m - 1, by omega⟩
    have hlt : (i : Int) < (L.length : Int) := by omega
    obtain ⟨x, hx⟩ : ∃ x, L[i]? = some x := ⟨_, List.getElem?_eq_getElem (by omega)⟩
    have hxm : (L.map (·.1))[i]? = some x.1 := by rw [List.getElem?_map, hx]; rfl
    obtain ⟨b1, cap1, c1, hva', hb1, c10, c11⟩ := SlAt.pre Sa hxm
    obtain ⟨b2, cap2, c2, hvb', hb2, c20, c21, c22⟩ := SlAt.pairR Sb hx
    rw [List.length_map] at hva'
    simp (disch := omega) [octroilaw08_all_r4, octroilaw08_all_r5, octroilaw08_all_r7, e0, e1, e5, hva', hvb', hlt, hb1, hb2, c10, c11, c20, c21, wrap_i64]
    exact ⟨m, by omega, i + 1, rfl, by simp [e0, hva'], by simp [e1, hvb'], by simp, by omega⟩
end Go.Proofs.Yteadogmjojeleaa
