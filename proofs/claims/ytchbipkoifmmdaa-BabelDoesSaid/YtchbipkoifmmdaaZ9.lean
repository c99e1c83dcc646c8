/- Babel: what is told is not better than the least behind it; keys stay. -/
import Derived.Test.YtchbipkoifmmdaaRows
import Derived.Test.YtchbipkoifmmdaaZ8

set_option linter.unusedSimpArgs false
set_option linter.unusedVariables false

namespace Go.Proofs.Ytchbipkoifmmdaa
open Go
set_option linter.unusedSimpArgs false
set_option linter.unusedVariables false

def notBetter (M : MM) (t : Tlv) : Prop := ∃ z, getM M (srcK t) = some z ∧ newerB t.s z.1 = false ∧ (t.s = z.1 → ¬ t.c < z.2)
theorem tell_not {s : BS} {t : Tlv} (hk : keyOk (t.a, t.l) t) (hc : t.c < 65535) : notBetter (tellStep s t).M t := by
  unfold tellStep knowB
  by_cases hb : betterB s.M (srcK t) t.s t.c = true
  · rw [if_pos ⟨hk.2.1, hk.2.2, hc, hb⟩]
    refine ⟨(t.s, t.c), ?_, by unfold newerB; simp, fun _ => by simp⟩
    show getM (setM (srcK t) (t.s, t.c) s.M) (srcK t) = _
    rw [getM_setM, if_pos rfl]
  · rw [if_neg (fun q => hb q.2.2.2)]
    have hb' : betterB s.M (srcK t) t.s t.c = false := by simpa using hb
    unfold betterB at hb'
    cases hg : getM s.M (srcK t) with
    | none => rw [hg] at hb'; cases hb'
    | some z =>
      rw [hg] at hb'
      simp only [Bool.or_eq_false_iff, Bool.and_eq_false_iff, decide_eq_false_iff_not] at hb'
      exact ⟨z, hg, hb'.1, fun e => hb'.2.resolve_left (fun q => q e)⟩
theorem tells_not : ∀ {ws : List Tlv} {s : BS} {t : Tlv}, (ws.map fun t => (t.a, t.l)).Nodup → (∀ t ∈ ws, keyOk (t.a, t.l) t ∧ t.c < 65535) → t ∈ ws → notBetter (ws.foldl tellStep s).M t
  | t0 :: ws, s, t, n, hk, ht => by
    rw [List.map_cons, List.nodup_cons] at n
    rw [List.foldl_cons]
    rcases List.mem_cons.1 ht with rfl | ht
    · obtain ⟨z, h1, h2, h3⟩ := tell_not (s := s) (hk t (by simp)).1 (hk t (by simp)).2
      exact ⟨z, by rw [tells_other (q := srcK t) n.1]; exact h1, h2, h3⟩
    · exact tells_not n.2 (fun t h => hk t (by simp [h])) ht

section
variable {s : BS}
theorem KeyI.tellS_S : ∀ {ws : List Tlv} {s : BS}, (∀ e ∈ s.S, (e.2.a, e.2.l) = e.1) → ∀ e ∈ (ws.foldl tellStep s).S, (e.2.a, e.2.l) = e.1
  | [], s, h => h
  | t :: ws, s, h => by
    rw [List.foldl_cons]
    refine KeyI.tellS_S (fun e he => ?_)
    have hp := (know_parts (s := { s with S := setM (t.a, t.l) t s.S }) (k := (t.a, t.l)) (rt := t.rt) (sn := t.s) (n := t.c)).2.2.1
    have he' : e ∈ setM (t.a, t.l) t s.S := by
      have : e ∈ (knowB { s with S := setM (t.a, t.l) t s.S } (t.a, t.l) t.rt t.s t.c).S := he
      rw [hp] at this; exact this
    rcases setM_mem he' with rfl | q
    · rfl
    · exact h e q
theorem KeyI.call (I : KeyI s) {o : Op17} : KeyI (callS s o).1 := by
  unfold callS
  split
  · unfold bownS
    split
    · rename_i h0
      refine ⟨fun e he => ?_, I.t, I.s⟩
      rcases setM_mem he with rfl | q
      · unfold bownE at h0
        split at h0
        · cases h0
        · rename_i ha
          refine ⟨⟨rfl, ?_, ?_⟩, ?_⟩
          · show mayB o.ta o.tl = true
            cases hm : mayB o.ta o.tl with
            | true => rfl
            | false => exact absurd (.inl hm) ha
          · show 0 ≤ o.n
            exact Int.not_lt.1 fun q => ha (.inr (.inl q))
          · show o.n < 65535
            exact Int.not_le.1 fun q => ha (.inr (.inr q))
      · exact I.o e q
    · exact I
  · split
    · unfold bdropS
      split
      · exact ⟨fun e he => I.o e (delM_sub.subset he), I.t, I.s⟩
      · exact I
    · split
      · exact ⟨I.o, I.t, I.s⟩
      · split
        · unfold bhear
          split
          · exact I
          · rename_i hbad
            split
            · exact I
            · split
              · exact I
              · split
                · exact ⟨I.o, fun e he => I.t e (delM_sub.subset he), I.s⟩
                · split
                  · exact I
                  · refine ⟨I.o, fun e he => ?_, I.s⟩
                    rcases setM_mem he with rfl | q
                    · refine ⟨rfl, ?_, ?_⟩
                      · show mayB o.ta o.tl = true
                        cases hm : mayB o.ta o.tl with
                        | true => rfl
                        | false => exact absurd (.inr (.inr (.inr (.inr (.inr (.inl hm)))))) hbad
                      · show 0 ≤ o.tc
                        exact Int.not_lt.1 fun q => hbad (.inr (.inr (.inr (.inr (.inr (.inr (.inl q)))))))
                    · exact I.t e q
        · split
          · exact ⟨I.o, fun e he => I.t e (List.mem_filter.1 he).1, I.s⟩
          · split
            · show KeyI (tellS s)
              unfold tellS
              obtain ⟨a, b, c, d, e, f, g⟩ := tells_parts (ws := waysL s (prefL s)) (s := { s with S := [] })
              exact ⟨by rw [a]; exact I.o, by rw [b]; exact I.t, KeyI.tellS_S (by simp)⟩
            · split
              · obtain ⟨a, b, c, d, e, f, g⟩ := know_parts (s := s) (k := (o.ta, o.tl)) (rt := o.trt) (sn := o.ts) (n := o.n)
                exact ⟨by rw [a]; exact I.o, by rw [b]; exact I.t, by rw [c]; exact I.s⟩
              · exact I
theorem call_noWorse (I : KeyI s) {o : Op17} {q : PK × Nat} : noWorse s.M (callS s o).1.M q := by
  unfold callS
  split
  · unfold bownS; split <;> exact .refl _ _
  · split
    · unfold bdropS; split <;> exact .refl _ _
    · split
      · exact .refl _ _
      · split
        · unfold bhear
          repeat' split
          all_goals exact .refl _ _
        · split
          · exact .refl _ _
          · split
            · show noWorse s.M (tellS s).M q
              unfold tellS
              exact noWorse_tells (s := { s with S := [] }) (I.ways prefL_srt.nodup).1
            · split
              · exact noWorse_know
              · exact .refl _ _
theorem call_told (I : KeyI s) {o : Op17} {t : Tlv} (ht : t ∈ (callS s o).2) (hc : t.c < 65535) : notBetter (callS s o).1.M t := by
  unfold callS at ht ⊢
  by_cases k0 : o.k = 0
  · rw [if_pos k0] at ht; simp at ht
  rw [if_neg k0] at ht ⊢
  by_cases k1 : o.k = 1
  · rw [if_pos k1] at ht; simp at ht
  rw [if_neg k1] at ht ⊢
  by_cases k2 : o.k = 2
  · rw [if_pos k2] at ht; simp at ht
  rw [if_neg k2] at ht ⊢
  by_cases k3 : o.k = 3
  · rw [if_pos k3] at ht; simp at ht
  rw [if_neg k3] at ht ⊢
  by_cases k4 : o.k = 4
  · rw [if_pos k4] at ht; simp at ht
  rw [if_neg k4] at ht ⊢
  by_cases k5 : o.k = 5
  · rw [if_pos k5] at ht ⊢
    obtain ⟨n1, n2⟩ := I.ways (prefL_srt (s := s)).nodup
    have ht' : t ∈ tellL s := ht
    unfold tellL at ht'
    rcases List.mem_append.1 ht' with q | q
    · exact tells_not n1 (fun t h => ⟨(n2 t h).1, (n2 t h).2.1⟩) q
    · obtain ⟨k, _, h2⟩ := List.mem_filterMap.1 q
      split at h2
      · cases h2
      · cases h : getM s.S k with
        | none => rw [h] at h2; cases h2
        | some y => rw [h] at h2; simp at h2; subst h2; simp at hc
  rw [if_neg k5] at ht
  by_cases k6 : o.k = 6
  · rw [if_pos k6] at ht; simp at ht
  · rw [if_neg k6] at ht; simp at ht
end
end Go.Proofs.Ytchbipkoifmmdaa

/- Babel: what is left when all is dropped and lost. -/
namespace Go.Proofs.Ytchbipkoifmmdaa
open Go
set_option linter.unusedSimpArgs false
set_option linter.unusedVariables false

/-- Who tells is a neighbour. -/
def NbI (s : BS) : Prop := ∀ e ∈ s.T, 1 ≤ e.1.2 ∧ e.1.2 ≤ 32
section
variable {s : BS}
theorem NbI.call (I : NbI s) {o : Op17} : NbI (callS s o).1 := by
  unfold callS
  split
  · unfold bownS; split <;> exact I
  · split
    · unfold bdropS; split <;> exact I
    · split
      · exact I
      · split
        · unfold bhear
          split
          · exact I
          · rename_i hbad
            split
            · exact I
            · split
              · exact I
              · split
                · exact fun e he => I e (delM_sub.subset he)
                · split
                  · exact I
                  · intro e he
                    rcases setM_mem he with rfl | q
                    · exact ⟨Int.not_lt.1 fun q => hbad (.inl q), Int.not_lt.1 fun q => hbad (.inr (.inl q))⟩
                    · exact I e q
        · split
          · exact fun e he => I e (List.mem_filter.1 he).1
          · split
            · show NbI (tellS s)
              unfold tellS NbI
              obtain ⟨a, b, _⟩ := tells_parts (ws := waysL s (prefL s)) (s := { s with S := [] })
              rw [b]; exact I
            · split
              · unfold NbI
                obtain ⟨a, b, _⟩ := know_parts (s := s) (k := (o.ta, o.tl)) (rt := o.trt) (sn := o.ts) (n := o.n)
                rw [b]; exact I
              · exact I

theorem setM_new {α β : Type} [DecidableEq α] {a : α} {v : β} : ∀ {m : List (α × β)}, a ∉ m.map (·.1) → setM a v m = m ++ [(a, v)]
  | [], _ => rfl
  | y :: ys, h => by
    rw [List.map_cons, List.mem_cons] at h
    rw [setM, if_neg (fun e => h (.inl e)), setM_new (fun e => h (.inr e))]; rfl
theorem tells_S : ∀ {ws : List Tlv} {s : BS}, (ws.map fun t => (t.a, t.l)).Nodup → (∀ t ∈ ws, (t.a, t.l) ∉ s.S.map (·.1)) → (ws.foldl tellStep s).S = s.S ++ ws.map fun t => ((t.a, t.l), t)
  | [], s, _, _ => by simp
  | t :: ws, s, n, h => by
    rw [List.map_cons, List.nodup_cons] at n
    have hp : (tellStep s t).S = s.S ++ [((t.a, t.l), t)] := by
      show (knowB _ _ _ _ _).S = _
      rw [(know_parts (s := { s with S := setM (t.a, t.l) t s.S }) (k := (t.a, t.l)) (rt := t.rt) (sn := t.s) (n := t.c)).2.2.1]
      exact setM_new (h t (by simp))
    rw [List.foldl_cons, tells_S n.2 (fun t' ht' => ?_), hp]
    · simp
    · rw [hp, List.map_append, List.mem_append]
      rintro (q | q)
      · exact h t' (by simp [ht']) q
      · simp only [List.map_cons, List.map_nil, List.mem_singleton] at q
        exact n.1 (by rw [← q]; exact List.mem_map.2 ⟨t', ht', rfl⟩)

/-- All of these are dropped. -/
def dropsB (s : BS) (ks : List PK) : BS := ks.foldl bdropS s
theorem drop_parts {k : PK} : (bdropS s k).T = s.T ∧ (bdropS s k).M = s.M ∧ (bdropS s k).S = s.S ∧ (bdropS s k).seq = s.seq ∧ (bdropS s k).most = s.most ∧ (bdropS s k).dom = s.dom ∧ (bdropS s k).id = s.id := by
  unfold bdropS; split <;> exact ⟨rfl, rfl, rfl, rfl, rfl, rfl, rfl⟩
theorem drop_O {k : PK} (u : Uniq s.O) : Uniq (bdropS s k).O ∧ ∀ e ∈ (bdropS s k).O, e ∈ s.O ∧ e.1 ≠ k := by
  unfold bdropS
  split
  · refine ⟨u.del, fun e he => ?_⟩
    have he' : e ∈ delM k s.O := he
    rw [delM_filter u] at he'
    exact ⟨(List.mem_filter.1 he').1, by simpa using (List.mem_filter.1 he').2⟩
  · rename_i h
    refine ⟨u, fun e he => ⟨he, ?_⟩⟩
    rintro rfl
    rw [getM_of_mem (a := e.1) (v := e.2) u he] at h
    exact h rfl
theorem drops_O : ∀ {ks : List PK} {s : BS}, Uniq s.O → ∀ e ∈ (dropsB s ks).O, e ∈ s.O ∧ e.1 ∉ ks
  | [], s, _, e, he => ⟨he, by simp⟩
  | k :: ks, s, u, e, he => by
    obtain ⟨h1, h2⟩ := drops_O (ks := ks) (s := bdropS s k) (drop_O u).1 e he
    obtain ⟨h3, h4⟩ := (drop_O (k := k) u).2 e h1
    exact ⟨h3, fun q => (List.mem_cons.1 q).elim h4 h2⟩

/-- All neighbours up to one are lost. -/
def lostN (T : MT) : Nat → MT
  | 0 => T
  | n + 1 => lostT ((n + 1 : Nat) : Int) (lostN T n)
theorem lostN_mem {T : MT} : ∀ {n : Nat} {e : (PK × Int) × (Int × Tlv)}, e ∈ lostN T n → e ∈ T ∧ ∀ j : Nat, 1 ≤ j → j ≤ n → e.1.2 ≠ (j : Int)
  | 0, e, h => ⟨h, fun j h1 h2 => by omega⟩
  | n + 1, e, h => by
    obtain ⟨h1, h2⟩ := List.mem_filter.1 h
    obtain ⟨h3, h4⟩ := lostN_mem h1
    refine ⟨h3, fun j q1 q2 => ?_⟩
    by_cases q : j = n + 1
    · rw [q]; simpa using h2
    · exact h4 j q1 (by omega)
theorem lost_all (I : NbI s) : lostN s.T 32 = [] := by
  rw [List.eq_nil_iff_forall_not_mem]
  intro e he
  obtain ⟨h1, h2⟩ := lostN_mem he
  have := I e h1
  exact h2 e.1.2.toNat (by omega) (by omega) (by omega)

/-- An own route is always a way. -/
theorem own_way {k : PK} {t : Tlv} (h : getM s.O k = some t) : ∃ y, wayB s k = some (y, 0) ∧ y.c = t.c := by
  unfold wayB; rw [h]; exact ⟨_, rfl, rfl⟩
theorem own_in_ways (u : Uniq s.O) (I : KeyI s) {e : PK × Tlv} (he : e ∈ s.O) : e.1 ∈ (waysL s (prefL s)).map fun t => (t.a, t.l) := by
  obtain ⟨y, hy, _⟩ := own_way (getM_of_mem (a := e.1) (v := e.2) u he)
  have hk := (I.way hy).1.1
  refine List.mem_map.2 ⟨y, List.mem_filterMap.2 ⟨e.1, ?_, by rw [hy]; rfl⟩, hk⟩
  rw [prefL_mem]
  unfold keysB
  exact List.mem_append_left _ (List.mem_map_of_mem he)
end
end Go.Proofs.Ytchbipkoifmmdaa

/- Babel: what is told when all is gone. -/
namespace Go.Proofs.Ytchbipkoifmmdaa
open Go
set_option linter.unusedSimpArgs false
set_option linter.unusedVariables false

abbrev tkey (t : Tlv) : PK := (t.a, t.l)
section
variable {s : BS}
theorem ways_keys (I : KeyI s) : ∀ {ks : List PK}, (waysL s ks).map tkey = ks.filter fun k => (wayB s k).isSome
  | [] => rfl
  | k :: ks => by
    have ih := ways_keys I (ks := ks)
    unfold waysL at *
    rw [List.filterMap_cons, List.filter_cons]
    cases h : wayB s k with
    | none => simpa using ih
    | some y => simp only [Option.map_some, Option.isSome_some, if_true, List.map_cons]; rw [ih]; congr 1; exact (I.way h).1.1
theorem all_keys : ∀ {ks : List PK}, (allB s ks).map (fun y => (y.a, y.l)) = ks.filter fun k => (wayB s k).isSome
  | [] => rfl
  | k :: ks => by
    have ih := all_keys (ks := ks)
    unfold allB at *
    rw [List.filterMap_cons, List.filter_cons]
    cases h : wayB s k with
    | none => simpa using ih
    | some y => simp only [Option.map_some, Option.isSome_some, if_true, List.map_cons]; rw [ih]; rfl
theorem ways_srt (I : KeyI s) : SrtS ((waysL s (prefL s)).map tkey) := by
  rw [ways_keys I]; exact List.Pairwise.sublist List.filter_sublist prefL_srt

/-- Only what was told is left. -/
theorem empty_way (hO : s.O = []) (hT : s.T = []) (k : PK) : wayB s k = none := by
  have up : ∀ n, wayN s k n = none := by
    intro n
    induction n with
    | zero => rfl
    | succ n ih => rw [wayN, ih]; unfold wayStep; rw [hT, getM_nil]
  unfold wayB
  rw [hO, getM_nil]
  exact up _
theorem empty_all (hO : s.O = []) (hT : s.T = []) (ks : List PK) : allB s ks = [] := by
  unfold allB; rw [List.filterMap_eq_nil_iff]; intro k _; rw [empty_way hO hT]; rfl
theorem empty_ways (hO : s.O = []) (hT : s.T = []) (ks : List PK) : waysL s ks = [] := by
  unfold waysL; rw [List.filterMap_eq_nil_iff]; intro k _; rw [empty_way hO hT]; rfl
end
end Go.Proofs.Ytchbipkoifmmdaa

/- The document's Babel: all prefixes, in order. -/
namespace Go.Proofs.Ytchbipkoifmmdaa
open Go
set_option linter.unusedSimpArgs false
set_option linter.unusedVariables false

/-- The first that is not ahead. -/
def atI : List PK → PK → Nat
  | [], _ => 0
  | y :: ys, k => if plt y k then atI ys k + 1 else 0
theorem atI_le : ∀ {out : List PK} {k : PK}, atI out k ≤ out.length
  | [], _ => Nat.le_refl _
  | y :: ys, k => by rw [atI]; have := atI_le (out := ys) (k := k); split <;> simp; omega
theorem atI_lt : ∀ {out : List PK} {k : PK} {i : Nat}, i < atI out k → ∃ y, out[i]? = some y ∧ plt y k
  | [], _, i, h => by simp [atI] at h
  | y :: ys, k, i, h => by
    rw [atI] at h
    split at h
    · rename_i hp
      cases i with
      | zero => exact ⟨y, rfl, hp⟩
      | succ i => exact atI_lt (out := ys) (by omega)
    · omega
theorem atI_at : ∀ {out : List PK} {k y : PK}, out[atI out k]? = some y → ¬ plt y k
  | [], _, _, h => by simp at h
  | z :: ys, k, y, h => by
    rw [atI] at h
    split at h
    · exact atI_at (out := ys) (by simpa using h)
    · rename_i hp; simp at h; subst h; exact hp
theorem insU_at : ∀ {out : List PK} {k : PK}, insU k out = if out[atI out k]? = some k then out else out.take (atI out k) ++ (k :: out.drop (atI out k))
  | [], k => by simp [insU, atI]
  | y :: ys, k => by
    rw [insU, atI]
    by_cases h1 : plt k y
    · have h2 : ¬ plt y k := plt_asym h1
      rw [if_pos h1, if_neg h2]
      have : ¬ (y = k) := by rintro rfl; exact plt_irr h1
      simp [this]
    · rw [if_neg h1]
      by_cases h2 : k = y
      · subst h2
        rw [if_pos rfl, if_neg plt_irr]; simp
      · rw [if_neg h2]
        have h3 : plt y k := Decidable.byContradiction fun q => h2 (plt_tri h1 q)
        rw [if_pos h3, insU_at (out := ys)]
        simp only [List.getElem?_cons_succ, List.take_succ_cons, List.drop_succ_cons, List.cons_append]
        split <;> rfl

def fkeys (f : FS) : List PK := f.O.map (·.1) ++ f.L.map (·.1.1) ++ f.D.map tkey
def fprefL (f : FS) : List PK := (fkeys f).foldl (fun out k => insU k out) []
theorem foldl_ins_mem : ∀ {ks out : List PK} {z : PK}, z ∈ ks.foldl (fun out k => insU k out) out ↔ z ∈ ks ∨ z ∈ out
  | [], out, z => by simp
  | k :: ks, out, z => by
    rw [List.foldl_cons, foldl_ins_mem, mem_insU, List.mem_cons]
    constructor
    · rintro (h | h | h)
      · exact .inl (.inr h)
      · exact .inl (.inl h)
      · exact .inr h
    · rintro ((h | h) | h)
      · exact .inr (.inl h)
      · exact .inl h
      · exact .inr (.inr h)
theorem foldl_ins_srt : ∀ {ks out : List PK}, SrtS out → SrtS (ks.foldl (fun out k => insU k out) out)
  | [], out, h => h
  | k :: ks, out, h => by rw [List.foldl_cons]; exact foldl_ins_srt (srt_insU h)
theorem insU_length {k : PK} : ∀ {out : List PK}, (insU k out).length ≤ out.length + 1
  | [] => by simp [insU]
  | y :: ys => by
    rw [insU]
    split
    · simp
    · split
      · simp
      · have := insU_length (k := k) (out := ys); simp; omega
theorem foldl_ins_length : ∀ {ks out : List PK}, (ks.foldl (fun out k => insU k out) out).length ≤ out.length + ks.length
  | [], out => by simp
  | k :: ks, out => by
    rw [List.foldl_cons]
    have h1 := foldl_ins_length (ks := ks) (out := insU k out)
    have h2 := insU_length (k := k) (out := out)
    simp; omega
theorem fprefL_mem {f : FS} {k : PK} : k ∈ fprefL f ↔ k ∈ fkeys f := by unfold fprefL; rw [foldl_ins_mem]; simp
theorem fprefL_srt {f : FS} : SrtS (fprefL f) := foldl_ins_srt (by simp [SrtS])
theorem fprefL_length {f : FS} : (fprefL f).length ≤ f.O.length + f.L.length + f.D.length := by
  unfold fprefL
  refine Nat.le_trans foldl_ins_length ?_
  unfold fkeys; simp; omega
theorem prefL_rel {s : BS} {f : FS} (h : ∀ k, k ∈ keysB s ↔ k ∈ fkeys f) : prefL s = fprefL f := srtS_unique prefL_srt fprefL_srt fun k => by rw [prefL_mem, fprefL_mem]; exact h k

section
variable {h h' : Hp} {q : Nat} {V : FV} {f : FS} {Q : Value → Hp → Prop}

def Fp0 (h0 : Hp) (q : Nat) (f : FS) (n : Nat) (env : Env) (g : Hp) : Prop :=
  ∃ (i : Nat) (w : Value), i + n = f.O.length ∧ Le h0 g ∧ SlAt g 24 2 kencP w ((f.O.take i).map (·.1)) ∧ (∀ b, blkOf w = some b → h0 b = none) ∧ env 0 = .pointer (some ⟨q, 0, none⟩) ∧ env 3 = w ∧ env 4 = .int .i64 (i : Nat)
def Fp1 (h0 : Hp) (q : Nat) (f : FS) (n : Nat) (env : Env) (g : Hp) : Prop :=
  ∃ (i : Nat) (w : Value), i + n = f.L.length ∧ Le h0 g ∧ SlAt g 24 2 kencP w (f.O.map (·.1) ++ (f.L.take i).map (·.1.1)) ∧ (∀ b, blkOf w = some b → h0 b = none) ∧ env 0 = .pointer (some ⟨q, 0, none⟩) ∧ env 3 = w ∧ env 5 = .int .i64 (i : Nat)
def Fp2 (h0 : Hp) (q : Nat) (f : FS) (n : Nat) (env : Env) (g : Hp) : Prop :=
  ∃ (i : Nat) (w : Value), i + n = f.D.length ∧ Le h0 g ∧ SlAt g 24 2 kencP w (f.O.map (·.1) ++ f.L.map (·.1.1) ++ (f.D.take i).map tkey) ∧ (∀ b, blkOf w = some b → h0 b = none) ∧ env 0 = .pointer (some ⟨q, 0, none⟩) ∧ env 3 = w ∧ env 6 = .int .i64 (i : Nat)
def Fp4 (h0 : Hp) (ks : List PK) (wk : Value) (n : Nat) (env : Env) (g : Hp) : Prop :=
  ∃ (i : Nat) (w : Value), i + n = ks.length ∧ Le h0 g ∧ SlAt g 24 2 kencP w ((ks.take i).foldl (fun out k => insU k out) []) ∧ (∀ b, blkOf w = some b → h0 b = none) ∧ env 3 = wk ∧ env 7 = w ∧ env 8 = .int .i64 (i : Nat)
def Fp3 (g0 : Hp) (out : List PK) (k : PK) (i : Nat) (wk w : Value) (n : Nat) (env : Env) (g : Hp) : Prop :=
  ∃ j : Nat, j + n = atI out k ∧ g = g0 ∧ env 3 = wk ∧ env 7 = w ∧ env 8 = .int .i64 (i : Nat) ∧ env 9 = .int .i64 (j : Nat)

set_option maxHeartbeats 2000000 in
set_option maxRecDepth 20000 in
theorem fprefM (M : FbM h q V f) (hl : f.O.length + f.L.length + f.D.length ≤ 100000) (hQ : ∀ w h', Le h h' → SlAt h' 24 2 kencP w (fprefL f) → (∀ b, blkOf w = some b → h b = none) → Q w h') :
    Ok Try.prog F_octroiref17_Babel_prefixes #[.pointer (some ⟨q, 0, none⟩)] h Q := by
  refine octroiref17_Babel_prefixes_ok (by simp) ?_
  unfold octroiref17_Babel_prefixes_D
  obtain ⟨op, ocap, hvo⟩ := M.so.shape'
  obtain ⟨lp', lcap, hvl⟩ := M.sl.shape'
  obtain ⟨dp, dcap, hvd⟩ := M.sd.shape'
  simp (disch := omega) [octroiref17_Babel_prefixes_r0, octroiref17_Babel_prefixes_r1, octroiref17_Babel_prefixes_r2]
  refine ⟨Fp0 h q f, ⟨f.O.length, 0, .slice none 0 0, by omega, .refl _, .inl ⟨rfl, rfl⟩, by simp [blkOf], by simp, by simp, by simp⟩, ?_⟩
  rintro n env g ⟨i, w, hin, lg, S, nw, e0, e3, e4⟩
  unfold octroiref17_Babel_prefixes_L0
  have hq := lg _ _ M.pt
  by_cases hm : n = 0
  · have : i = f.O.length := by omega
    subst this
    rw [List.take_of_length_le (Nat.le_refl _)] at S
    simp (disch := omega) [octroiref17_Babel_prefixes_r3, octroiref17_Babel_prefixes_r6, e0, e3, e4, hq, hvo]
    refine ⟨Fp1 h q f, ⟨f.L.length, 0, w, by omega, lg, by simpa using S, nw, by simp [e0], by simp [e3], by simp⟩, ?_⟩
    clear e0 e3 e4 S nw lg hq g env w
    rintro n env g ⟨i, w, hin, lg, S, nw, e0, e3, e5⟩
    unfold octroiref17_Babel_prefixes_L1
    have hq := lg _ _ M.pt
    by_cases hm : n = 0
    · have : i = f.L.length := by omega
      subst this
      rw [List.take_of_length_le (Nat.le_refl _)] at S
      simp (disch := omega) [octroiref17_Babel_prefixes_r7, octroiref17_Babel_prefixes_r10, e0, e3, e5, hq, hvl]
      refine ⟨Fp2 h q f, ⟨f.D.length, 0, w, by omega, lg, by simpa using S, nw, by simp [e0], by simp [e3], by simp⟩, ?_⟩
      clear e0 e3 e5 S nw lg hq g env w
      rintro n env g ⟨i, w, hin, lg, S, nw, e0, e3, e6⟩
      unfold octroiref17_Babel_prefixes_L2
      have hq := lg _ _ M.pt
      by_cases hm : n = 0
      · have : i = f.D.length := by omega
        subst this
        rw [List.take_of_length_le (Nat.le_refl _)] at S
        change SlAt g 24 2 kencP w (fkeys f) at S
        have hkl : (fkeys f).length ≤ 100000 := by unfold fkeys; simp; omega
        unfold fprefL at hQ
        generalize fkeys f = ks at *
        obtain ⟨kp, kcap, hwk⟩ := S.shape'
        simp (disch := omega) [octroiref17_Babel_prefixes_r11, octroiref17_Babel_prefixes_r14, octroiref17_Babel_prefixes_r15, e0, e3, e6, hq, hvd]
        refine ⟨Fp4 g ks w, ⟨ks.length, 0, .slice none 0 0, by omega, .refl _, .inl ⟨rfl, rfl⟩, by simp [blkOf], by simp [e3], by simp, by simp⟩, ?_⟩
        have Sk := S
        have lgk := lg
        have nwk := nw
        clear e0 e3 e6 hq S nw lg env
        rintro n env g2 ⟨i, w2, hin, lg, S, nw, e3, e7, e8⟩
        unfold octroiref17_Babel_prefixes_L4
        have hol : ((ks.take i).foldl (fun out k => insU k out) []).length ≤ ks.length := Nat.le_trans foldl_ins_length (by simp; omega)
        by_cases hm : n = 0
        · have : i = ks.length := by omega
          subst this
          rw [List.take_of_length_le (Nat.le_refl _)] at S
          have e3' := e3.trans hwk
          simp (disch := omega) [octroiref17_Babel_prefixes_r16, octroiref17_Babel_prefixes_r28, e3', e7, e8]
          exact .to _ (.refl _) (hQ _ _ (lgk.trans lg) S (fun b e => none_of_le lgk (nw b e)))
        · obtain ⟨k, hk⟩ : ∃ x, ks[i]? = some x := ⟨_, List.getElem?_eq_getElem (by omega)⟩
          obtain ⟨b1, cap1, c1, hv1, hb1, d0, d1⟩ := kq_at (Sk.le' lg) hk
          have hi' : i < ks.length := by omega
          have hst : (ks.take (i + 1)).foldl (fun out k => insU k out) [] = insU k ((ks.take i).foldl (fun out k => insU k out) []) := by rw [take_snoc hk, List.foldl_append]; rfl
          generalize (ks.take i).foldl (fun out k => insU k out) [] = out at *
          obtain ⟨sp, scap, hw2⟩ := S.shape'
          have e3' := e3.trans hwk
          simp (disch := omega) [octroiref17_Babel_prefixes_r16, octroiref17_Babel_prefixes_r17, e3', e7, e8, hi']
          refine ⟨Fp3 g2 out k i w w2, ⟨atI out k, 0, by omega, rfl, by simp [e3], by simp [e7], by simp [e8], by simp⟩, ?_⟩
          have inv : ∀ (env : Env) (g' : Hp) (w' : Value), Le g g' → SlAt g' 24 2 kencP w' (insU k out) → (∀ b, blkOf w' = some b → g b = none) → env 3 = w → env 7 = w' → env 8 = .int .i64 (i : Nat) →
              octroiref17_Babel_prefixes_r27 env g' (roundK (Fp4 g ks w) n (inBlk 6 (thenK (sq (rg octroiref17_Babel_prefixes_r28) (ex .ret)) (fin Try.prog [.tmp 2] Q))) .normal) := by
            clear e3 e7 e8
            intro env g' w' lg' S' nw' e3 e7 e8
            simp (disch := omega) [octroiref17_Babel_prefixes_r27, e8, wrap_i64]
            exact ⟨n - 1, by omega, i + 1, w', by omega, lg', by rw [hst]; exact S', nw', by simp [e3], by simp [e7], by simp⟩
          clear e3 e7 e8 e3'
          rintro m env g3 ⟨j, hjm, rfl, e3, e7, e8, e9⟩
          unfold octroiref17_Babel_prefixes_L3
          have e3' := e3.trans hv1
          have e7' := e7.trans hw2
          have hale := atI_le (out := out) (k := k)
          by_cases hm3 : m = 0
          · have hj : j = atI out k := by omega
            have last : ∀ env : Env, env 3 = w → env 7 = w2 → env 8 = .int .i64 (i : Nat) → env 9 = .int .i64 (j : Nat) →
                octroiref17_Babel_prefixes_r22 env g3 (thenK (cnd (.tmp 109) (ex (.exit 7)) (ex .normal)) (thenK (sq (rg octroiref17_Babel_prefixes_r23) (sq (rg octroiref17_Babel_prefixes_r24) (sq (rg octroiref17_Babel_prefixes_r25) (rg octroiref17_Babel_prefixes_r26)))) (inBlk 7 (thenK (rg octroiref17_Babel_prefixes_r27) (roundK (Fp4 g ks w) n (inBlk 6 (thenK (sq (rg octroiref17_Babel_prefixes_r28) (ex .ret)) (fin Try.prog [.tmp 2] Q))))))) .normal) := by
              clear e3 e7 e8 e9 e3' e7'
              intro env e3 e7 e8 e9
              have e3' := e3.trans hv1
              have e7' := e7.trans hw2
              have ins : out[j]? ≠ some k → ∀ env : Env, env 3 = w → env 7 = w2 → env 8 = .int .i64 (i : Nat) → env 9 = .int .i64 (j : Nat) →
                  octroiref17_Babel_prefixes_r23 env g3 (thenK (sq (rg octroiref17_Babel_prefixes_r24) (sq (rg octroiref17_Babel_prefixes_r25) (rg octroiref17_Babel_prefixes_r26))) (inBlk 7 (thenK (rg octroiref17_Babel_prefixes_r27) (roundK (Fp4 g ks w) n (inBlk 6 (thenK (sq (rg octroiref17_Babel_prefixes_r28) (ex .ret)) (fin Try.prog [.tmp 2] Q)))))) .normal) := by
                clear e3 e7 e8 e9 e3' e7'
                intro hne env e3 e7 e8 e9
                obtain ⟨wa, hwa, Sa⟩ := S.to_rr und_88 size_24 (fun y _ => ⟨rfl, by simp [kencP]⟩) (i := j) (by omega)
                obtain ⟨wb, hwb, Sb⟩ := S.from_rr und_88 size_24 (fun y _ => ⟨rfl, by simp [kencP]⟩) (i := j) (by omega)
                simp (disch := omega) [octroiref17_Babel_prefixes_r23, e7, e9, hwa]
                refine cat_api_Prefix (xs := []) (.inl ⟨rfl, rfl⟩) Sa (by simp; omega) (fun o1 g4 T1 G1 => ?_)
                have lg4 : Le g3 g4 := fun x o e => G1.keep x o e (by simp [blkOf])
                have f1 : ∀ b, blkOf o1 = some b → g3 b = none := fun b e => by
                  rcases G1.fresh with q1 | q1
                  · rw [q1] at e; cases e
                  · exact q1 b e
                rw [List.nil_append] at T1
                have e3' := e3.trans hv1
                have hb14 := lg4 _ _ hb1
                simp (disch := omega) [octroiref17_Babel_prefixes_r24, e3', e8, hb14, d0, d1, hi']
                refine snoc_api_Prefix T1 (y := k) rfl (by simp [kencP]) (by simp; omega) (fun b9 o2 g5 T2 G2 hb9 => ?_)
                obtain ⟨lg5, f2⟩ := G2.news lg4 f1
                have Sb5 : Src g5 2 kencP wb (out.drop j) := by
                  refine ⟨Sb.1, ?_⟩
                  rcases Sb.2 with q1 | ⟨b, o, cap, c, E, fr, q1, q2, q3⟩
                  · exact .inl q1
                  · exact .inr ⟨b, o, cap, c, E, fr, q1, lg5 _ _ q2, q3⟩
                simp (disch := omega) [octroiref17_Babel_prefixes_r25, e7, e9, hwb]
                refine cat_api_Prefix T2 Sb5 (by simp; omega) (fun o3 g6 T3 G3 => ?_)
                obtain ⟨lg6, f3⟩ := G3.news lg5 f2
                rw [List.append_assoc, List.singleton_append] at T3
                simp (disch := omega) [octroiref17_Babel_prefixes_r26]
                refine inv _ g6 o3 (lg.trans lg6) (by rw [insU_at, if_neg (by rw [← hj]; exact hne), ← hj]; exact T3) (fun b e => none_of_le lg (f3 b e)) ?_ ?_ ?_ <;> simp [e3, e8]
              by_cases hjl : j < out.length
              · obtain ⟨y, hy⟩ : ∃ x, out[j]? = some x := ⟨_, List.getElem?_eq_getElem hjl⟩
                obtain ⟨b5, cap5, c5, hv5, hb5, t0, t1⟩ := kq_at S hy
                have e7'' := e7.trans hv5
                by_cases s1 : y.1 = k.1
                · have s1' : (y.1 : Int) = (k.1 : Int) := by omega
                  by_cases s2 : y.2 = k.2
                  · have hyk : out[j]? = some k := by rw [hy]; congr 1; exact Prod.ext s1 s2
                    simp (disch := omega) [octroiref17_Babel_prefixes_r22, e3', e7'', e8, e9, hb1, hb5, d0, d1, t0, t1, hi', hjl, eq_true s1, eq_true s1', eq_true s2]
                    refine inv _ g3 w2 lg (by rw [insU_at, if_pos (by rw [← hj]; exact hyk)]; exact S) nw ?_ ?_ ?_ <;> simp [e3, e7, e8]
                  · have hyk : out[j]? ≠ some k := by rw [hy]; rintro e; cases e; exact s2 rfl
                    simp (disch := omega) [octroiref17_Babel_prefixes_r22, e3', e7'', e8, e9, hb1, hb5, d0, d1, t0, t1, hi', hjl, eq_true s1, eq_true s1', s2]
                    refine ins hyk _ ?_ ?_ ?_ ?_ <;> simp [e3, e7, e8, e9]
                · have hyk : out[j]? ≠ some k := by rw [hy]; rintro e; cases e; exact s1 rfl
                  have s1' : ¬ (y.1 : Int) = (k.1 : Int) := by omega
                  simp (disch := omega) [octroiref17_Babel_prefixes_r22, e3', e7'', e8, e9, hb1, hb5, d0, d1, t0, t1, hi', hjl, s1, s1']
                  refine ins hyk _ ?_ ?_ ?_ ?_ <;> simp [e3, e7, e8, e9]
              · have hyk : out[j]? ≠ some k := by rw [List.getElem?_eq_none (by omega)]; simp
                simp (disch := omega) [octroiref17_Babel_prefixes_r22, e3', e7', e8, e9, hjl]
                refine ins hyk _ ?_ ?_ ?_ ?_ <;> simp [e3, e7, e8, e9]
            by_cases hjl : j < out.length
            · obtain ⟨y, hy⟩ : ∃ x, out[j]? = some x := ⟨_, List.getElem?_eq_getElem hjl⟩
              have hny : ¬ plt y k := atI_at (by rw [← hj]; exact hy)
              obtain ⟨b5, cap5, c5, hv5, hb5, t0, t1⟩ := kq_at S hy
              have e7'' := e7.trans hv5
              simp (disch := omega) [octroiref17_Babel_prefixes_r18, octroiref17_Babel_prefixes_r19, e3', e7'', e8, e9, hb1, hb5, d0, d1, t0, t1, hi', hjl]
              refine rless_spec ?_
              have hlt : (decide (y.1 < k.1) || (decide (y.1 = k.1) && decide (y.2 < k.2))) = false := by
                have : ¬ pltB y k = true := fun q => hny (pltB_iff.1 q)
                simpa [pltB] using this
              rw [hlt]
              simp (disch := omega) [octroiref17_Babel_prefixes_r20]
              refine last _ ?_ ?_ ?_ ?_ <;> simp [e3, e7, e8, e9]
            · simp (disch := omega) [octroiref17_Babel_prefixes_r18, e3', e7', e8, e9, hjl]
              refine last _ ?_ ?_ ?_ ?_ <;> simp [e3, e7, e8, e9]
          · obtain ⟨y, hy, hp⟩ := atI_lt (out := out) (k := k) (i := j) (by omega)
            have hjl : j < out.length := by omega
            obtain ⟨b5, cap5, c5, hv5, hb5, t0, t1⟩ := kq_at S hy
            have e7'' := e7.trans hv5
            simp (disch := omega) [octroiref17_Babel_prefixes_r18, octroiref17_Babel_prefixes_r19, e3', e7'', e8, e9, hb1, hb5, d0, d1, t0, t1, hi', hjl]
            refine rless_spec ?_
            have hlt : (decide (y.1 < k.1) || (decide (y.1 = k.1) && decide (y.2 < k.2))) = true := by
              have := pltB_iff.2 hp
              simpa [pltB] using this
            rw [hlt]
            simp (disch := omega) [octroiref17_Babel_prefixes_r20, octroiref17_Babel_prefixes_r21, e9, wrap_i64]
            exact ⟨m - 1, by omega, j + 1, by omega, rfl, by simp [e3], by simp [e7], by simp [e8], by simp⟩
      · obtain ⟨x, hx⟩ : ∃ x, f.D[i]? = some x := ⟨_, List.getElem?_eq_getElem (by omega)⟩
        obtain ⟨b2, cap, c, hv', hb2, c0, c1, c2, c3, c4, c5, c6, c7, c8⟩ := Tlv_at (M.sd.le' lg) hx
        have hi' : i < f.D.length := by omega
        have hs : f.O.map (·.1) ++ f.L.map (·.1.1) ++ (f.D.take (i + 1)).map tkey = f.O.map (·.1) ++ f.L.map (·.1.1) ++ (f.D.take i).map tkey ++ [tkey x] := by rw [take_snoc hx, List.map_append, List.append_assoc]; simp
        simp (disch := omega) [octroiref17_Babel_prefixes_r11, octroiref17_Babel_prefixes_r12, e0, e3, e6, hq, hv', hb2, c4, c5, hi']
        refine snoc_api_Prefix S (y := tkey x) rfl (by simp [kencP]) (by simp; omega) (fun b9 w' g' S' G hb9 => ?_)
        obtain ⟨lg', nw'⟩ := G.news lg nw
        simp (disch := omega) [octroiref17_Babel_prefixes_r13, e6, wrap_i64]
        exact ⟨n - 1, by omega, i + 1, w', by omega, lg', by rw [hs]; exact S', nw', by simp [e0], by simp, by simp⟩
    · obtain ⟨x, hx⟩ : ∃ x, f.L[i]? = some x := ⟨_, List.getElem?_eq_getElem (by omega)⟩
      obtain ⟨b2, cap, c, hv', hb2, c0, c1, c2, c3, c4, c5, c6, c7, c8, c9, c10, c11, c12⟩ := fl_at (M.sl.le' lg) hx
      have hi' : i < f.L.length := by omega
      have hs : f.O.map (·.1) ++ (f.L.take (i + 1)).map (·.1.1) = f.O.map (·.1) ++ (f.L.take i).map (·.1.1) ++ [x.1.1] := by rw [take_snoc hx, List.map_append, List.append_assoc]; simp
      simp (disch := omega) [octroiref17_Babel_prefixes_r7, octroiref17_Babel_prefixes_r8, e0, e3, e5, hq, hv', hb2, c0, c1, hi']
      refine snoc_api_Prefix S (y := x.1.1) rfl (by simp [kencP]) (by simp; omega) (fun b9 w' g' S' G hb9 => ?_)
      obtain ⟨lg', nw'⟩ := G.news lg nw
      simp (disch := omega) [octroiref17_Babel_prefixes_r9, e5, wrap_i64]
      exact ⟨n - 1, by omega, i + 1, w', by omega, lg', by rw [hs]; exact S', nw', by simp [e0], by simp, by simp⟩
  · obtain ⟨x, hx⟩ : ∃ x, f.O[i]? = some x := ⟨_, List.getElem?_eq_getElem (by omega)⟩
    obtain ⟨b2, cap, c, hv', hb2, c0, c1, c2, c3⟩ := fo_at (M.so.le' lg) hx
    have hi' : i < f.O.length := by omega
    have hs : (f.O.take (i + 1)).map (·.1) = (f.O.take i).map (·.1) ++ [x.1] := by rw [take_snoc hx, List.map_append]; rfl
    simp (disch := omega) [octroiref17_Babel_prefixes_r3, octroiref17_Babel_prefixes_r4, e0, e3, e4, hq, hv', hb2, c0, c1, hi']
    refine snoc_api_Prefix S (y := x.1) rfl (by simp [kencP]) (by simp; omega) (fun b9 w' g' S' G hb9 => ?_)
    obtain ⟨lg', nw'⟩ := G.news lg nw
    simp (disch := omega) [octroiref17_Babel_prefixes_r5, e4, wrap_i64]
    exact ⟨n - 1, by omega, i + 1, w', by omega, lg', by rw [hs]; exact S', nw', by simp [e0], by simp, by simp⟩
end
end Go.Proofs.Ytchbipkoifmmdaa

/- The document's Babel: All, Source. -/
namespace Go.Proofs.Ytchbipkoifmmdaa
open Go
set_option linter.unusedSimpArgs false
set_option linter.unusedVariables false

def fallX (f : FS) (k : PK) : Option Rt := if (fwayV f k).2.2 = true then some ⟨k.1, k.2, f.dom, 115, (fwayV f k).1.c, (fwayV f k).2.1, (fwayV f k).1.tg⟩ else none
def fallB (f : FS) (ks : List PK) : List Rt := ks.filterMap (fallX f)
theorem fm_snoc {α β : Type} {g : α → Option β} {A : List α} {k : α} : (A ++ [k]).filterMap g = A.filterMap g ++ (g k).toList := by
  rw [List.filterMap_append]
  cases h : g k <;> simp [List.filterMap, h]

section
variable {h h' : Hp} {q : Nat} {V : FV} {f : FS} {Q : Value → Hp → Prop}

/-- What is laid down of a way. -/
structure FOk (f : FS) : Prop where
  o : f.O.length ≤ 100000
  l : f.L.length ≤ 90000
  m : f.M.length ≤ 100000
  d : f.D.length ≤ 100000
  p : f.O.length + f.L.length + f.D.length ≤ 90000
  sq : SeqOk f.M
  tl : TldOk f.L

def FalInv (h0 : Hp) (q : Nat) (f : FS) (wk : Value) (ks : List PK) (n : Nat) (env : Env) (g : Hp) : Prop :=
  ∃ (i : Nat) (w : Value), i + n = ks.length ∧ Le h0 g ∧ SlAt g 38 7 Rt.enc w (fallB f (ks.take i)) ∧ (∀ b, blkOf w = some b → h0 b = none) ∧
    env 0 = .pointer (some ⟨q, 0, none⟩) ∧ env 3 = w ∧ env 4 = wk ∧ env 5 = .int .i64 (i : Nat)

set_option maxHeartbeats 2000000 in
set_option maxRecDepth 20000 in
theorem fAllM (M : FbM h q V f) (K : FOk f) (hQ : ∀ w h', Le h h' → SlAt h' 38 7 Rt.enc w (fallB f (fprefL f)) → (∀ b, blkOf w = some b → h b = none) → Q w h') :
    Ok Try.prog F_octroiref17_Babel_All #[.pointer (some ⟨q, 0, none⟩)] h Q := by
  refine octroiref17_Babel_All_ok (by simp) ?_
  unfold octroiref17_Babel_All_D
  simp (disch := omega) [octroiref17_Babel_All_r0, octroiref17_Babel_All_r1, octroiref17_Babel_All_r2]
  have hkl := fprefL_length (f := f)
  have hp := K.p
  refine fprefM M (by omega) (fun wk h1 l1 Sk nk => ?_)
  generalize fprefL f = ks at *
  obtain ⟨sp, scap, hwk⟩ := Sk.shape'
  have M1 := M.le' l1
  simp (disch := omega) [octroiref17_Babel_All_r3]
  refine ⟨FalInv h1 q f wk ks, ⟨ks.length, 0, .slice none 0 0, by omega, .refl _, .inl ⟨rfl, rfl⟩, by simp [blkOf], by simp, by simp, by simp, by simp⟩, ?_⟩
  rintro n env g ⟨i, w, hin, lg, S, nw, e0, e3, e4, e5⟩
  unfold octroiref17_Babel_All_L0
  have hsl : (fallB f (ks.take i)).length ≤ ks.length := by unfold fallB; exact Nat.le_trans (List.length_filterMap_le _ _) (by rw [List.length_take]; omega)
  have e4' := e4.trans hwk
  by_cases hm : n = 0
  · have : i = ks.length := by omega
    subst this
    rw [List.take_of_length_le (Nat.le_refl _)] at S
    simp (disch := omega) [octroiref17_Babel_All_r4, octroiref17_Babel_All_r9, e0, e3, e4', e5]
    exact .to _ (.refl _) (hQ _ _ (l1.trans lg) S (fun b e => none_of_le l1 (nw b e)))
  · obtain ⟨k, hk⟩ : ∃ x, ks[i]? = some x := ⟨_, List.getElem?_eq_getElem (by omega)⟩
    obtain ⟨b, cap, c, hv', hb, c0, c1⟩ := kq_at (Sk.le' lg) hk
    have hi' : i < ks.length := by omega
    have tk := take_snoc hk
    have e4'' := e4.trans hv'
    simp (disch := omega) [octroiref17_Babel_All_r4, octroiref17_Babel_All_r5, e0, e3, e4'', e5, hb, c0, c1, hi']
    refine fWayM (k := k) (M1.le' lg) K.o (by have := K.l; omega) K.m K.sq K.tl (fun g2 l2 => ?_)
    simp (disch := omega)
    intro b6 hb6
    have lg2 := lg.trans l2
    have L6 : Le g2 (g2.upd b6 (.cells tc0 31)) := .new hb6
    have f6 : (g2.upd b6 (.cells tc0 31)) b6 = some (.cells tc0 31 (0, 0)) := upd_same
    have L7 : ∀ o2, Le g2 ((g2.upd b6 (.cells tc0 31)).upd b6 o2) := fun o2 y o e => by
      have : y ≠ b6 := by rintro rfl; rw [hb6] at e; cases e
      rw [upd_ne this]; exact L6 _ _ e
    generalize g2.upd b6 (.cells tc0 31) = g3 at *
    simp (disch := omega)
    refine (stA_of f6 (by rfl) (by rfl)).mpr ?_
    have L8 := L7 (.cells (fwayV f k).1.cells 31 (0, 0))
    have f8 : (g3.upd b6 (.cells (fwayV f k).1.cells 31 (0, 0))) b6 = some (.cells (fwayV f k).1.cells 31 (0, 0)) := upd_same
    show thenK _ _ _ _ (g3.upd b6 (.cells (fwayV f k).1.cells 31 (0, 0)))
    generalize g3.upd b6 (.cells (fwayV f k).1.cells 31 (0, 0)) = g4 at *
    have lg4 := lg2.trans L8
    have S4 := (S.le' l2).le' L8
    have hb4 := L8 _ _ (l2 _ _ hb)
    have hp4 := (M1.le' lg4).pt
    have hX : fallX f k = if (fwayV f k).2.2 = true then some ⟨k.1, k.2, f.dom, 115, (fwayV f k).1.c, (fwayV f k).2.1, (fwayV f k).1.tg⟩ else none := rfl
    generalize fwayV f k = y at *
    cases hw : y.2.2 with
    | false =>
      rw [if_neg (by rw [hw]; simp)] at hX
      have hs : fallB f (ks.take (i + 1)) = fallB f (ks.take i) := by unfold fallB; rw [tk, fm_snoc, hX]; simp
      simp (disch := omega) [octroiref17_Babel_All_r6, octroiref17_Babel_All_r8, e5, wrap_i64]
      exact ⟨n - 1, by omega, i + 1, w, by omega, lg4, by rw [hs]; exact S4, nw, by simp [e0], by simp [e3], by simp [e4], by simp⟩
    | true =>
      rw [if_pos hw] at hX
      have hs : fallB f (ks.take (i + 1)) = fallB f (ks.take i) ++ [⟨k.1, k.2, f.dom, 115, y.1.c, y.2.1, y.1.tg⟩] := by unfold fallB; rw [tk, fm_snoc, hX]; simp
      simp (disch := omega) [octroiref17_Babel_All_r6, octroiref17_Babel_All_r7, e0, e3, e4'', e5, hp4, hb4, c0, c1, hi', f8]
      refine snoc_api_Route S4 (y := ⟨k.1, k.2, f.dom, 115, y.1.c, y.2.1, y.1.tg⟩) rfl (by simp [Rt.enc]) (by omega) (fun b9 w' g' S' G hb9 => ?_)
      obtain ⟨lg', nw'⟩ := G.news lg4 nw
      simp (disch := omega) [octroiref17_Babel_All_r8, e5, wrap_i64]
      exact ⟨n - 1, by omega, i + 1, w', by omega, lg', by rw [hs]; exact S', nw', by simp [e0], by simp, by simp [e4], by simp⟩

set_option maxHeartbeats 1000000 in
set_option maxRecDepth 20000 in
theorem fSourceM {k : PK} (M : FbM h q V f) (K : FOk f) (hQ : ∀ h', Le h h' → Q (.tuple #[.int .u64 (if (fwayV f k).2.2 = true then (fwayV f k).1.rt else 0 : Nat), .bool (fwayV f k).2.2]) h') :
    Ok Try.prog F_octroiref17_Babel_Source #[.pointer (some ⟨q, 0, none⟩), .agg #[.int .u32 (k.1 : Nat), .int .i64 k.2]] h Q := by
  refine octroiref17_Babel_Source_ok (by simp) ?_
  unfold octroiref17_Babel_Source_D
  simp (disch := omega) [octroiref17_Babel_Source_r0]
  intro b3 hb3
  have L1 : Le h (h.upd b3 (.cells #[.int .u32 (k.1 : Nat), .int .i64 k.2] 24)) := .new hb3
  have f3 : (h.upd b3 (.cells #[.int .u32 (k.1 : Nat), .int .i64 k.2] 24)) b3 = some (.cells #[.int .u32 (k.1 : Nat), .int .i64 k.2] 24) := upd_same
  generalize h.upd b3 (.cells #[.int .u32 (k.1 : Nat), .int .i64 k.2] 24) = h1 at *
  simp (disch := omega) [octroiref17_Babel_Source_r1, f3]
  refine fWayM (k := k) (M.le' L1) K.o (by have := K.l; omega) K.m K.sq K.tl (fun g2 l2 => ?_)
  simp (disch := omega)
  intro b6 hb6
  have lg2 := L1.trans l2
  have L6 : Le g2 (g2.upd b6 (.cells tc0 31)) := .new hb6
  have f6 : (g2.upd b6 (.cells tc0 31)) b6 = some (.cells tc0 31 (0, 0)) := upd_same
  have L7 : ∀ o2, Le g2 ((g2.upd b6 (.cells tc0 31)).upd b6 o2) := fun o2 y o e => by
    have : y ≠ b6 := by rintro rfl; rw [hb6] at e; cases e
    rw [upd_ne this]; exact L6 _ _ e
  generalize g2.upd b6 (.cells tc0 31) = g3 at *
  simp (disch := omega)
  refine (stA_of f6 (by rfl) (by rfl)).mpr ?_
  have L8 := L7 (.cells (fwayV f k).1.cells 31 (0, 0))
  have f8 : (g3.upd b6 (.cells (fwayV f k).1.cells 31 (0, 0))) b6 = some (.cells (fwayV f k).1.cells 31 (0, 0)) := upd_same
  show thenK _ _ _ _ (g3.upd b6 (.cells (fwayV f k).1.cells 31 (0, 0)))
  generalize g3.upd b6 (.cells (fwayV f k).1.cells 31 (0, 0)) = g4 at *
  have lg4 := lg2.trans L8
  generalize fwayV f k = y at *
  cases hw : y.2.2 with
  | false =>
    rw [hw, if_neg (by simp)] at hQ
    simp (disch := omega) [octroiref17_Babel_Source_r2, octroiref17_Babel_Source_r3]
    exact .to _ (.refl _) (hQ _ lg4)
  | true =>
    rw [hw, if_pos rfl] at hQ
    simp (disch := omega) [octroiref17_Babel_Source_r2, octroiref17_Babel_Source_r4, f8]
    exact .to _ (.refl _) (hQ _ lg4)
end
end Go.Proofs.Ytchbipkoifmmdaa

/- The document's Babel: Tell. -/
namespace Go.Proofs.Ytchbipkoifmmdaa
open Go
set_option linter.unusedSimpArgs false
set_option linter.unusedVariables false

def fwayX (f : FS) (k : PK) : Option Tlv := if (fwayV f k).2.2 = true then some (fwayV f k).1 else none
def fways (f : FS) (ks : List PK) : List Tlv := ks.filterMap (fwayX f)
def fgoneD (D : List Tlv) (k : PK) : List Tlv := (D.filter fun t => decide (tkey t = k)).map goneX
def fgoneK (f : FS) (k : PK) : List Tlv := if (fwayV f k).2.2 = true then [] else fgoneD f.D k
def fgone (f : FS) (ks : List PK) : List Tlv := ks.flatMap (fgoneK f)
def fknowT (f : FS) (t : Tlv) : FS := fknowS f (tkey t) t.rt t.s t.c
def fTellS (f : FS) : FS := { (fways f (fprefL f)).foldl fknowT f with D := fways f (fprefL f) }
def fTellL (f : FS) : List Tlv := fways f (fprefL f) ++ fgone f (fprefL f)

theorem fgone_snoc {f : FS} {A : List PK} {k : PK} : fgone f (A ++ [k]) = fgone f A ++ fgoneK f k := by unfold fgone; rw [List.flatMap_append]; simp
theorem fgoneD_snoc {A : List Tlv} {t : Tlv} {k : PK} : fgoneD (A ++ [t]) k = fgoneD A k ++ (if tkey t = k then [goneX t] else []) := by
  unfold fgoneD; rw [filter_snoc, List.map_append]; by_cases h : tkey t = k <;> simp [h]
theorem fgoneD_length {D : List Tlv} {k : PK} : (fgoneD D k).length ≤ D.length := by unfold fgoneD; rw [List.length_map]; exact List.length_filter_le _ _
theorem fgoneK_length {f : FS} {k : PK} : (fgoneK f k).length ≤ f.D.length := by unfold fgoneK; split; simp; exact fgoneD_length
theorem fgone_length {f : FS} : ∀ {ks : List PK}, (fgone f ks).length ≤ ks.length * f.D.length
  | [] => by simp [fgone]
  | k :: ks => by
    have h1 := fgone_length (f := f) (ks := ks)
    have h2 := fgoneK_length (f := f) (k := k)
    unfold fgone at *
    rw [List.flatMap_cons, List.length_append, List.length_cons, Nat.add_mul]; omega

theorem fknow_parts {f : FS} {k : PK} {rt sn : Nat} {n : Int} : (fknowS f k rt sn n).O = f.O ∧ (fknowS f k rt sn n).L = f.L ∧ (fknowS f k rt sn n).D = f.D ∧ (fknowS f k rt sn n).seq = f.seq ∧ (fknowS f k rt sn n).most = f.most ∧ (fknowS f k rt sn n).dom = f.dom ∧ (fknowS f k rt sn n).id = f.id := by
  unfold fknowS; split <;> exact ⟨rfl, rfl, rfl, rfl, rfl, rfl, rfl⟩
theorem fknow_seq {f : FS} {k : PK} {rt sn : Nat} {n : Int} (h : SeqOk f.M) (hs : sn < 65536) : SeqOk (fknowS f k rt sn n).M := by
  unfold fknowS
  split
  · intro e he
    rcases setM_mem he with rfl | q
    · exact hs
    · exact h e q
  · exact h
theorem fknow_len {f : FS} {k : PK} {rt sn : Nat} {n : Int} : (fknowS f k rt sn n).M.length ≤ f.M.length + 1 := by
  unfold fknowS
  split
  · show (setM _ _ f.M).length ≤ _
    rw [setM_length]; split <;> omega
  · omega
theorem fknows_parts : ∀ {ws : List Tlv} {f : FS}, (ws.foldl fknowT f).O = f.O ∧ (ws.foldl fknowT f).L = f.L ∧ (ws.foldl fknowT f).D = f.D ∧ (ws.foldl fknowT f).seq = f.seq ∧ (ws.foldl fknowT f).most = f.most ∧ (ws.foldl fknowT f).dom = f.dom ∧ (ws.foldl fknowT f).id = f.id ∧ (ws.foldl fknowT f).M.length ≤ f.M.length + ws.length
  | [], f => ⟨rfl, rfl, rfl, rfl, rfl, rfl, rfl, by simp⟩
  | t :: ws, f => by
    obtain ⟨a, b, c, d, e, g, h, i⟩ := fknows_parts (ws := ws) (f := fknowT f t)
    obtain ⟨a', b', c', d', e', g', h'⟩ := fknow_parts (f := f) (k := tkey t) (rt := t.rt) (sn := t.s) (n := t.c)
    have i' := fknow_len (f := f) (k := tkey t) (rt := t.rt) (sn := t.s) (n := t.c)
    rw [List.foldl_cons]
    refine ⟨a.trans a', b.trans b', c.trans c', d.trans d', e.trans e', g.trans g', h.trans h', Nat.le_trans i ?_⟩
    unfold fknowT
    rw [List.length_cons]; omega
theorem fknows_seq : ∀ {ws : List Tlv} {f : FS}, SeqOk f.M → (∀ t ∈ ws, t.s < 65536) → SeqOk (ws.foldl fknowT f).M
  | [], f, h, _ => h
  | t :: ws, f, h, hw => by
    rw [List.foldl_cons]
    exact fknows_seq (fknow_seq h (hw t (by simp))) (fun t' h' => hw t' (by simp [h']))

section
variable {h h' : Hp} {q : Nat} {V : FV} {f : FS} {Q : Value → Hp → Prop}

def Ft1 (h0 : Hp) (q : Nat) (f : FS) (wk : Value) (ks : List PK) (n : Nat) (env : Env) (g : Hp) : Prop :=
  ∃ (i : Nat) (wv gv : Value), i + n = ks.length ∧ Le h0 g ∧ SlAt g 31 9 Tlv.enc wv (fways f (ks.take i)) ∧ SlAt g 31 9 Tlv.enc gv (fgone f (ks.take i)) ∧ (∀ b, blkOf wv = some b → h0 b = none) ∧ (∀ b, blkOf gv = some b → h0 b = none) ∧ (∀ b, blkOf wv = some b → blkOf gv ≠ some b) ∧
    env 0 = .pointer (some ⟨q, 0, none⟩) ∧ env 3 = wv ∧ env 4 = gv ∧ env 5 = wk ∧ env 6 = .int .i64 (i : Nat)
def Ft0 (h0 : Hp) (q : Nat) (f : FS) (wk wv : Value) (ks : List PK) (i : Nat) (k : PK) (n : Nat) (env : Env) (g : Hp) : Prop :=
  ∃ (j : Nat) (gv : Value), j + n = f.D.length ∧ Le h0 g ∧ SlAt g 31 9 Tlv.enc wv (fways f (ks.take i)) ∧ SlAt g 31 9 Tlv.enc gv (fgone f (ks.take i) ++ fgoneD (f.D.take j) k) ∧ (∀ b, blkOf gv = some b → h0 b = none) ∧ (∀ b, blkOf wv = some b → blkOf gv ≠ some b) ∧
    env 0 = .pointer (some ⟨q, 0, none⟩) ∧ env 3 = wv ∧ env 4 = gv ∧ env 5 = wk ∧ env 6 = .int .i64 (i : Nat) ∧ env 10 = .int .i64 (j : Nat)
def Ft2 (g0 : Hp) (q : Nat) (V : FV) (f : FS) (wv gv : Value) (ws gs : List Tlv) (n : Nat) (env : Env) (g : Hp) : Prop :=
  ∃ (i : Nat) (V' : FV), i + n = ws.length ∧ FbM g q V' ((ws.take i).foldl fknowT f) ∧ Fr g0 g (ownF q V) (ownF q V') ∧
    env 0 = .pointer (some ⟨q, 0, none⟩) ∧ env 3 = wv ∧ env 4 = gv ∧ env 12 = .int .i64 (i : Nat)

set_option maxHeartbeats 4000000 in
set_option maxRecDepth 20000 in
theorem fTellM (M : FbM h q V f) (K : FOk f) (hsm : f.O.length + f.L.length + f.D.length ≤ 1000) (hlm : f.M.length ≤ 90000) (hwok : ∀ t ∈ fways f (fprefL f), t.s < 65536 ∧ t.a < 2 ^ 32)
    (hQ : ∀ w h', FQ h q V (fTellS f) h' → SlAt h' 31 9 Tlv.enc w (fTellL f) → Q w h') :
    Ok Try.prog F_octroiref17_Babel_Tell #[.pointer (some ⟨q, 0, none⟩)] h Q := by
  refine octroiref17_Babel_Tell_ok (by simp) ?_
  unfold octroiref17_Babel_Tell_D
  simp (disch := omega) [octroiref17_Babel_Tell_r0, octroiref17_Babel_Tell_r1, octroiref17_Babel_Tell_r2, octroiref17_Babel_Tell_r3]
  have hkl := fprefL_length (f := f)
  refine fprefM M (by omega) (fun wk h1 l1 Sk nk => ?_)
  unfold fTellS fTellL at hQ
  generalize fprefL f = ks at *
  obtain ⟨sp, scap, hwk⟩ := Sk.shape'
  have M1 := M.le' l1
  have gbd : ∀ i, (fgone f (ks.take i)).length ≤ 1000000 := fun i => by
    have h1 := fgone_length (f := f) (ks := ks.take i)
    have h2 : (ks.take i).length ≤ 1000 := by rw [List.length_take]; omega
    have h3 : (ks.take i).length * f.D.length ≤ 1000 * 1000 := Nat.mul_le_mul h2 (by omega)
    omega
  have wbd : ∀ i, (fways f (ks.take i)).length ≤ 1000 := fun i => by unfold fways; exact Nat.le_trans (List.length_filterMap_le _ _) (by rw [List.length_take]; omega)
  obtain ⟨dp, dcap, hvd⟩ := M1.sd.shape'
  simp (disch := omega) [octroiref17_Babel_Tell_r4]
  refine ⟨Ft1 h1 q f wk ks, ⟨ks.length, 0, .slice none 0 0, .slice none 0 0, by omega, .refl _, .inl ⟨rfl, rfl⟩, .inl ⟨rfl, rfl⟩, by simp [blkOf], by simp [blkOf], by simp [blkOf], by simp, by simp, by simp, by simp, by simp⟩, ?_⟩
  rintro n env g ⟨i, wv, gv, hin, lg, Sw, Sg, nw, ng, dis, e0, e3, e4, e5, e6⟩
  unfold octroiref17_Babel_Tell_L1
  have e5' := e5.trans hwk
  have hwl := wbd i
  have hgl := gbd i
  by_cases hm : n = 0
  · have : i = ks.length := by omega
    subst this
    rw [List.take_of_length_le (Nat.le_refl _)] at Sw Sg hwl hgl
    simp (disch := omega) [octroiref17_Babel_Tell_r5, octroiref17_Babel_Tell_r18, e0, e3, e4, e5', e6]
    have Mg := M1.le' lg
    generalize fways f ks = ws at *
    generalize fgone f ks = gs at *
    refine ⟨Ft2 g q V f wv gv ws gs, ⟨ws.length, 0, V, by omega, Mg, .refl _ _, by simp [e0], by simp [e3], by simp [e4], by simp⟩, ?_⟩
    clear e0 e3 e4 e5 e6 e5' env
    have aw : ∀ x, x ∈ (blkOf wv).toList → ∃ o, g x = some o := fun x hx => Sw.alive (by simpa using hx)
    have dw : ∀ x, x ∈ (blkOf wv).toList → x ∉ ownF q V := fun x hx m => by
      obtain ⟨o, e⟩ := M1.alive x m
      rw [nw x (by simpa using hx)] at e; cases e
    have ag : ∀ x, x ∈ (blkOf gv).toList → ∃ o, g x = some o := fun x hx => Sg.alive (by simpa using hx)
    have dg : ∀ x, x ∈ (blkOf gv).toList → x ∉ ownF q V := fun x hx m => by
      obtain ⟨o, e⟩ := M1.alive x m
      rw [ng x (by simpa using hx)] at e; cases e
    rintro n env g2 ⟨i, V2, hin, M2, F2, e0, e3, e4, e12⟩
    unfold octroiref17_Babel_Tell_L2
    have Sw2 : SlAt g2 31 9 Tlv.enc wv ws := Sw.keep fun b o e e2 => F2.keep b o e2 (dw b (by simp [e]))
    have Sg2 : SlAt g2 31 9 Tlv.enc gv gs := Sg.keep fun b o e e2 => F2.keep b o e2 (dg b (by simp [e]))
    obtain ⟨wp, wcap, hwv⟩ := Sw2.shape'
    have e3' := e3.trans hwv
    by_cases hm2 : n = 0
    · have : i = ws.length := by omega
      subst this
      rw [List.take_of_length_le (Nat.le_refl _)] at M2
      generalize ws.foldl fknowT f = f2 at *
      have dw2 := F2.apart aw dw
      have dg2 := F2.apart ag dg
      have hq2 := M2.pt
      simp (disch := omega) [octroiref17_Babel_Tell_r19, octroiref17_Babel_Tell_r22, e0, e3', e12]
      rw [← hwv]
      refine cat_api_BabelTlv (xs := []) (.inl ⟨rfl, rfl⟩) (Sw2.toSrc (fun y _ => Tlv.one y)) (by simp; omega) (fun o1 g3 T1 G1 => ?_)
      have lg3 : Le g2 g3 := fun x o e => G1.keep x o e (by simp [blkOf])
      have f1 : ∀ b, blkOf o1 = some b → g2 b = none := fun b e => by
        rcases G1.fresh with q1 | q1
        · rw [q1] at e; cases e
        · exact q1 b e
      rw [List.nil_append] at T1
      have hq3 := lg3 _ _ hq2
      obtain ⟨op, ocap, ho1⟩ := T1.shape'
      simp (disch := omega) [e0, hq3, ho1]
      rw [← ho1]
      have K4 := M2.slotD (.new lg3 f1) T1
      have nq : ∀ {w : Value}, (∀ x, x ∈ (blkOf w).toList → x ∉ ownF q V2) → ∀ b, blkOf w = some b → b ≠ q := fun d b e e2 => d b (by simp [e]) (mem_ownF.2 (.inl e2))
      have Sw4 : SlAt (g3.upd q (.cells (fbcells f2 { V2 with d := o1 }) T_fb (0, 0))) 31 9 Tlv.enc wv ws := (Sw2.le' lg3).keep fun b o e e2 => by rw [upd_ne (nq dw2 b e)]; exact e2
      have Sg4 : SlAt (g3.upd q (.cells (fbcells f2 { V2 with d := o1 }) T_fb (0, 0))) 31 9 Tlv.enc gv gs := (Sg2.le' lg3).keep fun b o e e2 => by rw [upd_ne (nq dg2 b e)]; exact e2
      show octroiref17_Babel_Tell_r23 _ (g3.upd q (.cells (fbcells f2 { V2 with d := o1 }) T_fb (0, 0))) _
      generalize g3.upd q (.cells (fbcells f2 { V2 with d := o1 }) T_fb (0, 0)) = g4 at *
      obtain ⟨V4, M4, F4⟩ := K4
      have dw4 := F4.apart (R := (blkOf wv).toList) (fun x hx => Sw2.alive (by simpa using hx)) dw2
      simp (disch := omega) [octroiref17_Babel_Tell_r23, e3, e4]
      refine cat_api_BabelTlv Sw4 (Sg4.toSrc (fun y _ => Tlv.one y)) (by omega) (fun w' g5 S5 G5 => ?_)
      simp (disch := omega)
      have M5 : FbM g5 q V4 _ := M4.keep (fun x o m e => G5.keep x o e (fun k => dw4 x (by simp [← k]) m))
      have F24 := F2.trans F4
      have lhg := l1.trans lg
      have F5 : Fr h g5 (ownF q V) (ownF q V4) := ⟨fun x o e n => G5.keep x o (F24.keep x o (lhg _ _ e) n) (fun k => by
        have := none_of_le l1 (nw x k.symm)
        rw [this] at e; cases e), fun x m => by
        rcases F24.own x m with k | k
        · exact .inl k
        · exact .inr (none_of_le lhg k)⟩
      exact .to _ (.refl _) (hQ _ _ ⟨V4, M5, F5⟩ S5)
    · obtain ⟨t, ht⟩ : ∃ t, ws[i]? = some t := ⟨_, List.getElem?_eq_getElem (by omega)⟩
      obtain ⟨b, cap, c, hv', hb, c0, c1, c2, c3, c4, c5, c6, c7, c8⟩ := Tlv_at Sw2 ht
      have hi' : i < ws.length := by omega
      have tok := hwok t (List.mem_of_getElem? ht)
      have hfold : (ws.take (i + 1)).foldl fknowT f = fknowT ((ws.take i).foldl fknowT f) t := by rw [take_snoc ht, List.foldl_append]; rfl
      have hseq : SeqOk ((ws.take i).foldl fknowT f).M := fknows_seq K.sq (fun t' h' => (hwok t' (List.mem_of_mem_take h')).1)
      have hlen : ((ws.take i).foldl fknowT f).M.length ≤ 100000 := by
        have := (fknows_parts (ws := ws.take i) (f := f)).2.2.2.2.2.2.2
        rw [List.length_take] at this; omega
      generalize (ws.take i).foldl fknowT f = f2 at *
      have e3'' := e3.trans hv'
      simp (disch := omega) [octroiref17_Babel_Tell_r19, octroiref17_Babel_Tell_r20, e0, e3'', e12, hb, c1, c3, c4, c5, c6, hi']
      refine fKnowM (k := tkey t) M2 hlen hseq tok.1 tok.2 (fun g3 K3 => ?_)
      obtain ⟨V3, M3, F3⟩ := K3
      simp (disch := omega) [octroiref17_Babel_Tell_r21, e12, wrap_i64]
      exact ⟨n - 1, by omega, i + 1, V3, by omega, by rw [hfold]; exact M3, F2.trans F3, by simp [e0], by simp [e3], by simp [e4], by simp⟩
  · obtain ⟨k, hk⟩ : ∃ x, ks[i]? = some x := ⟨_, List.getElem?_eq_getElem (by omega)⟩
    obtain ⟨b, cap, c, hv', hb, c0, c1⟩ := kq_at (Sk.le' lg) hk
    have hi' : i < ks.length := by omega
    have tk := take_snoc hk
    have e5'' := e5.trans hv'
    simp (disch := omega) [octroiref17_Babel_Tell_r5, octroiref17_Babel_Tell_r6, e0, e3, e4, e5'', e6, hb, c0, c1, hi']
    refine fWayM (k := k) (M1.le' lg) K.o (by have := K.l; omega) K.m K.sq K.tl (fun g2 l2 => ?_)
    simp (disch := omega)
    intro b6 hb6
    have lg2 := lg.trans l2
    have L6 : Le g2 (g2.upd b6 (.cells tc0 31)) := .new hb6
    have f6 : (g2.upd b6 (.cells tc0 31)) b6 = some (.cells tc0 31 (0, 0)) := upd_same
    have L7 : ∀ o2, Le g2 ((g2.upd b6 (.cells tc0 31)).upd b6 o2) := fun o2 y o e => by
      have : y ≠ b6 := by rintro rfl; rw [hb6] at e; cases e
      rw [upd_ne this]; exact L6 _ _ e
    generalize g2.upd b6 (.cells tc0 31) = g3 at *
    simp (disch := omega)
    refine (stA_of f6 (by rfl) (by rfl)).mpr ?_
    have L8 := L7 (.cells (fwayV f k).1.cells 31 (0, 0))
    have f8 : (g3.upd b6 (.cells (fwayV f k).1.cells 31 (0, 0))) b6 = some (.cells (fwayV f k).1.cells 31 (0, 0)) := upd_same
    show thenK _ _ _ _ (g3.upd b6 (.cells (fwayV f k).1.cells 31 (0, 0)))
    generalize g3.upd b6 (.cells (fwayV f k).1.cells 31 (0, 0)) = g4 at *
    have lg4 := lg2.trans L8
    have Sw4 := (Sw.le' l2).le' L8
    have Sg4 := (Sg.le' l2).le' L8
    have hX : fwayX f k = if (fwayV f k).2.2 = true then some (fwayV f k).1 else none := rfl
    have hG : fgoneK f k = if (fwayV f k).2.2 = true then [] else fgoneD f.D k := rfl
    generalize fwayV f k = y at *
    have inv : ∀ (env : Env) (g' : Hp) (wv' gv' : Value), Le h1 g' → SlAt g' 31 9 Tlv.enc wv' (fways f (ks.take (i + 1))) → SlAt g' 31 9 Tlv.enc gv' (fgone f (ks.take (i + 1))) → (∀ b, blkOf wv' = some b → h1 b = none) → (∀ b, blkOf gv' = some b → h1 b = none) → (∀ b, blkOf wv' = some b → blkOf gv' ≠ some b) →
        env 0 = .pointer (some ⟨q, 0, none⟩) → env 3 = wv' → env 4 = gv' → env 5 = wk → env 6 = .int .i64 (i : Nat) →
        octroiref17_Babel_Tell_r17 env g' (roundK (Ft1 h1 q f wk ks) n (inBlk 0 (thenK (sq (sq (rg octroiref17_Babel_Tell_r18) (blk 4 (lp octroiref17_Babel_Tell_L2))) (sq (rg octroiref17_Babel_Tell_r22) (sq (rg octroiref17_Babel_Tell_r23) (ex .ret)))) (fin Try.prog [.tmp 2] Q))) .normal) := by
      clear e0 e3 e4 e5 e6 e5' e5''
      intro env g' wv' gv' lg' Sw' Sg' nw' ng' dis' e0 e3 e4 e5 e6
      simp (disch := omega) [octroiref17_Babel_Tell_r17, e6, wrap_i64]
      exact ⟨n - 1, by omega, i + 1, wv', gv', by omega, lg', Sw', Sg', nw', ng', dis', by simp [e0], by simp [e3], by simp [e4], by simp [e5], by simp⟩
    cases hw : y.2.2 with
    | true =>
      rw [if_pos hw] at hX hG
      have hs : fways f (ks.take (i + 1)) = fways f (ks.take i) ++ [y.1] := by unfold fways; rw [tk, fm_snoc, hX]; simp
      have hg : fgone f (ks.take (i + 1)) = fgone f (ks.take i) := by rw [tk, fgone_snoc, hG]; simp
      simp (disch := omega) [octroiref17_Babel_Tell_r7, octroiref17_Babel_Tell_r8, e3, f8]
      refine snoc_api_BabelTlv Sw4 (y := y.1) rfl (by simp [Tlv.enc]) (by omega) (fun b9 w' g' S' G hb9 => ?_)
      obtain ⟨lg', nw'⟩ := G.news lg4 nw
      have ne1 : ∀ b, blkOf gv = some b → b ≠ b9 ∧ blkOf wv ≠ some b := fun b e => ⟨(by rintro rfl; obtain ⟨o, e2⟩ := Sg4.alive e; rw [hb9] at e2; cases e2), fun q => dis b q e⟩
      simp (disch := omega)
      refine inv _ g' w' gv lg' (by rw [hs]; exact S') (by rw [hg]; exact Sg4.keep fun b o e e2 => G.keep b o e2 (fun q => (ne1 b e).2 q.symm)) nw' ng (fun b e q => ?_) ?_ ?_ ?_ ?_ ?_
      · rcases G.fresh with q1 | q1
        · exact dis b (by rw [← q1]; exact e) q
        · obtain ⟨o, e2⟩ := Sg4.alive q; rw [q1 b e] at e2; cases e2
      all_goals simp [e0, e4, e5, e6]
    | false =>
      rw [if_neg (by rw [hw]; simp)] at hX hG
      have hs : fways f (ks.take (i + 1)) = fways f (ks.take i) := by unfold fways; rw [tk, fm_snoc, hX]; simp
      have hg : fgone f (ks.take (i + 1)) = fgone f (ks.take i) ++ fgoneD f.D k := by rw [tk, fgone_snoc, hG]
      simp (disch := omega) [octroiref17_Babel_Tell_r7, octroiref17_Babel_Tell_r9]
      refine ⟨Ft0 h1 q f wk wv ks i k, ⟨f.D.length, 0, gv, by omega, lg4, Sw4, by simpa [fgoneD] using Sg4, ng, dis, by simp [e0], by simp [e3], by simp [e4], by simp [e5], by simp [e6], by simp⟩, ?_⟩
      have gbd' : ∀ j, (fgone f (ks.take i) ++ fgoneD (f.D.take j) k).length ≤ 2000000 := fun j => by
        have h1 := fgoneD_length (D := f.D.take j) (k := k)
        rw [List.length_take] at h1
        rw [List.length_append]; omega
      clear e0 e3 e4 e5 e6 e5' e5'' f8 L8 L7 L6 f6 hb6 Sg4 Sw4 Sg Sw
      clear env
      rintro m env g5 ⟨j, gv2, hjm, lg5, Sw5, Sg5, ng5, dis5, e0, e3, e4, e5, e6, e10⟩
      unfold octroiref17_Babel_Tell_L0
      have hq5 := lg5 _ _ M1.pt
      by_cases hm2 : m = 0
      · have : j = f.D.length := by omega
        subst this
        rw [List.take_of_length_le (Nat.le_refl _), ← hg] at Sg5
        simp (disch := omega) [octroiref17_Babel_Tell_r10, e0, e10, hq5, hvd]
        refine inv _ g5 wv gv2 lg5 (by rw [hs]; exact Sw5) Sg5 nw ng5 dis5 ?_ ?_ ?_ ?_ ?_ <;> simp [e0, e3, e4, e5, e6]
      · obtain ⟨t, ht⟩ : ∃ t, f.D[j]? = some t := ⟨_, List.getElem?_eq_getElem (by omega)⟩
        obtain ⟨b2, cap2, c2, hv2, hb2, t0, t1, t2, t3, t4, t5, t6, t7, t8⟩ := Tlv_at (M1.sd.le' lg5) ht
        have hj' : j < f.D.length := by omega
        obtain ⟨b7, cap7, c7, hv7, hb7, d0, d1⟩ := kq_at (Sk.le' lg5) hk
        have e5'' := e5.trans hv7
        have hd : fgoneD (f.D.take (j + 1)) k = fgoneD (f.D.take j) k ++ (if tkey t = k then [goneX t] else []) := by rw [take_snoc ht, fgoneD_snoc]
        have inv0 : ∀ (env : Env) (g' : Hp) (gv' : Value), Le h1 g' → SlAt g' 31 9 Tlv.enc wv (fways f (ks.take i)) → SlAt g' 31 9 Tlv.enc gv' (fgone f (ks.take i) ++ fgoneD (f.D.take (j + 1)) k) → (∀ b, blkOf gv' = some b → h1 b = none) → (∀ b, blkOf wv = some b → blkOf gv' ≠ some b) →
            env 0 = .pointer (some ⟨q, 0, none⟩) → env 3 = wv → env 4 = gv' → env 5 = wk → env 6 = .int .i64 (i : Nat) → env 10 = .int .i64 (j : Nat) →
            octroiref17_Babel_Tell_r16 env g' (roundK (Ft0 h1 q f wk wv ks i k) m (inBlk 2 (inBlk 1 (thenK (rg octroiref17_Babel_Tell_r17) (roundK (Ft1 h1 q f wk ks) n (inBlk 0 (thenK (sq (sq (rg octroiref17_Babel_Tell_r18) (blk 4 (lp octroiref17_Babel_Tell_L2))) (sq (rg octroiref17_Babel_Tell_r22) (sq (rg octroiref17_Babel_Tell_r23) (ex .ret)))) (fin Try.prog [.tmp 2] Q))))))) .normal) := by
          clear e0 e3 e4 e5 e6 e10 e5''
          intro env g' gv' lg' Sw' Sg' ng' dis' e0 e3 e4 e5 e6 e10
          simp (disch := omega) [octroiref17_Babel_Tell_r16, e10, wrap_i64]
          exact ⟨m - 1, by omega, j + 1, gv', by omega, lg', Sw', Sg', ng', dis', by simp [e0], by simp [e3], by simp [e4], by simp [e5], by simp [e6], by simp⟩
        have hgl5 := gbd' j
        by_cases s1 : t.a = k.1
        · have s1' : (t.a : Int) = (k.1 : Int) := by omega
          by_cases s2 : t.l = k.2
          · rw [if_pos (Prod.ext s1 s2)] at hd
            have hd2 : fgone f (ks.take i) ++ fgoneD (f.D.take (j + 1)) k = (fgone f (ks.take i) ++ fgoneD (f.D.take j) k) ++ [goneX t] := by rw [hd, List.append_assoc]
            simp (disch := omega) [octroiref17_Babel_Tell_r10, octroiref17_Babel_Tell_r11, octroiref17_Babel_Tell_r12, e0, e5'', e6, e10, hq5, hv2, hb2, hb7, d0, d1, t0, t1, t2, t3, t4, t5, t6, t7, t8, hj', hi', eq_true s1, eq_true s1', eq_true s2]
            intro b11 hb11
            have L11 : Le g5 (g5.upd b11 (.cells tc0 31)) := .new hb11
            have f11 : (g5.upd b11 (.cells tc0 31)) b11 = some (.cells tc0 31 (0, 0)) := upd_same
            have L11b : ∀ o2, Le g5 ((g5.upd b11 (.cells tc0 31)).upd b11 o2) := fun o2 y o e => by
              have : y ≠ b11 := by rintro rfl; rw [hb11] at e; cases e
              rw [upd_ne this]; exact L11 _ _ e
            have n11 : blkOf gv2 ≠ some b11 := fun e => by obtain ⟨o, e2⟩ := Sg5.alive e; rw [hb11] at e2; cases e2
            generalize g5.upd b11 (.cells tc0 31) = g6 at *
            refine (stA_of f11 (by rfl) (by rfl)).mpr ?_
            have f12 : (g6.upd b11 (.cells t.cells 31 (0, 0))) b11 = some (.cells t.cells 31 (0, 0)) := upd_same
            have L13 := L11b (.cells (goneX t).cells 31 (0, 0))
            have uu : (g6.upd b11 (.cells t.cells 31 (0, 0))).upd b11 (.cells (goneX t).cells 31 (0, 0)) = g6.upd b11 (.cells (goneX t).cells 31 (0, 0)) := by
              funext z; rw [upd_get, upd_get, upd_get]; split <;> simp
            show thenK _ _ _ _ (g6.upd b11 (.cells t.cells 31 (0, 0)))
            rw [← uu] at L13
            generalize g6.upd b11 (.cells t.cells 31 (0, 0)) = g7 at *
            simp (disch := omega) [octroiref17_Babel_Tell_r13, octroiref17_Babel_Tell_r14, f12]
            show octroiref17_Babel_Tell_r15 _ (g7.upd b11 (.cells (goneX t).cells 31 (0, 0))) _
            have f13 : (g7.upd b11 (.cells (goneX t).cells 31 (0, 0))) b11 = some (.cells (goneX t).cells 31 (0, 0)) := upd_same
            clear uu
            generalize g7.upd b11 (.cells (goneX t).cells 31 (0, 0)) = g8 at *
            have lg8 := lg5.trans L13
            have Sw8 := Sw5.le' L13
            have Sg8 := Sg5.le' L13
            simp (disch := omega) [octroiref17_Babel_Tell_r15, e4, f13]
            refine snoc_api_BabelTlv Sg8 (y := goneX t) rfl (by simp [Tlv.enc]) (by omega) (fun b9 w' g' S' G hb9 => ?_)
            obtain ⟨lg', ng'⟩ := G.news lg8 ng5
            simp (disch := omega)
            refine inv0 _ g' w' lg' (Sw8.keep fun b o e e2 => G.keep b o e2 (fun q => dis5 b e q.symm)) (by rw [hd2]; exact S') ng' (fun b e q => ?_) ?_ ?_ ?_ ?_ ?_ ?_
            · rcases G.fresh with q1 | q1
              · exact dis5 b e (by rw [← q1]; exact q)
              · obtain ⟨o, e2⟩ := Sw8.alive e; rw [q1 b q] at e2; cases e2
            all_goals simp [e0, e3, e5, e6, e10]
          · rw [if_neg (fun q => s2 (congrArg Prod.snd q)), List.append_nil] at hd
            simp (disch := omega) [octroiref17_Babel_Tell_r10, octroiref17_Babel_Tell_r11, e0, e5'', e6, e10, hq5, hv2, hb2, hb7, d0, d1, t4, t5, hj', hi', eq_true s1, eq_true s1', s2]
            refine inv0 _ g5 gv2 lg5 Sw5 (by rw [hd]; exact Sg5) ng5 dis5 ?_ ?_ ?_ ?_ ?_ ?_ <;> simp [e0, e3, e4, e5, e6, e10]
        · have s1' : ¬ (t.a : Int) = (k.1 : Int) := by omega
          rw [if_neg (fun q => s1 (congrArg Prod.fst q)), List.append_nil] at hd
          simp (disch := omega) [octroiref17_Babel_Tell_r10, octroiref17_Babel_Tell_r11, e0, e5'', e6, e10, hq5, hv2, hb2, hb7, d0, d1, t4, t5, hj', hi', s1, s1']
          refine inv0 _ g5 gv2 lg5 Sw5 (by rw [hd]; exact Sg5) ng5 dis5 ?_ ?_ ?_ ?_ ?_ ?_ <;> simp [e0, e3, e4, e5, e6, e10]
end
end Go.Proofs.Ytchbipkoifmmdaa

/- Babel: what is told once more, and then no more. -/
namespace Go.Proofs.Ytchbipkoifmmdaa
open Go
set_option linter.unusedSimpArgs false
set_option linter.unusedVariables false

section
variable {s : BS}
theorem drops_parts : ∀ {ks : List PK} {s : BS}, (dropsB s ks).T = s.T ∧ (dropsB s ks).M = s.M ∧ (dropsB s ks).S = s.S ∧ (dropsB s ks).seq = s.seq ∧ (dropsB s ks).most = s.most ∧ (dropsB s ks).dom = s.dom ∧ (dropsB s ks).id = s.id
  | [], s => ⟨rfl, rfl, rfl, rfl, rfl, rfl, rfl⟩
  | k :: ks, s => by
    obtain ⟨a, b, c, d, e, f, g⟩ := drops_parts (ks := ks) (s := bdropS s k)
    obtain ⟨a', b', c', d', e', f', g'⟩ := drop_parts (s := s) (k := k)
    exact ⟨a.trans a', b.trans b', c.trans c', d.trans d', e.trans e', f.trans f', g.trans g'⟩
theorem drops_snoc {ks : List PK} {k : PK} : dropsB s (ks ++ [k]) = bdropS (dropsB s ks) k := by
  unfold dropsB; rw [List.foldl_append]; rfl
theorem BInv.drops : ∀ {ks : List PK} {s : BS}, BInv s → BInv (dropsB s ks)
  | [], s, I => I
  | k :: ks, s, I => BInv.drops (ks := ks) (s := bdropS s k) I.drop

/-- The prefixes of all that is known. -/
abbrev keysA (s : BS) : List PK := (allB s (prefL s)).map fun y => (y.a, y.l)
/-- All is dropped, and lost. -/
def goneS (s : BS) : BS := { dropsB (tellS s) (keysA s) with T := lostN (dropsB (tellS s) (keysA s)).T 32 }

theorem gone_O : (goneS s).O = (dropsB (tellS s) (keysA s)).O := by unfold goneS; dsimp only
theorem gone_T : (goneS s).T = lostN (dropsB (tellS s) (keysA s)).T 32 := by unfold goneS; dsimp only
theorem gone_S : (goneS s).S = (dropsB (tellS s) (keysA s)).S := by unfold goneS; dsimp only
theorem gone_state (uO : Uniq s.O) (I : KeyI s) (J : NbI s) : (goneS s).O = [] ∧ (goneS s).T = [] ∧ (goneS s).S = (waysL s (prefL s)).map fun t => (tkey t, t) := by
  have tp := tells_parts (ws := waysL s (prefL s)) (s := { s with S := [] })
  have kk : keysA s = (waysL s (prefL s)).map tkey := by rw [ways_keys I]; exact all_keys
  have dp := drops_parts (ks := keysA s) (s := tellS s)
  have hO : (tellS s).O = s.O := tp.1
  have hT : (tellS s).T = s.T := tp.2.1
  have hS : (tellS s).S = (waysL s (prefL s)).map fun t => (tkey t, t) := by
    unfold tellS
    rw [tells_S (ways_srt I).nodup (by simp)]; simp
  refine ⟨?_, ?_, ?_⟩
  · rw [gone_O, List.eq_nil_iff_forall_not_mem]
    intro e he
    obtain ⟨h1, h2⟩ := drops_O (s := tellS s) (by rw [hO]; exact uO) e he
    rw [hO] at h1
    exact h2 (by rw [kk]; exact own_in_ways uO I h1)
  · rw [gone_T, dp.1, hT]; exact lost_all J
  · rw [gone_S, dp.2.2.1, hS]

theorem BInv.gone (I : BInv s) (hT : (goneS s).T = []) : BInv (goneS s) := by
  have I6 : BInv (dropsB (tellS s) (keysA s)) := I.tell.drops
  unfold goneS at *
  generalize dropsB (tellS s) (keysA s) = d at *
  dsimp only at hT
  refine ⟨⟨I6.num.q, I6.num.m, ?_, I6.num.o⟩, I6.lo, ?_, I6.ls, I6.mo⟩
  · dsimp only; rw [hT]; simp
  · dsimp only; rw [hT]; simp

theorem gone_pref (uO : Uniq s.O) (I : KeyI s) (J : NbI s) : prefL (goneS s) = (waysL s (prefL s)).map tkey := by
  obtain ⟨a, b, c⟩ := gone_state uO I J
  refine srtS_unique prefL_srt (ways_srt I) fun k => ?_
  rw [prefL_mem]
  unfold keysB
  rw [a, b, c]
  simp
theorem gone_tell (uO : Uniq s.O) (I : KeyI s) (J : NbI s) : tellL (goneS s) = (waysL s (prefL s)).map goneX := by
  obtain ⟨a, b, c⟩ := gone_state uO I J
  unfold tellL
  rw [empty_ways a b, List.nil_append, gone_pref uO I J]
  have u : Uniq (goneS s).S := by
    unfold Uniq; rw [c, List.map_map]
    exact (ways_srt I).nodup
  unfold goneL
  rw [List.filterMap_map]
  have : ∀ t ∈ waysL s (prefL s), ((fun k => if (wayB (goneS s) k).isSome then none else (getM (goneS s).S k).map goneX) ∘ tkey) t = some (goneX t) := by
    intro t ht
    have hm : (tkey t, t) ∈ (goneS s).S := by rw [c]; exact List.mem_map.2 ⟨t, ht, rfl⟩
    simp only [Function.comp, empty_way a b, Option.isSome_none, if_false, getM_of_mem u hm, Option.map_some, Bool.false_eq_true]
  clear a b c u
  generalize waysL s (prefL s) = W at *
  induction W with
  | nil => rfl
  | cons t W ih => rw [List.filterMap_cons, this t (by simp), List.map_cons, ih (fun t' h' => this t' (by simp [h']))]

/-- What is left when that is told. -/
theorem gone_then (uO : Uniq s.O) (I : KeyI s) (J : NbI s) : (tellS (goneS s)).O = [] ∧ (tellS (goneS s)).T = [] ∧ (tellS (goneS s)).S = [] := by
  obtain ⟨a, b, c⟩ := gone_state uO I J
  unfold tellS
  rw [empty_ways a b, List.foldl_nil]
  dsimp only
  exact ⟨a, b, rfl⟩
theorem quiet (hO : s.O = []) (hT : s.T = []) (hS : s.S = []) : tellL s = [] ∧ prefL s = [] := by
  have : prefL s = [] := by unfold prefL keysB; rw [hO, hT, hS]; rfl
  refine ⟨?_, this⟩
  unfold tellL
  rw [this]; rfl
/-- What is told last is what was known, in its order, as not reached. -/
theorem gone_len (I : KeyI s) : (waysL s (prefL s)).length = (allB s (prefL s)).length := by
  have : keysA s = (waysL s (prefL s)).map tkey := by rw [ways_keys I]; exact all_keys
  have := congrArg List.length this
  simpa using this.symm
theorem gone_key (I : KeyI s) {i : Nat} {t : Tlv} {y : Rt} (ht : (waysL s (prefL s))[i]? = some t) (hy : (allB s (prefL s))[i]? = some y) : t.a = y.a ∧ t.l = y.l := by
  have h : keysA s = (waysL s (prefL s)).map tkey := by rw [ways_keys I]; exact all_keys
  have := congrArg (fun l => l[i]?) h
  simp only [List.getElem?_map, ht, hy, Option.map_some, Option.some.injEq, Prod.mk.injEq] at this
  exact ⟨this.1.symm, this.2.symm⟩
end
end Go.Proofs.Ytchbipkoifmmdaa

/- Babel and the document's: the same way. -/
namespace Go.Proofs.Ytchbipkoifmmdaa
open Go
set_option linter.unusedSimpArgs false
set_option linter.unusedVariables false

/-- One that may be the way: its neighbour, its cost in all, and what was told. -/
def Cand (M : MM) (k : PK) (T : MT) (n N : Int) (t : Tlv) : Prop := ∃ c, ((k, n), (c, t)) ∈ T ∧ betterB M (k, t.rt) t.s t.c = true ∧ N = addM t.c c 65535 ∧ N < 65535
def lexLe (N n N' n' : Int) : Prop := N < N' ∨ (N = N' ∧ n ≤ n')
theorem Cand.sub {M : MM} {k : PK} {T T' : MT} {n N : Int} {t : Tlv} (h : Cand M k T n N t) (s : ∀ e ∈ T, e ∈ T') : Cand M k T' n N t := by
  obtain ⟨c, h1, h2⟩ := h
  exact ⟨c, s _ h1, h2⟩
theorem addM_le {a b : Int} : addM a b 65535 ≤ 65535 := by unfold addM; omega

/-- What the document's loop has found. -/
def FoldI (M : MM) (k : PK) (A : MT) (st : Tlv × Int) : Prop :=
  (st = (wy0 k, 0) ∧ ∀ n N t, ¬ Cand M k A n N t) ∨ (∃ n N t, Cand M k A n N t ∧ st = (wyX k t N, n) ∧ n ≠ 0 ∧ ∀ n' N' t', Cand M k A n' N' t' → lexLe N n N' n')
theorem FoldI.step {M : MM} {k : PK} {A : MT} {st : Tlv × Int} {x : (PK × Int) × (Int × Tlv)} (I : FoldI M k A st) (hx : x.1.2 ≠ 0) : FoldI M k (A ++ [x]) (wyStep M k st x) := by
  have old : ∀ {n N t}, Cand M k A n N t → Cand M k (A ++ [x]) n N t := fun h => h.sub fun e he => List.mem_append_left _ he
  have split : ∀ {n N t}, Cand M k (A ++ [x]) n N t → Cand M k A n N t ∨ (x = ((k, n), (x.2.1, t)) ∧ betterB M (k, t.rt) t.s t.c = true ∧ N = addM t.c x.2.1 65535 ∧ N < 65535) := by
    rintro n N t ⟨c, h1, h2, h3, h4⟩
    rcases List.mem_append.1 h1 with q | q
    · exact .inl ⟨c, q, h2, h3, h4⟩
    · have hx : x = ((k, n), (c, t)) := (List.mem_singleton.1 q).symm
      refine .inr ⟨by rw [hx], h2, by rw [hx]; exact h3, h4⟩
  have keep : (∀ n N t, ¬ (x = ((k, n), (x.2.1, t)) ∧ betterB M (k, t.rt) t.s t.c = true ∧ N = addM t.c x.2.1 65535 ∧ N < 65535)) → FoldI M k (A ++ [x]) st := by
    intro no
    rcases I with ⟨h1, h2⟩ | ⟨n, N, t, h1, h2, h3, h4⟩
    · exact .inl ⟨h1, fun n N t c => (split c).elim (h2 n N t) (no n N t)⟩
    · exact .inr ⟨n, N, t, old h1, h2, h3, fun n' N' t' c => (split c).elim (h4 n' N' t') (fun q => absurd q (no n' N' t'))⟩
  unfold wyStep
  by_cases hk : x.1.1 = k
  · rw [if_neg (fun q => q hk)]
    by_cases hb : betterB M (k, x.2.2.rt) x.2.2.s x.2.2.c = false ∨ addM x.2.2.c x.2.1 65535 = 65535
    · rw [if_pos hb]
      refine keep fun n N t ⟨h1, h2, h3, h4⟩ => ?_
      have ht : x.2.2 = t := by rw [h1]
      subst ht
      rcases hb with hb | hb
      · rw [hb] at h2; cases h2
      · omega
    · rw [if_neg hb]
      have hb1 : betterB M (k, x.2.2.rt) x.2.2.s x.2.2.c = true := by
        cases q : betterB M (k, x.2.2.rt) x.2.2.s x.2.2.c with
        | true => rfl
        | false => exact absurd (.inl q) hb
      have hN : addM x.2.2.c x.2.1 65535 < 65535 := by
        have h1 := addM_le (a := x.2.2.c) (b := x.2.1)
        have h2 : addM x.2.2.c x.2.1 65535 ≠ 65535 := fun q => hb (.inr q)
        omega
      have cx : Cand M k (A ++ [x]) x.1.2 (addM x.2.2.c x.2.1 65535) x.2.2 := ⟨x.2.1, List.mem_append_right _ (by simp [← hk]), hb1, rfl, hN⟩
      have only : ∀ {n N t}, (x = ((k, n), (x.2.1, t)) ∧ betterB M (k, t.rt) t.s t.c = true ∧ N = addM t.c x.2.1 65535 ∧ N < 65535) → n = x.1.2 ∧ N = addM x.2.2.c x.2.1 65535 := by
        rintro n N t ⟨h1, h2, h3, h4⟩
        exact ⟨by rw [h1], by rw [h3]; rw [h1]⟩
      by_cases ht : wyTake st (addM x.2.2.c x.2.1 65535) x.1.2
      · rw [if_pos ht]
        refine .inr ⟨x.1.2, addM x.2.2.c x.2.1 65535, x.2.2, cx, rfl, hx, fun n' N' t' c => ?_⟩
        rcases split c with c | c
        · rcases I with ⟨h1, h2⟩ | ⟨n, N, t, h1, h2, h3, h4⟩
          · exact absurd c (h2 n' N' t')
          · have := h4 n' N' t' c
            unfold wyTake at ht
            rw [h2] at ht
            simp only [wyX] at ht
            unfold lexLe at *
            omega
        · obtain ⟨c1, c2⟩ := only c
          unfold lexLe; omega
      · rw [if_neg ht]
        rcases I with ⟨h1, h2⟩ | ⟨n, N, t, h1, h2, h3, h4⟩
        · exfalso; apply ht; rw [h1]; exact .inl rfl
        · refine .inr ⟨n, N, t, old h1, h2, h3, fun n' N' t' c => ?_⟩
          rcases split c with c | c
          · exact h4 n' N' t' c
          · obtain ⟨c1, c2⟩ := only c
            unfold wyTake at ht
            rw [h2] at ht
            simp only [wyX] at ht
            unfold lexLe
            omega
  · rw [if_pos hk]
    exact keep fun n N t ⟨h1, _⟩ => hk (by rw [h1])
theorem foldI_all {M : MM} {k : PK} : ∀ {B A : MT} {st : Tlv × Int}, FoldI M k A st → (∀ x ∈ B, x.1.2 ≠ 0) → FoldI M k (A ++ B) (B.foldl (wyStep M k) st)
  | [], A, st, I, _ => by simpa using I
  | x :: B, A, st, I, h => by
    rw [List.foldl_cons, show A ++ x :: B = (A ++ [x]) ++ B by simp]
    exact foldI_all (I.step (h x (by simp))) (fun y hy => h y (by simp [hy]))
theorem fold_min {M : MM} {k : PK} {L : MT} (h : ∀ x ∈ L, x.1.2 ≠ 0) : FoldI M k L (wyFold M k L) := by
  unfold wyFold
  have := foldI_all (M := M) (k := k) (A := []) (B := L) (st := (wy0 k, 0)) (.inl ⟨rfl, fun n N t ⟨c, h, _⟩ => by simp at h⟩) h
  simpa using this

/-- What the program's loop has found. -/
def WayI (s : BS) (k : PK) (m : Nat) (w : Option (Tlv × Int)) : Prop :=
  (w = none ∧ ∀ n N t, 1 ≤ n → n ≤ (m : Int) → ¬ Cand s.M k s.T n N t) ∨
  (∃ n N t c, ((k, n), (c, t)) ∈ s.T ∧ betterB s.M (k, t.rt) t.s t.c = true ∧ N = addM t.c c 65535 ∧ N < 65535 ∧ w = some (tcut t c, n) ∧ 1 ≤ n ∧ n ≤ (m : Int) ∧ ∀ n' N' t', 1 ≤ n' → n' ≤ (m : Int) → Cand s.M k s.T n' N' t' → lexLe N n N' n')
theorem wayI_all {s : BS} (K : KeyI s) (u : Uniq s.T) {k : PK} : ∀ m : Nat, WayI s k m (wayN s k m)
  | 0 => .inl ⟨rfl, fun n N t h1 h2 => by simp at h2; omega⟩
  | m + 1 => by
    have I := wayI_all K u (k := k) m
    have split : ∀ {n : Int}, n ≤ ((m + 1 : Nat) : Int) → n ≤ (m : Int) ∨ n = ((m + 1 : Nat) : Int) := by intro n h; omega
    rw [wayN]
    unfold wayStep
    have keep : (∀ N t, ¬ Cand s.M k s.T ((m + 1 : Nat) : Int) N t) → WayI s k (m + 1) (wayN s k m) := by
      intro no
      rcases I with ⟨h1, h2⟩ | ⟨n, N, t, c, h1, h2, h3, h4, h5, h6, h7, h8⟩
      · refine .inl ⟨h1, fun n N t q1 q2 q3 => ?_⟩
        rcases split q2 with q | q
        · exact h2 n N t q1 q q3
        · subst q; exact no N t q3
      · refine .inr ⟨n, N, t, c, h1, h2, h3, h4, h5, h6, by omega, fun n' N' t' q1 q2 q3 => ?_⟩
        rcases split q2 with q | q
        · exact h8 n' N' t' q1 q q3
        · subst q; exact absurd q3 (no N' t')
    cases hg : getM s.T (k, ((m + 1 : Nat) : Int)) with
    | none =>
      refine keep fun N t ⟨c, h1, _⟩ => ?_
      rw [getM_of_mem u h1] at hg; cases hg
    | some z =>
      have hz := getM_mem hg
      have hk := (K.t _ hz).1
      simp only at hk
      have hsrc : srcK z.2 = (k, z.2.rt) := by show ((z.2.a, z.2.l), z.2.rt) = _; rw [hk]
      have only : ∀ {N t}, Cand s.M k s.T ((m + 1 : Nat) : Int) N t → t = z.2 ∧ N = addM z.2.c z.1 65535 ∧ betterB s.M (k, z.2.rt) z.2.s z.2.c = true ∧ N < 65535 := by
        rintro N t ⟨c, h1, h2, h3, h4⟩
        have e := getM_of_mem u h1
        rw [hg] at e
        simp only [Option.some.injEq] at e
        subst e
        exact ⟨rfl, h3, h2, h4⟩
      simp only
      rw [hsrc]
      by_cases ht : betterB s.M (k, z.2.rt) z.2.s z.2.c = true ∧ takes (wayN s k m) (addM z.2.c z.1 65535)
      · rw [if_pos ht]
        obtain ⟨hb, ht1, ht2⟩ := ht
        refine .inr ⟨((m + 1 : Nat) : Int), addM z.2.c z.1 65535, z.2, z.1, hz, hb, rfl, ht1, rfl, by omega, by omega, fun n' N' t' q1 q2 q3 => ?_⟩
        rcases split q2 with q | q
        · rcases I with ⟨h1, h2⟩ | ⟨n, N, t, c, h1, h2, h3, h4, h5, h6, h7, h8⟩
          · exact absurd q3 (h2 n' N' t' q1 q)
          · have h9 := h8 n' N' t' q1 q q3
            rw [h5] at ht2
            simp only [Option.isSome_some, bestT, Option.map_some, Option.getD_some, Bool.true_eq_false, false_or, tcut] at ht2
            unfold lexLe at *
            omega
        · subst q
          obtain ⟨q4, q5, _⟩ := only q3
          unfold lexLe; omega
      · rw [if_neg ht]
        rcases I with ⟨h1, h2⟩ | ⟨n, N, t, c, h1, h2, h3, h4, h5, h6, h7, h8⟩
        · refine keep fun N t c => ?_
          obtain ⟨q4, q5, q6, q7⟩ := only c
          exact ht ⟨q6, by omega, .inl (by rw [h1]; rfl)⟩
        · refine .inr ⟨n, N, t, c, h1, h2, h3, h4, h5, h6, by omega, fun n' N' t' q1 q2 q3 => ?_⟩
          rcases split q2 with q | q
          · exact h8 n' N' t' q1 q q3
          · subst q
            obtain ⟨q4, q5, q6, q7⟩ := only q3
            have h9 : ¬ takes (wayN s k m) (addM z.2.c z.1 65535) := fun q => ht ⟨q6, q⟩
            unfold takes at h9
            rw [h5] at h9
            simp only [Option.isSome_some, bestT, Option.map_some, Option.getD_some, Bool.true_eq_false, false_or, tcut, not_and] at h9
            have h10 := h9 (by omega)
            unfold lexLe; omega
end Go.Proofs.Ytchbipkoifmmdaa

/- Babel and the document's: what they know is the same. -/
namespace Go.Proofs.Ytchbipkoifmmdaa
open Go
set_option linter.unusedSimpArgs false
set_option linter.unusedVariables false

abbrev oTlv (id : Nat) (e : PK × (Int × Nat)) : PK × Tlv := (e.1, ⟨2, 0, 400, e.2.1, e.1.1, e.1.2, id, e.2.2, 0⟩)
structure RelB (s : BS) (f : FS) : Prop where
  id : s.id = f.id
  dom : s.dom = f.dom
  most : s.most = f.most
  seq : s.seq = f.seq
  o : s.O = f.O.map (oTlv f.id)
  t : s.T.Perm f.L
  m : s.M = f.M
  d : s.S = f.D.map fun t => (tkey t, t)
  kd : ∀ e ∈ s.T, e.2.2.k = 2
  nb : NbI s
  ky : KeyI s
  ut : Uniq s.T
  uo : Uniq s.O
  us : Uniq s.S

theorem getM_map {β γ : Type} {g : PK × β → γ} {k : PK} : ∀ {m : List (PK × β)}, getM (m.map fun e => (e.1, g e)) k = (getM m k).map fun v => g (k, v)
  | [] => rfl
  | e :: m => by
    rw [List.map_cons, getM_cons, getM_cons, getM_map (m := m)]
    by_cases h : k = e.1
    · rw [if_pos h, if_pos h]; subst h; rfl
    · rw [if_neg h, if_neg h]
section
variable {s : BS} {f : FS}
theorem RelB.getO (R : RelB s f) (k : PK) : getM s.O k = (getM f.O k).map fun y => ⟨2, 0, 400, y.1, k.1, k.2, f.id, y.2, 0⟩ := by
  rw [R.o]; exact getM_map (g := fun e => (oTlv f.id e).2)
theorem wyX_cut {k : PK} {t : Tlv} {c : Int} (h1 : t.k = 2) (h2 : (t.a, t.l) = k) : wyX k t (addM t.c c 65535) = tcut t c := by
  subst h2; unfold wyX tcut; rw [h1]
theorem RelB.wayNR (R : RelB s f) {k : PK} : wayN s k 32 = if decide (0 < (wyFold f.M k f.L).2) = true then some ((wyFold f.M k f.L).1, (wyFold f.M k f.L).2) else none := by
  have hn : ∀ e ∈ f.L, 1 ≤ e.1.2 ∧ e.1.2 ≤ 32 := fun e he => R.nb e (R.t.mem_iff.2 he)
  have I := fold_min (M := f.M) (k := k) (L := f.L) (fun x hx => by have := hn x hx; omega)
  have J := wayI_all R.ky R.ut (k := k) 32
  unfold WayI at J
  rw [R.m] at J
  have tr : ∀ {n N t}, Cand f.M k f.L n N t ↔ Cand f.M k s.T n N t := ⟨fun h => h.sub fun e he => R.t.mem_iff.2 he, fun h => h.sub fun e he => R.t.mem_iff.1 he⟩
  have rng : ∀ {n N t}, Cand f.M k f.L n N t → 1 ≤ n ∧ n ≤ ((32 : Nat) : Int) := by
    rintro n N t ⟨c, h1, _⟩
    exact hn _ h1
  rcases I with ⟨h1, h2⟩ | ⟨n, N, t, h1, h2, h3, h4⟩
  · rw [h1, if_neg (by simp)]
    rcases J with ⟨j1, _⟩ | ⟨n, N, t, c, j1, j2, j3, j4, _⟩
    · exact j1
    · exact absurd (tr.2 ⟨c, j1, j2, j3, j4⟩) (h2 n N t)
  · have r := rng h1
    rw [h2, if_pos (by simp; omega)]
    rcases J with ⟨_, j2⟩ | ⟨n', N', t', c', j1, j2, j3, j4, j5, j6, j7, j8⟩
    · exact absurd (tr.1 h1) (j2 n N t r.1 r.2)
    · have a1 := j8 n N t r.1 r.2 (tr.1 h1)
      have a2 := h4 n' N' t' (tr.2 ⟨c', j1, j2, j3, j4⟩)
      have e1 : n = n' ∧ N = N' := by unfold lexLe at *; omega
      obtain ⟨rfl, rfl⟩ := e1
      obtain ⟨c, q1, q2, q3, q4⟩ := tr.1 h1
      have e2 : (c, t) = (c', t') := by
        have x1 := getM_of_mem R.ut q1
        have x2 := getM_of_mem R.ut j1
        rw [x1] at x2
        exact Option.some.inj x2
      obtain ⟨rfl, rfl⟩ := Prod.mk.inj e2
      rw [j5, j3, wyX_cut (R.kd _ j1) (R.ky.t _ j1).1]
theorem RelB.way (R : RelB s f) {k : PK} : wayB s k = if (fwayV f k).2.2 = true then some ((fwayV f k).1, (fwayV f k).2.1) else none := by
  unfold wayB fwayV
  rw [R.getO]
  cases getM f.O k with
  | some y => simp [R.seq]
  | none => simp only [Option.map_none]; exact R.wayNR
theorem RelB.keys (R : RelB s f) (k : PK) : k ∈ keysB s ↔ k ∈ fkeys f := by
  unfold keysB fkeys
  rw [R.o, R.d]
  simp only [List.map_map, List.mem_append]
  have h1 : (Prod.fst ∘ oTlv f.id : PK × (Int × Nat) → PK) = fun e => e.1 := rfl
  have h2 : ((fun x => x.1) ∘ fun t : Tlv => (tkey t, t)) = tkey := rfl
  have h3 : k ∈ s.T.map (·.1.1) ↔ k ∈ f.L.map (·.1.1) := (R.t.map _).mem_iff
  rw [h3]
  constructor
  · rintro (h | h | h)
    · exact .inl (.inl h)
    · exact .inr h
    · exact .inl (.inr h)
  · rintro ((h | h) | h)
    · exact .inl h
    · exact .inr (.inr h)
    · exact .inr (.inl h)
theorem RelB.pref (R : RelB s f) : prefL s = fprefL f := prefL_rel R.keys
theorem RelB.all (R : RelB s f) : allB s (prefL s) = fallB f (fprefL f) := by
  rw [R.pref]
  unfold allB fallB
  congr 1
  funext k
  unfold fallX
  rw [R.way]
  by_cases h : (fwayV f k).2.2 = true
  · rw [if_pos h, if_pos h]; simp [allX, R.dom]
  · rw [if_neg h, if_neg h]; rfl
theorem RelB.ways (R : RelB s f) {ks : List PK} : waysL s ks = fways f ks := by
  unfold waysL fways
  congr 1
  funext k
  unfold fwayX
  rw [R.way]
  by_cases h : (fwayV f k).2.2 = true
  · rw [if_pos h, if_pos h]; rfl
  · rw [if_neg h, if_neg h]; rfl
theorem filter_one : ∀ {D : List Tlv} {k : PK}, Uniq (D.map fun t => (tkey t, t)) → (D.filter fun t => decide (tkey t = k)) = (getM (D.map fun t => (tkey t, t)) k).toList
  | [], k, _ => rfl
  | t :: D, k, u => by
    unfold Uniq at u
    rw [List.map_cons, List.map_cons, List.nodup_cons] at u
    rw [List.filter_cons, List.map_cons, getM_cons]
    by_cases h : tkey t = k
    · subst h
      rw [if_pos (by simp), if_pos rfl]
      have : (D.filter fun t' => decide (tkey t' = tkey t)) = [] := by
        rw [List.filter_eq_nil_iff]
        intro t' h' e
        apply u.1
        rw [List.map_map]
        exact List.mem_map.2 ⟨t', h', by simpa using e⟩
      rw [this]; rfl
    · rw [if_neg (by simpa using h), if_neg (fun e => h e.symm)]
      exact filter_one (D := D) u.2
theorem fm_flat {α β : Type} {g : α → Option β} : ∀ {l : List α}, l.filterMap g = l.flatMap fun a => (g a).toList
  | [] => rfl
  | a :: l => by
    rw [List.filterMap_cons, List.flatMap_cons, fm_flat (l := l)]
    cases h : g a <;> simp
theorem RelB.gone (R : RelB s f) {ks : List PK} : goneL s ks = fgone f ks := by
  unfold goneL fgone
  rw [fm_flat]
  congr 1
  funext k
  unfold fgoneK fgoneD
  rw [R.way, R.d, filter_one (by have := R.us; rw [R.d] at this; exact this)]
  by_cases h : (fwayV f k).2.2 = true
  · rw [if_pos h, if_pos h]; simp
  · rw [if_neg h, if_neg h]
    simp only [Option.isSome_none, Bool.false_eq_true, if_false]
    cases getM (f.D.map fun t => (tkey t, t)) k <;> rfl
theorem RelB.told (R : RelB s f) : tellL s = fTellL f := by unfold tellL fTellL; rw [R.pref, R.ways, R.gone]
theorem RelB.src (R : RelB s f) {k : PK} : (((wayB s k).map (·.1.rt)).getD 0) = (if (fwayV f k).2.2 = true then (fwayV f k).1.rt else 0) ∧ (wayB s k).isSome = (fwayV f k).2.2 := by
  rw [R.way]
  by_cases h : (fwayV f k).2.2 = true
  · rw [if_pos h, if_pos h, h]; exact ⟨rfl, rfl⟩
  · rw [if_neg h, if_neg h]
    have : (fwayV f k).2.2 = false := by simpa using h
    rw [this]; exact ⟨rfl, rfl⟩
end
end Go.Proofs.Ytchbipkoifmmdaa

/- Babel and the document's: what they know stays the same. -/
namespace Go.Proofs.Ytchbipkoifmmdaa
open Go
set_option linter.unusedSimpArgs false
set_option linter.unusedVariables false

def fcallS (f : FS) (o : Op17) : FS :=
  if o.k = 0 then fownS f (o.ta, o.tl) o.n o.ttg
  else if o.k = 1 then fdropS f (o.ta, o.tl)
  else if o.k = 2 then { f with seq := raiseN f.seq }
  else if o.k = 3 then (fhear f o.f o.n (opT o)).2.2
  else if o.k = 4 then { f with L := lostT o.f f.L }
  else if o.k = 5 then fTellS f
  else if o.k = 6 then fknowS f (o.ta, o.tl) o.trt o.ts o.n
  else f

theorem setM_map {β γ : Type} {g : PK × β → γ} {k : PK} {v : β} : ∀ {m : List (PK × β)}, setM k (g (k, v)) (m.map fun e => (e.1, g e)) = (setM k v m).map fun e => (e.1, g e)
  | [] => rfl
  | e :: m => by
    rw [List.map_cons, setM, setM]
    by_cases h : k = e.1
    · rw [if_pos h, if_pos h, List.map_cons]
    · rw [if_neg h, if_neg h, List.map_cons, setM_map (m := m)]
theorem delM_map {β γ : Type} {g : PK × β → γ} {k : PK} : ∀ {m : List (PK × β)}, delM k (m.map fun e => (e.1, g e)) = (delM k m).map fun e => (e.1, g e)
  | [] => rfl
  | e :: m => by
    rw [List.map_cons, delM, delM]
    by_cases h : k = e.1
    · rw [if_pos h, if_pos h]
    · rw [if_neg h, if_neg h, List.map_cons, delM_map (m := m)]
theorem filter_none {α β : Type} [DecidableEq α] {a : α} {m : List (α × β)} (h : getM m a = none) : (m.filter fun e => decide (e.1 ≠ a)) = m := by
  rw [List.filter_eq_self]
  intro e he
  simp only [decide_eq_true_eq]
  rintro rfl
  exact getM_none.1 h (List.mem_map_of_mem he)
theorem setM_perm {α β : Type} [DecidableEq α] {a : α} {v : β} : ∀ {m : List (α × β)}, Uniq m → (setM a v m).Perm ((m.filter fun e => decide (e.1 ≠ a)) ++ [(a, v)])
  | [], _ => .refl _
  | e :: m, u => by
    have u' : Uniq m := by unfold Uniq at *; rw [List.map_cons, List.nodup_cons] at u; exact u.2
    rw [setM]
    by_cases h : a = e.1
    · rw [if_pos h, List.filter_cons, if_neg (by simp [h])]
      have hn : getM m a = none := getM_none.2 (by unfold Uniq at u; rw [List.map_cons, List.nodup_cons] at u; rw [h]; exact u.1)
      rw [filter_none hn]
      exact (List.perm_append_singleton (a, v) m).symm
    · rw [if_neg h, List.filter_cons, if_pos (by simpa using fun q => h q.symm), List.cons_append]
      exact (setM_perm u').cons e

section
variable {s : BS} {f : FS}
theorem RelB.lenO (R : RelB s f) : s.O.length = f.O.length := by rw [R.o, List.length_map]
theorem RelB.lenT (R : RelB s f) : s.T.length = f.L.length := R.t.length_eq
theorem RelB.lenS (R : RelB s f) : s.S.length = f.D.length := by rw [R.d, List.length_map]
theorem RelB.ownE (R : RelB s f) {k : PK} {n : Int} {tag : Nat} : bownE s k n tag = fownE f k n tag := by
  unfold bownE fownE
  rw [R.dom, R.lenO, R.getO]
  have : (Option.map (fun y : Int × Nat => (⟨2, 0, 400, y.1, k.1, k.2, f.id, y.2, 0⟩ : Tlv)) (getM f.O k) = none ∧ 64 ≤ f.O.length) ↔ (getM f.O k = none ∧ 64 ≤ f.O.length) := by rw [Option.map_eq_none_iff]
  simp only [this]
theorem RelB.dropE (R : RelB s f) {k : PK} : bdropE s k = fdropE f k := by
  unfold bdropE fdropE
  rw [R.getO]; simp
theorem had_iff {L : MT} {k : PK} {fr : Int} : fhadL L k fr = (getM L (k, fr)).isSome := by
  unfold fhadL forgL
  rw [Bool.eq_iff_iff, decide_eq_true_iff, List.length_filter_lt_length_iff_exists, getM_isSome]
  simp only [decide_eq_true_eq, List.mem_map, ne_eq, decide_not, Bool.not_eq_true', decide_eq_false_iff_not, Decidable.not_not]
theorem RelB.get (R : RelB s f) (uL : Uniq f.L) (a : PK × Int) : getM s.T a = getM f.L a := getM_perm R.ut R.t a
theorem RelB.uL (R : RelB s f) : Uniq f.L := by have := R.ut; unfold Uniq at *; exact (R.t.map _).nodup_iff.1 this
theorem bhear_T {fr c : Int} {t : Tlv} : (bhear s fr c t).2.2 = { s with T := (bhear s fr c t).2.2.T } := by
  unfold bhear; repeat' split
  all_goals rfl
theorem fhear_L {fr c : Int} {t : Tlv} : (fhear f fr c t).2.2 = { f with L := (fhear f fr c t).2.2.L } := by
  unfold fhear; repeat' split
  all_goals rfl
theorem RelB.hear (R : RelB s f) {fr c : Int} {t : Tlv} : (bhear s fr c t).1 = (fhear f fr c t).1 ∧ (bhear s fr c t).2.1 = (fhear f fr c t).2.1 ∧ (bhear s fr c t).2.2.T.Perm (fhear f fr c t).2.2.L ∧ ∀ e ∈ (bhear s fr c t).2.2.T, e.2.2.k = 2 := by
  have hg := R.get R.uL ((t.a, t.l), fr)
  have hh : (getM s.T ((t.a, t.l), fr)).isSome = fhadL f.L (t.a, t.l) fr := by rw [had_iff, hg]
  have hdel : (delM ((t.a, t.l), fr) s.T).Perm (forgL f.L (t.a, t.l) fr) := by
    rw [delM_filter R.ut]
    unfold forgL
    exact R.t.filter _
  unfold bhear fhear
  rw [R.dom, R.id, R.m, R.most]
  by_cases arg : badT fr c t
  · rw [if_pos arg, if_pos arg]; exact ⟨rfl, rfl, R.t, R.kd⟩
  rw [if_neg arg, if_neg arg]
  by_cases g1 : hasT t.tg f.dom = true
  · rw [if_pos g1, if_pos g1]; exact ⟨rfl, rfl, R.t, R.kd⟩
  rw [if_neg g1, if_neg g1]
  by_cases g2 : t.rt = f.id
  · rw [if_pos g2, if_pos g2]; exact ⟨rfl, rfl, R.t, R.kd⟩
  rw [if_neg g2, if_neg g2]
  by_cases g3 : t.c = 65535 ∨ betterB f.M (srcK t) t.s t.c = false
  · rw [if_pos g3, if_pos g3]
    exact ⟨hh, rfl, hdel, fun e he => R.kd e (delM_sub.subset he)⟩
  rw [if_neg g3, if_neg g3]
  have ht2 : t.k = 2 := Decidable.byContradiction fun q => arg (by unfold badT; exact .inr (.inr (.inr (.inr (.inl q)))))
  by_cases g4 : getM s.T ((t.a, t.l), fr) = none
  · have had : fhadL f.L (t.a, t.l) fr = false := by rw [← hh, g4]; rfl
    have hfl : forgL f.L (t.a, t.l) fr = f.L := by unfold forgL; exact filter_none (by rw [← hg]; exact g4)
    rw [hfl, had]
    by_cases g5 : f.most ≤ (s.T.length : Int)
    · rw [if_pos ⟨g4, g5⟩, if_pos ⟨rfl, by rw [← R.lenT]; exact g5⟩]
      exact ⟨rfl, rfl, R.t, R.kd⟩
    · rw [if_neg (fun q => g5 q.2), if_neg (fun q => g5 (by rw [R.lenT]; exact q.2))]
      refine ⟨rfl, rfl, ?_, fun e he => ?_⟩
      · show (setM _ _ s.T).Perm _
        rw [setM_end g4]; exact R.t.append_right _
      · rcases setM_mem he with rfl | q
        · exact ht2
        · exact R.kd e q
  · have had : fhadL f.L (t.a, t.l) fr = true := by
      rw [← hh]
      cases q : getM s.T ((t.a, t.l), fr) with
      | none => exact absurd q g4
      | some _ => rfl
    rw [if_neg (fun q => g4 q.1), had, if_neg (by simp)]
    refine ⟨rfl, rfl, ?_, fun e he => ?_⟩
    · refine (setM_perm R.ut).trans (List.Perm.append_right _ ?_)
      unfold forgL
      exact R.t.filter _
    · rcases setM_mem he with rfl | q
      · exact ht2
      · exact R.kd e q

theorem tells_M : ∀ {ws : List Tlv} {s : BS} {f : FS}, s.M = f.M → (ws.foldl tellStep s).M = (ws.foldl fknowT f).M
  | [], s, f, h => h
  | t :: ws, s, f, h => by
    rw [List.foldl_cons, List.foldl_cons]
    refine tells_M ?_
    unfold tellStep fknowT knowB fknowS
    rw [show ({ s with S := setM (t.a, t.l) t s.S } : BS).M = f.M from h]
    split <;> rfl
theorem RelB.tell (R : RelB s f) (us' : Uniq (tellS s).S) : RelB (tellS s) (fTellS f) := by
  have tp := tells_parts (ws := waysL s (prefL s)) (s := { s with S := [] })
  have fp := fknows_parts (ws := fways f (fprefL f)) (f := f)
  have hw : waysL s (prefL s) = fways f (fprefL f) := by rw [R.pref, R.ways]
  have hM := tells_M (ws := waysL s (prefL s)) (s := { s with S := [] }) (f := f) R.m
  have hS : (tellS s).S = (waysL s (prefL s)).map fun t => (tkey t, t) := by
    unfold tellS
    rw [tells_S (ways_srt R.ky).nodup (by simp)]; simp
  have nb' : NbI (tellS s) := by have := R.nb.call (o := ⟨5, 0, 0, 0, 0, 0, 0, 0, 0, 0, 0, 0⟩); unfold callS at this; simpa using this
  have ky' : KeyI (tellS s) := by have := R.ky.call (o := ⟨5, 0, 0, 0, 0, 0, 0, 0, 0, 0, 0, 0⟩); unfold callS at this; simpa using this
  unfold fTellS
  have t1 : (tellS s).O = s.O := tp.1
  have t2 : (tellS s).T = s.T := tp.2.1
  have t3 : (tellS s).seq = s.seq := tp.2.2.2.1
  have t4 : (tellS s).most = s.most := tp.2.2.2.2.1
  have t5 : (tellS s).dom = s.dom := tp.2.2.2.2.2.1
  have t6 : (tellS s).id = s.id := tp.2.2.2.2.2.2
  have t7 : (tellS s).M = (List.foldl fknowT f (waysL s (prefL s))).M := hM
  obtain ⟨f1, f2, f3, f4, f5, f6, f7, _⟩ := fp
  rw [hw] at hS t7
  generalize tellS s = s' at *
  generalize hf : List.foldl fknowT f (fways f (fprefL f)) = f' at *
  refine ⟨?_, ?_, ?_, ?_, ?_, ?_, ?_, ?_, ?_, nb', ky', ?_, ?_, us'⟩
  · rw [t6, R.id]; exact f7.symm
  · rw [t5, R.dom]; exact f6.symm
  · rw [t4, R.most]; exact f5.symm
  · rw [t3, R.seq]; exact f4.symm
  · rw [t1, R.o]; show f.O.map (oTlv f.id) = f'.O.map (oTlv f'.id); rw [f1, f7]
  · rw [t2]; show s.T.Perm f'.L; rw [f2]; exact R.t
  · exact t7
  · exact hS
  · rw [t2]; exact R.kd
  · rw [t2]; exact R.ut
  · rw [t1]; exact R.uo

theorem RelB.call (R : RelB s f) {o : Op17} (uo' : Uniq (callS s o).1.O) (ut' : Uniq (callS s o).1.T) (us' : Uniq (callS s o).1.S) : RelB (callS s o).1 (fcallS f o) := by
  have nb' := R.nb.call (o := o)
  have ky' := R.ky.call (o := o)
  unfold callS fcallS at *
  by_cases k0 : o.k = 0
  · simp only [if_pos k0] at *
    unfold bownS fownS at *
    rw [R.ownE] at *
    by_cases h0 : fownE f (o.ta, o.tl) o.n o.ttg = 0
    · simp only [if_pos h0] at *
      refine ⟨R.id, R.dom, R.most, R.seq, ?_, R.t, R.m, R.d, R.kd, nb', ky', ut', uo', us'⟩
      show setM _ _ s.O = (setM _ _ f.O).map _
      rw [R.o, ← setM_map (g := fun e => (oTlv f.id e).2)]
      unfold ownT
      rw [R.id]
    · simp only [if_neg h0] at *; exact R
  simp only [if_neg k0] at *
  by_cases k1 : o.k = 1
  · simp only [if_pos k1] at *
    unfold bdropS fdropS at *
    have e : (getM s.O (o.ta, o.tl)).isSome = (getM f.O (o.ta, o.tl)).isSome := by rw [R.getO]; simp
    rw [e] at nb' ky' uo' ut' us' ⊢
    by_cases h0 : (getM f.O (o.ta, o.tl)).isSome = true
    · simp only [if_pos h0] at *
      refine ⟨R.id, R.dom, R.most, R.seq, ?_, R.t, R.m, R.d, R.kd, nb', ky', ut', uo', us'⟩
      show delM _ s.O = (delM _ f.O).map _
      rw [R.o]
      exact delM_map (g := fun e => (oTlv f.id e).2)
    · simp only [if_neg h0] at *; exact R
  simp only [if_neg k1] at *
  by_cases k2 : o.k = 2
  · simp only [if_pos k2] at *
    exact ⟨R.id, R.dom, R.most, by show raiseN s.seq = raiseN f.seq; rw [R.seq], R.o, R.t, R.m, R.d, R.kd, nb', ky', ut', uo', us'⟩
  simp only [if_neg k2] at *
  by_cases k3 : o.k = 3
  · simp only [if_pos k3] at *
    obtain ⟨_, _, h3, h4⟩ := R.hear (fr := o.f) (c := o.n) (t := opT o)
    rw [bhear_T] at nb' ky' uo' ut' us' ⊢
    rw [fhear_L]
    exact ⟨R.id, R.dom, R.most, R.seq, R.o, h3, R.m, R.d, h4, nb', ky', ut', uo', us'⟩
  simp only [if_neg k3] at *
  by_cases k4 : o.k = 4
  · simp only [if_pos k4] at *
    exact ⟨R.id, R.dom, R.most, R.seq, R.o, R.t.filter _, R.m, R.d, fun e he => R.kd e (List.mem_filter.1 he).1, nb', ky', ut', uo', us'⟩
  simp only [if_neg k4] at *
  by_cases k5 : o.k = 5
  · simp only [if_pos k5] at *
    exact R.tell us'
  simp only [if_neg k5] at *
  by_cases k6 : o.k = 6
  · simp only [if_pos k6] at *
    unfold knowB fknowS at *
    rw [R.m] at *
    split
    · rename_i h0
      rw [if_pos h0] at nb' ky' uo' ut' us'
      exact ⟨R.id, R.dom, R.most, R.seq, R.o, R.t, rfl, R.d, R.kd, nb', ky', ut', uo', us'⟩
    · exact R
  simp only [if_neg k6] at *
  exact R
end
end Go.Proofs.Ytchbipkoifmmdaa

/- The document's comparing of two lists of routes. -/
namespace Go.Proofs.Ytchbipkoifmmdaa
open Go
set_option linter.unusedSimpArgs false
set_option linter.unusedVariables false

def SameInv (g0 : Hp) (v w : Value) (L : List Rt) (mm : Nat) (env : Env) (g : Hp) : Prop :=
  g = g0 ∧ ∃ i : Nat, env 0 = v ∧ env 1 = w ∧ env 5 = .int .i64 (i : Nat) ∧ i + mm = L.length ∧ i ≤ L.length

set_option maxRecDepth 20000 in
theorem same_spec {h : Hp} {v w : Value} {L : List Rt} {Q : Value → Hp → Prop} (S : SlAt h 38 7 Rt.enc v L) (S' : SlAt h 38 7 Rt.enc w L) (hl : L.length ≤ 1000000) (hQ : Q (.bool true) h) : Ok Try.prog F_octroiref09_Same #[v, w] h Q := by
  obtain ⟨p, cap, hv⟩ := S.shape'
  obtain ⟨p', cap', hw⟩ := S'.shape'
  refine octroiref09_Same_ok (by simp) ?_
  unfold octroiref09_Same_D
  simp (disch := omega) [octroiref09_Same_r0, octroiref09_Same_r1, octroiref09_Same_r3, hv, hw]
  refine ⟨SameInv h v w L, ⟨L.length, rfl, 0, by simp [hv], by simp [hw], by simp, by omega, by omega⟩, ?_⟩
  rintro mm env g ⟨rfl, i, e0, e1, e5, him, hi⟩
  unfold octroiref09_Same_L0
  by_cases hm : mm = 0
  · have : i = L.length := by omega
    subst this
    simp (disch := omega) [octroiref09_Same_r4, octroiref09_Same_r8, e0, e1, e5, hv]
    exact .to _ (.refl _) hQ
  · obtain ⟨y, hy⟩ : ∃ y, L[i]? = some y := ⟨_, List.getElem?_eq_getElem (by omega)⟩
    obtain ⟨b, c1, c, ev, hb, q0, q1, q2, q3, q4, q5, q6⟩ := rt_at S hy
    obtain ⟨b', c1', c', ew, hb', t0, t1, t2, t3, t4, t5, t6⟩ := rt_at S' hy
    have hi' : i < L.length := by omega
    rw [ev] at e0
    rw [ew] at e1
    simp (disch := omega) [octroiref09_Same_r4, octroiref09_Same_r5, octroiref09_Same_r7, e0, e1, e5, hi', hb, hb', q0, q1, q2, q3, q4, q5, q6, t0, t1, t2, t3, t4, t5, t6, wrap_i64]
    exact ⟨mm - 1, by omega, rfl, i + 1, by simp [e0, ev], by simp [e1, ew], by simp, by omega, by omega⟩
end Go.Proofs.Ytchbipkoifmmdaa

/- Babel and the document's in memory; a call of both. -/
namespace Go.Proofs.Ytchbipkoifmmdaa
open Go
set_option linter.unusedSimpArgs false
set_option linter.unusedVariables false

structure TwoB (h0 g : Hp) (x : BP) (s : BS) (q : Nat) (V : FV) (f : FS) : Prop where
  a : BabAt g x s
  f : FbM g q V f
  d : ∀ y, y ∈ ownF q V → y ∉ ownB x
  le : Le h0 g
  na : ∀ y, y ∈ ownB x → h0 y = none
  nf : ∀ y, y ∈ ownF q V → h0 y = none
section
variable {h0 g g' : Hp} {x : BP} {s : BS} {q : Nat} {V : FV} {f : FS} {Q : Value → Hp → Prop}
theorem TwoB.to (T : TwoB h0 g x s q V f) (l : Le g g') : TwoB h0 g' x s q V f := ⟨T.a.le' l, T.f.le' l, T.d, T.le.trans l, T.na, T.nf⟩
theorem TwoB.bab (T : TwoB h0 g x s q V f) {s' : BS} (k : BQ g x s' g') : TwoB h0 g' x s' q V f :=
  ⟨k.at_, T.f.keep fun y o hy e => k.fr.keep y o e (T.d y hy), T.d, k.fr.le T.le T.na, T.na, T.nf⟩
theorem TwoB.ref (T : TwoB h0 g x s q V f) {f' : FS} (k : FQ g q V f' g') : ∃ V', TwoB h0 g' x s q V' f' := by
  obtain ⟨V', M, F⟩ := k
  have d' := F.apart T.a.alive (fun y hy hy2 => T.d y hy2 hy)
  exact ⟨V', T.a.keep (fun y o hy e => F.keep y o e (fun hy2 => T.d y hy2 hy)), M, fun y hy hy2 => d' y hy2 hy, F.le T.le T.nf, T.na, F.new T.le T.nf⟩
theorem RelB.ok (R : RelB s f) (I : BInv s) (hm : f.M.length ≤ 90000) : FOk f ∧ f.O.length + f.L.length + f.D.length ≤ 1000 := by
  have h1 := R.lenO; have h2 := R.lenT; have h3 := R.lenS
  have h4 := I.lo; have h5 := I.lt; have h6 := I.ls
  refine ⟨⟨by omega, by omega, by omega, by omega, by omega, ?_, fun e he => ?_⟩, by omega⟩
  · have := I.num.m; rw [R.m] at this; exact this
  · exact (I.num.t e (R.t.mem_iff.2 he)).1

set_option maxHeartbeats 4000000 in
set_option maxRecDepth 20000 in
theorem doesM {o : Op17} (T : TwoB h0 g x s q V f) (R : RelB s f) (I : BInv s) (hm : f.M.length ≤ 80000) (og : o.Good) (hQ : ∀ V' g', TwoB h0 g' x (callS s o).1 q V' (fcallS f o) → Q (.bool true) g') :
    Ok Try.prog F_octroilaw17_does #[.pointer (some ⟨x.p, 0, none⟩), .pointer (some ⟨q, 0, none⟩), Op17v o] g Q := by
  refine octroilaw17_does_ok (by simp) ?_
  unfold octroilaw17_does_D
  simp (disch := omega) [octroilaw17_does_r0]
  intro b5 hb5
  have l1 : Le g (g.upd b5 (.cells o.cells 47)) := .new hb5
  have f5 : (g.upd b5 (.cells o.cells 47)) b5 = some (.cells o.cells 47 (0, 0)) := upd_same
  have n5 : b5 ∉ ownB x := fun m => by obtain ⟨o, e⟩ := T.a.alive _ m; rw [hb5] at e; cases e
  have n5' : b5 ∉ ownF q V := fun m => by obtain ⟨o, e⟩ := T.f.alive _ m; rw [hb5] at e; cases e
  show octroilaw17_does_r1 _ (g.upd b5 (.cells o.cells 47)) _
  have T1 := T.to l1
  generalize g.upd b5 (.cells o.cells 47) = g1 at *
  obtain ⟨K, hsm⟩ := R.ok I (by omega)
  have hlen : s.O.length + s.S.length + s.T.length ≤ 100000 := by have := I.lo; have := I.lt; have := I.ls; omega
  unfold callS fcallS at hQ
  by_cases k0 : o.k = 0
  · simp only [if_pos k0] at hQ
    simp (disch := omega) [octroilaw17_does_r1, octroilaw17_does_r2, octroilaw17_does_r3, f5, k0]
    refine bOwnM (k := (o.ta, o.tl)) T1.a og.ta og.ttg (fun g2 q2 => ?_)
    have T2 := T1.bab q2
    have f52 := q2.fr.keep _ _ f5 n5
    simp (disch := omega) [f52]
    refine fOwnM (k := (o.ta, o.tl)) T2.f K.o og.ta og.ttg (fun g3 q3 => ?_)
    obtain ⟨V3, T3⟩ := T2.ref q3
    simp (disch := omega) [R.ownE]
    exact .to _ (.refl _) (hQ _ _ T3)
  simp only [if_neg k0] at hQ
  by_cases k1 : o.k = 1
  · simp only [if_pos k1] at hQ
    simp (disch := omega) [octroilaw17_does_r1, octroilaw17_does_r2, octroilaw17_does_r4, octroilaw17_does_r5, f5, k0, k1]
    refine bDropM (k := (o.ta, o.tl)) T1.a (fun g2 q2 => ?_)
    have T2 := T1.bab q2
    have f52 := q2.fr.keep _ _ f5 n5
    simp (disch := omega) [f52]
    refine fDropM (k := (o.ta, o.tl)) T2.f K.o (fun g3 q3 => ?_)
    obtain ⟨V3, T3⟩ := T2.ref q3
    simp (disch := omega) [R.dropE]
    exact .to _ (.refl _) (hQ _ _ T3)
  simp only [if_neg k1] at hQ
  by_cases k2 : o.k = 2
  · simp only [if_pos k2] at hQ
    simp (disch := omega) [octroilaw17_does_r1, octroilaw17_does_r2, octroilaw17_does_r4, octroilaw17_does_r6, octroilaw17_does_r7, f5, k0, k1, k2]
    refine bRaiseM T1.a I.num.q (fun g2 q2 => ?_)
    have T2 := T1.bab q2
    simp (disch := omega)
    refine fRaiseM T2.f (by rw [← R.seq]; exact I.num.q) (fun g3 q3 => ?_)
    obtain ⟨V3, T3⟩ := T2.ref q3
    simp (disch := omega) [R.seq]
    exact .to _ (.refl _) (hQ _ _ T3)
  simp only [if_neg k2] at hQ
  by_cases k3 : o.k = 3
  · simp only [if_pos k3] at hQ
    obtain ⟨h1, h2, _, _⟩ := R.hear (fr := o.f) (c := o.n) (t := opT o)
    simp (disch := omega) [octroilaw17_does_r1, octroilaw17_does_r2, octroilaw17_does_r4, octroilaw17_does_r6, octroilaw17_does_r8, octroilaw17_does_r9, f5, k0, k1, k2, k3]
    refine bHearM (t := opT o) T1.a I.num.m og.ts og.ta og.ttg (fun g2 q2 => ?_)
    have T2 := T1.bab q2
    have f52 := q2.fr.keep _ _ f5 n5
    rw [h1, h2]
    generalize hz : fhear f o.f o.n (opT o) = z at *
    simp (disch := omega) [octroilaw17_does_r10, f52]
    refine fHearM (t := opT o) T2.f (by have := K.l; omega) K.m K.sq og.ts og.ta og.ttg (fun g3 q3 => ?_)
    rw [hz] at q3 ⊢
    obtain ⟨V3, T3⟩ := T2.ref q3
    simp (disch := omega) [octroilaw17_does_r11]
    exact .to _ (.refl _) (hQ _ _ T3)
  simp only [if_neg k3] at hQ
  by_cases k4 : o.k = 4
  · simp only [if_pos k4] at hQ
    simp (disch := omega) [octroilaw17_does_r1, octroilaw17_does_r2, octroilaw17_does_r4, octroilaw17_does_r6, octroilaw17_does_r8, octroilaw17_does_r12, octroilaw17_does_r13, f5, k0, k1, k2, k3, k4]
    refine bLoseM T1.a (fun g2 q2 => ?_)
    have T2 := T1.bab q2
    have f52 := q2.fr.keep _ _ f5 n5
    simp (disch := omega) [octroilaw17_does_r14, f52]
    refine fLoseM T2.f (by have := K.l; omega) (fun g3 q3 => ?_)
    obtain ⟨V3, T3⟩ := T2.ref q3
    simp (disch := omega) [octroilaw17_does_r20]
    exact .to _ (.refl _) (hQ _ _ T3)
  simp only [if_neg k4] at hQ
  by_cases k5 : o.k = 5
  · simp only [if_pos k5] at hQ
    simp (disch := omega) [octroilaw17_does_r1, octroilaw17_does_r2, octroilaw17_does_r4, octroilaw17_does_r6, octroilaw17_does_r8, octroilaw17_does_r12, octroilaw17_does_r15, octroilaw17_does_r16, f5, k0, k1, k2, k3, k4, k5]
    refine btellM T1.a I.num hlen (fun w g2 q2 S2 n2 => ?_)
    have T2 := T1.bab q2
    simp (disch := omega)
    refine fTellM T2.f K hsm (by omega) (by rw [← R.pref, ← R.ways]; exact waysL_ok I.num) (fun w3 g3 q3 S3 => ?_)
    have S2' : SlAt g3 31 9 Tlv.enc w (tellL s) := by
      obtain ⟨V', _, F⟩ := q3
      refine S2.keep fun b o e e2 => F.keep b o e2 (fun m => ?_)
      obtain ⟨o, e3⟩ := T1.f.alive b m
      rw [n2 b e] at e3; cases e3
    obtain ⟨V3, T3⟩ := T2.ref q3
    rw [← R.told] at S3
    have hl : (tellL s).length ≤ 1000000 := by
      have := prefL_length (s := s)
      have k1 := waysL_length (s := s) (ks := prefL s)
      have k2 := goneL_length (s := s) (ks := prefL s)
      unfold tellL; rw [List.length_append]; omega
    simp (disch := omega)
    refine same_Tlv S2' S3 hl ?_
    simp (disch := omega)
    exact .to _ (.refl _) (hQ _ _ T3)
  simp only [if_neg k5] at hQ
  by_cases k6 : o.k = 6
  · simp only [if_pos k6] at hQ
    simp (disch := omega) [octroilaw17_does_r1, octroilaw17_does_r2, octroilaw17_does_r4, octroilaw17_does_r6, octroilaw17_does_r8, octroilaw17_does_r12, octroilaw17_does_r15, octroilaw17_does_r17, octroilaw17_does_r18, f5, k0, k1, k2, k3, k4, k5, k6]
    refine bKnowM (k := (o.ta, o.tl)) T1.a I.num.m og.ts og.ta (fun g2 q2 => ?_)
    have T2 := T1.bab q2
    have f52 := q2.fr.keep _ _ f5 n5
    simp (disch := omega) [octroilaw17_does_r19, f52]
    refine fKnowM (k := (o.ta, o.tl)) T2.f K.m K.sq og.ts og.ta (fun g3 q3 => ?_)
    obtain ⟨V3, T3⟩ := T2.ref q3
    simp (disch := omega) [octroilaw17_does_r20]
    exact .to _ (.refl _) (hQ _ _ T3)
  simp only [if_neg k6] at hQ
  simp (disch := omega) [octroilaw17_does_r1, octroilaw17_does_r2, octroilaw17_does_r4, octroilaw17_does_r6, octroilaw17_does_r8, octroilaw17_does_r12, octroilaw17_does_r15, octroilaw17_does_r17, octroilaw17_does_r20, f5, k0, k1, k2, k3, k4, k5, k6]
  exact .to _ (.refl _) (hQ _ _ T1)
end
end Go.Proofs.Ytchbipkoifmmdaa

/- PfR: a flat struct (printed by wip/lib/struct.py). -/
namespace Go.Proofs.Ytchbipkoifmmdaa
open Go
set_option linter.unusedSimpArgs false
set_option linter.unusedVariables false

structure PfR where
  a : Nat
  n : Int
deriving DecidableEq

def PfR.enc (x : PfR) : List Value := [.int .u32 (x.a : Nat), .int .i64 x.n]
abbrev PfRv (x : PfR) : Value := .agg #[.int .u32 (x.a : Nat), .int .i64 x.n]
abbrev PfR.cells (x : PfR) : Array Value := #[.int .u32 (x.a : Nat), .int .i64 x.n]
structure PfR.Good (x : PfR) : Prop where
  a : x.a < 2 ^ 32
theorem PfR.one (x : PfR) : (PfR.enc x).length = 2 ∧ ∀ u ∈ PfR.enc x, oneCell u = true := ⟨rfl, by simp [PfR.enc]⟩

def PfRKs : List Lk := [.int .u32, .int .i64]
theorem dec_PfR {H : Type} {enc : TypeId × Value → H} {w : World} {base : Nat} {spare : Nat → Bool} {held : Bool} (cs : List Value) (h : okLs enc Try.prog w base spare held PfRKs cs) : ∃ x : PfR, cs = x.enc ∧ x.Good := by
  obtain ⟨a0, _, rfl, w0, h⟩ := okLs_int h
  obtain ⟨a1, _, rfl, w1, h⟩ := okLs_int h
  obtain rfl := okLs_nil h
  obtain ⟨b0, rfl, g0⟩ := u32_wf w0
  exact ⟨⟨b0, a1⟩, rfl, ⟨g0⟩⟩
end Go.Proofs.Ytchbipkoifmmdaa

/- BabelLeast: what is told never makes a least worse; what is told is not better than it behind. -/
namespace Go.Proofs.Ytchbipkoifmmdaa
open Go
set_option linter.unusedSimpArgs false
set_option linter.unusedVariables false

def LeInv (h : Hp) (x : BP) (b6 : Nat) (rt : Nat) (lv : Value) (l : List Op17) (n : Nat) (env : Env) (g : Hp) : Prop :=
  ∃ (i : Nat) (s : BS), i + n = l.length ∧ BabAt g x s ∧ BInv s ∧ KeyI s ∧ Le h g ∧ env 1 = lv ∧ env 3 = .int .u64 (rt : Nat) ∧ env 6 = .pointer (some ⟨b6, 0, none⟩) ∧ env 10 = .pointer (some ⟨x.p, 0, none⟩) ∧ env 11 = .int .i64 (i : Nat)
def LeIn (h : Hp) (x : BP) (s : BS) (b6 : Nat) (rt : Nat) (lv w : Value) (i : Nat) (X : List Tlv) (n : Nat) (env : Env) (g : Hp) : Prop :=
  ∃ j : Nat, j + n = X.length ∧ Le h g ∧ BabAt g x s ∧ SlAt g 31 9 Tlv.enc w X ∧ env 1 = lv ∧ env 3 = .int .u64 (rt : Nat) ∧ env 6 = .pointer (some ⟨b6, 0, none⟩) ∧ env 10 = .pointer (some ⟨x.p, 0, none⟩) ∧ env 11 = .int .i64 (i : Nat) ∧ env 15 = w ∧ env 19 = .int .i64 (j : Nat)

theorem callL_len {s : BS} {o : Op17} (I : BInv s) : (callS s o).2.length ≤ 512 := by
  have := prefL_length (s := s)
  have := I.lo; have := I.lt; have := I.ls
  have k1 := waysL_length (s := s) (ks := prefL s)
  have k2 := goneL_length (s := s) (ks := prefL s)
  have k3 : (tellL s).length ≤ 512 := by unfold tellL; rw [List.length_append]; omega
  unfold callS
  split
  · simp
  · split
    · simp
    · split
      · simp
      · split
        · simp
        · split
          · simp
          · split
            · exact k3
            · split <;> simp
theorem told_num {s : BS} {o : Op17} (I : BInv s) {t : Tlv} (ht : t ∈ (callS s o).2) (hc : t.c < 65535) : t.s < 65536 := by
  have key : t ∈ tellL s → t.s < 65536 := by
    intro ht'
    unfold tellL at ht'
    rcases List.mem_append.1 ht' with q | q
    · exact (waysL_ok I.num t q).1
    · obtain ⟨k, _, h2⟩ := List.mem_filterMap.1 q
      split at h2
      · cases h2
      · cases h : getM s.S k with
        | none => rw [h] at h2; cases h2
        | some y => rw [h] at h2; simp at h2; subst h2; simp at hc
  unfold callS at ht
  split at ht
  · simp at ht
  · split at ht
    · simp at ht
    · split at ht
      · simp at ht
      · split at ht
        · simp at ht
        · split at ht
          · simp at ht
          · split at ht
            · exact key ht
            · split at ht <;> simp at ht

set_option maxHeartbeats 1000000 in
set_option maxRecDepth 20000 in
theorem BabelLeast_walk {h : Hp} {id rt : Nat} {lv : Value} {l : List Op17} {x0 : PfR} (hk : x0.Good) (A : ArgSl h 12 Op17.enc Op17.Good lv l) :
    Ok Try.prog F_octroilaw17_BabelLeast #[.int .u64 (id : Nat), lv, .agg x0.enc.toArray, .int .u64 (rt : Nat)] h (fun v g => v = .bool true ∧ Le h g) := by
  obtain ⟨k, hkx, hk1⟩ : ∃ k : PK, x0.enc.toArray = (kencP k).toArray ∧ k.1 < 2 ^ 32 := ⟨(x0.a, x0.n), rfl, hk.a⟩
  rw [hkx]
  clear hkx hk x0
  refine octroilaw17_BabelLeast_ok (by simp) ?_
  unfold octroilaw17_BabelLeast_D
  obtain ⟨ap, acap, hlv⟩ := A.shape
  simp (disch := omega) [octroilaw17_BabelLeast_r0]
  intro b6 hb6
  have l6 : Le h (h.upd b6 (.cells #[.int .u32 (k.1 : Nat), .int .i64 k.2] 24)) := .new hb6
  have f6 : (h.upd b6 (.cells #[.int .u32 (k.1 : Nat), .int .i64 k.2] 24)) b6 = some (.cells #[.int .u32 (k.1 : Nat), .int .i64 k.2] 24) := upd_same
  show octroilaw17_BabelLeast_r1 _ (h.upd b6 (.cells #[.int .u32 (k.1 : Nat), .int .i64 k.2] 24)) _
  generalize h.upd b6 (.cells #[.int .u32 (k.1 : Nat), .int .i64 k.2] 24) = h1 at *
  simp (disch := omega) [octroilaw17_BabelLeast_r1]
  refine awake17 (fun h2 l2 => ?_)
  simp (disch := omega) [octroilaw17_BabelLeast_r2]
  refine bnewM (fun x h3 l3 n3 A3 => ?_)
  have hle : Le h1 h3 := l2.trans l3
  have n0 : ∀ y, y ∈ ownB x → h1 y = none := fun y hy => none_of_le l2 (n3 y hy)
  by_cases g1 : 150 < (l.length : Int)
  · simp (disch := omega) [octroilaw17_BabelLeast_r3, octroilaw17_BabelLeast_r4, hlv, g1]
    exact .to _ (.refl _) ⟨rfl, l6.trans hle⟩
  simp (disch := omega) [octroilaw17_BabelLeast_r3, octroilaw17_BabelLeast_r5, hlv, g1]
  refine ⟨LeInv h1 x b6 rt lv l, ⟨l.length, 0, _, by omega, A3, BInv.new, ⟨by simp, by simp, by simp⟩, hle, by simp [hlv], by simp, by simp, by simp, by simp⟩, ?_⟩
  rintro n env g ⟨i, s, hin, B, I, J, lg, e1, e3, e6, e10, e11⟩
  unfold octroilaw17_BabelLeast_L1
  by_cases hm : n = 0
  · have : i = l.length := by omega
    subst this
    simp (disch := omega) [octroilaw17_BabelLeast_r6, octroilaw17_BabelLeast_r19, e1, e3, e6, e10, e11, hlv]
    exact .to _ (.refl _) ⟨rfl, l6.trans lg⟩
  · obtain ⟨o, ho⟩ : ∃ x, l[i]? = some x := ⟨_, List.getElem?_eq_getElem (by omega)⟩
    obtain ⟨og, b, off, cap, c, E, fr, hv', hb, q0, q1, q2, q3, q4, q5, q6, q7, q8, q9, q10, q11⟩ := op17_at A ho
    have hi' : i < l.length := by omega
    have f6g := lg _ _ f6
    simp (disch := omega) [octroilaw17_BabelLeast_r6, octroilaw17_BabelLeast_r7, e1, e3, e6, e10, e11, hv', f6g, hi']
    refine bLeastM (k := k) B (fun g2 l2' => ?_)
    have lg2 := lg.trans l2'
    have hbg := lg2 _ _ (l6 _ _ hb)
    simp (disch := omega) [octroilaw17_BabelLeast_r8, e1, e3, e6, e10, e11, hv', hbg, hi', q0, q1, q2, q3, q4, q5, q6, q7, q8, q9, q10, q11]
    refine bcallM (o := o) (B.le' l2') I og (fun w g4 B4 S4 n4 => ?_)
    have lg4 := B4.leN lg2 n0
    have J4 := J.call (o := o)
    have I4 := I.call og
    have nw := call_noWorse J (o := o) (q := (k, rt))
    have nb := fun t ht hc => call_told J (o := o) (t := t) ht hc
    have hXl := callL_len (o := o) I
    have hnum := fun t ht hc => told_num (o := o) (t := t) I ht hc
    have B5 := B4.at_
    generalize (callS s o).2 = X at *
    generalize (callS s o).1 = s4 at *
    have f64 := lg4 _ _ f6
    simp (disch := omega) [octroilaw17_BabelLeast_r9, e3, e6, e10, f64]
    refine bLeastM (k := k) B5 (fun g5 l5' => ?_)
    have lg5 := lg4.trans l5'
    have inner : ∀ env : Env, env 1 = lv → env 3 = .int .u64 (rt : Nat) → env 6 = .pointer (some ⟨b6, 0, none⟩) → env 10 = .pointer (some ⟨x.p, 0, none⟩) → env 11 = .int .i64 (i : Nat) → env 15 = w →
        octroilaw17_BabelLeast_r12 env g5 (thenK (blk 2 (lp octroilaw17_BabelLeast_L0)) (inBlk 1 (thenK (rg octroilaw17_BabelLeast_r18) (roundK (LeInv h1 x b6 rt lv l) n (inBlk 0 (thenK (sq (rg octroilaw17_BabelLeast_r19) (ex .ret)) (fin Try.prog [.tmp 8] fun v g => v = .bool true ∧ Le h g)))))) .normal) := by
      clear e1 e3 e6 e10 e11
      intro env e1 e3 e6 e10 e11 e15
      simp (disch := omega) [octroilaw17_BabelLeast_r12]
      refine ⟨LeIn h1 x s4 b6 rt lv w i X, ⟨X.length, 0, by omega, lg5, B5.le' l5', S4.le' l5', by simp [e1], by simp [e3], by simp [e6], by simp [e10], by simp [e11], by simp [e15], by simp⟩, ?_⟩
      clear e1 e3 e6 e10 e11 e15
      rintro n2 env g6 ⟨j, hjn, lg6, B6, S6, e1, e3, e6, e10, e11, e15, e19⟩
      unfold octroilaw17_BabelLeast_L0
      obtain ⟨sp, scap, hw⟩ := S6.shape'
      by_cases hm2 : n2 = 0
      · have : j = X.length := by omega
        subst this
        simp (disch := omega) [octroilaw17_BabelLeast_r13, octroilaw17_BabelLeast_r18, e1, e3, e6, e10, e11, e15, e19, hw, wrap_i64]
        exact ⟨n - 1, by omega, i + 1, s4, by omega, B6, I4, J4, lg6, by simp [e1], by simp [e3], by simp [e6], by simp [e10], by simp⟩
      · obtain ⟨t, ht⟩ : ∃ t, X[j]? = some t := ⟨_, List.getElem?_eq_getElem (by omega)⟩
        obtain ⟨b2, c2, d2, ez, hb2, t0, t1, t2, t3, t4, t5, t6, t7, t8⟩ := Tlv_at S6 ht
        have hj' : j < X.length := by omega
        have hmem := List.mem_of_getElem? ht
        simp (disch := omega) [octroilaw17_BabelLeast_r13, octroilaw17_BabelLeast_r14, e1, e3, e6, e10, e11, e15, e19, ez, hj', hb2, t4, t5, t6]
        refine bLeastM (k := (t.a, t.l)) B6 (fun g7 l7 => ?_)
        have hb7 := l7 _ _ hb2
        have next : ∀ env : Env, env 1 = lv → env 3 = .int .u64 (rt : Nat) → env 6 = .pointer (some ⟨b6, 0, none⟩) → env 10 = .pointer (some ⟨x.p, 0, none⟩) → env 11 = .int .i64 (i : Nat) → env 15 = w → env 19 = .int .i64 (j : Nat) →
            octroilaw17_BabelLeast_r17 env g7 (roundK (LeIn h1 x s4 b6 rt lv w i X) n2 (inBlk 2 (inBlk 1 (thenK (rg octroilaw17_BabelLeast_r18) (roundK (LeInv h1 x b6 rt lv l) n (inBlk 0 (thenK (sq (rg octroilaw17_BabelLeast_r19) (ex .ret)) (fin Try.prog [.tmp 8] fun v g => v = .bool true ∧ Le h g))))))) .normal) := by
          intro env e1 e3 e6 e10 e11 e15 e19
          simp (disch := omega) [octroilaw17_BabelLeast_r17, e19, wrap_i64]
          exact ⟨n2 - 1, by omega, j + 1, by omega, lg6.trans l7, B6.le' l7, S6.le' l7, by simp [e1], by simp [e3], by simp [e6], by simp [e10], by simp [e11], by simp [e15], by simp⟩
        refine ⟨trivial, ?_⟩
        by_cases hc : t.c < 65535
        · obtain ⟨z, hz, nz1, nz2⟩ := nb t hmem hc
          have hz' : getM s4.M ((t.a, t.l), t.rt) = some z := hz
          have hzs : z.1 < 65536 := I4.num.m _ (getM_mem hz)
          rw [hz']
          simp (disch := omega) [octroilaw17_BabelLeast_r15, e15, e19, ez, hj', hb7, t1, t3, hc]
          have e15' := e15.trans ez
          refine newerM (hnum t hmem hc) hzs ?_
          rw [nz1]
          by_cases e : t.s = z.1
          · have hlt := nz2 e
            have e' : (t.s : Int) = (z.1 : Int) := by omega
            have hlt' : z.2 ≤ t.c := by omega
            simp (disch := omega) [e15', e19, hj', hb7, t1, t3, hc, eq_true e, eq_true e', hlt, hlt']
            refine next _ ?_ ?_ ?_ ?_ ?_ ?_ ?_ <;> simp [e1, e3, e6, e10, e11, e15, e19, ez]
          · have e' : ¬ (t.s : Int) = (z.1 : Int) := by omega
            simp (disch := omega) [e15', e19, hj', hb7, t1, t3, hc, e, e']
            refine next _ ?_ ?_ ?_ ?_ ?_ ?_ ?_ <;> simp [e1, e3, e6, e10, e11, e15, e19, ez]
        · have e15' := e15.trans ez
          simp (disch := omega) [octroilaw17_BabelLeast_r15, e15', e19, hj', hb7, t1, t3, hc]
          refine next _ ?_ ?_ ?_ ?_ ?_ ?_ ?_ <;> simp [e1, e3, e6, e10, e11, e15, e19, ez]
    cases hY : getM s.M (k, rt) with
    | none =>
      simp (disch := omega) [octroilaw17_BabelLeast_r10]
      refine inner _ ?_ ?_ ?_ ?_ ?_ ?_ <;> simp [e1, e3, e6, e10, e11, hv']
    | some y =>
      obtain ⟨z, hz, w1, w2⟩ := nw y hY
      have hys : y.1 < 65536 := I.num.m _ (getM_mem hY)
      have hzs : z.1 < 65536 := I4.num.m _ (getM_mem hz)
      rw [hz]
      by_cases e : z.1 = y.1
      · have hle2 := w1 e
        have hle3 : ¬ y.2 < z.2 := by omega
        have e' : (z.1 : Int) = (y.1 : Int) := by omega
        simp (disch := omega) [octroilaw17_BabelLeast_r10, e, hle2, hle3]
        refine inner _ ?_ ?_ ?_ ?_ ?_ ?_ <;> simp [e1, e3, e6, e10, e11, hv']
      · have e' : ¬ (z.1 : Int) = (y.1 : Int) := by omega
        have hn := w2 e
        simp (disch := omega) [octroilaw17_BabelLeast_r10, e, e']
        refine newerM hzs hys ?_
        rw [hn]
        simp (disch := omega) [e, e']
        refine inner _ ?_ ?_ ?_ ?_ ?_ ?_ <;> simp [e1, e3, e6, e10, e11, hv']
end Go.Proofs.Ytchbipkoifmmdaa

/- BabelDoes: what a router knows by Babel, behind any calls, and what it tells, is what the document says. -/
namespace Go.Proofs.Ytchbipkoifmmdaa
open Go
set_option linter.unusedSimpArgs false
set_option linter.unusedVariables false

theorem fcall_M {f : FS} {o : Op17} (h : f.O.length + f.L.length + f.D.length ≤ 256) : (fcallS f o).M.length ≤ f.M.length + 256 := by
  have key : (fTellS f).M.length ≤ f.M.length + 256 := by
    have h1 := (fknows_parts (ws := fways f (fprefL f)) (f := f)).2.2.2.2.2.2.2
    have h2 : (fways f (fprefL f)).length ≤ (fprefL f).length := List.length_filterMap_le _ _
    have h3 := fprefL_length (f := f)
    show (List.foldl fknowT f (fways f (fprefL f))).M.length ≤ _
    omega
  unfold fcallS
  split
  · unfold fownS; split <;> exact Nat.le_add_right _ _
  · split
    · unfold fdropS; split <;> exact Nat.le_add_right _ _
    · split
      · exact Nat.le_add_right _ _
      · split
        · rw [fhear_L]; exact Nat.le_add_right _ _
        · split
          · exact Nat.le_add_right _ _
          · split
            · exact key
            · split
              · exact Nat.le_trans fknow_len (by omega)
              · exact Nat.le_add_right _ _

def BdInv (h : Hp) (x : BP) (q : Nat) (lv : Value) (l : List Op17) (n : Nat) (env : Env) (g : Hp) : Prop :=
  ∃ (i : Nat) (s : BS) (V : FV) (f : FS), i + n = l.length ∧ TwoB h g x s q V f ∧ RelB s f ∧ BInv s ∧ f.M.length ≤ 256 * i ∧ env 3 = lv ∧ env 10 = .pointer (some ⟨x.p, 0, none⟩) ∧ env 11 = .pointer (some ⟨q, 0, none⟩) ∧ env 12 = .int .i64 (i : Nat)

set_option maxHeartbeats 4000000 in
set_option maxRecDepth 20000 in
theorem BabelDoes_walk {h : Hp} {id : Nat} {dom most : Int} {lv : Value} {l : List Op17} (A : ArgSl h 12 Op17.enc Op17.Good lv l) :
    Ok Try.prog F_octroilaw17_BabelDoes #[.int .u64 (id : Nat), .int .i64 dom, .int .i64 most, lv] h (fun v g => v = .bool true ∧ Le h g) := by
  refine octroilaw17_BabelDoes_ok (by simp) ?_
  unfold octroilaw17_BabelDoes_D
  obtain ⟨ap, acap, hlv⟩ := A.shape
  simp (disch := omega) [octroilaw17_BabelDoes_r0, octroilaw17_BabelDoes_r1]
  refine awake17 (fun h2 l2 => ?_)
  simp (disch := omega) [octroilaw17_BabelDoes_r2]
  refine bnewM (fun x h3 l3 n3 A3 => ?_)
  have hle : Le h h3 := l2.trans l3
  have n0 : ∀ y, y ∈ ownB x → h y = none := fun y hy => none_of_le l2 (n3 y hy)
  by_cases g1 : 150 < (l.length : Int)
  · simp (disch := omega) [octroilaw17_BabelDoes_r3, octroilaw17_BabelDoes_r4, hlv, g1]
    exact .to _ (.refl _) ⟨rfl, hle⟩
  simp (disch := omega) [octroilaw17_BabelDoes_r3, octroilaw17_BabelDoes_r5, hlv, g1]
  refine fnewM (fun q h4 l4 nq M4 => ?_)
  have nqx : q ∉ ownB x := fun m => by obtain ⟨o, e⟩ := A3.alive q m; rw [nq] at e; cases e
  have T0 : TwoB h h4 x ⟨id, dom, min most 64, 0, [], [], [], []⟩ q fv0 ⟨id, dom, min most 64, 0, [], [], [], []⟩ :=
    ⟨A3.le' l4, M4, fun y m => by simp [ownF, blkOf] at m; subst m; exact nqx, hle.trans l4, n0, fun y m => by simp [ownF, blkOf] at m; subst m; exact none_of_le hle nq⟩
  have R0 : RelB ⟨id, dom, min most 64, 0, [], [], [], []⟩ ⟨id, dom, min most 64, 0, [], [], [], []⟩ :=
    ⟨rfl, rfl, rfl, rfl, rfl, .nil, rfl, rfl, by simp, (by intro e he; cases he), ⟨by simp, by simp, by simp⟩, by simp [Uniq], by simp [Uniq], by simp [Uniq]⟩
  simp (disch := omega) [octroilaw17_BabelDoes_r6]
  refine ⟨BdInv h x q lv l, ⟨l.length, 0, _, _, _, by omega, T0, R0, BInv.new, by simp, by simp [hlv], by simp, by simp, by simp⟩, ?_⟩
  clear T0 R0 nqx M4 nq l4 A3
  rintro n env g ⟨i, s, V, f, hin, T, R, I, hm, e3, e10, e11, e12⟩
  unfold octroilaw17_BabelDoes_L0
  have hSl : ∀ {s : BS}, BInv s → s.O.length + s.S.length + s.T.length ≤ 256 := fun I => by have := I.lo; have := I.lt; have := I.ls; omega
  by_cases hn : n = 0
  · have : i = l.length := by omega
    subst this
    obtain ⟨K, hsm⟩ := R.ok I (by omega)
    have hlen := hSl I
    simp (disch := omega) [octroilaw17_BabelDoes_r7, octroilaw17_BabelDoes_r18, e3, e10, e11, e12, hlv]
    refine btellM T.a I.num (by omega) (fun w g2 q2 S2 n2 => ?_)
    have T2 := T.bab q2
    simp (disch := omega) [e11]
    refine fTellM T2.f K hsm (by omega) (by rw [← R.pref, ← R.ways]; exact waysL_ok I.num) (fun w3 g3 q3 S3 => ?_)
    have S2' : SlAt g3 31 9 Tlv.enc w (tellL s) := by
      obtain ⟨V', _, F⟩ := q3
      refine S2.keep fun b o e e2 => F.keep b o e2 (fun m => ?_)
      obtain ⟨o, e3⟩ := T.f.alive b m
      rw [n2 b e] at e3; cases e3
    obtain ⟨V3, T3⟩ := T2.ref q3
    rw [← R.told] at S3
    have hl : (tellL s).length ≤ 1000000 := by
      have := prefL_length (s := s)
      have k1 := waysL_length (s := s) (ks := prefL s)
      have k2 := goneL_length (s := s) (ks := prefL s)
      unfold tellL; rw [List.length_append]; omega
    simp (disch := omega)
    refine same_Tlv S2' S3 hl ?_
    simp (disch := omega)
    exact .to _ (.refl _) ⟨rfl, T3.le⟩
  · obtain ⟨o, ho⟩ : ∃ x, l[i]? = some x := ⟨_, List.getElem?_eq_getElem (by omega)⟩
    obtain ⟨og, b, off, cap, c, E, fr, hv', hb, q0, q1, q2, q3, q4, q5, q6, q7, q8, q9, q10, q11⟩ := op17_at A ho
    have hi' : i < l.length := by omega
    have hbg := T.le _ _ hb
    have e3' := e3.trans hv'
    simp (disch := omega) [octroilaw17_BabelDoes_r7, octroilaw17_BabelDoes_r8, e3', e10, e11, e12, hbg, hi', q0, q1, q2, q3, q4, q5, q6, q7, q8, q9, q10, q11]
    refine doesM (o := o) T R I (by omega) og (fun V2 g2 T2 => ?_)
    have I2 := I.call og
    have R2 := R.call (o := o) T2.a.uo T2.a.ut T2.a.ud
    have hm2 : (fcallS f o).M.length ≤ 256 * (i + 1) := by
      have h1 := hSl I
      have := fcall_M (f := f) (o := o) (by have := R.lenO; have := R.lenT; have := R.lenS; omega)
      omega
    clear T R I hm hbg
    generalize (callS s o).1 = s2 at *
    generalize fcallS f o = f2 at *
    obtain ⟨K, hsm⟩ := R2.ok I2 (by omega)
    have hlen := hSl I2
    simp (disch := omega) [octroilaw17_BabelDoes_r9, e10, e11]
    refine ballM T2.a I2.num.m I2.num.tld (by omega) (fun w g3 l3 S3 n3 => ?_)
    have T3 := T2.to l3
    simp (disch := omega) [e11]
    refine fAllM T3.f K (fun w2 g4 l4 S4 n4 => ?_)
    have T4 := T3.to l4
    rw [← R2.all] at S4
    have hal : (allB s2 (prefL s2)).length ≤ 1000000 := by
      have := prefL_length (s := s2)
      exact Nat.le_trans (List.length_filterMap_le _ _) (by omega)
    simp (disch := omega)
    refine same_spec (S3.le' l4) S4 hal ?_
    have hb4 := T4.le _ _ hb
    simp (disch := omega) [octroilaw17_BabelDoes_r10, e3', e12, hb4, hi', q7, q8]
    intro b15 hb15
    have l5 : Le g4 (g4.upd b15 (.cells #[.int .u32 (o.ta : Nat), .int .i64 o.tl] 24)) := .new hb15
    have f15 : (g4.upd b15 (.cells #[.int .u32 (o.ta : Nat), .int .i64 o.tl] 24)) b15 = some (.cells #[.int .u32 (o.ta : Nat), .int .i64 o.tl] 24 (0, 0)) := upd_same
    simp (disch := omega)
    show octroilaw17_BabelDoes_r11 _ (g4.upd b15 (.cells #[.int .u32 (o.ta : Nat), .int .i64 o.tl] 24)) _
    generalize g4.upd b15 (.cells #[.int .u32 (o.ta : Nat), .int .i64 o.tl] 24) = g5 at *
    have T5 := T4.to l5
    obtain ⟨src1, src2⟩ := R2.src (k := (o.ta, o.tl))
    simp (disch := omega) [octroilaw17_BabelDoes_r11, e10, f15]
    refine bsourceM (k := (o.ta, o.tl)) T5.a I2.num.m I2.num.tld (fun g6 l6 => ?_)
    have T6 := T5.to l6
    have f156 := l6 _ _ f15
    rw [src1, src2]
    simp (disch := omega) [octroilaw17_BabelDoes_r12, e11, f156]
    refine fSourceM (k := (o.ta, o.tl)) T6.f K (fun g7 l7 => ?_)
    have T7 := T6.to l7
    have f157 := l7 _ _ f156
    have hb7 := T7.le _ _ hb
    generalize (if (fwayV f2 (o.ta, o.tl)).2.2 = true then (fwayV f2 (o.ta, o.tl)).1.rt else 0) = sr at *
    generalize (fwayV f2 (o.ta, o.tl)).2.2 = si at *
    simp (disch := omega) [octroilaw17_BabelDoes_r13, e3', e10, e12, f157, hb7, hi', q9]
    refine bLeastM (k := (o.ta, o.tl)) T7.a (fun g8 l8 => ?_)
    have T8 := T7.to l8
    have f158 := l8 _ _ f157
    have hb8 := T8.le _ _ hb
    rw [R2.m]
    simp (disch := omega) [octroilaw17_BabelDoes_r14, e3', e11, e12, f158, hb8, hi', q9]
    refine fLeastM (k := (o.ta, o.tl)) T8.f (by omega) (fun g9 l9 => ?_)
    have T9 := T8.to l9
    generalize (getM f2.M ((o.ta, o.tl), o.trt)).getD (0, 0) = z at *
    generalize (getM f2.M ((o.ta, o.tl), o.trt)).isSome = zi at *
    have hq9 := T9.f.pt
    obtain ⟨sp, scap, hvl⟩ := T9.f.sl.shape'
    simp (disch := omega) [octroilaw17_BabelDoes_r15, e10, e11, hq9, hvl]
    refine bLenM T9.a ?_
    have hlT := R2.lenT
    simp (disch := omega) [octroilaw17_BabelDoes_r17, e12, hq9, hvl, hlT, wrap_i64]
    exact ⟨n - 1, by omega, i + 1, s2, V2, f2, by omega, T9, R2, I2, hm2, by simp [e3], by simp [e10], by simp [e11], by simp⟩
end Go.Proofs.Ytchbipkoifmmdaa

/- BabelDoes: what a router knows by Babel, behind any calls, and what it tells, is what the document says: the row. No condition. -/
namespace Go.Proofs.Ytchbipkoifmmdaa.BabelDoes_row
open Go Go.ChangeShapes Go.WideShapes Go.RowKit
theorem own_knob : ownKnob Try.prog.godebug = none := by kernel_rfl
theorem laid_out : laidOutB Try.prog = true := by kernel_rfl
set_option maxRecDepth 100000 in
theorem lifted (os : Os) (started : os.Started) (H : Type) (enc : TypeId × Value → H) :
    ReturnsInHanded {} Try.checked os 9 .any (Rows.babelDoesSpec.pre6 enc Try.prog Try.f9 Rows.babelDoesRow.domain false) (Rows.babelDoesSpec.post enc Try.prog Try.f9 false true false false) := by
  refine returnsInHanded_of_change_sized (C := Try.checked) own_knob started (by kernel_rfl) Try.func9
    (ChangeSpec.witness6 (enc := enc) (C := Try.checked) false ⟨#[], #[.int .u64 0, .int .i64 0, .int .i64 0, .slice none 0 0], []⟩ 8 (by kernel_rfl) (by kernel_rfl) (by kernel_rfl) (by kernel_rfl)) ?_
  intro W base args ds gs before hval hW hcnd hsz _
  have hW' := hW
  obtain ⟨p, q, hA, hV, rfl, hfz, hnd⟩ := hW
  obtain ⟨rfl, rfl⟩ := trodVars_none hV
  have hA' : DataW.TrodAll enc Try.prog W 0 (fun _ => true) true Try.f9.params.toList args.toList ds p := hA
  have hval' : ∀ (j : Nat) t v, Try.f9.params[j]? = some t → args[j]? = some v → Value.okWide Try.prog W .any base t v := hval
  rw [Try.params9] at hA' hval'
  obtain ⟨v0, vs0, d0, ds0, p0, q0, hargs, rfl, rfl, h0, r0⟩ := trodAll_cons hA'
  obtain ⟨v1, vs1, d1, ds1, p1, q1, rfl, rfl, rfl, h1, r1⟩ := trodAll_cons r0
  obtain ⟨v2, vs2, d2, ds2, p2, q2, rfl, rfl, rfl, h2, r2⟩ := trodAll_cons r1
  obtain ⟨v3, vs3, d3, ds3, p3, q3, rfl, rfl, rfl, h3, r3⟩ := trodAll_cons r2
  obtain ⟨rfl, rfl, rfl⟩ := trodAll_nil r3
  obtain rfl : args = #[v0, v1, v2, v3] := by cases args; simp_all
  obtain ⟨n0, rfl, rfl, rfl, w0⟩ := open_int Try.underlying28 (hval' 0 _ v0 rfl rfl) h0
  obtain ⟨a0, rfl, ha0⟩ := u64_wf w0
  obtain ⟨n1, rfl, rfl, rfl, w1⟩ := open_int Try.underlying3 (hval' 1 _ v1 rfl rfl) h1
  obtain ⟨n2, rfl, rfl, rfl, w2⟩ := open_int Try.underlying3 (hval' 2 _ v2 rfl rfl) h2
  obtain ⟨xs3, A3⟩ := open_argSl (ks := Op17Ks) (sz := 12) 4 Try.underlying44 (by kernel_rfl) (by kernel_rfl) (by decide) dec_Op17 (hval' 3 _ v3 rfl rfl) h3
  refine (below_of (BabelDoes_walk A3)).mono fun e W' ⟨he, bel⟩ => ?_
  subst he
  exact ⟨_, rfl, _, _, _, [], _, [], hW', trodAll_mk1 (shut_bool (by kernel_rfl) _), trodAll_below laid_out bel (by kernel_rfl) hA, rfl, bel.frame _, fun h => by cases h⟩
theorem over : Rows.babelDoesRow.holds Try.pinned (OpenSpec.ofChange Rows.babelDoesSpec) :=
  OpenClaim.holds_of_wide 9 Try.f9 rfl rfl rfl rfl rfl rfl rfl ⟨rfl, rfl, rfl, rfl, rfl⟩ rfl rfl rfl rfl rfl (by kernel_rfl) Try.func9 (by kernel_rfl)
    (of_decide_eq_true (by kernel_rfl)) (by unfold Func.isWrapper; first | (rw [if_pos (by decide +kernel)]; kernel_rfl) | (rw [if_neg (by decide +kernel)]; exact ⟨rfl, rfl⟩))
    (fun os started H enc _ => lifted os started H enc)
end Go.Proofs.Ytchbipkoifmmdaa.BabelDoes_row
namespace Go.Proofs.Ytchbipkoifmmdaa
theorem babelDoes_holds : Rows.BabelDoesSaid := BabelDoes_row.over
#print axioms babelDoes_holds
end Go.Proofs.Ytchbipkoifmmdaa
