/- DUAL: two neighbours and one prefix, in words. -/
import Derived.Test.YtpeoholnlokdcaaRows
import Derived.Test.YtpeoholnlokdcaaZ7

set_option linter.unusedSimpArgs false
set_option linter.unusedVariables false

namespace Go.Proofs.Ytpeoholnlokdcaa
open Go
set_option linter.unusedSimpArgs false
set_option linter.unusedVariables false
set_option maxRecDepth 20000

abbrev P0 : PK := (0, 0)
abbrev st2 (l2 l3 : Ln) (y : Kn) (o : List Lt) : DS := ⟨0, 10, [(2, l2), (3, l3)], [(P0, y)], o⟩
abbrev Ln.inc (l : Ln) : Ln := { l with sent := inc32 l.sent }
variable {l2 l3 : Ln} {y : Kn} {o : List Lt}
theorem nbrs2 : nbrs [(2, l2), (3, l3)] = [2, 3] := by simp [nbrs, srtI, insI]
theorem pfx1 : pfx [(P0, y)] = [P0] := by simp [pfx, insP]
theorem get2 : getM [((2 : Int), l2), (3, l3)] 2 = some l2 := by simp [getM_cons]
theorem get3 : getM [((2 : Int), l2), (3, l3)] 3 = some l3 := by simp [getM_cons]
theorem getP : getM [(P0, y)] P0 = some y := by simp [getM_cons]
theorem settle_same {p : PK} {s : DS} (hy : getM s.px p = some y) (h : y.opn ≠ [] ∨ wayS s.lk y = y.told) : settleS s p = s := by unfold settleS; rw [hy]; simp only; rw [if_pos h]
theorem settle_upd {w : Wy} (h0 : y.opn = []) (hw : wayS [(2, l2), (3, l3)] y = w) (h1 : w ≠ y.told) (h2 : ¬ ofV y.told.v < ofV w.v) :
    settleS (st2 l2 l3 y o) P0 = st2 l2.inc l3.inc { y with told := w, least := min y.least (ofV w.v) } (o ++ [⟨2, 1, inc32 l2.sent, 0, P0, w.v, w.tg⟩, ⟨3, 1, inc32 l3.sent, 0, P0, w.v, w.tg⟩]) := by
  unfold settleS
  simp only [getP, hw, nbrs2]
  rw [if_neg (fun q => q.elim (fun q => q h0) h1)]
  have hc : codeS y w = 1 := by unfold codeS; rw [if_neg h2]
  simp [hc, askS, sendS, setK, setM, getM_cons, leastS]
theorem settle_ask {w : Wy} (h0 : y.opn = []) (hw : wayS [(2, l2), (3, l3)] y = w) (h2 : ofV y.told.v < ofV w.v) :
    settleS (st2 l2 l3 y o) P0 = st2 l2.inc l3.inc { y with told := w, opn := [(2, inc32 l2.sent), (3, inc32 l3.sent)] } (o ++ [⟨2, 2, inc32 l2.sent, 0, P0, w.v, w.tg⟩, ⟨3, 2, inc32 l3.sent, 0, P0, w.v, w.tg⟩]) := by
  have h1 : w ≠ y.told := by rintro rfl; omega
  unfold settleS
  simp only [getP, hw, nbrs2]
  rw [if_neg (fun q => q.elim (fun q => q h0) h1)]
  have hc : codeS y w = 2 := by unfold codeS; rw [if_pos h2]
  simp [hc, askS, sendS, setK, setM, getM_cons, leastS, seqS, h0]
theorem settle_shape : ∃ n2 n3 w n q o', settleS (st2 l2 l3 y o) P0 = st2 { l2 with sent := n2 } { l3 with sent := n3 } { y with told := w, least := n, opn := q } o' := by
  by_cases c1 : y.opn ≠ [] ∨ wayS [(2, l2), (3, l3)] y = y.told
  · exact ⟨l2.sent, l3.sent, y.told, y.least, y.opn, o, settle_same getP c1⟩
  · have h0 : y.opn = [] := Decidable.byContradiction fun q => c1 (.inl q)
    by_cases c2 : ofV y.told.v < ofV (wayS [(2, l2), (3, l3)] y).v
    · exact ⟨_, _, _, y.least, _, _, settle_ask h0 rfl c2⟩
    · exact ⟨_, _, _, _, y.opn, _, settle_upd h0 rfl (fun q => c1 (.inr q)) c2⟩

def lt1 (code : Int) (seq ack : Nat) (v : Vec) : Lt := ⟨0, code, seq, ack, P0, v, 0⟩
theorem hasT00 {d : Int} : hasT 0 d = false := by
  unfold hasT
  cases h1 : decide (0 ≤ d) <;> cases h2 : decide (d < 16) <;> simp
theorem may00 : mayB 0 0 = true := by kernel_rfl
/-- The first that is heard, of a neighbour. -/
theorem hear_first {a : Vec} (ha : reachV a = true) (hg : l2.got = 0) : hearS ⟨0, 10, [(2, l2), (3, l3)], [], []⟩ 2 (lt1 1 1 0 a) = settleS (st2 { l2 with got := 1 } l3 { kn0 with rep := [(2, ⟨a, 0, 0⟩)] } []) P0 ∧
    hearErr ⟨0, 10, [(2, l2), (3, l3)], [], []⟩ 2 (lt1 1 1 0 a) = 0 := by
  constructor
  · unfold hearS
    rw [if_pos (by simp [hearOk, get2, lt1, may00, hg])]
    simp [gotS, get2, lt1, repS, repFine, ha, hasT00, addS, setK, setM, getM_nil, getM_cons, replyS, endS, kn0]
  · simp [hearErr, get2, lt1, may00, hg, repErr, hasT00, ha, hasS, addS, getM_nil, setK, setM, getM_cons]
/-- An update, or a reply that closes nothing. -/
theorem hear_upd2 {v : Vec} {code : Int} {seq ack : Nat} (hc1 : 1 ≤ code) (hc3 : code ≤ 3) (hc : code ≠ 2) (hg : l2.got < seq) (hr : reachV v = true) :
    hearS (st2 l2 l3 y []) 2 (lt1 code seq ack v) = settleS (if getM y.opn 2 = some ack ∧ code = 3 then st2 { l2 with got := seq } l3 (closeK { y with rep := setM 2 ⟨v, 0, 0⟩ y.rep } 2) [] else st2 { l2 with got := seq } l3 { y with rep := setM 2 ⟨v, 0, 0⟩ y.rep } []) P0 ∧
    hearErr (st2 l2 l3 y []) 2 (lt1 code seq ack v) = 0 := by
  have n1 : ¬ code < 1 := by omega
  have n3 : ¬ 3 < code := by omega
  have n2 : ¬ seq ≤ l2.got := by omega
  constructor
  · unfold hearS
    rw [if_pos (by simp [hearOk, get2, lt1, may00, hg, hc1, hc3])]
    simp [gotS, get2, lt1, repS, repFine, hr, hasT00, addS, setK, setM, getM_nil, getM_cons, replyS, endS, hc]
  · simp [hearErr, get2, lt1, may00, hg, repErr, hasT00, hr, hasS, addS, getM_nil, setK, setM, getM_cons, n1, n2, n3]
theorem hear_upd3 {v : Vec} {code : Int} {seq ack : Nat} (hc1 : 1 ≤ code) (hc3 : code ≤ 3) (hc : code ≠ 2) (hg : l3.got < seq) :
    hearS (st2 l2 l3 y []) 3 (lt1 code seq ack v) = settleS (if getM y.opn 3 = some ack ∧ code = 3 then st2 l2 { l3 with got := seq } (closeK { y with rep := if reachV v then setM 3 ⟨v, 0, 0⟩ y.rep else delM 3 y.rep } 3) [] else st2 l2 { l3 with got := seq } { y with rep := if reachV v then setM 3 ⟨v, 0, 0⟩ y.rep else delM 3 y.rep } []) P0 ∧
    hearErr (st2 l2 l3 y []) 3 (lt1 code seq ack v) = 0 := by
  have n1 : ¬ code < 1 := by omega
  have n3 : ¬ 3 < code := by omega
  have n2 : ¬ seq ≤ l3.got := by omega
  constructor
  · unfold hearS
    rw [if_pos (by simp [hearOk, get3, lt1, may00, hg, hc1, hc3])]
    cases hr : reachV v
    · simp [gotS, get3, lt1, repS, repFine, hr, hasT00, addS, setK, setM, getM_nil, getM_cons, replyS, endS, hc]
    · simp [gotS, get3, lt1, repS, repFine, hr, hasT00, addS, setK, setM, getM_nil, getM_cons, replyS, endS, hc]
  · cases hr : reachV v <;> simp [hearErr, get3, lt1, may00, hg, repErr, hasT00, hr, hasS, addS, getM_nil, setK, setM, getM_cons, n1, n2, n3]

/-- Two links come. -/
theorem up_first {v : Vec} (hv : mayV v = true) : upX (new18 0 10) 2 v = ⟨0, 10, [(2, ⟨v, 0, 0⟩)], [], []⟩ := by
  simp [upX, upOk, new18, getM_nil, hv, upS, pfx, setM]
  omega
theorem up_err {v : Vec} : upErr (new18 0 10) 2 v = if mayV v then 0 else 1 := by
  simp [upErr, upOk, new18, getM_nil]
theorem up_second {v w : Vec} (hw : mayV w = true) : upX ⟨0, 10, [(2, ⟨v, 0, 0⟩)], [], []⟩ 3 w = ⟨0, 10, [(2, ⟨v, 0, 0⟩), (3, ⟨w, 0, 0⟩)], [], []⟩ := by
  simp [upX, upOk, getM_nil, getM_cons, hw, upS, pfx, setM]
theorem up_err2 {s : DS} {k : Int} {w : Vec} (h : mayV w = false) : upErr s k w = 1 ∧ upX s k w = s := by
  simp [upErr, upX, upOk, h]
theorem up_err3 {v w : Vec} (h : mayV w = true) : upErr ⟨0, 10, [(2, ⟨v, 0, 0⟩)], [], []⟩ 3 w = 0 := by
  simp [upErr, upOk, getM_nil, getM_cons, h]

theorem reach_of {v : Vec} (h : reachV v = true) : ¬ 4294967295 ≤ ofV v := by have := ofV_bounds (v := v); have := this.2.2 h; omega
/-- Of two that may be taken. -/
theorem best_two {a b : Vec} {m : Int} (hr : y.rep = [(2, ⟨a, 0, 0⟩), (3, ⟨b, 0, 0⟩)]) (ho : y.own = none) (h1 : reachV (joinV a l2.v) = true) (h2 : reachV (joinV b l3.v) = true) (ha : ¬ m ≤ ofV a) (hb : ¬ m ≤ ofV b) :
    bestS [(2, l2), (3, l3)] y m = some (if betterV (joinV b l3.v) (joinV a l2.v) then ⟨joinV b l3.v, 0, 3⟩ else ⟨joinV a l2.v, 0, 2⟩) := by
  unfold bestS
  rw [nbrs2]
  simp only [List.foldl_cons, List.foldl_nil]
  have e1 : bstep [(2, l2), (3, l3)] y m y.own 2 = some ⟨joinV a l2.v, 0, 2⟩ := by simp [bstep, get2, hr, getM_cons, ha, takeW, candW, h1, ho]
  rw [e1]
  simp only [bstep, get3, hr, getM_cons, takeW, candW, aheadW, h2]
  simp [hb]
  cases betterV (joinV b l3.v) (joinV a l2.v) <;> simp [h2]
theorem best_one {a : Vec} {m : Int} (hr : y.rep = [(2, ⟨a, 0, 0⟩)]) (ho : y.own = none) (h1 : reachV (joinV a l2.v) = true) (ha : ¬ m ≤ ofV a) : bestS [(2, l2), (3, l3)] y m = some ⟨joinV a l2.v, 0, 2⟩ := by
  unfold bestS
  rw [nbrs2]
  simp only [List.foldl_cons, List.foldl_nil]
  have e1 : bstep [(2, l2), (3, l3)] y m y.own 2 = some ⟨joinV a l2.v, 0, 2⟩ := by simp [bstep, get2, hr, getM_cons, ha, takeW, candW, h1, ho]
  rw [e1]
  simp [bstep, get3, hr, getM_cons, getM_nil]
theorem way_one {a : Vec} (hr : y.rep = [(2, ⟨a, 0, 0⟩)]) (ho : y.own = none) (h1 : reachV (joinV a l2.v) = true) (ha : reachV a = true) : wayS [(2, l2), (3, l3)] y = ⟨joinV a l2.v, 0, 0⟩ := by
  unfold wayS
  rw [best_one hr ho h1 (reach_of ha)]; rfl
end Go.Proofs.Ytpeoholnlokdcaa

/- DualBest: of two neighbours that tell one prefix, both less than the least, that way is taken that is better in all. -/
namespace Go.Proofs.Ytpeoholnlokdcaa
open Go
set_option linter.unusedSimpArgs false
set_option linter.unusedVariables false
set_option maxRecDepth 20000

theorem lt1_eq {code : Int} {seq ack : Nat} {v : Vec} : (lt1 code seq ack v).val = .agg #[.int .i64 0, .int .i64 code, .int .u32 (seq : Nat), .int .u32 (ack : Nat), .int .u32 0, .int .i64 0, .int .i64 v.b, .int .i64 v.d, .int .i64 v.h, .int .u16 0] := rfl

set_option maxHeartbeats 8000000 in
theorem DualBest_walk {h : Hp} {a b one two : Vec} : Ok Try.prog F_octroilaw18_DualBest #[a.v, b.v, one.v, two.v] h (fun v g => v = .bool true ∧ Le h g) := by
  refine octroilaw18_DualBest_ok (by simp) ?_
  unfold octroilaw18_DualBest_D
  simp (disch := omega) [octroilaw18_DualBest_r0]
  intro b4 hb4 b5 hb5 b6 hb6 b7 hb7
  obtain ⟨n76, h76⟩ := upd_none hb7
  obtain ⟨n75, h75⟩ := upd_none h76
  obtain ⟨n74, h74⟩ := upd_none h75
  obtain ⟨n65, h65⟩ := upd_none hb6
  obtain ⟨n64, h64⟩ := upd_none h65
  obtain ⟨n54, h54⟩ := upd_none hb5
  show octroilaw18_DualBest_r1 _ ((((h.upd b4 (.cells a.cells 23)).upd b5 (.cells b.cells 23)).upd b6 (.cells one.cells 23)).upd b7 (.cells two.cells 23)) _
  have l7 : Le h ((((h.upd b4 (.cells a.cells 23)).upd b5 (.cells b.cells 23)).upd b6 (.cells one.cells 23)).upd b7 (.cells two.cells 23)) := (((Le.new hb4).trans (Le.new hb5)).trans (Le.new hb6)).trans (Le.new hb7)
  have F4 : ((((h.upd b4 (.cells a.cells 23)).upd b5 (.cells b.cells 23)).upd b6 (.cells one.cells 23)).upd b7 (.cells two.cells 23)) b4 = some (.cells a.cells 23 (0, 0)) := by rw [upd_ne (Ne.symm n74), upd_ne (Ne.symm n64), upd_ne (Ne.symm n54), upd_same]
  have F5 : ((((h.upd b4 (.cells a.cells 23)).upd b5 (.cells b.cells 23)).upd b6 (.cells one.cells 23)).upd b7 (.cells two.cells 23)) b5 = some (.cells b.cells 23 (0, 0)) := by rw [upd_ne (Ne.symm n75), upd_ne (Ne.symm n65), upd_same]
  have F6 : ((((h.upd b4 (.cells a.cells 23)).upd b5 (.cells b.cells 23)).upd b6 (.cells one.cells 23)).upd b7 (.cells two.cells 23)) b6 = some (.cells one.cells 23 (0, 0)) := by rw [upd_ne (Ne.symm n76), upd_same]
  have F7 : ((((h.upd b4 (.cells a.cells 23)).upd b5 (.cells b.cells 23)).upd b6 (.cells one.cells 23)).upd b7 (.cells two.cells 23)) b7 = some (.cells two.cells 23 (0, 0)) := upd_same
  generalize (((h.upd b4 (.cells a.cells 23)).upd b5 (.cells b.cells 23)).upd b6 (.cells one.cells 23)).upd b7 (.cells two.cells 23) = h0 at *
  simp (disch := omega) [octroilaw18_DualBest_r1]
  refine awake18 (fun h1 l1 => ?_)
  have F4 := l1 _ _ F4
  have F5 := l1 _ _ F5
  have F6 := l1 _ _ F6
  have F7 := l1 _ _ F7
  have L1 := l7.trans l1
  simp (disch := omega) [octroilaw18_DualBest_r2]
  refine dnewM (fun L2 x h2 l2 n2 A2 => ?_)
  replace A2 : DualAt h2 L2 x (new18 0 10) := A2
  simp (disch := omega) [octroilaw18_DualBest_r3, l2 _ _ F4]
  refine reachRefVM (v := a) (fun h3 l3 => ?_)
  have l13 := l2.trans l3
  simp (disch := omega) [octroilaw18_DualBest_r4, l13 _ _ F5]
  refine reachRefVM (v := b) (fun h4 l4 => ?_)
  have l14 := l13.trans l4
  have bye : ∀ g, Le h1 g → drp (fun v g => v = .bool true ∧ Le h g) (.bool true) g := fun g l => .to _ (.refl _) ⟨rfl, L1.trans l⟩
  cases ca : reachV a with
  | false =>
    simp (disch := omega) [octroilaw18_DualBest_r5, octroilaw18_DualBest_r6]
    exact bye _ l14
  | true =>
  cases cb : reachV b with
  | false =>
    simp (disch := omega) [octroilaw18_DualBest_r5, octroilaw18_DualBest_r6]
    exact bye _ l14
  | true =>
  have A4 := (A2.le' l3).le' l4
  simp (disch := omega) [octroilaw18_DualBest_r5]
  simp (disch := omega) [octroilaw18_DualBest_r7, l14 _ _ F6]
  refine dupM (v := one) A4 rfl (by simp [new18]) (by simp [new18]) (fun w5 h5 L5 T5 => ?_)
  obtain ⟨l15, n5⟩ := T5.leN l14 n2
  have A5 := T5.at_
  cases c1 : mayV one with
  | false =>
    obtain ⟨e1, e2⟩ := up_err2 (s := new18 0 10) (k := 2) c1
    rw [e2] at A5
    rw [e1]
    replace A5 : DualAt h5 L5 x (new18 0 10) := A5
    simp (disch := omega) [octroilaw18_DualBest_r8, l15 _ _ F7]
    refine dupM (v := two) A5 rfl (by simp [new18]) (by simp [new18]) (fun w6 h6 L6 T6 => ?_)
    obtain ⟨l16, n6⟩ := T6.leN l15 n5
    simp (disch := omega) [octroilaw18_DualBest_r9]
    simp (disch := omega) [octroilaw18_DualBest_r10, l16 _ _ F6]
    refine mayVM (v := one) (fun h7 l17 => ?_)
    rw [c1]
    simp (disch := omega)
    exact bye _ (l16.trans l17)
  | true =>
  have e1 : upErr (new18 0 10) 2 one = 0 := by rw [up_err, c1]; rfl
  rw [up_first c1] at A5
  rw [e1]
  replace A5 : DualAt h5 L5 x ⟨0, 10, [(2, ⟨one, 0, 0⟩)], [], []⟩ := A5
  simp (disch := omega) [octroilaw18_DualBest_r8, l15 _ _ F7]
  refine dupM (v := two) A5 rfl (by simp) (by simp) (fun w6 h6 L6 T6 => ?_)
  obtain ⟨l16, n6⟩ := T6.leN l15 n5
  have A6 := T6.at_
  cases c2 : mayV two with
  | false =>
    obtain ⟨e3, e4⟩ := up_err2 (s := ⟨0, 10, [(2, ⟨one, 0, 0⟩)], [], []⟩) (k := 3) c2
    rw [e3]
    simp (disch := omega) [octroilaw18_DualBest_r9]
    simp (disch := omega) [octroilaw18_DualBest_r10, l16 _ _ F6]
    refine mayVM (v := one) (fun h7 l17 => ?_)
    rw [c1]
    simp (disch := omega) [l17 _ _ (l16 _ _ F7)]
    refine mayVM (v := two) (fun h8 l18 => ?_)
    rw [c2]
    simp (disch := omega)
    exact bye _ ((l16.trans l17).trans l18)
  | true =>
  rw [up_second c2] at A6
  rw [up_err3 c2]
  replace A6 : DualAt h6 L6 x ⟨0, 10, [(2, ⟨one, 0, 0⟩), (3, ⟨two, 0, 0⟩)], [], []⟩ := A6
  simp (disch := omega) [octroilaw18_DualBest_r9]
  simp (disch := omega) [octroilaw18_DualBest_r11, l16 _ _ F4]
  refine dhearM (l := lt1 1 1 0 a) A6 rfl (by simp) (by simp [lt1]) (by simp [lt1]) (fun w7 h7 L7 T7 => ?_)
  obtain ⟨l17, n7⟩ := T7.leN l16 n6
  have A7 := T7.at_
  obtain ⟨e7, e8⟩ := hear_first (l2 := ⟨one, 0, 0⟩) (l3 := ⟨two, 0, 0⟩) ca rfl
  obtain ⟨n2', n3', w', m', q', o', e9⟩ := settle_shape (l2 := ⟨one, 0, 1⟩) (l3 := ⟨two, 0, 0⟩) (y := { kn0 with rep := [(2, ⟨a, 0, 0⟩)] }) (o := [])
  rw [e7, e9] at A7
  replace A7 : DualAt h7 L7 x (st2 ⟨one, n2', 1⟩ ⟨two, n3', 0⟩ ⟨none, [(2, ⟨a, 0, 0⟩)], w', m', q'⟩ []) := A7
  rw [e8]
  simp (disch := omega) [octroilaw18_DualBest_r12]
  refine dleastM (p := P0) A7 (fun h8 l8 => ?_)
  have l18 := l17.trans l8
  simp (disch := omega) [octroilaw18_DualBest_r13, l18 _ _ F5]
  refine dhearM (l := lt1 1 1 0 b) (A7.le' l8) rfl (by simp) (by simp [lt1]) (by simp [lt1]) (fun w9 h9 L9 T9 => ?_)
  obtain ⟨l19, n9⟩ := T9.leN l18 n7
  have A9 := T9.at_
  obtain ⟨e10, e11⟩ := hear_upd3 (l2 := ⟨one, n2', 1⟩) (l3 := ⟨two, n3', 0⟩) (y := ⟨none, [(2, ⟨a, 0, 0⟩)], w', m', q'⟩) (v := b) (code := 1) (seq := 1) (ack := 0) (by omega) (by omega) (by omega) (by simp)
  rw [if_neg (by simp), cb, if_pos rfl] at e10
  obtain ⟨n2'', n3'', w'', m'', q'', o'', e12⟩ := settle_shape (l2 := ⟨one, n2', 1⟩) (l3 := ⟨two, n3', 1⟩) (y := ⟨none, [(2, ⟨a, 0, 0⟩), (3, ⟨b, 0, 0⟩)], w', m', q'⟩) (o := [])
  rw [show setM (3 : Int) (⟨b, 0, 0⟩ : Wy) [(2, ⟨a, 0, 0⟩)] = [(2, ⟨a, 0, 0⟩), (3, ⟨b, 0, 0⟩)] by simp [setM]] at e10
  rw [e10] at A9
  rw [show settleS (st2 ⟨one, n2', 1⟩ { (⟨two, n3', 0⟩ : Ln) with got := 1 } { (⟨none, [(2, ⟨a, 0, 0⟩)], w', m', q'⟩ : Kn) with rep := [(2, ⟨a, 0, 0⟩), (3, ⟨b, 0, 0⟩)] } []) P0 = _ from e12] at A9
  replace A9 : DualAt h9 L9 x (st2 ⟨one, n2'', 1⟩ ⟨two, n3'', 1⟩ ⟨none, [(2, ⟨a, 0, 0⟩), (3, ⟨b, 0, 0⟩)], w'', m'', q''⟩ []) := A9
  rw [e11]
  simp (disch := omega) [octroilaw18_DualBest_r14]
  refine dleastM (p := P0) A9 (fun h10 l10 => ?_)
  have A10 := A9.le' l10
  have l20 := l19.trans l10
  have eL : leastOf (st2 ⟨one, n2'', 1⟩ ⟨two, n3'', 1⟩ ⟨none, [(2, ⟨a, 0, 0⟩), (3, ⟨b, 0, 0⟩)], w'', m'', q''⟩ []) P0 = m'' := by simp [leastOf, getM_cons]
  rw [eL]
  generalize leastOf (st2 ⟨one, n2', 1⟩ ⟨two, n3', 0⟩ ⟨none, [(2, ⟨a, 0, 0⟩)], w', m', q'⟩ []) P0 = nn
  generalize quietOf (st2 ⟨one, n2'', 1⟩ ⟨two, n3'', 1⟩ ⟨none, [(2, ⟨a, 0, 0⟩), (3, ⟨b, 0, 0⟩)], w'', m'', q''⟩ []) P0 = qq
  simp (disch := omega) [octroilaw18_DualBest_r15, l20 _ _ F4, l20 _ _ F6]
  refine joinM (v := a) (w := one) (fun h11 l11 => ?_)
  simp (disch := omega)
  intro b21 hb21
  have l12 := l20.trans l11
  have l22 := l12.trans (Le.new (o := .cells (joinV a one).cells 23) hb21)
  have F21 : (h11.upd b21 (.cells (joinV a one).cells 23)) b21 = some (.cells (joinV a one).cells 23 (0, 0)) := upd_same
  have A12 := (A10.le' l11).le' (Le.new (o := .cells (joinV a one).cells 23) hb21)
  simp (disch := omega)
  show octroilaw18_DualBest_r16 _ (h11.upd b21 (.cells (joinV a one).cells 23)) _
  generalize h11.upd b21 (.cells (joinV a one).cells 23) = h12 at *
  simp (disch := omega) [octroilaw18_DualBest_r16, l22 _ _ F5, l22 _ _ F7]
  refine joinM (v := b) (w := two) (fun h13 l13' => ?_)
  simp (disch := omega)
  intro b22 hb22
  have l23 := (l22.trans l13').trans (Le.new (o := .cells (joinV b two).cells 23) hb22)
  have F22 : (h13.upd b22 (.cells (joinV b two).cells 23)) b22 = some (.cells (joinV b two).cells 23 (0, 0)) := upd_same
  have F21 := Le.new (o := .cells (joinV b two).cells 23) hb22 _ _ (l13' _ _ F21)
  have A13 := (A12.le' l13').le' (Le.new (o := .cells (joinV b two).cells 23) hb22)
  simp (disch := omega)
  show octroilaw18_DualBest_r17 _ (h13.upd b22 (.cells (joinV b two).cells 23)) _
  generalize h13.upd b22 (.cells (joinV b two).cells 23) = h14 at *
  have F4 := l23 _ _ F4
  have F5 := l23 _ _ F5
  simp (disch := omega) [octroilaw18_DualBest_r17, F21]
  refine reachVM (v := joinV a one) (fun h15 l25 => ?_)
  cases d1 : reachV (joinV a one) with
  | false =>
    simp (disch := omega) [octroilaw18_DualBest_r18]
    exact bye _ (l23.trans l25)
  | true =>
  simp (disch := omega) [l25 _ _ F22]
  refine reachVM (v := joinV b two) (fun h16 l26 => ?_)
  have l36 := l25.trans l26
  cases d2 : reachV (joinV b two) with
  | false =>
    simp (disch := omega) [octroilaw18_DualBest_r18]
    exact bye _ (l23.trans l36)
  | true =>
  simp (disch := omega) [l36 _ _ F4]
  refine ofVM (v := a) (fun h17 l27 => ?_)
  have l37 := l36.trans l27
  by_cases d3 : m'' ≤ ofV a
  · simp (disch := omega) [octroilaw18_DualBest_r18, d3]
    exact bye _ (l23.trans l37)
  simp (disch := omega) [l37 _ _ F5, d3]
  refine ofVM (v := b) (fun h18 l28 => ?_)
  have l38 := l37.trans l28
  by_cases d4 : m'' ≤ ofV b
  · simp (disch := omega) [octroilaw18_DualBest_r18, d4]
    exact bye _ (l23.trans l38)
  cases qq with
  | false =>
    simp (disch := omega) [octroilaw18_DualBest_r18, d4]
    exact bye _ (l23.trans l38)
  | true =>
  by_cases d5 : nn < m''
  · simp (disch := omega) [octroilaw18_DualBest_r18, d4, d5]
    exact bye _ (l23.trans l38)
  simp (disch := omega) [d4, d5]
  simp (disch := omega) [octroilaw18_DualBest_r19]
  have A18 := A13.le' l38
  refine dallM A18 (by simp) (by simp) (fun w19 h19 l29 S19 n19 => ?_)
  have l39 := l38.trans l29
  have F21 := l39 _ _ F21
  have F22 := l39 _ _ F22
  have hB := best_two (l2 := ⟨one, n2'', 1⟩) (l3 := ⟨two, n3'', 1⟩) (y := ⟨none, [(2, ⟨a, 0, 0⟩), (3, ⟨b, 0, 0⟩)], w'', m'', q''⟩) (a := a) (b := b) (m := m'') rfl rfl d1 d2 d3 d4
  have hR : allR (st2 ⟨one, n2'', 1⟩ ⟨two, n3'', 1⟩ ⟨none, [(2, ⟨a, 0, 0⟩), (3, ⟨b, 0, 0⟩)], w'', m'', q''⟩ []) (pfx (st2 ⟨one, n2'', 1⟩ ⟨two, n3'', 1⟩ ⟨none, [(2, ⟨a, 0, 0⟩), (3, ⟨b, 0, 0⟩)], w'', m'', q''⟩ []).px) =
      [routeOf (st2 ⟨one, n2'', 1⟩ ⟨two, n3'', 1⟩ ⟨none, [(2, ⟨a, 0, 0⟩), (3, ⟨b, 0, 0⟩)], w'', m'', q''⟩ []) P0 (if betterV (joinV b two) (joinV a one) then ⟨joinV b two, 0, 3⟩ else ⟨joinV a one, 0, 2⟩)] := by
    rw [pfx1]
    simp only [allR, List.flatMap_cons, List.flatMap_nil, List.append_nil, allOne, getP, hB]
  rw [hR] at S19
  obtain ⟨bb, cap, c, ew, hbb, u0, u1, u2, u3, u4, u5, u6⟩ := rt_at S19 (i := 0) rfl
  simp (disch := omega) [octroilaw18_DualBest_r20, ew]
  simp (disch := omega) [octroilaw18_DualBest_r22, F21, F22]
  refine betterVM (a := joinV b two) (b := joinV a one) (fun h20 l30 => ?_)
  have F21 := l30 _ _ F21
  have F22 := l30 _ _ F22
  have hbb := l30 _ _ hbb
  have lE := (l23.trans l39).trans l30
  cases d6 : betterV (joinV b two) (joinV a one) with
  | true =>
    rw [d6, if_pos rfl] at u4 u5
    simp only [routeOf, Nat.zero_mul, Nat.zero_add] at u4 u5
    simp (disch := omega) [octroilaw18_DualBest_r23, ew, hbb, u4, u5, F22]
    refine ofVM (v := joinV b two) (fun h21 l31 => ?_)
    simp (disch := omega) [l31 _ _ hbb, u4]
    exact bye _ (lE.trans l31)
  | false =>
    rw [d6, if_neg (by simp)] at u4 u5
    simp only [routeOf, Nat.zero_mul, Nat.zero_add] at u4 u5
    simp (disch := omega) [octroilaw18_DualBest_r24, ew, hbb, u4, u5, F21]
    refine ofVM (v := joinV a one) (fun h21 l31 => ?_)
    simp (disch := omega) [l31 _ _ hbb, u4]
    exact bye _ (lE.trans l31)
end Go.Proofs.Ytpeoholnlokdcaa

/- DualAsks: when a way gets worse all neighbours are asked, and the least stays till all have answered. -/
namespace Go.Proofs.Ytpeoholnlokdcaa
open Go
set_option linter.unusedSimpArgs false
set_option linter.unusedVariables false
set_option maxRecDepth 20000

def asL : Vec := ⟨10000, 10, 1⟩
def asLn (s g : Nat) : Ln := ⟨asL, s, g⟩
section
variable {a b : Vec} {u : Int}
theorem asks_join (ha : reachV a = true) (hd : a.d ≤ 10000000) (hh : a.h ≤ 90) : reachV (joinV a asL) = true ∧ (joinV a asL).b = min a.b 10000 ∧ (joinV a asL).d = a.d + 10 ∧ (joinV a asL).h = a.h + 1 := by
  obtain ⟨m, h1, h2⟩ := reachV_iff.1 ha
  obtain ⟨m1, m2, m3, m4, m5, m6⟩ := mayV_iff.1 m
  have e1 : (joinV a asL).b = min a.b 10000 := rfl
  have e2 : (joinV a asL).d = a.d + 10 := by simp only [joinV, asL, withinI]; omega
  have e3 : (joinV a asL).h = a.h + 1 := by simp only [joinV, asL, withinI]; omega
  refine ⟨reachV_iff.2 ⟨mayV_iff.2 ⟨?_, ?_, ?_, ?_, ?_, ?_⟩, ?_, ?_⟩, e1, e2, e3⟩ <;> omega
theorem asks_le (ha : reachV a = true) (hb : reachV b = true) (e1 : b.b = a.b) (e2 : b.h = a.h) (e3 : a.d < b.d) (h2 : b.d ≤ 10000000) (hh : a.h ≤ 90) : ofV (joinV a asL) ≤ ofV (joinV b asL) := by
  obtain ⟨r1, a1, a2, a3⟩ := asks_join ha (by omega) hh
  obtain ⟨r2, b1, b2, b3⟩ := asks_join hb h2 (by omega)
  unfold ofV
  rw [if_pos r1, if_pos r2, a1, a2, b1, b2, e1]
  omega

def asY1 (a : Vec) : Kn := ⟨none, [(2, ⟨a, 0, 0⟩)], ⟨joinV a asL, 0, 0⟩, ofV (joinV a asL), []⟩
def as1 (a : Vec) : DS := st2 (asLn 1 1) (asLn 1 0) (asY1 a) []
def asY2 (a b : Vec) : Kn := ⟨none, [(2, ⟨b, 0, 0⟩)], ⟨joinV b asL, 0, 0⟩, ofV (joinV a asL), [(2, 2), (3, 2)]⟩
def as2 (a b : Vec) : DS := st2 (asLn 2 2) (asLn 2 0) (asY2 a b) []
def asY3 (a b : Vec) : Kn := ⟨none, [(2, ⟨b, 0, 0⟩)], ⟨joinV b asL, 0, 0⟩, ofV (joinV a asL), [(2, 2)]⟩
def as3 (a b : Vec) : DS := st2 (asLn 2 2) (asLn 2 1) (asY3 a b) []
def asY4 (b : Vec) : Kn := ⟨none, [(2, ⟨b, 0, 0⟩)], ⟨joinV b asL, 0, 0⟩, ofV (joinV b asL), []⟩
def as4 (b : Vec) : DS := st2 (asLn 2 3) (asLn 2 1) (asY4 b) []
def asO2 (b : Vec) : List Lt := [⟨2, 2, 2, 0, P0, joinV b asL, 0⟩, ⟨3, 2, 2, 0, P0, joinV b asL, 0⟩]

theorem zero_of : ofV Wy.zero.v = 4294967295 := by kernel_rfl
theorem ne_zero {v : Vec} {t : Nat} {n : Int} (h : reachV v = true) : (⟨v, t, n⟩ : Wy) ≠ Wy.zero := by
  intro e
  have : v = ⟨0, 0, 0⟩ := congrArg Wy.v e
  subst this
  exact absurd h (by decide)
/-- The first update. -/
theorem asks_1 (ha : reachV a = true) (hd : a.d ≤ 10000000) (hh : a.h ≤ 90) : outS (hearS ⟨0, 10, [(2, asLn 0 0), (3, asLn 0 0)], [], []⟩ 2 (lt1 1 1 0 a)) = as1 a := by
  obtain ⟨r1, _⟩ := asks_join ha hd hh
  have bd := ofV_bounds (v := joinV a asL)
  rw [(hear_first (l2 := asLn 0 0) (l3 := asLn 0 0) ha rfl).1]
  have hw : wayS [((2 : Int), ({ (asLn 0 0) with got := 1 } : Ln)), (3, asLn 0 0)] ({ kn0 with rep := [(2, ⟨a, 0, 0⟩)] } : Kn) = ⟨joinV a asL, 0, 0⟩ := way_one rfl rfl r1 ha
  rw [settle_upd (y := { kn0 with rep := [(2, ⟨a, 0, 0⟩)] }) rfl hw (ne_zero r1) (by show ¬ ofV Wy.zero.v < ofV (joinV a asL); rw [zero_of]; omega)]
  unfold outS as1 asY1
  have hm : min (4294967295 : Int) (ofV (joinV a asL)) = ofV (joinV a asL) := by omega
  simp [kn0, hm, Ln.inc, asLn, inc32]
/-- The worse one, of the same metric, is no matter; else all are asked. -/
theorem asks_2 (ha : reachV a = true) (hb : reachV b = true) (hd : b.d ≤ 10000000) (hh : b.h ≤ 90) (hlt : ofV (joinV a asL) < ofV (joinV b asL)) :
    hearS (as1 a) 2 (lt1 1 2 0 b) = { as2 a b with out := asO2 b } := by
  obtain ⟨r1, _⟩ := asks_join hb hd hh
  unfold as1
  rw [(hear_upd2 (l2 := asLn 1 1) (l3 := asLn 1 0) (y := asY1 a) (v := b) (code := 1) (seq := 2) (ack := 0) (by omega) (by omega) (by omega) (by simp [asLn]) hb).1, if_neg (by simp)]
  have hw : wayS [((2 : Int), ({ (asLn 1 1) with got := 2 } : Ln)), (3, asLn 1 0)] ({ asY1 a with rep := setM 2 ⟨b, 0, 0⟩ (asY1 a).rep } : Kn) = ⟨joinV b asL, 0, 0⟩ := way_one (by simp [asY1, setM]) rfl r1 hb
  rw [settle_ask (y := { asY1 a with rep := setM 2 ⟨b, 0, 0⟩ (asY1 a).rep }) rfl hw hlt]
  simp [as2, asY2, asY1, asO2, asLn, Ln.inc, inc32, setM]
theorem asks_2e (hb : reachV b = true) : hearErr (as1 a) 2 (lt1 1 2 0 b) = 0 := (hear_upd2 (l2 := asLn 1 1) (l3 := asLn 1 0) (y := asY1 a) (v := b) (code := 1) (seq := 2) (ack := 0) (by omega) (by omega) (by omega) (by simp [asLn]) hb).2
/-- The first reply. -/
theorem asks_3 : outS (hearS (as2 a b) 3 (lt1 3 1 2 ⟨0, 0, 0⟩)) = as3 a b := by
  unfold as2
  rw [(hear_upd3 (l2 := asLn 2 2) (l3 := asLn 2 0) (y := asY2 a b) (v := ⟨0, 0, 0⟩) (code := 3) (seq := 1) (ack := 2) (by omega) (by omega) (by omega) (by simp [asLn])).1, if_pos (by simp [asY2, getM_cons])]
  have hr : reachV ⟨0, 0, 0⟩ = false := by decide
  rw [hr]
  have hc : closeK { asY2 a b with rep := if false = true then setM 3 ⟨⟨0, 0, 0⟩, 0, 0⟩ (asY2 a b).rep else delM 3 (asY2 a b).rep } 3 = asY3 a b := by
    simp [closeK, asY2, asY3, getM_cons, delM]
  rw [hc, settle_same (y := asY3 a b) getP (.inl (by simp [asY3]))]
  simp [outS, as3, asLn]
/-- The second one. -/
theorem asks_4 (hb : reachV b = true) (hd : b.d ≤ 10000000) (hh : b.h ≤ 90) : outS (hearS (as3 a b) 2 (lt1 3 3 2 b)) = as4 b := by
  obtain ⟨r1, _⟩ := asks_join hb hd hh
  unfold as3
  rw [(hear_upd2 (l2 := asLn 2 2) (l3 := asLn 2 1) (y := asY3 a b) (v := b) (code := 3) (seq := 3) (ack := 2) (by omega) (by omega) (by omega) (by simp [asLn]) hb).1, if_pos (by simp [asY3, getM_cons])]
  have hc : closeK { asY3 a b with rep := setM 2 ⟨b, 0, 0⟩ (asY3 a b).rep } 2 = asY4 b := by
    simp [closeK, asY3, asY4, getM_cons, delM, setM]
  rw [hc, settle_same (y := asY4 b) getP (.inr (way_one rfl rfl r1 hb))]
  simp [outS, as4, asLn]
end
end Go.Proofs.Ytpeoholnlokdcaa

/- DualAsks: the walk. -/
namespace Go.Proofs.Ytpeoholnlokdcaa
open Go
set_option linter.unusedSimpArgs false
set_option linter.unusedVariables false
set_option maxRecDepth 20000

theorem up_first' : upX (new18 0 10) 2 asL = ⟨0, 10, [(2, asLn 0 0)], [], []⟩ := up_first (by decide)
theorem up_second' : upX ⟨0, 10, [(2, asLn 0 0)], [], []⟩ 3 asL = ⟨0, 10, [(2, asLn 0 0), (3, asLn 0 0)], [], []⟩ := up_second (by decide)

set_option maxHeartbeats 8000000 in
theorem DualAsks_walk {h : Hp} {a : Vec} {n : Int} : Ok Try.prog F_octroilaw18_DualAsks #[a.v, .int .i64 n] h (fun v g => v = .bool true ∧ Le h g) := by
  refine octroilaw18_DualAsks_ok (by simp) ?_
  unfold octroilaw18_DualAsks_D
  simp (disch := omega) [octroilaw18_DualAsks_r0]
  intro b2 hb2
  have l0 : Le h (h.upd b2 (.cells a.cells 23)) := .new hb2
  have F2 : (h.upd b2 (.cells a.cells 23)) b2 = some (.cells a.cells 23 (0, 0)) := upd_same
  show octroilaw18_DualAsks_r1 _ (h.upd b2 (.cells a.cells 23)) _
  generalize h.upd b2 (.cells a.cells 23) = h0 at *
  simp (disch := omega) [octroilaw18_DualAsks_r1]
  refine awake18 (fun h1 l1 => ?_)
  have F2 := l1 _ _ F2
  have F2h := F2
  have L1 := l0.trans l1
  simp (disch := omega) [octroilaw18_DualAsks_r2]
  refine dnewM (fun L2 x h2 l2 n2 A2 => ?_)
  replace A2 : DualAt h2 L2 x (new18 0 10) := A2
  simp (disch := omega) [octroilaw18_DualAsks_r3, l2 _ _ F2]
  intro b7 hb7
  have n27 := ne_new (l2 _ _ F2) hb7
  have o7 := A2.out_ hb7
  simp (disch := omega) [octroilaw18_DualAsks_r4, l2 _ _ F2, n27]
  generalize hbd : IntKind.i64.wrap (a.d + n) = bd
  show octroilaw18_DualAsks_r5 _ (h2.upd b7 (.cells (⟨a.b, bd, a.h⟩ : Vec).cells 23 (0, 0))) _
  have l7 := Le.new (o := .cells (⟨a.b, bd, a.h⟩ : Vec).cells 23 (0, 0)) hb7
  have F7 : (h2.upd b7 (.cells (⟨a.b, bd, a.h⟩ : Vec).cells 23 (0, 0))) b7 = some (.cells (⟨a.b, bd, a.h⟩ : Vec).cells 23 (0, 0)) := upd_same
  have F2 := l7 _ _ (l2 _ _ F2)
  have A3 := A2.le' l7
  have l3 := L1.trans (l2.trans l7)
  generalize h2.upd b7 (.cells (⟨a.b, bd, a.h⟩ : Vec).cells 23 (0, 0)) = h3 at *
  have n0 : ∀ r y, L2 r = some y → h y = none := fun r y e => none_of_le L1 (n2 r y e)
  have bye : ∀ g L', DF h3 L2 g L' → drp (fun v g => v = .bool true ∧ Le h g) (.bool true) g := fun g L' D => .to _ (.refl _) ⟨rfl, fun y o e => D.keep y o (l3 _ _ e) (fun r q => by rw [n0 r y q] at e; cases e)⟩
  have byeL : ∀ g, Le h3 g → drp (fun v g => v = .bool true ∧ Le h g) (.bool true) g := fun g l => bye g L2 (.of_le l)
  clear l7
  simp (disch := omega) [octroilaw18_DualAsks_r5, F2]
  refine reachRefVM (v := a) (fun h4 l4 => ?_)
  simp (disch := omega) [octroilaw18_DualAsks_r6, l4 _ _ F7]
  refine reachRefVM (v := ⟨a.b, bd, a.h⟩) (fun h5 l5 => ?_)
  have l6 := l4.trans l5
  cases ca : reachV a with
  | false =>
    simp (disch := omega) [octroilaw18_DualAsks_r7, octroilaw18_DualAsks_r8]
    exact byeL _ l6
  | true =>
  cases cb : reachV ⟨a.b, bd, a.h⟩ with
  | false =>
    simp (disch := omega) [octroilaw18_DualAsks_r7, octroilaw18_DualAsks_r8]
    exact byeL _ l6
  | true =>
  have F25 := l6 _ _ F2
  have F75 := l6 _ _ F7
  by_cases c1 : n < 1
  · simp (disch := omega) [octroilaw18_DualAsks_r7, octroilaw18_DualAsks_r8, c1]
    exact byeL _ l6
  by_cases c2 : 1000000 < n
  · simp (disch := omega) [octroilaw18_DualAsks_r7, octroilaw18_DualAsks_r8, c1, c2]
    exact byeL _ l6
  by_cases c3 : 10000000 < bd
  · simp (disch := omega) [octroilaw18_DualAsks_r7, octroilaw18_DualAsks_r8, c1, c2, c3, F75]
    exact byeL _ l6
  by_cases c4 : 90 < a.h
  · simp (disch := omega) [octroilaw18_DualAsks_r7, octroilaw18_DualAsks_r8, c1, c2, c3, c4, F75, F25]
    exact byeL _ l6
  simp (disch := omega) [octroilaw18_DualAsks_r7, c1, c2, c3, c4, F75, F25]
  have hbd' : bd = a.d + n := by
    obtain ⟨m, _⟩ := reachV_iff.1 ca
    obtain ⟨_, _, m3, m4, _, _⟩ := mayV_iff.1 m
    rw [← hbd, wrap_i64 (by omega) (by omega)]
  have hJ := asks_le (a := a) (b := ⟨a.b, bd, a.h⟩) ca cb rfl rfl (by show a.d < bd; omega) (by show bd ≤ 10000000; omega) (by omega)
  have hd1 : a.d ≤ 10000000 := by omega
  have hd2 : (⟨a.b, bd, a.h⟩ : Vec).d ≤ 10000000 := by show bd ≤ 10000000; omega
  have hh1 : a.h ≤ 90 := by omega
  have hbh : (⟨a.b, bd, a.h⟩ : Vec).h = a.h := rfl
  generalize hb' : (⟨a.b, bd, a.h⟩ : Vec) = b at *
  clear c1 c2 c3 c4 hbd hbd' hb'
  simp (disch := omega) [octroilaw18_DualAsks_r9]
  intro b10 hb10
  have l10 := l6.trans (Le.new (o := .cells asL.cells 23) hb10)
  have F10 : (h5.upd b10 (.cells asL.cells 23)) b10 = some (.cells asL.cells 23 (0, 0)) := upd_same
  simp (disch := omega)
  show octroilaw18_DualAsks_r10 _ (h5.upd b10 (.cells asL.cells 23)) _
  have F2 := l10 _ _ F2
  have F7 := l10 _ _ F7
  have A5 := A3.le' l10
  have o2 : ∀ r, L2 r ≠ some b2 := fun r e => by have := n2 r b2 e; rw [F2h] at this; cases this
  have o10 : ∀ r, L2 r ≠ some b10 := (A3.le' l6).out_ hb10
  generalize h5.upd b10 (.cells asL.cells 23) = h6 at *
  have D6 : DF h3 L2 h6 L2 := .of_le l10
  clear F25 F75 l6 l5 l4 byeL
  simp (disch := omega) [octroilaw18_DualAsks_r10, F10]
  refine dupM (v := asL) A5 rfl (by simp [new18]) (by simp [new18]) (fun w7 h7 L7 T7 => ?_)
  rw [up_first'] at T7
  have A7 : DualAt h7 L7 x ⟨0, 10, [(2, asLn 0 0)], [], []⟩ := T7.at_
  have D7 := T7.fr
  simp (disch := omega) [octroilaw18_DualAsks_r11, D7.keep _ _ F10 o10]
  refine dupM (v := asL) A7 rfl (by simp) (by simp) (fun w8 h8 L8 T8 => ?_)
  rw [up_second'] at T8
  have A8 : DualAt h8 L8 x ⟨0, 10, [(2, asLn 0 0), (3, asLn 0 0)], [], []⟩ := T8.at_
  have D8 := D7.trans T8.fr
  simp (disch := omega) [octroilaw18_DualAsks_r12, D8.keep _ _ F2 o2]
  refine dhearM (l := lt1 1 1 0 a) A8 rfl (by simp) (by simp [lt1]) (by simp [lt1]) (fun w9 h9 L9 T9 => ?_)
  rw [asks_1 ca hd1 hh1] at T9
  have A9 := T9.at_
  have D9 := D8.trans T9.fr
  simp (disch := omega) [octroilaw18_DualAsks_r13]
  refine dleastM (p := P0) A9 (fun h10 l11 => ?_)
  have eL1 : leastOf (as1 a) P0 = ofV (joinV a asL) := by simp [leastOf, as1, getM_cons, asY1]
  rw [eL1]
  have D10 := D9.trans (.of_le l11)
  have A10 := A9.le' l11
  simp (disch := omega) [octroilaw18_DualAsks_r14, D10.keep _ _ F7 o7]
  refine dhearM (l := lt1 1 2 0 b) A10 rfl (by simp [as1]) (by simp [lt1]) (by simp [lt1]) (fun w11 h11 L11 T11 => ?_)
  rw [asks_2e cb]
  have D11 := D10.trans T11.fr
  simp (disch := omega)
  generalize hs2 : outS (hearS (as1 a) 2 (lt1 1 2 0 b)) = s2 at *
  simp (disch := omega) [octroilaw18_DualAsks_r15]
  refine dleastM (p := P0) T11.at_ (fun h12 l12 => ?_)
  have D12 := D11.trans (.of_le l12)
  have A12 := T11.at_.le' l12
  have G7 := D12.keep _ _ F7 o7
  have G10 := D12.keep _ _ F10 o10
  have G2 := D12.keep _ _ F2 o2
  simp (disch := omega) [octroilaw18_DualAsks_r16, G7, G10, G2]
  refine joinM (v := b) (w := asL) (fun h13 l13 => ?_)
  simp (disch := omega) [l13 _ _ G10, l13 _ _ G2]
  refine ofVM (v := joinV b asL) (fun h14 l14 => ?_)
  simp (disch := omega) [l14 _ _ (l13 _ _ G10), l14 _ _ (l13 _ _ G2)]
  refine joinM (v := a) (w := asL) (fun h15 l15 => ?_)
  simp (disch := omega)
  refine ofVM (v := joinV a asL) (fun h16 l16 => ?_)
  have l17 := ((l13.trans l14).trans l15).trans l16
  have D16 := D12.trans (.of_le l17)
  by_cases c5 : ofV (joinV b asL) = ofV (joinV a asL)
  · simp (disch := omega) [octroilaw18_DualAsks_r17, c5]
    exact bye _ _ (D6.trans D16)
  have hlt : ofV (joinV a asL) < ofV (joinV b asL) := by omega
  have e2 := asks_2 ca cb hd2 (by rw [show b.h = a.h from hbh]; exact hh1) hlt
  have eo : (hearS (as1 a) 2 (lt1 1 2 0 b)).out = asO2 b := by rw [e2]
  have es : s2 = as2 a b := by rw [← hs2, e2]; rfl
  subst es
  rw [eo] at T11
  have eL2 : leastOf (as2 a b) P0 = ofV (joinV a asL) := by simp [leastOf, as2, getM_cons, asY2]
  have eQ2 : quietOf (as2 a b) P0 = false := by simp [quietOf, as2, getM_cons, asY2]
  rw [eL2, eQ2]
  have A16 := A12.le' l17
  have S11 : SlAt h16 T_letter 10 Lt.enc w11 (asO2 b) := (T11.sl.le' l12).le' l17
  obtain ⟨bb, cap, c, ew, hbb, t0, t1, t2, t3, t4, t5, t6, t7, t8, t9⟩ := lt_at S11 (i := 0) rfl
  obtain ⟨bb', cap', c', ew', hbb', s0, s1, s2', s3, s4, s5, s6, s7, s8, s9⟩ := lt_at S11 (i := 1) rfl
  rw [ew] at ew'
  simp only [Value.slice.injEq, Option.some.injEq, Addr.mk.injEq, true_and, and_true] at ew'
  obtain ⟨rfl, rfl⟩ := ew'
  rw [hbb] at hbb'
  simp only [Option.some.injEq, Obj.cells.injEq, true_and, and_true] at hbb'
  subst hbb'
  have hol : (asO2 b).length = 2 := rfl
  have nrb : ∀ r, L11 r ≠ some bb := T11.nr bb (by rw [ew]; rfl)
  simp at t1 t2 s1 s2'
  simp (disch := omega) [c5]
  simp (disch := omega) [octroilaw18_DualAsks_r18, ew, hbb, t1, s1, hol]
  simp (disch := omega) [octroilaw18_DualAsks_r20, ew, hbb, s2', hol]
  refine dhearM (l := lt1 3 1 2 ⟨0, 0, 0⟩) A16 rfl (by simp [as2]) (by simp [lt1]) (by simp [lt1]) (fun w17 h17 L17 T17 => ?_)
  rw [asks_3] at T17
  have A17 : DualAt h17 L17 x (as3 a b) := T17.at_
  have D17 := D16.trans T17.fr
  have hbb17 := T17.fr.keep _ _ hbb nrb
  have nrb17 := T17.fr.old hbb nrb
  simp (disch := omega) [octroilaw18_DualAsks_r21]
  refine dleastM (p := P0) A17 (fun h18 l18 => ?_)
  have eL3 : leastOf (as3 a b) P0 = ofV (joinV a asL) := by simp [leastOf, as3, getM_cons, asY3]
  have eQ3 : quietOf (as3 a b) P0 = false := by simp [quietOf, as3, getM_cons, asY3]
  rw [eL3, eQ3]
  have D18 := D17.trans (.of_le l18)
  have A18 := A17.le' l18
  have hbb18 := l18 _ _ hbb17
  simp (disch := omega) [octroilaw18_DualAsks_r22, ew, hbb18, t2, hol, D18.keep _ _ F7 o7]
  refine dhearM (l := lt1 3 3 2 b) A18 rfl (by simp [as3]) (by simp [lt1]) (by simp [lt1]) (fun w19 h19 L19 T19 => ?_)
  rw [asks_4 cb hd2 (by rw [show b.h = a.h from hbh]; exact hh1)] at T19
  have A19 := T19.at_
  have D19 := D18.trans T19.fr
  simp (disch := omega) [octroilaw18_DualAsks_r23]
  refine dleastM (p := P0) A19 (fun h20 l20 => ?_)
  have eL4 : leastOf (as4 b) P0 = ofV (joinV b asL) := by simp [leastOf, as4, getM_cons, asY4]
  have eQ4 : quietOf (as4 b) P0 = true := by simp [quietOf, as4, getM_cons, asY4]
  rw [eL4, eQ4]
  have D20 := D19.trans (.of_le l20)
  simp (disch := omega) [octroilaw18_DualAsks_r24, D20.keep _ _ F7 o7, D20.keep _ _ F10 o10]
  refine joinM (v := b) (w := asL) (fun h21 l21 => ?_)
  simp (disch := omega)
  refine ofVM (v := joinV b asL) (fun h22 l22 => ?_)
  simp (disch := omega)
  exact bye _ _ ((D6.trans D20).trans (.of_le (l21.trans l22)))
end Go.Proofs.Ytpeoholnlokdcaa

/- DualAsks: when a way gets worse all neighbours are asked: the row. No condition. -/
namespace Go.Proofs.Ytpeoholnlokdcaa.DualAsks_row
open Go Go.ChangeShapes Go.WideShapes Go.RowKit
theorem own_knob : ownKnob Try.prog.godebug = none := by kernel_rfl
theorem laid_out : laidOutB Try.prog = true := by kernel_rfl
set_option maxRecDepth 100000 in
theorem lifted (os : Os) (started : os.Started) (H : Type) (enc : TypeId × Value → H) :
    ReturnsInHanded {} Try.checked os 4 .any (Rows.dualAsksSpec.pre6 enc Try.prog Try.f4 Rows.dualAsksRow.domain false) (Rows.dualAsksSpec.post enc Try.prog Try.f4 false true false false) := by
  refine returnsInHanded_of_change_sized (C := Try.checked) own_knob started (by kernel_rfl) Try.func4
    (ChangeSpec.witness6 (enc := enc) (C := Try.checked) false ⟨#[], #[.agg #[.int .i64 0, .int .i64 0, .int .i64 0], .int .i64 0], []⟩ 8 (by kernel_rfl) (by kernel_rfl) (by kernel_rfl) (by kernel_rfl)) ?_
  intro W base args ds gs before hval hW hcnd hsz _
  have hW' := hW
  obtain ⟨p, q, hA, hV, rfl, hfz, hnd⟩ := hW
  obtain ⟨rfl, rfl⟩ := trodVars_none hV
  have hA' : DataW.TrodAll enc Try.prog W 0 (fun _ => true) true Try.f4.params.toList args.toList ds p := hA
  have hval' : ∀ (j : Nat) t v, Try.f4.params[j]? = some t → args[j]? = some v → Value.okWide Try.prog W .any base t v := hval
  rw [Try.params4] at hA' hval'
  obtain ⟨v0, vs0, d0, ds0, p0, q0, hargs, rfl, rfl, h0, r0⟩ := trodAll_cons hA'
  obtain ⟨v1, vs1, d1, ds1, p1, q1, rfl, rfl, rfl, h1, r1⟩ := trodAll_cons r0
  obtain ⟨rfl, rfl, rfl⟩ := trodAll_nil r1
  obtain rfl : args = #[v0, v1] := by cases args; simp_all
  obtain ⟨⟨cs0⟩, rfl, k0⟩ := open_flat (ks := VcRKs) 4 Try.underlying23 (by kernel_rfl) (hval' 0 _ v0 rfl rfl) h0
  obtain ⟨x0, e0, hx0⟩ := dec_VcR _ k0
  simp only at e0
  subst e0
  obtain ⟨n1, rfl, rfl, rfl, w1⟩ := open_int Try.underlying3 (hval' 1 _ v1 rfl rfl) h1
  refine (below_of (DualAsks_walk (a := ⟨x0.b, x0.d, x0.h⟩) (n := n1))).mono fun e W' ⟨he, bel⟩ => ?_
  subst he
  exact ⟨_, rfl, _, _, _, [], _, [], hW', trodAll_mk1 (shut_bool (by kernel_rfl) _), trodAll_below laid_out bel (by kernel_rfl) hA, rfl, bel.frame _, fun h => by cases h⟩
theorem over : Rows.dualAsksRow.holds Try.pinned (OpenSpec.ofChange Rows.dualAsksSpec) :=
  OpenClaim.holds_of_wide 4 Try.f4 rfl rfl rfl rfl rfl rfl rfl ⟨rfl, rfl, rfl, rfl, rfl⟩ rfl rfl rfl rfl rfl (by kernel_rfl) Try.func4 (by kernel_rfl)
    (of_decide_eq_true (by kernel_rfl)) (by unfold Func.isWrapper; first | (rw [if_pos (by decide +kernel)]; kernel_rfl) | (rw [if_neg (by decide +kernel)]; exact ⟨rfl, rfl⟩))
    (fun os started H enc _ => lifted os started H enc)
end Go.Proofs.Ytpeoholnlokdcaa.DualAsks_row
namespace Go.Proofs.Ytpeoholnlokdcaa
theorem dualAsks_holds : Rows.DualAsksSaid := DualAsks_row.over
#print axioms dualAsks_holds
end Go.Proofs.Ytpeoholnlokdcaa
