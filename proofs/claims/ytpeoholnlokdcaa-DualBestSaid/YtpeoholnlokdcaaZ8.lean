/- DUAL: two neighbours and one prefix, in words. -/
import Derived.Test.YtpeoholnlokdcaaRows
import Derived.Test.YtpeoholnlokdcaaZ7

set_option linter.unusedSimpArgs false
set_option linter.unusedVariables false

namespace Go.Proofs.Ytpeoholnlokdcaa
open Go
set_option linter.unusedSimpArgs false
set_option linter.unusedVariables false
set_option maxRecDepth 20000

abbrev P0 : PK := (0, 0)
abbrev st2 (l2 l3 : Ln) (y : Kn) (o : List Lt) : DS := ⟨0, 10, [(2, l2), (3, l3)], [(P0, y)], o⟩
abbrev Ln.inc (l : Ln) : Ln := { l with sent := inc32 l.sent }
variable {l2 l3 : Ln} {y : Kn} {o : List Lt}
theorem nbrs2 : nbrs [(2, l2), (3, l3)] = [2, 3] := by simp [nbrs, srtI, insI]
theorem pfx1 : pfx [(P0, y)] = [P0] := by simp [pfx, insP]
theorem get2 : getM [((2 : Int), l2), (3, l3)] 2 = some l2 := by simp [getM_cons]
theorem get3 : getM [((2 : Int), l2), (3, l3)] 3 = some l3 := by simp [getM_cons]
theorem getP : getM [(P0, y)] P0 = some y := by simp [getM_cons]
theorem settle_same {p : PK} {s : DS} (hy : getM s.px p = some y) (h : y.opn ≠ [] ∨ wayS s.lk y = y.told) : settleS s p = s := by unfold settleS; rw [hy]; simp only; rw [if_pos h]
theorem settle_upd {w : Wy} (h0 : y.opn = []) (hw : wayS [(2, l2), (3, l3)] y = w) (h1 : w ≠ y.told) (h2 : ¬ ofV y.told.v < ofV w.v) :
    settleS (st2 l2 l3 y o) P0 = st2 l2.inc l3.inc { y with told := w, least := min y.least (ofV w.v) } (o ++ [⟨2, 1, inc32 l2.sent, 0, P0, w.v, w.tg⟩, ⟨3, 1, inc32 l3.sent, 0, P0, w.v, w.tg⟩]) := by
  unfold settleS
  simp only [getP, hw, nbrs2]
  rw [if_neg (fun q => q.elim (fun q => q h0) h1)]
  have hc : codeS y w = 1 := by unfold codeS; rw [if_neg h2]
  simp [hc, askS, sendS, setK, setM, getM_cons, leastS]
theorem settle_ask {w : Wy} (h0 : y.opn = []) (hw : wayS [(2, l2), (3, l3)] y = w) (h2 : ofV y.told.v < ofV w.v) :
    settleS (st2 l2 l3 y o) P0 = st2 l2.inc l3.inc { y with told := w, opn := [(2, inc32 l2.sent), (3, inc32 l3.sent)] } (o ++ [⟨2, 2, inc32 l2.sent, 0, P0, w.v, w.tg⟩, ⟨3, 2, inc32 l3.sent, 0, P0, w.v, w.tg⟩]) := by
  have h1 : w ≠ y.told := by rintro rfl; omega
  unfold settleS
  simp only [getP, hw, nbrs2]
  rw [if_neg (fun q => q.elim (fun q => q h0) h1)]
  have hc : codeS y w = 2 := by unfold codeS; rw [if_pos h2]
  simp [hc, askS, sendS, setK, setM, getM_cons, leastS, seqS, h0]
theorem settle_shape : ∃ n2 n3 w n q o', settleS (st2 l2 l3 y o) P0 = st2 { l2 with sent := n2 } { l3 with sent := n3 } { y with told := w, least := n, opn := q } o' := by
  by_cases c1 : y.opn ≠ [] ∨ wayS [(2, l2), (3, l3)] y = y.told
  · exact ⟨l2.sent, l3.sent, y.told, y.least, y.opn, o, settle_same getP c1⟩
  · have h0 : y.opn = [] := Decidable.byContradiction fun q => c1 (.inl q)
    by_cases c2 : ofV y.told.v < ofV (wayS [(2, l2), (3, l3)] y).v
    · exact ⟨_, _, _, y.least, _, _, settle_ask h0 rfl c2⟩
    · exact ⟨_, _, _, _, y.opn, _, settle_upd h0 rfl (fun q => c1 (.inr q)) c2⟩

def lt1 (code : Int) (seq ack : Nat) (v : Vec) : Lt := ⟨0, code, seq, ack, P0, v, 0⟩
theorem hasT00 {d : Int} : hasT 0 d = false := by
  unfold hasT
  cases h1 : decide (0 ≤ d) <;> cases h2 : decide (d < 16) <;> simp
theorem may00 : mayB 0 0 = true := by kernel_rfl
/-- The first that is heard, of a neighbour. -/
theorem hear_first {a : Vec} (ha : reachV a = true) (hg : l2.got = 0) : hearS ⟨0, 10, [(2, l2), (3, l3)], [], []⟩ 2 (lt1 1 1 0 a) = settleS (st2 { l2 with got := 1 } l3 { kn0 with rep := [(2, ⟨a, 0, 0⟩)] } []) P0 ∧
    hearErr ⟨0, 10, [(2, l2), (3, l3)], [], []⟩ 2 (lt1 1 1 0 a) = 0 := by
  constructor
  · unfold hearS
    rw [if_pos (by simp [hearOk, get2, lt1, may00, hg])]
    simp [gotS, get2, lt1, repS, repFine, ha, hasT00, addS, setK, setM, getM_nil, getM_cons, replyS, endS, kn0]
  · simp [hearErr, get2, lt1, may00, hg, repErr, hasT00, ha, hasS, addS, getM_nil, setK, setM, getM_cons]
/-- An update, or a reply that closes nothing. -/
theorem hear_upd2 {v : Vec} {code : Int} {seq ack : Nat} (hc1 : 1 ≤ code) (hc3 : code ≤ 3) (hc : code ≠ 2) (hg : l2.got < seq) (hr : reachV v = true) :
    hearS (st2 l2 l3 y []) 2 (lt1 code seq ack v) = settleS (if getM y.opn 2 = some ack ∧ code = 3 then st2 { l2 with got := seq } l3 (closeK { y with rep := setM 2 ⟨v, 0, 0⟩ y.rep } 2) [] else st2 { l2 with got := seq } l3 { y with rep := setM 2 ⟨v, 0, 0⟩ y.rep } []) P0 ∧
    hearErr (st2 l2 l3 y []) 2 (lt1 code seq ack v) = 0 := by
  have n1 : ¬ code < 1 := by omega
  have n3 : ¬ 3 < code := by omega
  have n2 : ¬ seq ≤ l2.got := by omega
  constructor
  · unfold hearS
    rw [if_pos (by simp [hearOk, get2, lt1, may00, hg, hc1, hc3])]
    simp [gotS, get2, lt1, repS, repFine, hr, hasT00, addS, setK, setM, getM_nil, getM_cons, replyS, endS, hc]
  · simp [hearErr, get2, lt1, may00, hg, repErr, hasT00, hr, hasS, addS, getM_nil, setK, setM, getM_cons, n1, n2, n3]
theorem hear_upd3 {v : Vec} {code : Int} {seq ack : Nat} (hc1 : 1 ≤ code) (hc3 : code ≤ 3) (hc : code ≠ 2) (hg : l3.got < seq) :
    hearS (st2 l2 l3 y []) 3 (lt1 code seq ack v) = settleS (if getM y.opn 3 = some ack ∧ code = 3 then st2 l2 { l3 with got := seq } (closeK { y with rep := if reachV v then setM 3 ⟨v, 0, 0⟩ y.rep else delM 3 y.rep } 3) [] else st2 l2 { l3 with got := seq } { y with rep := if reachV v then setM 3 ⟨v, 0, 0⟩ y.rep else delM 3 y.rep } []) P0 ∧
    hearErr (st2 l2 l3 y []) 3 (lt1 code seq ack v) = 0 := by
  have n1 : ¬ code < 1 := by omega
  have n3 : ¬ 3 < code := by omega
  have n2 : ¬ seq ≤ l3.got := by omega
  constructor
  · unfold hearS
    rw [if_pos (by simp [hearOk, get3, lt1, may00, hg, hc1, hc3])]
    cases hr : reachV v
    · simp [gotS, get3, lt1, repS, repFine, hr, hasT00, addS, setK, setM, getM_nil, getM_cons, replyS, endS, hc]
    · simp [gotS, get3, lt1, repS, repFine, hr, hasT00, addS, setK, setM, getM_nil, getM_cons, replyS, endS, hc]
  · cases hr : reachV v <;> simp [hearErr, get3, lt1, may00, hg, repErr, hasT00, hr, hasS, addS, getM_nil, setK, setM, getM_cons, n1, n2, n3]

/-- Two links come. -/
theorem up_first {v : Vec} (hv : mayV v = true) : upX (new18 0 10) 2 v = ⟨0, 10, [(2, ⟨v, 0, 0⟩)], [], []⟩ := by
  simp [upX, upOk, new18, getM_nil, hv, upS, pfx, setM]
  omega
theorem up_err {v : Vec} : upErr (new18 0 10) 2 v = if mayV v then 0 else 1 := by
  simp [upErr, upOk, new18, getM_nil]
theorem up_second {v w : Vec} (hw : mayV w = true) : upX ⟨0, 10, [(2, ⟨v, 0, 0⟩)], [], []⟩ 3 w = ⟨0, 10, [(2, ⟨v, 0, 0⟩), (3, ⟨w, 0, 0⟩)], [], []⟩ := by
  simp [upX, upOk, getM_nil, getM_cons, hw, upS, pfx, setM]
theorem up_err2 {s : DS} {k : Int} {w : Vec} (h : mayV w = false) : upErr s k w = 1 ∧ upX s k w = s := by
  simp [upErr, upX, upOk, h]
theorem up_err3 {v w : Vec} (h : mayV w = true) : upErr ⟨0, 10, [(2, ⟨v, 0, 0⟩)], [], []⟩ 3 w = 0 := by
  simp [upErr, upOk, getM_nil, getM_cons, h]

theorem reach_of {v : Vec} (h : reachV v = true) : ¬ 4294967295 ≤ ofV v := by have := ofV_bounds (v := v); have := this.2.2 h; omega
/-- Of two that may be taken. -/
theorem best_two {a b : Vec} {m : Int} (hr : y.rep = [(2, ⟨a, 0, 0⟩), (3, ⟨b, 0, 0⟩)]) (ho : y.own = none) (h1 : reachV (joinV a l2.v) = true) (h2 : reachV (joinV b l3.v) = true) (ha : ¬ m ≤ ofV a) (hb : ¬ m ≤ ofV b) :
    bestS [(2, l2), (3, l3)] y m = some (if betterV (joinV b l3.v) (joinV a l2.v) then ⟨joinV b l3.v, 0, 3⟩ else ⟨joinV a l2.v, 0, 2⟩) := by
  unfold bestS
  rw [nbrs2]
  simp only [List.foldl_cons, List.foldl_nil]
  have e1 : bstep [(2, l2), (3, l3)] y m y.own 2 = some ⟨joinV a l2.v, 0, 2⟩ := by simp [bstep, get2, hr, getM_cons, ha, takeW, candW, h1, ho]
  rw [e1]
  simp only [bstep, get3, hr, getM_cons, takeW, candW, aheadW, h2]
  simp [hb]
  cases betterV (joinV b l3.v) (joinV a l2.v) <;> simp [h2]
theorem best_one {a : Vec} {m : Int} (hr : y.rep = [(2, ⟨a, 0, 0⟩)]) (ho : y.own = none) (h1 : reachV (joinV a l2.v) = true) (ha : ¬ m ≤ ofV a) : bestS [(2, l2), (3, l3)] y m = some ⟨joinV a l2.v, 0, 2⟩ := by
  unfold bestS
  rw [nbrs2]
  simp only [List.foldl_cons, List.foldl_nil]
  have e1 : bstep [(2, l2), (3, l3)] y m y.own 2 = some ⟨joinV a l2.v, 0, 2⟩ := by simp [bstep, get2, hr, getM_cons, ha, takeW, candW, h1, ho]
  rw [e1]
  simp [bstep, get3, hr, getM_cons, getM_nil]
theorem way_one {a : Vec} (hr : y.rep = [(2, ⟨a, 0, 0⟩)]) (ho : y.own = none) (h1 : reachV (joinV a l2.v) = true) (ha : reachV a = true) : wayS [(2, l2), (3, l3)] y = ⟨joinV a l2.v, 0, 0⟩ := by
  unfold wayS
  rw [best_one hr ho h1 (reach_of ha)]; rfl
end Go.Proofs.Ytpeoholnlokdcaa

/- DualBest: of two neighbours that tell one prefix, both less than the least, that way is taken that is better in all. -/
namespace Go.Proofs.Ytpeoholnlokdcaa
open Go
set_option linter.unusedSimpArgs false
set_option linter.unusedVariables false
set_option maxRecDepth 20000

theorem lt1_eq {code : Int} {seq ack : Nat} {v : Vec} : (lt1 code seq ack v).val = .agg #[.int .i64 0, .int .i64 code, .int .u32 (seq : Nat), .int .u32 (ack : Nat), .int .u32 0, .int .i64 0, .int .i64 v.b, .int .i64 v.d, .int .i64 v.h, .int .u16 0] := rfl

set_option maxHeartbeats 8000000 in
theorem DualBest_walk {h : Hp} {a b one two : Vec} : Ok Try.prog F_octroilaw18_DualBest #[a.v, b.v, one.v, two.v] h (fun v g => v = .bool true ∧ Le h g) := by
  refine octroilaw18_DualBest_ok (by simp) ?_
  unfold octroilaw18_DualBest_D
  simp (disch := omega) [octroilaw18_DualBest_r0]
  intro b4 hb4 b5 hb5 b6 hb6 b7 hb7
  obtain ⟨n76, h76⟩ := upd_none hb7
  obtain ⟨n75, h75⟩ := upd_none h76
  obtain ⟨n74, h74⟩ := upd_none h75
  obtain ⟨n65, h65⟩ := upd_none hb6
  obtain ⟨n64, h64⟩ := upd_none h65
  obtain ⟨n54, h54⟩ := upd_none hb5
  show octroilaw18_DualBest_r1 _ ((((h.upd b4 (.cells a.cells 23)).upd b5 (.cells b.cells 23)).upd b6 (.cells one.cells 23)).upd b7 (.cells two.cells 23)) _
  have l7 : Le h ((((h.upd b4 (.cells a.cells 23)).upd b5 (.cells b.cells 23)).upd b6 (.cells one.cells 23)).upd b7 (.cells two.cells 23)) := (((Le.new hb4).trans (Le.new hb5)).trans (Le.new hb6)).trans (Le.new hb7)
  have F4 : ((((h.upd b4 (.cells a.cells 23)).upd b5 (.cells b.cells 23)).upd b6 (.cells one.cells 23)).upd b7 (.cells two.cells 23)) b4 = some (.cells a.cells 23 (0, 0)) := by rw [upd_ne (Ne.symm n74), upd_ne (Ne.symm n64), upd_ne (Ne.symm n54), upd_same]
  have F5 : ((((h.upd b4 (.cells a.cells 23)).upd b5 (.cells b.cells 23)).upd b6 (.cells one.cells 23)).upd b7 (.cells two.cells 23)) b5 = some (.cells b.cells 23 (0, 0)) := by rw [upd_ne (Ne.symm n75), upd_ne (Ne.symm n65), upd_same]
  have F6 : ((((h.upd b4 (.cells a.cells 23)).upd b5 (.cells b.cells 23)).upd b6 (.cells one.cells 23)).upd b7 (.cells two.cells 23)) b6 = some (.cells one.cells 23 (0, 0)) := by rw [upd_ne (Ne.symm n76), upd_same]
  have F7 : ((((h.upd b4 (.cells a.cells 23)).upd b5 (.cells b.cells 23)).upd b6 (.cells one.cells 23)).upd b7 (.cells two.cells 23)) b7 = some (.cells two.cells 23 (0, 0)) := upd_same
  generalize (((h.upd b4 (.cells a.cells 23)).upd b5 (.cells b.cells 23)).upd b6 (.cells one.cells 23)).upd b7 (.cells two.cells 23) = h0 at *
  simp (disch := omega) [octroilaw18_DualBest_r1]
  refine awake18 (fun h1 l1 => ?_)
  have F4 := l1 _ _ F4
  have F5 := l1 _ _ F5
  have F6 := l1 _ _ F6
  have F7 := l1 _ _ F7
  have L1 := l7.trans l1
  simp (disch := omega) [octroilaw18_DualBest_r2]
  refine dnewM (fun L2 x h2 l2 n2 A2 => ?_)
  replace A2 : DualAt h2 L2 x (new18 0 10) := A2
  simp (disch := omega) [octroilaw18_DualBest_r3, l2 _ _ F4]
  refine reachRefVM (v := a) (fun h3 l3 => ?_)
  have l13 := l2.trans l3
  simp (disch := omega) [octroilaw18_DualBest_r4, l13 _ _ F5]
  refine reachRefVM (v := b) (fun h4 l4 => ?_)
  have l14 := l13.trans l4
  have bye : ∀ g, Le h1 g → drp (fun v g => v = .bool true ∧ Le h g) (.bool true) g := fun g l => .to _ (.refl _) ⟨rfl, L1.trans l⟩
  cases ca : reachV a with
  | false =>
    simp (disch := omega) [octroilaw18_DualBest_r5, octroilaw18_DualBest_r6]
    exact bye _ l14
  | true =>
  cases cb : reachV b with
  | false =>
    simp (disch := omega) [octroilaw18_DualBest_r5, octroilaw18_DualBest_r6]
    exact bye _ l14
  | true =>
  have A4 := (A2.le' l3).le' l4
  simp (disch := omega) [octroilaw18_DualBest_r5]
  simp (disch := omega) [octroilaw18_DualBest_r7, l14 _ _ F6]
  refine dupM (v := one) A4 rfl (by simp [new18]) (by simp [new18]) (fun w5 h5 L5 T5 => ?_)
  obtain ⟨l15, n5⟩ := T5.leN l14 n2
  have A5 := T5.at_
  cases c1 : mayV one with
  | false =>
    obtain ⟨e1, e2⟩ := up_err2 (s := new18 0 10) (k := 2) c1
    rw [e2] at A5
    rw [e1]
    replace A5 : DualAt h5 L5 x (new18 0 10) := A5
    simp (disch := omega) [octroilaw18_DualBest_r8, l15 _ _ F7]
    refine dupM (v := two) A5 rfl (by simp [new18]) (by simp [new18]) (fun w6 h6 L6 T6 => ?_)
    obtain ⟨l16, n6⟩ := T6.leN l15 n5
    simp (disch := omega) [octroilaw18_DualBest_r9]
    simp (disch := omega) [octroilaw18_DualBest_r10, l16 _ _ F6]
    refine mayVM (v := one) (fun h7 l17 => ?_)
    rw [c1]
    simp (disch := omega)
    exact bye _ (l16.trans l17)
  | true =>
  have e1 : upErr (new18 0 10) 2 one = 0 := by rw [up_err, c1]; rfl
  rw [up_first c1] at A5
  rw [e1]
  replace A5 : DualAt h5 L5 x ⟨0, 10, [(2, ⟨one, 0, 0⟩)], [], []⟩ := A5
  simp (disch := omega) [octroilaw18_DualBest_r8, l15 _ _ F7]
  refine dupM (v := two) A5 rfl (by simp) (by simp) (fun w6 h6 L6 T6 => ?_)
  obtain ⟨l16, n6⟩ := T6.leN l15 n5
  have A6 := T6.at_
  cases c2 : mayV two with
  | false =>
    obtain ⟨e3, e4⟩ := up_err2 (s := ⟨0, 10, [(2, ⟨one, 0, 0⟩)], [], []⟩) (k := 3) c2
    rw [e3]
    simp (disch := omega) [octroilaw18_DualBest_r9]
    simp (disch := omega) [octroilaw18_DualBest_r10, l16 _ _ F6]
    refine mayVM (v := one) (fun h7 l17 => ?_)
    rw [c1]
    simp (disch := omega) [l17 _ _ (l16 _ _ F7)]
    refine mayVM (v := two) (fun h8 l18 => ?_)
    rw [c2]
    simp (disch := omega)
    exact bye _ ((l16.trans l17).trans l18)
  | true =>
  rw [up_second c2] at A6
  rw [up_err3 c2]
  replace A6 : DualAt h6 L6 x ⟨0, 10, [(2, ⟨one, 0, 0⟩), (3, ⟨two, 0, 0⟩)], [], []⟩ := A6
  simp (disch := omega) [octroilaw18_DualBest_r9]
  simp (disch := omega) [octroilaw18_DualBest_r11, l16 _ _ F4]
  refine dhearM (l := lt1 1 1 0 a) A6 rfl (by simp) (by simp [lt1]) (by simp [lt1]) (fun w7 h7 L7 T7 => ?_)
  obtain ⟨l17, n7⟩ := T7.leN l16 n6
  have A7 := T7.at_
  obtain ⟨e7, e8⟩ := hear_first (l2 := ⟨one, 0, 0⟩) (l3 := ⟨two, 0, 0⟩) ca rfl
  obtain ⟨n2', n3', w', m', q', o', e9⟩ := settle_shape (l2 := ⟨one, 0, 1⟩) (l3 := ⟨two, 0, 0⟩) (y := { kn0 with rep := [(2, ⟨a, 0, 0⟩)] }) (o := [])
  rw [e7, e9] at A7
  replace A7 : DualAt h7 L7 x (st2 ⟨one, n2', 1⟩ ⟨two, n3', 0⟩ ⟨none, [(2, ⟨a, 0, 0⟩)], w', m', q'⟩ []) := A7
  rw [e8]
  simp (disch := omega) [octroilaw18_DualBest_r12]
  refine dleastM (p := P0) A7 (fun h8 l8 => ?_)
  have l18 := l17.trans l8
  simp (disch := omega) [octroilaw18_DualBest_r13, l18 _ _ F5]
  refine dhearM (l := lt1 1 1 0 b) (A7.le' l8) rfl (by simp) (by simp [lt1]) (by simp [lt1]) (fun w9 h9 L9 T9 => ?_)
  obtain ⟨l19, n9⟩ := T9.leN l18 n7
  have A9 := T9.at_
  obtain ⟨e10, e11⟩ := hear_upd3 (l2 := ⟨one, n2', 1⟩) (l3 := ⟨two, n3', 0⟩) (y := ⟨none, [(2, ⟨a, 0, 0⟩)], w', m', q'⟩) (v := b) (code := 1) (seq := 1) (ack := 0) (by omega) (by omega) (by omega) (by simp)
  rw [if_neg (by simp), cb, if_pos rfl] at e10
  obtain ⟨n2'', n3'', w'', m'', q'', o'', e12⟩ := settle_shape (l2 := ⟨one, n2', 1⟩) (l3 := ⟨two, n3', 1⟩) (y := ⟨none, [(2, ⟨a, 0, 0⟩), (3, ⟨b, 0, 0⟩)], w', m', q'⟩) (o := [])
  rw [show setM (3 : Int) (⟨b, 0, 0⟩ : Wy) [(2, ⟨a, 0, 0⟩)] = [(2, ⟨a, 0, 0⟩), (3, ⟨b, 0, 0⟩)] by simp [setM]] at e10
  rw [e10] at A9
  rw [show settleS (st2 ⟨one, n2', 1⟩ { (⟨two, n3', 0⟩ : Ln) with got := 1 } { (⟨none, [(2, ⟨a, 0, 0⟩)], w', m', q'⟩ : Kn) with rep := [(2, ⟨a, 0, 0⟩), (3, ⟨b, 0, 0⟩)] } []) P0 = _ from e12] at A9
  replace A9 : DualAt h9 L9 x (st2 ⟨one, n2'', 1⟩ ⟨two, n3'', 1⟩ ⟨none, [(2, ⟨a, 0, 0⟩), (3, ⟨b, 0, 0⟩)], w'', m'', q''⟩ []) := A9
  rw [e11]
  simp (disch := omega) [octroilaw18_DualBest_r14]
  refine dleastM (p := P0) A9 (fun h10 l10 => ?_)
  have A10 := A9.le' l10
  have l20 := l19.trans l10
  have eL : leastOf (st2 ⟨one, n2'', 1⟩ ⟨two, n3'', 1⟩ ⟨none, [(2, ⟨a, 0, 0⟩), (3, ⟨b, 0, 0⟩)], w'', m'', q''⟩ []) P0 = m'' := by simp [leastOf, getM_cons]
  rw [eL]
  generalize leastOf (st2 ⟨one, n2', 1⟩ ⟨two, n3', 0⟩ ⟨none, [(2, ⟨a, 0, 0⟩)], w', m', q'⟩ []) P0 = nn
  generalize quietOf (st2 ⟨one, n2'', 1⟩ ⟨two, n3'', 1⟩ ⟨none, [(2, ⟨a, 0, 0⟩), (3, ⟨b, 0, 0⟩)], w'', m'', q''⟩ []) P0 = qq
  simp (disch := omega) [octroilaw18_DualBest_r15, l20 _ _ F4, l20 _ _ F6]
  refine joinM (v := a) (w := one) (fun h11 l11 => ?_)
  simp (disch := omega)
  intro b21 hb21
  have l12 := l20.trans l11
  have l22 := l12.trans (Le.new (o := .cells (joinV a one).cells 23) hb21)
  have F21 : (h11.upd b21 (.cells (joinV a one).cells 23)) b21 = some (.cells (joinV a one).cells 23 (0, 0)) := upd_same
  have A12 := (A10.le' l11).le' (Le.new (o := .cells (joinV a one).cells 23) hb21)
  simp (disch := omega)
  show octroilaw18_DualBest_r16 _ (h11.upd b21 (.cells (joinV a one).cells 23)) _
  generalize h11.upd b21 (.cells (joinV a one).cells 23) = h12 at *
  simp (disch := omega) [octroilaw18_DualBest_r16, l22 _ _ F5, l22 _ _ F7]
  refine joinM (v := b) (w := two) (fun h13 l13' => ?_)
  simp (disch := omega)
  intro b22 hb22
  have l23 := (l22.trans l13').trans (Le.new (o := .cells (joinV b two).cells 23) hb22)
  have F22 : (h13.upd b22 (.cells (joinV b two).cells 23)) b22 = some (.cells (joinV b two).cells 23 (0, 0)) := upd_same
  have F21 := Le.new (o := .cells (joinV b two).cells 23) hb22 _ _ (l13' _ _ F21)
  have A13 := (A12.le' l13').le' (Le.new (o := .cells (joinV b two).cells 23) hb22)
  simp (disch := omega)
  show octroilaw18_DualBest_r17 _ (h13.upd b22 (.cells (joinV b two).cells 23)) _
  generalize h13.upd b22 (.cells (joinV b two).cells 23) = h14 at *
  have F4 := l23 _ _ F4
  have F5 := l23 _ _ F5
  simp (disch := omega) [octroilaw18_DualBest_r17, F21]
  refine reachVM (v := joinV a one) (fun h15 l25 => ?_)
  cases d1 : reachV (joinV a one) with
  | false =>
    simp (disch := omega) [octroilaw18_DualBest_r18]
    exact bye _ (l23.trans l25)
  | true =>
  simp (disch := omega) [l25 _ _ F22]
  refine reachVM (v := joinV b two) (fun h16 l26 => ?_)
  have l36 := l25.trans l26
  cases d2 : reachV (joinV b two) with
  | false =>
    simp (disch := omega) [octroilaw18_DualBest_r18]
    exact bye _ (l23.trans l36)
  | true =>
  simp (disch := omega) [l36 _ _ F4]
  refine ofVM (v := a) (fun h17 l27 => ?_)
  have l37 := l36.trans l27
  by_cases d3 : m'' ≤ ofV a
  · simp (disch := omega) [octroilaw18_DualBest_r18, d3]
    exact bye _ (l23.trans l37)
  simp (disch := omega) [l37 _ _ F5, d3]
  refine ofVM (v := b) (fun h18 l28 => ?_)
  have l38 := l37.trans l28
  by_cases d4 : m'' ≤ ofV b
  · simp (disch := omega) [octroilaw18_DualBest_r18, d4]
    exact bye _ (l23.trans l38)
  cases qq with
  | false =>
    simp (disch := omega) [octroilaw18_DualBest_r18, d4]
    exact bye _ (l23.trans l38)
  | true =>
  by_cases d5 : nn < m''
  · simp (disch := omega) [octroilaw18_DualBest_r18, d4, d5]
    exact bye _ (l23.trans l38)
  simp (disch := omega) [d4, d5]
  simp (disch := omega) [octroilaw18_DualBest_r19]
  have A18 := A13.le' l38
  refine dallM A18 (by simp) (by simp) (fun w19 h19 l29 S19 n19 => ?_)
  have l39 := l38.trans l29
  have F21 := l39 _ _ F21
  have F22 := l39 _ _ F22
  have hB := best_two (l2 := ⟨one, n2'', 1⟩) (l3 := ⟨two, n3'', 1⟩) (y := ⟨none, [(2, ⟨a, 0, 0⟩), (3, ⟨b, 0, 0⟩)], w'', m'', q''⟩) (a := a) (b := b) (m := m'') rfl rfl d1 d2 d3 d4
  have hR : allR (st2 ⟨one, n2'', 1⟩ ⟨two, n3'', 1⟩ ⟨none, [(2, ⟨a, 0, 0⟩), (3, ⟨b, 0, 0⟩)], w'', m'', q''⟩ []) (pfx (st2 ⟨one, n2'', 1⟩ ⟨two, n3'', 1⟩ ⟨none, [(2, ⟨a, 0, 0⟩), (3, ⟨b, 0, 0⟩)], w'', m'', q''⟩ []).px) =
      [routeOf (st2 ⟨one, n2'', 1⟩ ⟨two, n3'', 1⟩ ⟨none, [(2, ⟨a, 0, 0⟩), (3, ⟨b, 0, 0⟩)], w'', m'', q''⟩ []) P0 (if betterV (joinV b two) (joinV a one) then ⟨joinV b two, 0, 3⟩ else ⟨joinV a one, 0, 2⟩)] := by
    rw [pfx1]
    simp only [allR, List.flatMap_cons, List.flatMap_nil, List.append_nil, allOne, getP, hB]
  rw [hR] at S19
  obtain ⟨bb, cap, c, ew, hbb, u0, u1, u2, u3, u4, u5, u6⟩ := rt_at S19 (i := 0) rfl
  simp (disch := omega) [octroilaw18_DualBest_r20, ew]
  simp (disch := omega) [octroilaw18_DualBest_r22, F21, F22]
  refine betterVM (a := joinV b two) (b := joinV a one) (fun h20 l30 => ?_)
  have F21 := l30 _ _ F21
  have F22 := l30 _ _ F22
  have hbb := l30 _ _ hbb
  have lE := (l23.trans l39).trans l30
  cases d6 : betterV (joinV b two) (joinV a one) with
  | true =>
    rw [d6, if_pos rfl] at u4 u5
    simp only [routeOf, Nat.zero_mul, Nat.zero_add] at u4 u5
    simp (disch := omega) [octroilaw18_DualBest_r23, ew, hbb, u4, u5, F22]
    refine ofVM (v := joinV b two) (fun h21 l31 => ?_)
    simp (disch := omega) [l31 _ _ hbb, u4]
    exact bye _ (lE.trans l31)
  | false =>
    rw [d6, if_neg (by simp)] at u4 u5
    simp only [routeOf, Nat.zero_mul, Nat.zero_add] at u4 u5
    simp (disch := omega) [octroilaw18_DualBest_r24, ew, hbb, u4, u5, F21]
    refine ofVM (v := joinV a one) (fun h21 l31 => ?_)
    simp (disch := omega) [l31 _ _ hbb, u4]
    exact bye _ (lE.trans l31)
end Go.Proofs.Ytpeoholnlokdcaa

/- DualBest: of two neighbours that tell one prefix that way is taken that is better in all: the row. No condition. -/
namespace Go.Proofs.Ytpeoholnlokdcaa.DualBest_row
open Go Go.ChangeShapes Go.WideShapes Go.RowKit
theorem own_knob : ownKnob Try.prog.godebug = none := by kernel_rfl
theorem laid_out : laidOutB Try.prog = true := by kernel_rfl
set_option maxRecDepth 100000 in
theorem lifted (os : Os) (started : os.Started) (H : Type) (enc : TypeId × Value → H) :
    ReturnsInHanded {} Try.checked os 3 .any (Rows.dualBestSpec.pre6 enc Try.prog Try.f3 Rows.dualBestRow.domain false) (Rows.dualBestSpec.post enc Try.prog Try.f3 false true false false) := by
  refine returnsInHanded_of_change_sized (C := Try.checked) own_knob started (by kernel_rfl) Try.func3
    (ChangeSpec.witness6 (enc := enc) (C := Try.checked) false ⟨#[], #[.agg #[.int .i64 0, .int .i64 0, .int .i64 0], .agg #[.int .i64 0, .int .i64 0, .int .i64 0], .agg #[.int .i64 0, .int .i64 0, .int .i64 0], .agg #[.int .i64 0, .int .i64 0, .int .i64 0]], []⟩ 8 (by kernel_rfl) (by kernel_rfl) (by kernel_rfl) (by kernel_rfl)) ?_
  intro W base args ds gs before hval hW hcnd hsz _
  have hW' := hW
  obtain ⟨p, q, hA, hV, rfl, hfz, hnd⟩ := hW
  obtain ⟨rfl, rfl⟩ := trodVars_none hV
  have hA' : DataW.TrodAll enc Try.prog W 0 (fun _ => true) true Try.f3.params.toList args.toList ds p := hA
  have hval' : ∀ (j : Nat) t v, Try.f3.params[j]? = some t → args[j]? = some v → Value.okWide Try.prog W .any base t v := hval
  rw [Try.params3] at hA' hval'
  obtain ⟨v0, vs0, d0, ds0, p0, q0, hargs, rfl, rfl, h0, r0⟩ := trodAll_cons hA'
  obtain ⟨v1, vs1, d1, ds1, p1, q1, rfl, rfl, rfl, h1, r1⟩ := trodAll_cons r0
  obtain ⟨v2, vs2, d2, ds2, p2, q2, rfl, rfl, rfl, h2, r2⟩ := trodAll_cons r1
  obtain ⟨v3, vs3, d3, ds3, p3, q3, rfl, rfl, rfl, h3, r3⟩ := trodAll_cons r2
  obtain ⟨rfl, rfl, rfl⟩ := trodAll_nil r3
  obtain rfl : args = #[v0, v1, v2, v3] := by cases args; simp_all
  obtain ⟨⟨cs0⟩, rfl, k0⟩ := open_flat (ks := VcRKs) 4 Try.underlying23 (by kernel_rfl) (hval' 0 _ v0 rfl rfl) h0
  obtain ⟨x0, e0, hx0⟩ := dec_VcR _ k0
  simp only at e0
  subst e0
  obtain ⟨⟨cs1⟩, rfl, k1⟩ := open_flat (ks := VcRKs) 4 Try.underlying23 (by kernel_rfl) (hval' 1 _ v1 rfl rfl) h1
  obtain ⟨x1, e1, hx1⟩ := dec_VcR _ k1
  simp only at e1
  subst e1
  obtain ⟨⟨cs2⟩, rfl, k2⟩ := open_flat (ks := VcRKs) 4 Try.underlying23 (by kernel_rfl) (hval' 2 _ v2 rfl rfl) h2
  obtain ⟨x2, e2, hx2⟩ := dec_VcR _ k2
  simp only at e2
  subst e2
  obtain ⟨⟨cs3⟩, rfl, k3⟩ := open_flat (ks := VcRKs) 4 Try.underlying23 (by kernel_rfl) (hval' 3 _ v3 rfl rfl) h3
  obtain ⟨x3, e3, hx3⟩ := dec_VcR _ k3
  simp only at e3
  subst e3
  refine (below_of (DualBest_walk (a := ⟨x0.b, x0.d, x0.h⟩) (b := ⟨x1.b, x1.d, x1.h⟩) (one := ⟨x2.b, x2.d, x2.h⟩) (two := ⟨x3.b, x3.d, x3.h⟩))).mono fun e W' ⟨he, bel⟩ => ?_
  subst he
  exact ⟨_, rfl, _, _, _, [], _, [], hW', trodAll_mk1 (shut_bool (by kernel_rfl) _), trodAll_below laid_out bel (by kernel_rfl) hA, rfl, bel.frame _, fun h => by cases h⟩
theorem over : Rows.dualBestRow.holds Try.pinned (OpenSpec.ofChange Rows.dualBestSpec) :=
  OpenClaim.holds_of_wide 3 Try.f3 rfl rfl rfl rfl rfl rfl rfl ⟨rfl, rfl, rfl, rfl, rfl⟩ rfl rfl rfl rfl rfl (by kernel_rfl) Try.func3 (by kernel_rfl)
    (of_decide_eq_true (by kernel_rfl)) (by unfold Func.isWrapper; first | (rw [if_pos (by decide +kernel)]; kernel_rfl) | (rw [if_neg (by decide +kernel)]; exact ⟨rfl, rfl⟩))
    (fun os started H enc _ => lifted os started H enc)
end Go.Proofs.Ytpeoholnlokdcaa.DualBest_row
namespace Go.Proofs.Ytpeoholnlokdcaa
theorem dualBest_holds : Rows.DualBestSaid := DualBest_row.over
#print axioms dualBest_holds
end Go.Proofs.Ytpeoholnlokdcaa
