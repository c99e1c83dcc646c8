/- Printed by wip/kit/gen.py out of the translation: what operations of these types come to. -/
import Derived.Test.YtmbhlbohbpepaaaChecked
import Derived.Test.YtmbhlbohbpepaaaZ3

namespace Go.Proofs.Ytmbhlbohbpepaaa
open Go

set_option maxRecDepth 100000

abbrev F_octroilaw09_RibBetter : Nat := 3
abbrev F_octroilaw09_RibOrder : Nat := 4
abbrev F_octroilaw09_RibDepths : Nat := 5
abbrev F_octroilaw09_RibFull : Nat := 6
abbrev F_octroilaw09_RibSwaps : Nat := 7
abbrev F_octroilaw09_RibGone : Nat := 8
abbrev F_octroilaw09_RibDoes : Nat := 9
abbrev F_octroilaw09_RibTakes : Nat := 10
abbrev F_octroilaw09_awake : Nat := 11
abbrev F_octroiref09_May : Nat := 12
abbrev F_rib_Better : Nat := 13
abbrev F_octroiref09_Better : Nat := 14
abbrev F_tags_Depth : Nat := 15
abbrev F_rib_New : Nat := 16
abbrev F_rib_Rib_Put : Nat := 17
abbrev F_rib_Rib_Refused : Nat := 18
abbrev F_rib_Rib_All : Nat := 19
abbrev F_rib_Rib_Best : Nat := 20
abbrev F_rib_Rib_Find : Nat := 21
abbrev F_octroiref09_Same : Nat := 22
abbrev F_rib_Rib_Take : Nat := 23
abbrev F_octroiref09_New : Nat := 24
abbrev F_octroiref09_Rib_Put : Nat := 25
abbrev F_octroiref09_Rib_Take : Nat := 26
abbrev F_octroiref09_Rib_Best : Nat := 27
abbrev F_octroiref09_Rib_Find : Nat := 28
abbrev F_prefix_Has : Nat := 29
abbrev F_octroiref02_May : Nat := 30
abbrev F_rib_compare : Nat := 31
abbrev F_octroiref03_Depth : Nat := 32
abbrev F_trie_New : Nat := 33
abbrev F_rib_may : Nat := 34
abbrev F_trie_Trie_Get : Nat := 35
abbrev F_trie_Trie_Put : Nat := 36
abbrev F_trie_Trie_All : Nat := 37
abbrev F_rib_Rib_of : Nat := 38
abbrev F_slices_MinFunc_api_Route_api_Route : Nat := 39
abbrev F_trie_Trie_Find : Nat := 40
abbrev F_trie_Trie_Take : Nat := 41
abbrev F_octroiref09_Rib_at : Nat := 42
abbrev F_octroiref09_ahead : Nat := 43
abbrev F_octroiref02_Has : Nat := 44
abbrev F_prefix_May : Nat := 45
abbrev F_prefix_Mask : Nat := 46
abbrev F_octroiref02_Mask : Nat := 47
abbrev F_rib_first : Nat := 48
abbrev F_cmp_Compare_int : Nat := 49
abbrev F_cmp_Compare_uint16 : Nat := 50
abbrev F_trie_Trie_find : Nat := 51
abbrev F_trie_Trie_walk : Nat := 52
abbrev F_trie_Trie_gather : Nat := 53
abbrev F_trie_bit : Nat := 54
abbrev F_octroiref02_Less : Nat := 55
abbrev F_cmp_Or_int : Nat := 56
abbrev F_cmp_isNaN_int : Nat := 57
abbrev F_cmp_isNaN_uint16 : Nat := 58
abbrev T_api_Prefix : Nat := 24
abbrev T_api_Route : Nat := 27
abbrev T_api_Errno : Nat := 35
abbrev T_octroilaw09_Op : Nat := 52
abbrev T_octroiref09_Rib : Nat := 54
abbrev T_rib_Rib : Nat := 63
abbrev T_rib_key : Nat := 65
abbrev T_trie_Trie : Nat := 82
abbrev T_trie_node : Nat := 87
@[simp] theorem al_24 {h : Hp} {k : Value → Hp → Prop} : arun Try.prog (Instr.alloc 24 true (.tuple #[])) h k = nw h (.cells #[Value.int .u32 0, Value.int .i64 0] 24) fun b h => k (.pointer (some ⟨b, 0, none⟩)) h := arun_alloc (v := Value.agg #[Value.int .u32 0, Value.int .i64 0]) (by kernel_rfl)
@[simp] theorem al_27 {h : Hp} {k : Value → Hp → Prop} : arun Try.prog (Instr.alloc 27 true (.tuple #[])) h k = nw h (.cells #[Value.int .u32 0, Value.int .i64 0, Value.int .i64 0, Value.int .i64 0, Value.int .i64 0, Value.int .i64 0, Value.int .u16 0] 27) fun b h => k (.pointer (some ⟨b, 0, none⟩)) h := arun_alloc (v := Value.agg #[Value.int .u32 0, Value.int .i64 0, Value.int .i64 0, Value.int .i64 0, Value.int .i64 0, Value.int .i64 0, Value.int .u16 0]) (by kernel_rfl)
@[simp] theorem al_65 {h : Hp} {k : Value → Hp → Prop} : arun Try.prog (Instr.alloc 65 true (.tuple #[])) h k = nw h (.cells #[Value.int .u32 0, Value.int .i64 0, Value.int .i64 0] 65) fun b h => k (.pointer (some ⟨b, 0, none⟩)) h := arun_alloc (v := Value.agg #[Value.int .u32 0, Value.int .i64 0, Value.int .i64 0]) (by kernel_rfl)
@[simp] theorem al_87 {h : Hp} {k : Value → Hp → Prop} : arun Try.prog (Instr.alloc 87 true (.tuple #[])) h k = nw h (.cells #[Value.int .i64 0, Value.int .i64 0, Value.int .i64 0, Value.bool false] 87) fun b h => k (.pointer (some ⟨b, 0, none⟩)) h := arun_alloc (v := Value.agg #[Value.int .i64 0, Value.int .i64 0, Value.int .i64 0, Value.bool false]) (by kernel_rfl)
theorem und_39 : Try.prog.underlying 39 = some (.slice 27) := by kernel_rfl
theorem size_27 : (Try.prog.info? 27).map (·.size) = some 7 := by kernel_rfl
theorem bytes_27 : (Try.prog.info? 27).map (·.bytes) = some 56 := by kernel_rfl
theorem zero_27 : (Try.prog.info? 27).bind (·.zero) = some (Value.agg #[Value.int .u32 0, Value.int .i64 0, Value.int .i64 0, Value.int .i64 0, Value.int .i64 0, Value.int .i64 0, Value.int .u16 0]) := by kernel_rfl
theorem push_api_Route {α : Type} {R b2 o2 c2 : Nat} {enc : α → List Value} {v : Value} {xs : List α} {y : α} {h : Hp} {k : Value → Hp → Prop} (S : SlAt h 27 7 enc v xs) (hy : ldN h b2 o2 7 = some (enc y)) (hyl : (enc y).length = 7) (hone : ∀ u ∈ enc y, oneCell u = true) (hbd : (2 * xs.length + 770) * 56 ≤ 2 ^ 48) (K : ∀ b c cap, (some b = blkOf v ∨ h b = none) → xs.length + 1 ≤ cap → cap * 7 ≤ c.size → Enc c 0 7 enc (xs ++ [y]) → k (.slice (some ⟨b, 0, none⟩) (xs.length + 1) cap) (h.upd b (.cells c 27 (0, 0)))) :
    arun Try.prog (Builtin.append_ #[39, 39] R #[v, .slice (some ⟨b2, o2, none⟩) 1 c2]) h k := arun_push und_39 und_39 size_27 bytes_27 zero_27 (by decide) rfl S hy hyl hone hbd K
theorem und_68 : Try.prog.underlying 68 = some (.slice 24) := by kernel_rfl
theorem size_24 : (Try.prog.info? 24).map (·.size) = some 2 := by kernel_rfl
theorem bytes_24 : (Try.prog.info? 24).map (·.bytes) = some 16 := by kernel_rfl
theorem zero_24 : (Try.prog.info? 24).bind (·.zero) = some (Value.agg #[Value.int .u32 0, Value.int .i64 0]) := by kernel_rfl
theorem push_api_Prefix {α : Type} {R b2 o2 c2 : Nat} {enc : α → List Value} {v : Value} {xs : List α} {y : α} {h : Hp} {k : Value → Hp → Prop} (S : SlAt h 24 2 enc v xs) (hy : ldN h b2 o2 2 = some (enc y)) (hyl : (enc y).length = 2) (hone : ∀ u ∈ enc y, oneCell u = true) (hbd : (2 * xs.length + 770) * 16 ≤ 2 ^ 48) (K : ∀ b c cap, (some b = blkOf v ∨ h b = none) → xs.length + 1 ≤ cap → cap * 2 ≤ c.size → Enc c 0 2 enc (xs ++ [y]) → k (.slice (some ⟨b, 0, none⟩) (xs.length + 1) cap) (h.upd b (.cells c 24 (0, 0)))) :
    arun Try.prog (Builtin.append_ #[68, 68] R #[v, .slice (some ⟨b2, o2, none⟩) 1 c2]) h k := arun_push und_68 und_68 size_24 bytes_24 zero_24 (by decide) rfl S hy hyl hone hbd K
theorem und_80 : Try.prog.underlying 80 = some (.slice 87) := by kernel_rfl
theorem size_87 : (Try.prog.info? 87).map (·.size) = some 4 := by kernel_rfl
theorem bytes_87 : (Try.prog.info? 87).map (·.bytes) = some 32 := by kernel_rfl
theorem zero_87 : (Try.prog.info? 87).bind (·.zero) = some (Value.agg #[Value.int .i64 0, Value.int .i64 0, Value.int .i64 0, Value.bool false]) := by kernel_rfl
theorem push_trie_node {α : Type} {R b2 o2 c2 : Nat} {enc : α → List Value} {v : Value} {xs : List α} {y : α} {h : Hp} {k : Value → Hp → Prop} (S : SlAt h 87 4 enc v xs) (hy : ldN h b2 o2 4 = some (enc y)) (hyl : (enc y).length = 4) (hone : ∀ u ∈ enc y, oneCell u = true) (hbd : (2 * xs.length + 770) * 32 ≤ 2 ^ 48) (K : ∀ b c cap, (some b = blkOf v ∨ h b = none) → xs.length + 1 ≤ cap → cap * 4 ≤ c.size → Enc c 0 4 enc (xs ++ [y]) → k (.slice (some ⟨b, 0, none⟩) (xs.length + 1) cap) (h.upd b (.cells c 87 (0, 0)))) :
    arun Try.prog (Builtin.append_ #[80, 80] R #[v, .slice (some ⟨b2, o2, none⟩) 1 c2]) h k := arun_push und_80 und_80 size_87 bytes_87 zero_87 (by decide) rfl S hy hyl hone hbd K
@[simp] theorem bd_24_ {h : Hp}  : rrun Try.prog (Instr.build 24 #[]) h = some (.agg #[Value.int .u32 0, Value.int .i64 0]) := by kernel_rfl
@[simp] theorem bd_24_0_1 {h : Hp} {x0 : Int} {x1 : Int} : rrun Try.prog (Instr.build 24 #[(0, Value.int .u32 x0), (1, Value.int .i64 x1)]) h = some (.agg #[Value.int .u32 x0, Value.int .i64 x1]) := by kernel_rfl
@[simp] theorem bd_24_1 {h : Hp} {x1 : Int} : rrun Try.prog (Instr.build 24 #[(1, Value.int .i64 x1)]) h = some (.agg #[Value.int .u32 0, Value.int .i64 x1]) := by kernel_rfl
@[simp] theorem bd_27_ {h : Hp}  : rrun Try.prog (Instr.build 27 #[]) h = some (.agg #[Value.int .u32 0, Value.int .i64 0, Value.int .i64 0, Value.int .i64 0, Value.int .i64 0, Value.int .i64 0, Value.int .u16 0]) := by kernel_rfl
@[simp] theorem bd_27_0_1 {h : Hp} {x0_0 : Int} {x0_1 : Int} {x1 : Int} : rrun Try.prog (Instr.build 27 #[(0, Value.agg #[Value.int .u32 x0_0, Value.int .i64 x0_1]), (1, Value.int .i64 x1)]) h = some (.agg #[Value.int .u32 x0_0, Value.int .i64 x0_1, Value.int .i64 x1, Value.int .i64 0, Value.int .i64 0, Value.int .i64 0, Value.int .u16 0]) := by kernel_rfl
@[simp] theorem bd_27_1_2_3_5 {h : Hp} {x1 : Int} {x2 : Int} {x3 : Int} {x5 : Int} : rrun Try.prog (Instr.build 27 #[(1, Value.int .i64 x1), (2, Value.int .i64 x2), (3, Value.int .i64 x3), (5, Value.int .u16 x5)]) h = some (.agg #[Value.int .u32 0, Value.int .i64 0, Value.int .i64 x1, Value.int .i64 x2, Value.int .i64 x3, Value.int .i64 0, Value.int .u16 x5]) := by kernel_rfl
@[simp] theorem bd_27_2_3 {h : Hp} {x2 : Int} {x3 : Int} : rrun Try.prog (Instr.build 27 #[(2, Value.int .i64 x2), (3, Value.int .i64 x3)]) h = some (.agg #[Value.int .u32 0, Value.int .i64 0, Value.int .i64 0, Value.int .i64 x2, Value.int .i64 x3, Value.int .i64 0, Value.int .u16 0]) := by kernel_rfl
@[simp] theorem bd_54_0 {h : Hp} {x0 : Int} : rrun Try.prog (Instr.build 54 #[(0, Value.int .i64 x0)]) h = some (.agg #[Value.int .i64 x0, Value.slice none 0 0, Value.int .i64 0]) := by kernel_rfl
@[simp] theorem bd_63_0_2_3 {h : Hp} {x0 : Int} {x2 : Option Nat} {x3 : Option Addr} : rrun Try.prog (Instr.build 63 #[(0, Value.int .i64 x0), (2, Value.map x2), (3, Value.pointer x3)]) h = some (.agg #[Value.int .i64 x0, Value.int .i64 0, Value.map x2, Value.pointer x3]) := by kernel_rfl
@[simp] theorem bd_65_0_1 {h : Hp} {x0_0 : Int} {x0_1 : Int} {x1 : Int} : rrun Try.prog (Instr.build 65 #[(0, Value.agg #[Value.int .u32 x0_0, Value.int .i64 x0_1]), (1, Value.int .i64 x1)]) h = some (.agg #[Value.int .u32 x0_0, Value.int .i64 x0_1, Value.int .i64 x1]) := by kernel_rfl
@[simp] theorem bd_82_0_2 {h : Hp} {x0 : Int} {x2a : Option Addr} {x2n x2c : Nat} : rrun Try.prog (Instr.build 82 #[(0, Value.int .i64 x0), (2, Value.slice x2a x2n x2c)]) h = some (.agg #[Value.int .i64 x0, Value.int .i64 0, Value.slice x2a x2n x2c]) := by kernel_rfl
@[simp] theorem bd_87_ {h : Hp}  : rrun Try.prog (Instr.build 87 #[]) h = some (.agg #[Value.int .i64 0, Value.int .i64 0, Value.int .i64 0, Value.bool false]) := by kernel_rfl
@[simp] theorem bs_39_1_0 {h : Hp} {x0_0_0 : Int} {x0_0_1 : Int} {x0_1 : Int} {x0_2 : Int} {x0_3 : Int} {x0_4 : Int} {x0_5 : Int} {k : Value → Hp → Prop} : arun Try.prog (Instr.buildSlice 39 1 #[(0, Value.agg #[Value.int .u32 x0_0_0, Value.int .i64 x0_0_1, Value.int .i64 x0_1, Value.int .i64 x0_2, Value.int .i64 x0_3, Value.int .i64 x0_4, Value.int .u16 x0_5])]) h k = nw h (.cells #[Value.int .u32 x0_0_0, Value.int .i64 x0_0_1, Value.int .i64 x0_1, Value.int .i64 x0_2, Value.int .i64 x0_3, Value.int .i64 x0_4, Value.int .u16 x0_5] 27) fun b h => k (.slice (some ⟨b, 0, none⟩) 1 1) h := by kernel_rfl
@[simp] theorem bs_68_1_0 {h : Hp} {x0_0 : Int} {x0_1 : Int} {k : Value → Hp → Prop} : arun Try.prog (Instr.buildSlice 68 1 #[(0, Value.agg #[Value.int .u32 x0_0, Value.int .i64 x0_1])]) h k = nw h (.cells #[Value.int .u32 x0_0, Value.int .i64 x0_1] 24) fun b h => k (.slice (some ⟨b, 0, none⟩) 1 1) h := by kernel_rfl
@[simp] theorem bs_80_1_0 {h : Hp} {x0_0_0 : Int} {x0_0_1 : Int} {x0_1 : Int} {x0_2 : Bool} {k : Value → Hp → Prop} : arun Try.prog (Instr.buildSlice 80 1 #[(0, Value.agg #[Value.int .i64 x0_0_0, Value.int .i64 x0_0_1, Value.int .i64 x0_1, Value.bool x0_2])]) h k = nw h (.cells #[Value.int .i64 x0_0_0, Value.int .i64 x0_0_1, Value.int .i64 x0_1, Value.bool x0_2] 87) fun b h => k (.slice (some ⟨b, 0, none⟩) 1 1) h := by kernel_rfl
@[simp] theorem bs_92_6_0_1_2_3_4_5 {h : Hp} {x0 : Int} {x1 : Int} {x2 : Int} {x3 : Int} {x4 : Int} {x5 : Int} {k : Value → Hp → Prop} : arun Try.prog (Instr.buildSlice 92 6 #[(0, Value.int .i64 x0), (1, Value.int .i64 x1), (2, Value.int .i64 x2), (3, Value.int .i64 x3), (4, Value.int .i64 x4), (5, Value.int .i64 x5)]) h k = nw h (.cells #[Value.int .i64 x0, Value.int .i64 x1, Value.int .i64 x2, Value.int .i64 x3, Value.int .i64 x4, Value.int .i64 x5] 3) fun b h => k (.slice (some ⟨b, 0, none⟩) 6 6) h := by kernel_rfl
@[simp] theorem cv_22_3 {h : Hp} {x : Int} : rrun Try.prog (convert 22 3 (.int .u32 x)) h = some (.int .i64 (IntKind.i64.wrap x)) := by kernel_rfl
@[simp] theorem cv_25_3 {h : Hp} {x : Int} : rrun Try.prog (convert 25 3 (.int .u16 x)) h = some (.int .i64 (IntKind.i64.wrap x)) := by kernel_rfl
@[simp] theorem cv_3_22 {h : Hp} {x : Int} : rrun Try.prog (convert 3 22 (.int .i64 x)) h = some (.int .u32 (IntKind.u32.wrap x)) := by kernel_rfl
theorem eql_24_raw {h : Hp} {x y : Operand} {p_0 : Int} {p_1 : Int} {q_0 : Int} {q_1 : Int} : rrun Try.prog (bop .eql 24 x y (Value.agg #[Value.int .u32 p_0, Value.int .i64 p_1]) (Value.agg #[Value.int .u32 q_0, Value.int .i64 q_1])) h = some (.bool ((decide (p_0 = q_0) && (decide (p_1 = q_1) && true)))) :=
  rr_eql_struct Try.underlying24 (by kernel_rfl) (by kernel_rfl) (rr_eqf_cons (a := Value.int .u32 p_0) (b := Value.int .u32 q_0) (by rfl) (by kernel_rfl) (by kernel_rfl) (by kernel_rfl) (rr_eqf_cons (a := Value.int .i64 p_1) (b := Value.int .i64 q_1) (by rfl) (by kernel_rfl) (by kernel_rfl) (by kernel_rfl) rr_eqf_nil))
@[simp] theorem eql_24 {h : Hp} {x y : Operand} {p_0 : Int} {p_1 : Int} {q_0 : Int} {q_1 : Int} : rrun Try.prog (bop .eql 24 x y (Value.agg #[Value.int .u32 p_0, Value.int .i64 p_1]) (Value.agg #[Value.int .u32 q_0, Value.int .i64 q_1])) h = some (.bool ((decide (p_0 = q_0) && (decide (p_1 = q_1))))) := by
  rw [eql_24_raw]; simp only [Bool.and_true]
theorem eql_27_raw {h : Hp} {x y : Operand} {p_0_0 : Int} {p_0_1 : Int} {p_1 : Int} {p_2 : Int} {p_3 : Int} {p_4 : Int} {p_5 : Int} {q_0_0 : Int} {q_0_1 : Int} {q_1 : Int} {q_2 : Int} {q_3 : Int} {q_4 : Int} {q_5 : Int} : rrun Try.prog (bop .eql 27 x y (Value.agg #[Value.int .u32 p_0_0, Value.int .i64 p_0_1, Value.int .i64 p_1, Value.int .i64 p_2, Value.int .i64 p_3, Value.int .i64 p_4, Value.int .u16 p_5]) (Value.agg #[Value.int .u32 q_0_0, Value.int .i64 q_0_1, Value.int .i64 q_1, Value.int .i64 q_2, Value.int .i64 q_3, Value.int .i64 q_4, Value.int .u16 q_5])) h = some (.bool (((decide (p_0_0 = q_0_0) && (decide (p_0_1 = q_0_1) && true)) && (decide (p_1 = q_1) && (decide (p_2 = q_2) && (decide (p_3 = q_3) && (decide (p_4 = q_4) && (decide (p_5 = q_5) && true)))))))) :=
  rr_eql_struct Try.underlying27 (by kernel_rfl) (by kernel_rfl) (rr_eqf_cons (a := Value.agg #[Value.int .u32 p_0_0, Value.int .i64 p_0_1]) (b := Value.agg #[Value.int .u32 q_0_0, Value.int .i64 q_0_1]) (by rfl) (by kernel_rfl) (by kernel_rfl) ((rr_equalIn_struct Try.underlying24 (by kernel_rfl)).trans (rr_eqf_cons (a := Value.int .u32 p_0_0) (b := Value.int .u32 q_0_0) (by rfl) (by kernel_rfl) (by kernel_rfl) (by kernel_rfl) (rr_eqf_cons (a := Value.int .i64 p_0_1) (b := Value.int .i64 q_0_1) (by rfl) (by kernel_rfl) (by kernel_rfl) (by kernel_rfl) rr_eqf_nil))) (rr_eqf_cons (a := Value.int .i64 p_1) (b := Value.int .i64 q_1) (by rfl) (by kernel_rfl) (by kernel_rfl) (by kernel_rfl) (rr_eqf_cons (a := Value.int .i64 p_2) (b := Value.int .i64 q_2) (by rfl) (by kernel_rfl) (by kernel_rfl) (by kernel_rfl) (rr_eqf_cons (a := Value.int .i64 p_3) (b := Value.int .i64 q_3) (by rfl) (by kernel_rfl) (by kernel_rfl) (by kernel_rfl) (rr_eqf_cons (a := Value.int .i64 p_4) (b := Value.int .i64 q_4) (by rfl) (by kernel_rfl) (by kernel_rfl) (by kernel_rfl) (rr_eqf_cons (a := Value.int .u16 p_5) (b := Value.int .u16 q_5) (by rfl) (by kernel_rfl) (by kernel_rfl) (by kernel_rfl) rr_eqf_nil))))))
@[simp] theorem eql_27 {h : Hp} {x y : Operand} {p_0_0 : Int} {p_0_1 : Int} {p_1 : Int} {p_2 : Int} {p_3 : Int} {p_4 : Int} {p_5 : Int} {q_0_0 : Int} {q_0_1 : Int} {q_1 : Int} {q_2 : Int} {q_3 : Int} {q_4 : Int} {q_5 : Int} : rrun Try.prog (bop .eql 27 x y (Value.agg #[Value.int .u32 p_0_0, Value.int .i64 p_0_1, Value.int .i64 p_1, Value.int .i64 p_2, Value.int .i64 p_3, Value.int .i64 p_4, Value.int .u16 p_5]) (Value.agg #[Value.int .u32 q_0_0, Value.int .i64 q_0_1, Value.int .i64 q_1, Value.int .i64 q_2, Value.int .i64 q_3, Value.int .i64 q_4, Value.int .u16 q_5])) h = some (.bool (((decide (p_0_0 = q_0_0) && (decide (p_0_1 = q_0_1))) && (decide (p_1 = q_1) && (decide (p_2 = q_2) && (decide (p_3 = q_3) && (decide (p_4 = q_4) && (decide (p_5 = q_5))))))))) := by
  rw [eql_27_raw]; simp only [Bool.and_true]
@[simp] theorem eql_33_sn {h : Hp} {x y : Operand} {a : Addr} : rrun Try.prog (bop .eql 33 x y (.pointer (some a)) (.pointer none)) h = some (.bool false) := by kernel_rfl
@[simp] theorem eql_33_nn {h : Hp} {x y : Operand} {p : Option Addr} : rrun Try.prog (bop .eql 33 x y (.pointer none) (.pointer p)) h = some (.bool (p.isNone)) := by kernel_rfl
@[simp] theorem eql_4 {h : Hp} {x y : Operand} {a b : Bool} : rrun Try.prog (bop .eql 4 x y (.bool a) (.bool b)) h = some (.bool (decide (a = b))) := by kernel_rfl
@[simp] theorem eql_83_sn {h : Hp} {x y : Operand} {a : Addr} : rrun Try.prog (bop .eql 83 x y (.pointer (some a)) (.pointer none)) h = some (.bool false) := by kernel_rfl
@[simp] theorem eql_83_nn {h : Hp} {x y : Operand} {p : Option Addr} : rrun Try.prog (bop .eql 83 x y (.pointer none) (.pointer p)) h = some (.bool (p.isNone)) := by kernel_rfl
theorem neq_24_raw {h : Hp} {x y : Operand} {p_0 : Int} {p_1 : Int} {q_0 : Int} {q_1 : Int} : rrun Try.prog (bop .neq 24 x y (Value.agg #[Value.int .u32 p_0, Value.int .i64 p_1]) (Value.agg #[Value.int .u32 q_0, Value.int .i64 q_1])) h = some (.bool (!(decide (p_0 = q_0) && (decide (p_1 = q_1) && true)))) :=
  rr_neq_struct Try.underlying24 (by kernel_rfl) (by kernel_rfl) (rr_eqf_cons (a := Value.int .u32 p_0) (b := Value.int .u32 q_0) (by rfl) (by kernel_rfl) (by kernel_rfl) (by kernel_rfl) (rr_eqf_cons (a := Value.int .i64 p_1) (b := Value.int .i64 q_1) (by rfl) (by kernel_rfl) (by kernel_rfl) (by kernel_rfl) rr_eqf_nil))
@[simp] theorem neq_24 {h : Hp} {x y : Operand} {p_0 : Int} {p_1 : Int} {q_0 : Int} {q_1 : Int} : rrun Try.prog (bop .neq 24 x y (Value.agg #[Value.int .u32 p_0, Value.int .i64 p_1]) (Value.agg #[Value.int .u32 q_0, Value.int .i64 q_1])) h = some (.bool (!(decide (p_0 = q_0) && (decide (p_1 = q_1))))) := by
  rw [neq_24_raw]; simp only [Bool.and_true]
theorem neq_27_raw {h : Hp} {x y : Operand} {p_0_0 : Int} {p_0_1 : Int} {p_1 : Int} {p_2 : Int} {p_3 : Int} {p_4 : Int} {p_5 : Int} {q_0_0 : Int} {q_0_1 : Int} {q_1 : Int} {q_2 : Int} {q_3 : Int} {q_4 : Int} {q_5 : Int} : rrun Try.prog (bop .neq 27 x y (Value.agg #[Value.int .u32 p_0_0, Value.int .i64 p_0_1, Value.int .i64 p_1, Value.int .i64 p_2, Value.int .i64 p_3, Value.int .i64 p_4, Value.int .u16 p_5]) (Value.agg #[Value.int .u32 q_0_0, Value.int .i64 q_0_1, Value.int .i64 q_1, Value.int .i64 q_2, Value.int .i64 q_3, Value.int .i64 q_4, Value.int .u16 q_5])) h = some (.bool (!((decide (p_0_0 = q_0_0) && (decide (p_0_1 = q_0_1) && true)) && (decide (p_1 = q_1) && (decide (p_2 = q_2) && (decide (p_3 = q_3) && (decide (p_4 = q_4) && (decide (p_5 = q_5) && true)))))))) :=
  rr_neq_struct Try.underlying27 (by kernel_rfl) (by kernel_rfl) (rr_eqf_cons (a := Value.agg #[Value.int .u32 p_0_0, Value.int .i64 p_0_1]) (b := Value.agg #[Value.int .u32 q_0_0, Value.int .i64 q_0_1]) (by rfl) (by kernel_rfl) (by kernel_rfl) ((rr_equalIn_struct Try.underlying24 (by kernel_rfl)).trans (rr_eqf_cons (a := Value.int .u32 p_0_0) (b := Value.int .u32 q_0_0) (by rfl) (by kernel_rfl) (by kernel_rfl) (by kernel_rfl) (rr_eqf_cons (a := Value.int .i64 p_0_1) (b := Value.int .i64 q_0_1) (by rfl) (by kernel_rfl) (by kernel_rfl) (by kernel_rfl) rr_eqf_nil))) (rr_eqf_cons (a := Value.int .i64 p_1) (b := Value.int .i64 q_1) (by rfl) (by kernel_rfl) (by kernel_rfl) (by kernel_rfl) (rr_eqf_cons (a := Value.int .i64 p_2) (b := Value.int .i64 q_2) (by rfl) (by kernel_rfl) (by kernel_rfl) (by kernel_rfl) (rr_eqf_cons (a := Value.int .i64 p_3) (b := Value.int .i64 q_3) (by rfl) (by kernel_rfl) (by kernel_rfl) (by kernel_rfl) (rr_eqf_cons (a := Value.int .i64 p_4) (b := Value.int .i64 q_4) (by rfl) (by kernel_rfl) (by kernel_rfl) (by kernel_rfl) (rr_eqf_cons (a := Value.int .u16 p_5) (b := Value.int .u16 q_5) (by rfl) (by kernel_rfl) (by kernel_rfl) (by kernel_rfl) rr_eqf_nil))))))
@[simp] theorem neq_27 {h : Hp} {x y : Operand} {p_0_0 : Int} {p_0_1 : Int} {p_1 : Int} {p_2 : Int} {p_3 : Int} {p_4 : Int} {p_5 : Int} {q_0_0 : Int} {q_0_1 : Int} {q_1 : Int} {q_2 : Int} {q_3 : Int} {q_4 : Int} {q_5 : Int} : rrun Try.prog (bop .neq 27 x y (Value.agg #[Value.int .u32 p_0_0, Value.int .i64 p_0_1, Value.int .i64 p_1, Value.int .i64 p_2, Value.int .i64 p_3, Value.int .i64 p_4, Value.int .u16 p_5]) (Value.agg #[Value.int .u32 q_0_0, Value.int .i64 q_0_1, Value.int .i64 q_1, Value.int .i64 q_2, Value.int .i64 q_3, Value.int .i64 q_4, Value.int .u16 q_5])) h = some (.bool (!((decide (p_0_0 = q_0_0) && (decide (p_0_1 = q_0_1))) && (decide (p_1 = q_1) && (decide (p_2 = q_2) && (decide (p_3 = q_3) && (decide (p_4 = q_4) && (decide (p_5 = q_5))))))))) := by
  rw [neq_27_raw]; simp only [Bool.and_true]
@[simp] theorem neq_33_sn {h : Hp} {x y : Operand} {a : Addr} : rrun Try.prog (bop .neq 33 x y (.pointer (some a)) (.pointer none)) h = some (.bool true) := by kernel_rfl
@[simp] theorem neq_33_nn {h : Hp} {x y : Operand} {p : Option Addr} : rrun Try.prog (bop .neq 33 x y (.pointer none) (.pointer p)) h = some (.bool (!p.isNone)) := by kernel_rfl
@[simp] theorem neq_4 {h : Hp} {x y : Operand} {a b : Bool} : rrun Try.prog (bop .neq 4 x y (.bool a) (.bool b)) h = some (.bool (!decide (a = b))) := by kernel_rfl
@[simp] theorem neq_83_sn {h : Hp} {x y : Operand} {a : Addr} : rrun Try.prog (bop .neq 83 x y (.pointer (some a)) (.pointer none)) h = some (.bool true) := by kernel_rfl
@[simp] theorem neq_83_nn {h : Hp} {x y : Operand} {p : Option Addr} : rrun Try.prog (bop .neq 83 x y (.pointer none) (.pointer p)) h = some (.bool (!p.isNone)) := by kernel_rfl
@[simp] theorem fa_24_0 {h : Hp} {b o : Nat} : rrun Try.prog (Instr.fieldAt 24 (.pointer (some ⟨b, o, none⟩)) 0) h = some (.pointer (some ⟨b, o, none⟩)) := by kernel_rfl
@[simp] theorem fa_24_1 {h : Hp} {b o : Nat} : rrun Try.prog (Instr.fieldAt 24 (.pointer (some ⟨b, o, none⟩)) 1) h = some (.pointer (some ⟨b, o + 1, none⟩)) := by kernel_rfl
@[simp] theorem fa_27_0 {h : Hp} {b o : Nat} : rrun Try.prog (Instr.fieldAt 27 (.pointer (some ⟨b, o, none⟩)) 0) h = some (.pointer (some ⟨b, o, none⟩)) := by kernel_rfl
@[simp] theorem fa_27_1 {h : Hp} {b o : Nat} : rrun Try.prog (Instr.fieldAt 27 (.pointer (some ⟨b, o, none⟩)) 1) h = some (.pointer (some ⟨b, o + 2, none⟩)) := by kernel_rfl
@[simp] theorem fa_27_2 {h : Hp} {b o : Nat} : rrun Try.prog (Instr.fieldAt 27 (.pointer (some ⟨b, o, none⟩)) 2) h = some (.pointer (some ⟨b, o + 3, none⟩)) := by kernel_rfl
@[simp] theorem fa_27_3 {h : Hp} {b o : Nat} : rrun Try.prog (Instr.fieldAt 27 (.pointer (some ⟨b, o, none⟩)) 3) h = some (.pointer (some ⟨b, o + 4, none⟩)) := by kernel_rfl
@[simp] theorem fa_27_4 {h : Hp} {b o : Nat} : rrun Try.prog (Instr.fieldAt 27 (.pointer (some ⟨b, o, none⟩)) 4) h = some (.pointer (some ⟨b, o + 5, none⟩)) := by kernel_rfl
@[simp] theorem fa_27_5 {h : Hp} {b o : Nat} : rrun Try.prog (Instr.fieldAt 27 (.pointer (some ⟨b, o, none⟩)) 5) h = some (.pointer (some ⟨b, o + 6, none⟩)) := by kernel_rfl
@[simp] theorem fa_52_0 {h : Hp} {b o : Nat} : rrun Try.prog (Instr.fieldAt 52 (.pointer (some ⟨b, o, none⟩)) 0) h = some (.pointer (some ⟨b, o, none⟩)) := by kernel_rfl
@[simp] theorem fa_52_1 {h : Hp} {b o : Nat} : rrun Try.prog (Instr.fieldAt 52 (.pointer (some ⟨b, o, none⟩)) 1) h = some (.pointer (some ⟨b, o + 1, none⟩)) := by kernel_rfl
@[simp] theorem fa_54_0 {h : Hp} {b o : Nat} : rrun Try.prog (Instr.fieldAt 54 (.pointer (some ⟨b, o, none⟩)) 0) h = some (.pointer (some ⟨b, o, none⟩)) := by kernel_rfl
@[simp] theorem fa_54_1 {h : Hp} {b o : Nat} : rrun Try.prog (Instr.fieldAt 54 (.pointer (some ⟨b, o, none⟩)) 1) h = some (.pointer (some ⟨b, o + 1, none⟩)) := by kernel_rfl
@[simp] theorem fa_54_2 {h : Hp} {b o : Nat} : rrun Try.prog (Instr.fieldAt 54 (.pointer (some ⟨b, o, none⟩)) 2) h = some (.pointer (some ⟨b, o + 2, none⟩)) := by kernel_rfl
@[simp] theorem fa_63_0 {h : Hp} {b o : Nat} : rrun Try.prog (Instr.fieldAt 63 (.pointer (some ⟨b, o, none⟩)) 0) h = some (.pointer (some ⟨b, o, none⟩)) := by kernel_rfl
@[simp] theorem fa_63_1 {h : Hp} {b o : Nat} : rrun Try.prog (Instr.fieldAt 63 (.pointer (some ⟨b, o, none⟩)) 1) h = some (.pointer (some ⟨b, o + 1, none⟩)) := by kernel_rfl
@[simp] theorem fa_63_2 {h : Hp} {b o : Nat} : rrun Try.prog (Instr.fieldAt 63 (.pointer (some ⟨b, o, none⟩)) 2) h = some (.pointer (some ⟨b, o + 2, none⟩)) := by kernel_rfl
@[simp] theorem fa_63_3 {h : Hp} {b o : Nat} : rrun Try.prog (Instr.fieldAt 63 (.pointer (some ⟨b, o, none⟩)) 3) h = some (.pointer (some ⟨b, o + 3, none⟩)) := by kernel_rfl
@[simp] theorem fa_82_0 {h : Hp} {b o : Nat} : rrun Try.prog (Instr.fieldAt 82 (.pointer (some ⟨b, o, none⟩)) 0) h = some (.pointer (some ⟨b, o, none⟩)) := by kernel_rfl
@[simp] theorem fa_82_1 {h : Hp} {b o : Nat} : rrun Try.prog (Instr.fieldAt 82 (.pointer (some ⟨b, o, none⟩)) 1) h = some (.pointer (some ⟨b, o + 1, none⟩)) := by kernel_rfl
@[simp] theorem fa_82_2 {h : Hp} {b o : Nat} : rrun Try.prog (Instr.fieldAt 82 (.pointer (some ⟨b, o, none⟩)) 2) h = some (.pointer (some ⟨b, o + 2, none⟩)) := by kernel_rfl
@[simp] theorem fa_87_0 {h : Hp} {b o : Nat} : rrun Try.prog (Instr.fieldAt 87 (.pointer (some ⟨b, o, none⟩)) 0) h = some (.pointer (some ⟨b, o, none⟩)) := by kernel_rfl
@[simp] theorem fa_87_1 {h : Hp} {b o : Nat} : rrun Try.prog (Instr.fieldAt 87 (.pointer (some ⟨b, o, none⟩)) 1) h = some (.pointer (some ⟨b, o + 2, none⟩)) := by kernel_rfl
@[simp] theorem fa_87_2 {h : Hp} {b o : Nat} : rrun Try.prog (Instr.fieldAt 87 (.pointer (some ⟨b, o, none⟩)) 2) h = some (.pointer (some ⟨b, o + 3, none⟩)) := by kernel_rfl
@[simp] theorem ia_39 {h : Hp} {b o n c : Nat} {i : Int} (h0 : 0 ≤ i) (h1 : i < (n : Int)) : rrun Try.prog (Instr.indexAt 39 (.slice (some ⟨b, o, none⟩) n c) (.int .i64 i)) h = some (.pointer (some ⟨b, o + i.toNat * 7, none⟩)) := rr_indexAt_slice und_39 size_27 h0 h1
theorem und_48 : Try.prog.underlying 48 = some (.slice 52) := by kernel_rfl
theorem size_52 : (Try.prog.info? 52).map (·.size) = some 8 := by kernel_rfl
@[simp] theorem ia_48 {h : Hp} {b o n c : Nat} {i : Int} (h0 : 0 ≤ i) (h1 : i < (n : Int)) : rrun Try.prog (Instr.indexAt 48 (.slice (some ⟨b, o, none⟩) n c) (.int .i64 i)) h = some (.pointer (some ⟨b, o + i.toNat * 8, none⟩)) := rr_indexAt_slice und_48 size_52 h0 h1
@[simp] theorem ia_68 {h : Hp} {b o n c : Nat} {i : Int} (h0 : 0 ≤ i) (h1 : i < (n : Int)) : rrun Try.prog (Instr.indexAt 68 (.slice (some ⟨b, o, none⟩) n c) (.int .i64 i)) h = some (.pointer (some ⟨b, o + i.toNat * 2, none⟩)) := rr_indexAt_slice und_68 size_24 h0 h1
@[simp] theorem ia_80 {h : Hp} {b o n c : Nat} {i : Int} (h0 : 0 ≤ i) (h1 : i < (n : Int)) : rrun Try.prog (Instr.indexAt 80 (.slice (some ⟨b, o, none⟩) n c) (.int .i64 i)) h = some (.pointer (some ⟨b, o + i.toNat * 4, none⟩)) := rr_indexAt_slice und_80 size_87 h0 h1
theorem und_85 : Try.prog.underlying 85 = some (.array 2 3) := by kernel_rfl
theorem size_3 : (Try.prog.info? 3).map (·.size) = some 1 := by kernel_rfl
@[simp] theorem ia_85 {h : Hp} {b o : Nat} {i : Int} (h0 : 0 ≤ i) (h1 : i < 2) : rrun Try.prog (Instr.indexAt 85 (.pointer (some ⟨b, o, none⟩)) (.int .i64 i)) h = some (.pointer (some ⟨b, o + i.toNat * 1, none⟩)) := rr_indexAt_array und_85 size_3 h0 h1
theorem und_92 : Try.prog.underlying 92 = some (.slice 3) := by kernel_rfl
@[simp] theorem ia_92 {h : Hp} {b o n c : Nat} {i : Int} (h0 : 0 ≤ i) (h1 : i < (n : Int)) : rrun Try.prog (Instr.indexAt 92 (.slice (some ⟨b, o, none⟩) n c) (.int .i64 i)) h = some (.pointer (some ⟨b, o + i.toNat * 1, none⟩)) := rr_indexAt_slice und_92 size_3 h0 h1
@[simp] theorem ix_85 {h : Hp} {cs : Array Value} {i : Int} (h0 : 0 ≤ i) (h1 : i < 2) : rrun Try.prog (Instr.index 85 (.agg cs) (.int .i64 i)) h = cs[i.toNat]? := rr_index_array und_85 size_3 (by kernel_rfl) h0 h1
@[simp] theorem ld_22 {h : Hp} {a : Addr} : rrun Try.prog (Instr.loadAt 22 (.pointer (some a))) h = h.cell? a := rr_load_one (by kernel_rfl)
@[simp] theorem ld_24 {h : Hp} {b o : Nat} : rrun Try.prog (Instr.loadAt 24 (.pointer (some ⟨b, o, none⟩))) h = (ldN h b o 2).map fun l => .agg l.toArray := rr_load_agg (by kernel_rfl) (by kernel_rfl)
@[simp] theorem ld_25 {h : Hp} {a : Addr} : rrun Try.prog (Instr.loadAt 25 (.pointer (some a))) h = h.cell? a := rr_load_one (by kernel_rfl)
@[simp] theorem ld_27 {h : Hp} {b o : Nat} : rrun Try.prog (Instr.loadAt 27 (.pointer (some ⟨b, o, none⟩))) h = (ldN h b o 7).map fun l => .agg l.toArray := rr_load_agg (by kernel_rfl) (by kernel_rfl)
@[simp] theorem ld_3 {h : Hp} {a : Addr} : rrun Try.prog (Instr.loadAt 3 (.pointer (some a))) h = h.cell? a := rr_load_one (by kernel_rfl)
@[simp] theorem ld_39 {h : Hp} {a : Addr} : rrun Try.prog (Instr.loadAt 39 (.pointer (some a))) h = h.cell? a := rr_load_one (by kernel_rfl)
@[simp] theorem ld_4 {h : Hp} {a : Addr} : rrun Try.prog (Instr.loadAt 4 (.pointer (some a))) h = h.cell? a := rr_load_one (by kernel_rfl)
@[simp] theorem ld_59 {h : Hp} {a : Addr} : rrun Try.prog (Instr.loadAt 59 (.pointer (some a))) h = h.cell? a := rr_load_one (by kernel_rfl)
@[simp] theorem ld_60 {h : Hp} {a : Addr} : rrun Try.prog (Instr.loadAt 60 (.pointer (some a))) h = h.cell? a := rr_load_one (by kernel_rfl)
@[simp] theorem ld_65 {h : Hp} {b o : Nat} : rrun Try.prog (Instr.loadAt 65 (.pointer (some ⟨b, o, none⟩))) h = (ldN h b o 3).map fun l => .agg l.toArray := rr_load_agg (by kernel_rfl) (by kernel_rfl)
@[simp] theorem ld_80 {h : Hp} {a : Addr} : rrun Try.prog (Instr.loadAt 80 (.pointer (some a))) h = h.cell? a := rr_load_one (by kernel_rfl)
@[simp] theorem ld_85 {h : Hp} {b o : Nat} : rrun Try.prog (Instr.loadAt 85 (.pointer (some ⟨b, o, none⟩))) h = (ldN h b o 2).map fun l => .agg l.toArray := rr_load_agg (by kernel_rfl) (by kernel_rfl)
@[simp] theorem ld_87 {h : Hp} {b o : Nat} : rrun Try.prog (Instr.loadAt 87 (.pointer (some ⟨b, o, none⟩))) h = (ldN h b o 4).map fun l => .agg l.toArray := rr_load_agg (by kernel_rfl) (by kernel_rfl)
@[simp] theorem ln_39 {h : Hp} {a : Option Addr} {n c : Nat} : rrun Try.prog (Builtin.len_ #[39] 3 #[.slice a n c]) h = some (.int .i64 n) := by kernel_rfl
@[simp] theorem ln_48 {h : Hp} {a : Option Addr} {n c : Nat} : rrun Try.prog (Builtin.len_ #[48] 3 #[.slice a n c]) h = some (.int .i64 n) := by kernel_rfl
@[simp] theorem ln_59 {h : Hp} {r : Nat} {es : Array MapEntry} {cl : Nat} (hm : h r = some (.map es cl)) : rrun Try.prog (Builtin.len_ #[59] 3 #[.map (some r)]) h = some (.int .i64 es.size) := by
  have e : rrun Try.prog (Builtin.len_ #[59] 3 #[.map (some r)]) h = rrun Try.prog (Sem.getObj r fun o => match o with | .map es _ => .pure (.int .i64 es.size) | _ => stuck "len: map expected") h := by kernel_rfl
  rw [e]; simp only [rrun, hm, isRow]
@[simp] theorem ln_68 {h : Hp} {a : Option Addr} {n c : Nat} : rrun Try.prog (Builtin.len_ #[68] 3 #[.slice a n c]) h = some (.int .i64 n) := by kernel_rfl
@[simp] theorem ln_80 {h : Hp} {a : Option Addr} {n c : Nat} : rrun Try.prog (Builtin.len_ #[80] 3 #[.slice a n c]) h = some (.int .i64 n) := by kernel_rfl
@[simp] theorem ln_92 {h : Hp} {a : Option Addr} {n c : Nat} : rrun Try.prog (Builtin.len_ #[92] 3 #[.slice a n c]) h = some (.int .i64 n) := by kernel_rfl
@[simp] theorem mi_9 {h : Hp} {x : Value} : rrun Try.prog (Instr.makeInterface 9 x) h = some (.iface 9 x) := by kernel_rfl
theorem ck_59 {h : Hp} {e : Bool} {p_0_0 : Int} {p_0_1 : Int} {p_1 : Int} : rrun Try.prog (Instr.checkKey e 10000 65 (Value.agg #[Value.int .u32 p_0_0, Value.int .i64 p_0_1, Value.int .i64 p_1])) h = some () := by kernel_rfl
theorem sb_59 {p_0_0 : Int} {p_0_1 : Int} {p_1 : Int} : Instr.sameBits 10000 (Value.agg #[Value.int .u32 p_0_0, Value.int .i64 p_0_1, Value.int .i64 p_1]) (Value.agg #[Value.int .u32 p_0_0, Value.int .i64 p_0_1, Value.int .i64 p_1]) = true := by simp [Instr.sameBits]
theorem keq_59 {h : Hp} {p_0_0 : Int} {p_0_1 : Int} {p_1 : Int} {q_0_0 : Int} {q_0_1 : Int} {q_1 : Int} : rrun Try.prog (Op.equal 65 (Value.agg #[Value.int .u32 p_0_0, Value.int .i64 p_0_1, Value.int .i64 p_1]) (Value.agg #[Value.int .u32 q_0_0, Value.int .i64 q_0_1, Value.int .i64 q_1])) h = some ((decide (p_0_0 = q_0_0) && (decide (p_0_1 = q_0_1) && true)) && (decide (p_1 = q_1) && true)) := by
  rw [show Op.equal 65 (Value.agg #[Value.int .u32 p_0_0, Value.int .i64 p_0_1, Value.int .i64 p_1]) (Value.agg #[Value.int .u32 q_0_0, Value.int .i64 q_0_1, Value.int .i64 q_1]) = Op.equalIn (9999 + 1) 65 (Value.agg #[Value.int .u32 p_0_0, Value.int .i64 p_0_1, Value.int .i64 p_1]) (Value.agg #[Value.int .u32 q_0_0, Value.int .i64 q_0_1, Value.int .i64 q_1]) from rfl, rr_equalIn_struct Try.underlying65 (by kernel_rfl)]
  exact (rr_eqf_cons (a := Value.agg #[Value.int .u32 p_0_0, Value.int .i64 p_0_1]) (b := Value.agg #[Value.int .u32 q_0_0, Value.int .i64 q_0_1]) (by rfl) (by kernel_rfl) (by kernel_rfl) ((rr_equalIn_struct Try.underlying24 (by kernel_rfl)).trans (rr_eqf_cons (a := Value.int .u32 p_0_0) (b := Value.int .u32 q_0_0) (by rfl) (by kernel_rfl) (by kernel_rfl) (by kernel_rfl) (rr_eqf_cons (a := Value.int .i64 p_0_1) (b := Value.int .i64 q_0_1) (by rfl) (by kernel_rfl) (by kernel_rfl) (by kernel_rfl) rr_eqf_nil))) (rr_eqf_cons (a := Value.int .i64 p_1) (b := Value.int .i64 q_1) (by rfl) (by kernel_rfl) (by kernel_rfl) (by kernel_rfl) rr_eqf_nil))
@[simp] theorem ms_80_1_1 {h : Hp} {k : Value → Hp → Prop} : arun Try.prog (Instr.makeSlice 80 (Go.Value.int Go.IntKind.i64 1) (Go.Value.int Go.IntKind.i64 1)) h k = nw h (.cells #[Value.int .i64 0, Value.int .i64 0, Value.int .i64 0, Value.bool false] 87) fun b h => k (.slice (some ⟨b, 0, none⟩) 1 1) h := by kernel_rfl
@[simp] theorem st_24 {h : Hp} {b o : Nat} {x_0 : Int} {x_1 : Int} {k : Unit → Hp → Prop} : arun Try.prog (Instr.storeAt 24 (.pointer (some ⟨b, o, none⟩)) (Value.agg #[Value.int .u32 x_0, Value.int .i64 x_1])) h k = stN h b o [Value.int .u32 x_0, Value.int .i64 x_1] (k ()) := arun_store_eq size_24 rfl
@[simp] theorem st_27 {h : Hp} {b o : Nat} {x_0_0 : Int} {x_0_1 : Int} {x_1 : Int} {x_2 : Int} {x_3 : Int} {x_4 : Int} {x_5 : Int} {k : Unit → Hp → Prop} : arun Try.prog (Instr.storeAt 27 (.pointer (some ⟨b, o, none⟩)) (Value.agg #[Value.int .u32 x_0_0, Value.int .i64 x_0_1, Value.int .i64 x_1, Value.int .i64 x_2, Value.int .i64 x_3, Value.int .i64 x_4, Value.int .u16 x_5])) h k = stA h b o [Value.int .u32 x_0_0, Value.int .i64 x_0_1, Value.int .i64 x_1, Value.int .i64 x_2, Value.int .i64 x_3, Value.int .i64 x_4, Value.int .u16 x_5] (k ()) := arun_store_eq size_27 rfl
@[simp] theorem st_3 {h : Hp} {b o : Nat} {x : Int} {k : Unit → Hp → Prop} : arun Try.prog (Instr.storeAt 3 (.pointer (some ⟨b, o, none⟩)) (Value.int .i64 x)) h k = stN h b o [Value.int .i64 x] (k ()) := arun_store_eq size_3 rfl
theorem size_39 : (Try.prog.info? 39).map (·.size) = some 1 := by kernel_rfl
@[simp] theorem st_39 {h : Hp} {b o : Nat} {xa : Option Addr} {xn xc : Nat} {k : Unit → Hp → Prop} : arun Try.prog (Instr.storeAt 39 (.pointer (some ⟨b, o, none⟩)) (Value.slice xa xn xc)) h k = stN h b o [Value.slice xa xn xc] (k ()) := arun_store_eq size_39 rfl
theorem size_4 : (Try.prog.info? 4).map (·.size) = some 1 := by kernel_rfl
@[simp] theorem st_4 {h : Hp} {b o : Nat} {x : Bool} {k : Unit → Hp → Prop} : arun Try.prog (Instr.storeAt 4 (.pointer (some ⟨b, o, none⟩)) (Value.bool x)) h k = stN h b o [Value.bool x] (k ()) := arun_store_eq size_4 rfl
theorem size_65 : (Try.prog.info? 65).map (·.size) = some 3 := by kernel_rfl
@[simp] theorem st_65 {h : Hp} {b o : Nat} {x_0_0 : Int} {x_0_1 : Int} {x_1 : Int} {k : Unit → Hp → Prop} : arun Try.prog (Instr.storeAt 65 (.pointer (some ⟨b, o, none⟩)) (Value.agg #[Value.int .u32 x_0_0, Value.int .i64 x_0_1, Value.int .i64 x_1])) h k = stN h b o [Value.int .u32 x_0_0, Value.int .i64 x_0_1, Value.int .i64 x_1] (k ()) := arun_store_eq size_65 rfl
theorem size_80 : (Try.prog.info? 80).map (·.size) = some 1 := by kernel_rfl
@[simp] theorem st_80 {h : Hp} {b o : Nat} {xa : Option Addr} {xn xc : Nat} {k : Unit → Hp → Prop} : arun Try.prog (Instr.storeAt 80 (.pointer (some ⟨b, o, none⟩)) (Value.slice xa xn xc)) h k = stN h b o [Value.slice xa xn xc] (k ()) := arun_store_eq size_80 rfl
@[simp] theorem st_87 {h : Hp} {b o : Nat} {x_0_0 : Int} {x_0_1 : Int} {x_1 : Int} {x_2 : Bool} {k : Unit → Hp → Prop} : arun Try.prog (Instr.storeAt 87 (.pointer (some ⟨b, o, none⟩)) (Value.agg #[Value.int .i64 x_0_0, Value.int .i64 x_0_1, Value.int .i64 x_1, Value.bool x_2])) h k = stN h b o [Value.int .i64 x_0_0, Value.int .i64 x_0_1, Value.int .i64 x_1, Value.bool x_2] (k ()) := arun_store_eq size_87 rfl
end Go.Proofs.Ytmbhlbohbpepaaa

/- Numbers, and the functions of package prefix: what they answer. -/
namespace Go.Proofs.Ytmbhlbohbpepaaa
open Go

/-! ### Bits -/
def msk (n : Nat) : Nat := 2 ^ 32 - 2 ^ (32 - n)

def maskI (n : Int) : Int := IntKind.u32.wrap (4294967295 * 2 ^ (32 - max 0 (min n 32)).toNat)

theorem maskI_nat {n : Nat} (h : n ≤ 32) : maskI (n : Int) = (msk n : Nat) := by
  have : ∀ k : Fin 33, maskI ((k.1 : Nat) : Int) = (msk k.1 : Nat) := by decide
  exact this ⟨n, by omega⟩

theorem bits_and_u32 {a b : Nat} (ha : a < 2 ^ 32) (hb : b < 2 ^ 32) : bits_and .u32 (a : Int) (b : Int) = ((a &&& b : Nat) : Int) := by
  have h : (BitVec.ofInt 32 (a : Int) &&& BitVec.ofInt 32 (b : Int)).toNat = a &&& b := by
    simp [BitVec.ofInt_natCast, BitVec.toNat_and, Nat.mod_eq_of_lt ha, Nat.mod_eq_of_lt hb]
  show IntKind.u32.wrap ((BitVec.ofInt 32 (a : Int) &&& BitVec.ofInt 32 (b : Int)).toNat : Nat) = _
  rw [h, wrap_u32]
  · omega
  · have := Nat.and_le_left (n := a) (m := b); omega

theorem bits_xor_u32 {a b : Nat} (ha : a < 2 ^ 32) (hb : b < 2 ^ 32) : bits_xor .u32 (a : Int) (b : Int) = ((a ^^^ b : Nat) : Int) := by
  have h : (BitVec.ofInt 32 (a : Int) ^^^ BitVec.ofInt 32 (b : Int)).toNat = a ^^^ b := by
    simp [BitVec.ofInt_natCast, BitVec.toNat_xor, Nat.mod_eq_of_lt ha, Nat.mod_eq_of_lt hb]
  show IntKind.u32.wrap ((BitVec.ofInt 32 (a : Int) ^^^ BitVec.ofInt 32 (b : Int)).toNat : Nat) = _
  rw [h, wrap_u32]
  · omega
  · have := Nat.xor_lt_two_pow ha hb; omega

theorem bits_or_u32 {a b : Nat} (ha : a < 2 ^ 32) (hb : b < 2 ^ 32) : bits_or .u32 (a : Int) (b : Int) = ((a ||| b : Nat) : Int) := by
  have h : (BitVec.ofInt 32 (a : Int) ||| BitVec.ofInt 32 (b : Int)).toNat = a ||| b := by
    simp [BitVec.ofInt_natCast, BitVec.toNat_or, Nat.mod_eq_of_lt ha, Nat.mod_eq_of_lt hb]
  show IntKind.u32.wrap ((BitVec.ofInt 32 (a : Int) ||| BitVec.ofInt 32 (b : Int)).toNat : Nat) = _
  rw [h, wrap_u32]
  · omega
  · have := Nat.or_lt_two_pow ha hb; omega

theorem msk_lt (n : Nat) : msk n < 2 ^ 32 := by
  unfold msk
  have : 0 < 2 ^ (32 - n) := Nat.two_pow_pos _
  omega

theorem and_low (a k : Nat) : a &&& (2 ^ k - 1) = a % 2 ^ k := Nat.and_two_pow_sub_one_eq_mod a k

theorem msk_test {n i : Nat} (h : n ≤ 32) : (msk n).testBit i = (decide (32 - n ≤ i) && decide (i < 32)) := by
  have key : ∀ k : Fin 33, ∀ j : Fin 32, (msk k.1).testBit j.1 = (decide (32 - k.1 ≤ j.1) && decide (j.1 < 32)) := by decide
  rcases Nat.lt_or_ge i 32 with hi | hi
  · exact key ⟨n, by omega⟩ ⟨i, hi⟩
  · have h2 : (msk n).testBit i = false := Nat.testBit_lt_two_pow (Nat.lt_of_lt_of_le (msk_lt n) (Nat.pow_le_pow_right (by omega) hi))
    rw [h2]
    have : decide (i < 32) = false := by simp; omega
    rw [this, Bool.and_false]

theorem and_msk {a n : Nat} (ha : a < 2 ^ 32) (h : n ≤ 32) : a &&& msk n = a / 2 ^ (32 - n) * 2 ^ (32 - n) := by
  apply Nat.eq_of_testBit_eq
  intro i
  rw [Nat.testBit_and, msk_test h, Nat.testBit_mul_two_pow, Nat.testBit_div_two_pow]
  by_cases h1 : 32 - n ≤ i
  · rw [Nat.sub_add_cancel h1]
    by_cases h2 : i < 32
    · simp [h1, h2]
    · have : a.testBit i = false := Nat.testBit_lt_two_pow (Nat.lt_of_lt_of_le ha (Nat.pow_le_pow_right (by omega) (by omega)))
      simp [this]
  · simp [h1]

theorem bits_andNot_msk {a n : Nat} (ha : a < 2 ^ 32) (h : n ≤ 32) : bits_andNot .u32 (a : Int) (msk n : Nat) = ((a % 2 ^ (32 - n) : Nat) : Int) := by
  have e : (BitVec.ofInt 32 (a : Int) &&& ~~~(BitVec.ofInt 32 ((msk n : Nat) : Int))).toNat = a % 2 ^ (32 - n) := by
    have h1 : 2 ^ 32 - 1 - msk n = 2 ^ (32 - n) - 1 := by
      have : ∀ k : Fin 33, 2 ^ 32 - 1 - msk k.1 = 2 ^ (32 - k.1) - 1 := by decide
      exact this ⟨n, by omega⟩
    rw [BitVec.toNat_and, BitVec.toNat_not, BitVec.ofInt_natCast, BitVec.ofInt_natCast, BitVec.toNat_ofNat, BitVec.toNat_ofNat, Nat.mod_eq_of_lt ha, Nat.mod_eq_of_lt (msk_lt n), h1, and_low]
  show IntKind.u32.wrap ((BitVec.ofInt 32 (a : Int) &&& ~~~(BitVec.ofInt 32 ((msk n : Nat) : Int))).toNat : Nat) = _
  rw [e, wrap_u32]
  · omega
  · have := Nat.mod_le a (2 ^ (32 - n)); omega

/-! ### package prefix -/

theorem mask_spec {n : Int} {h : Hp} {Q : Value → Hp → Prop} (hQ : Q (.int .u32 (maskI n)) h) : Ok Try.prog F_prefix_Mask #[.int .i64 n] h Q := by
  refine prefix_Mask_ok (by simp) ?_
  unfold prefix_Mask_D
  simp (disch := omega) [prefix_Mask_r0, prefix_Mask_r1, wrap_i64]
  exact .to h (.refl _) hQ

/-- May, in plain words. -/
def mayB (a : Nat) (n : Int) : Bool := decide (0 ≤ n) && decide (n ≤ 32) && (a % 2 ^ (32 - n.toNat) == 0)

theorem cast_mod (a k : Nat) : ((a % 2 ^ k : Nat) : Int) = (a : Int) % 2 ^ k := by simp

theorem mayB_eq {a m : Nat} (h : m ≤ 32) : mayB a (m : Int) = decide ((a : Int) % 2 ^ (32 - m) = 0) := by
  rw [← cast_mod]
  have h0 : decide ((m : Int) ≤ 32) = true := by simp; omega
  unfold mayB
  rw [h0, Int.toNat_natCast]
  generalize a % 2 ^ (32 - m) = r
  rw [Bool.eq_iff_iff]
  simp

theorem may_spec {a : Nat} {n : Int} {h : Hp} {Q : Value → Hp → Prop} (ha : a < 2 ^ 32) (hQ : Q (.bool (mayB a n)) h) : Ok Try.prog F_prefix_May #[.agg #[.int .u32 a, .int .i64 n]] h Q := by
  refine prefix_May_ok (by simp) ?_
  unfold prefix_May_D
  simp (disch := omega) [prefix_May_r0]
  intro b hb
  by_cases h0 : 0 ≤ n
  · by_cases h1 : n ≤ 32
    · simp (disch := omega) [prefix_May_r1, h0, h1]
      refine mask_spec ?_
      obtain ⟨m, rfl⟩ := Int.eq_ofNat_of_zero_le h0
      rw [maskI_nat (by omega)]
      simp (disch := omega) [bits_andNot_msk]
      refine .to h (.new hb) ?_
      rw [mayB_eq (by omega)] at hQ
      exact hQ
    · simp (disch := omega) [prefix_May_r1, h0, h1]
      refine .to h (.new hb) ?_
      simpa [mayB, h0, h1] using hQ
  · simp (disch := omega) [prefix_May_r1, h0]
    refine .to h (.new hb) ?_
    simpa [mayB, h0] using hQ

/-- Has, in plain words, of a prefix that may be. -/
def hasB (p : Nat × Nat) (x : Nat) : Bool := x / 2 ^ (32 - p.2) == p.1 / 2 ^ (32 - p.2)

theorem xor_zero {x y : Nat} : x ^^^ y = 0 ↔ x = y := by
  constructor
  · intro h
    apply Nat.eq_of_testBit_eq
    intro i
    have := congrArg (fun z => z.testBit i) h
    simp only [Nat.testBit_xor, Nat.zero_testBit] at this
    cases h1 : x.testBit i <;> cases h2 : y.testBit i <;> simp_all
  · rintro rfl; exact Nat.xor_self _

theorem xor_div (x y k : Nat) : (x ^^^ y) / 2 ^ k = x / 2 ^ k ^^^ y / 2 ^ k := by
  apply Nat.eq_of_testBit_eq
  intro i
  simp only [Nat.testBit_xor, Nat.testBit_div_two_pow]

theorem hasB_eq {a m x : Nat} (ha : a < 2 ^ 32) (hx : x < 2 ^ 32) (h : m ≤ 32) : hasB (a, m) x = decide ((((x ^^^ a) &&& msk m : Nat) : Int) = 0) := by
  rw [and_msk (Nat.xor_lt_two_pow hx ha) h, xor_div]
  unfold hasB
  rw [Bool.eq_iff_iff]
  simp only [beq_iff_eq, decide_eq_true_eq, Int.natCast_eq_zero, Nat.mul_eq_zero, xor_zero]
  have : 2 ^ (32 - m) ≠ 0 := Nat.ne_of_gt (Nat.two_pow_pos _)
  omega

theorem mayB_le {a : Nat} {n : Int} (h : mayB a n = true) : 0 ≤ n ∧ n ≤ 32 := by
  simp [mayB] at h; omega

theorem has_spec {a : Nat} {n : Int} {x : Nat} {h : Hp} {Q : Value → Hp → Prop} (ha : a < 2 ^ 32) (hx : x < 2 ^ 32) (hQ : Q (.bool (mayB a n && hasB (a, n.toNat) x)) h) :
    Ok Try.prog F_prefix_Has #[.agg #[.int .u32 a, .int .i64 n], .int .u32 x] h Q := by
  refine prefix_Has_ok (by simp) ?_
  unfold prefix_Has_D
  simp (disch := omega) [prefix_Has_r0]
  intro b hb
  simp (disch := omega) [prefix_Has_r1]
  refine may_spec ha ?_
  by_cases hm : mayB a n = true
  · simp (disch := omega) [hm]
    refine mask_spec ?_
    obtain ⟨h0, h1⟩ := mayB_le hm
    obtain ⟨m, rfl⟩ := Int.eq_ofNat_of_zero_le h0
    rw [maskI_nat (by omega), bits_xor_u32 hx ha]
    have hl : x ^^^ a < 2 ^ 32 := Nat.xor_lt_two_pow hx ha
    simp (disch := omega) only [upd_get, rr_and_u32, rr_eql_u32, bits_and_u32 hl (msk_lt m), rdv_some, if_true, aget_0, true_and]
    refine .to h (.new hb) ?_
    rw [← hasB_eq ha hx (by omega)]
    simpa [hm] using hQ
  · simp (disch := omega) [hm]
    refine .to h (.new hb) ?_
    simpa [hm] using hQ

theorem fdiv_pow (a k : Nat) : ((a : Nat) : Int).fdiv (2 ^ k) = ((a / 2 ^ k : Nat) : Int) := by
  rw [Int.fdiv_eq_ediv_of_nonneg _ (Int.le_of_lt (Int.pow_pos (by omega)))]
  simp

theorem bit_spec {a : Nat} {i : Nat} {h : Hp} {Q : Value → Hp → Prop} (ha : a < 2 ^ 32) (hi : i < 32) (hQ : Q (.int .i64 ((a / 2 ^ (31 - i) % 2 : Nat) : Int)) h) :
    Ok Try.prog F_trie_bit #[.int .u32 a, .int .i64 i] h Q := by
  refine trie_bit_ok (by simp) ?_
  unfold trie_bit_D
  simp (disch := omega) [trie_bit_r0, trie_bit_r1, wrap_i64]
  have e : bits_and .u32 ((a : Int).fdiv (2 ^ (31 - i))) 1 = ((a / 2 ^ (31 - i) % 2 : Nat) : Int) := by
    rw [fdiv_pow]
    have := bits_and_u32 (a := a / 2 ^ (31 - i)) (b := 1) (Nat.lt_of_le_of_lt (Nat.div_le_self _ _) ha) (by omega)
    rw [Nat.and_one_is_mod] at this
    exact this
  rw [e, wrap_i64 (by omega) (by omega)]
  exact .to h (.refl _) hQ

end Go.Proofs.Ytmbhlbohbpepaaa

/- The trie in memory: walk, find. -/
namespace Go.Proofs.Ytmbhlbohbpepaaa
open Go
set_option linter.unusedSimpArgs false

/-- A node: those below, what it has. -/
structure Nd where
  l : Nat
  r : Nat
  n : Int
  has : Bool

def Nd.enc (x : Nd) : List Value := [.int .i64 x.l, .int .i64 x.r, .int .i64 x.n, .bool x.has]
def child (x : Nd) (b : Nat) : Nat := if b = 0 then x.l else x.r

def down (ns : List Nd) : Nat → List Nat → Option Nat
  | at_, [] => some at_
  | at_, b :: bs =>
    match ns[at_]? with
    | some x => if child x b = 0 then none else down ns (child x b) bs
    | none => none

def bitAt (a i : Nat) : Nat := a / 2 ^ (31 - i) % 2
def bitsFrom (a i k : Nat) : List Nat := (List.range' i k).map (bitAt a)

theorem bitAt_lt (a i : Nat) : bitAt a i < 2 := Nat.mod_lt _ (by omega)
theorem bitsFrom_succ (a i k : Nat) : bitsFrom a i (k + 1) = bitAt a i :: bitsFrom a (i + 1) k := by
  simp [bitsFrom, List.range'_succ]

structure TrieAt (h : Hp) (t nb : Nat) (most many : Int) (ns : List Nd) (cap : Nat) (c : Array Value) : Prop where
  t : h t = some (.cells #[.int .i64 most, .int .i64 many, .slice (some ⟨nb, 0, none⟩) ns.length cap] T_trie_Trie (0, 0))
  nb : h nb = some (.cells c T_trie_node (0, 0))
  le : ns.length ≤ cap
  size : cap * 4 ≤ c.size
  enc : Enc c 0 4 Nd.enc ns

theorem TrieAt.ne {h : Hp} {t nb : Nat} {most many : Int} {ns : List Nd} {cap : Nat} {c : Array Value} (T : TrieAt h t nb most many ns cap c) : t ≠ nb := by
  rintro rfl
  have h1 := T.t
  rw [T.nb] at h1
  simp at h1
  exact absurd h1.2 (by decide)

theorem TrieAt.get {h : Hp} {t nb : Nat} {most many : Int} {ns : List Nd} {cap : Nat} {c : Array Value} (T : TrieAt h t nb most many ns cap c) {i : Nat} {x : Nd} (hx : ns[i]? = some x) :
    c[i * 4]? = some (.int .i64 x.l) ∧ c[i * 4 + 1]? = some (.int .i64 x.r) ∧ c[i * 4 + 2]? = some (.int .i64 x.n) ∧ c[i * 4 + 3]? = some (.bool x.has) := by
  have e := T.enc i x hx
  have e0 := e 0 (by omega); have e1 := e 1 (by omega); have e2 := e 2 (by omega); have e3 := e 3 (by omega)
  simp [Nd.enc] at e0 e1 e2 e3
  exact ⟨e0, e1, e2, e3⟩

/-- The child's cell. -/
theorem TrieAt.below {h : Hp} {t nb : Nat} {most many : Int} {ns : List Nd} {cap : Nat} {c : Array Value} (T : TrieAt h t nb most many ns cap c) {i b : Nat} {x : Nd} (hx : ns[i]? = some x) (hb : b < 2) :
    c[i * 4 + b]? = some (.int .i64 (child x b)) := by
  obtain ⟨e0, e1, _, _⟩ := T.get hx
  have : b = 0 ∨ b = 1 := by omega
  rcases this with rfl | rfl
  · simpa [child] using e0
  · simpa [child] using e1

/-- What all nodes keep to. -/
structure NsOk (ns : List Nd) : Prop where
  pos : 0 < ns.length
  few : ns.length ≤ 1000000
  l : ∀ (i : Nat) (x : Nd), ns[i]? = some x → x.l = 0 ∨ i < x.l ∧ x.l < ns.length
  r : ∀ (i : Nat) (x : Nd), ns[i]? = some x → x.r = 0 ∨ i < x.r ∧ x.r < ns.length

theorem NsOk.child {ns : List Nd} (o : NsOk ns) {i b : Nat} {x : Nd} (hx : ns[i]? = some x) : child x b = 0 ∨ i < child x b ∧ child x b < ns.length := by
  unfold Go.Proofs.Ytmbhlbohbpepaaa.child; split
  · exact o.l i x hx
  · exact o.r i x hx

def WalkInv (g : Hp) (t b : Nat) (ns : List Nd) (a n : Nat) (m : Nat) (env : Env) (g' : Hp) : Prop :=
  g' = g ∧ env 0 = .pointer (some ⟨t, 0, none⟩) ∧ env 2 = .bool false ∧ env 4 = .pointer (some ⟨b, 0, none⟩) ∧
    ∃ at_ i : Nat, env 8 = .int .i64 at_ ∧ env 9 = .int .i64 i ∧ i + m = n ∧ at_ < ns.length ∧ down ns at_ (bitsFrom a i m) = down ns 0 (bitsFrom a 0 n)

theorem walk_spec {h : Hp} {t nb : Nat} {most many : Int} {ns : List Nd} {cap : Nat} {c : Array Value} {a n : Nat} {Q : Value → Hp → Prop} (T : TrieAt h t nb most many ns cap c) (O : NsOk ns) (ha : a < 2 ^ 32) (hn : n ≤ 32)
    (h1 : ∀ at_, at_ < ns.length → down ns 0 (bitsFrom a 0 n) = some at_ → Q (.tuple #[.int .i64 at_, .bool true]) h)
    (h2 : down ns 0 (bitsFrom a 0 n) = none → Q (.tuple #[.int .i64 0, .bool false]) h) :
    Ok Try.prog F_trie_Trie_walk #[.pointer (some ⟨t, 0, none⟩), .agg #[.int .u32 a, .int .i64 n], .bool false] h Q := by
  refine trie_Trie_walk_ok (by simp) ?_
  unfold trie_Trie_walk_D
  simp (disch := omega) [trie_Trie_walk_r0]
  intro b hb
  have l : Le h (h.upd b (.cells #[.int .u32 a, .int .i64 n] 24)) := .new hb
  have ht := l _ _ T.t
  have hnb := l _ _ T.nb
  have hbb : (h.upd b (.cells #[.int .u32 a, .int .i64 n] 24)) b = some (.cells #[.int .u32 a, .int .i64 n] 24) := by simp
  generalize h.upd b (.cells #[.int .u32 a, .int .i64 n] 24) = g at *
  have fin1 : ∀ v, Q v h → drp Q v g := fun v q => .to h l q
  refine scp_one trie_Trie_walk_S0_lab0 rfl (WalkInv g t b ns a n) ?_ ?_
  · intro K hK
    simp (disch := omega) [trie_Trie_walk_r1]
    refine hK n _ _ ⟨rfl, by simp, by simp, by simp, 0, 0, by simp, by simp, by omega, O.pos, rfl⟩
  · rintro m env g' ⟨rfl, e0, e2, e4, at_, i, e8, e9, him, hat, hd⟩
    unfold trie_Trie_walk_S0_at0
    by_cases hm : m = 0
    · subst hm
      have : i = n := by omega
      subst this
      simp (disch := omega) [trie_Trie_walk_r2, trie_Trie_walk_r3, e0, e2, e4, e8, e9, hbb]
      exact fin1 _ (h1 at_ hat hd.symm)
    · obtain ⟨m, rfl⟩ : ∃ k, m = k + 1 := ⟨m - 1, by omega⟩
      have hin : ¬ (i : Int) = n := by omega
      simp (disch := omega) [trie_Trie_walk_r2, trie_Trie_walk_r4, e0, e2, e4, e8, e9, hbb, hin]
      refine bit_spec ha (by omega) ?_
      obtain ⟨x, hx⟩ : ∃ x, ns[at_]? = some x := ⟨_, List.getElem?_eq_getElem hat⟩
      have hbt := T.below hx (bitAt_lt a i)
      have hlt := bitAt_lt a i
      rw [bitsFrom_succ] at hd
      simp only [down, hx] at hd
      rw [show a / 2 ^ (31 - i) % 2 = bitAt a i from rfl]
      generalize bitAt a i = bt at *
      by_cases hc : child x bt = 0
      · rw [if_pos hc] at hd
        simp (disch := omega) [trie_Trie_walk_r5, trie_Trie_walk_r6, trie_Trie_walk_r7, e0, e2, e4, e8, e9, hbb, ht, hnb, hbt, hc]
        exact fin1 _ (h2 hd.symm)
      · rw [if_neg hc] at hd
        have hc' : ¬ (child x bt : Int) = 0 := by omega
        have hlt2 := (O.child hx (b := bt)).resolve_left hc
        simp (disch := omega) [trie_Trie_walk_r5, trie_Trie_walk_r10, trie_Trie_walk_r11, e0, e2, e4, e8, e9, hbb, ht, hnb, hbt, hc, hc', wrap_i64]
        exact ⟨m, by omega, rfl, by simp [e0], by simp [e2], by simp [e4], child x bt, i + 1, by simp, by simp, by omega, hlt2.2, hd⟩

/-! ### Making a way -/
def setC (x : Nd) (b k : Nat) : Nd := if b = 0 then { x with l := k } else { x with r := k }
def nd0 : Nd := ⟨0, 0, 0, false⟩
def grow (ns : List Nd) (at_ b : Nat) (x : Nd) : List Nd := (ns ++ [nd0]).set at_ (setC x b ns.length)

def mkDown (ns : List Nd) : Nat → List Nat → Nat × List Nd
  | at_, [] => (at_, ns)
  | at_, b :: bs =>
    match ns[at_]? with
    | some x => if child x b = 0 then mkDown (grow ns at_ b x) ns.length bs else mkDown ns (child x b) bs
    | none => (at_, ns)

theorem NsOk.grow {ns : List Nd} (O : NsOk ns) {at_ b : Nat} {x : Nd} (hx : ns[at_]? = some x) (hf : ns.length + 1 ≤ 1000000) : NsOk (grow ns at_ b x) := by
  have hat : at_ < ns.length := (List.getElem?_eq_some_iff.1 hx).1
  have hl : (Go.Proofs.Ytmbhlbohbpepaaa.grow ns at_ b x).length = ns.length + 1 := by simp [Go.Proofs.Ytmbhlbohbpepaaa.grow]
  have key : ∀ (i : Nat) (y : Nd), (Go.Proofs.Ytmbhlbohbpepaaa.grow ns at_ b x)[i]? = some y → (y.l = 0 ∨ i < y.l ∧ y.l < ns.length + 1) ∧ (y.r = 0 ∨ i < y.r ∧ y.r < ns.length + 1) := by
    intro i y hy
    unfold Go.Proofs.Ytmbhlbohbpepaaa.grow at hy
    by_cases hi : i = at_
    · subst hi
      rw [List.getElem?_set_self (by simp; omega)] at hy
      cases hy
      have h1 := O.l i x hx
      have h2 := O.r i x hx
      unfold setC
      split <;> simp only <;> omega
    · rw [List.getElem?_set_ne (Ne.symm hi)] at hy
      rcases Nat.lt_or_ge i ns.length with h | h
      · rw [List.getElem?_append_left h] at hy
        have h1 := O.l i y hy
        have h2 := O.r i y hy
        omega
      · rw [List.getElem?_append_right h] at hy
        have : i - ns.length = 0 := by
          rcases Nat.eq_zero_or_pos (i - ns.length) with h0 | h0
          · exact h0
          · rw [List.getElem?_eq_none (by simp; omega)] at hy; cases hy
        rw [this] at hy
        simp at hy
        subst hy
        exact ⟨.inl rfl, .inl rfl⟩
  exact ⟨by omega, by omega, fun i y hy => hl ▸ (key i y hy).1, fun i y hy => hl ▸ (key i y hy).2⟩

theorem Enc.set {α : Type} {c c' : Array Value} {o sz : Nat} {enc : α → List Value} {xs : List α} {i : Nat} {y : α} (H : Enc c o sz enc xs)
    (h1 : ∀ k j, k ≠ i → j < sz → c'[o + k * sz + j]? = c[o + k * sz + j]?) (h2 : ∀ j, j < sz → c'[o + i * sz + j]? = (enc y)[j]?) : Enc c' o sz enc (xs.set i y) := by
  intro k x hx j hj
  by_cases hk : k = i
  · subst hk
    have : k < xs.length := by
      rcases Nat.lt_or_ge k xs.length with h | h
      · exact h
      · rw [List.getElem?_eq_none (by simpa using h)] at hx; cases hx
    rw [List.getElem?_set_self this] at hx
    cases hx
    exact h2 j hj
  · rw [List.getElem?_set_ne (Ne.symm hk)] at hx
    rw [h1 k j hk hj]
    exact H k x hx j hj

/-- One cell of one element is written. -/
theorem Enc.setCell {α : Type} {c : Array Value} {sz : Nat} {enc : α → List Value} {xs : List α} {i j0 : Nat} {x y : α} {v : Value} (H : Enc c 0 sz enc xs) (hx : xs[i]? = some x) (hj0 : j0 < sz) (hlt : i * sz + j0 < c.size)
    (hy : ∀ j, j < sz → (enc y)[j]? = if j = j0 then some v else (enc x)[j]?) : Enc (c.setIfInBounds (i * sz + j0) v) 0 sz enc (xs.set i y) := by
  have aux : ∀ k j, j < sz → k ≠ i → k * sz + j ≠ i * sz + j0 := by
    intro k j hj hk e
    have h1 : (k * sz + j) / sz = k := by rw [Nat.mul_comm, Nat.mul_add_div (by omega), Nat.div_eq_of_lt hj]; omega
    have h2 : (i * sz + j0) / sz = i := by rw [Nat.mul_comm, Nat.mul_add_div (by omega), Nat.div_eq_of_lt hj0]; omega
    rw [e, h2] at h1
    exact hk h1.symm
  refine H.set (fun k j hk hj => ?_) (fun j hj => ?_)
  · rw [Array.getElem?_setIfInBounds_ne]
    have := aux k j hj hk
    omega
  · rw [hy j hj]
    by_cases e : j = j0
    · subst e; rw [if_pos rfl]; simp [hlt]
    · rw [if_neg e, Array.getElem?_setIfInBounds_ne (by omega)]
      exact H i x hx j hj

structure Chg (h h' : Hp) (t nb nb' : Nat) : Prop where
  keep : ∀ x o, h x = some o → x ≠ t → x ≠ nb → h' x = some o
  fresh : nb' = nb ∨ h nb' = none

def MkInv (h : Hp) (t b nb : Nat) (most many : Int) (ns : List Nd) (a n : Nat) (m : Nat) (env : Env) (g : Hp) : Prop :=
  env 0 = .pointer (some ⟨t, 0, none⟩) ∧ env 2 = .bool true ∧ env 4 = .pointer (some ⟨b, 0, none⟩) ∧ g b = some (.cells #[.int .u32 a, .int .i64 n] 24 (0, 0)) ∧
    ∃ nb' ns' cap c, Chg h g t nb nb' ∧ TrieAt g t nb' most many ns' cap c ∧ NsOk ns' ∧ ns'.length + m ≤ 1000000 ∧ b ≠ nb' ∧
    ∃ at_ i : Nat, env 8 = .int .i64 at_ ∧ env 9 = .int .i64 i ∧ i + m = n ∧ at_ < ns'.length ∧ mkDown ns' at_ (bitsFrom a i m) = mkDown ns 0 (bitsFrom a 0 n)

theorem make_spec {h : Hp} {t nb : Nat} {most many : Int} {ns : List Nd} {cap : Nat} {c : Array Value} {a n : Nat} {Q : Value → Hp → Prop} (T : TrieAt h t nb most many ns cap c) (O : NsOk ns) (hf : ns.length + 32 ≤ 1000000) (ha : a < 2 ^ 32) (hn : n ≤ 32)
    (hQ : ∀ h' nb' cap' c', Chg h h' t nb nb' → TrieAt h' t nb' most many (mkDown ns 0 (bitsFrom a 0 n)).2 cap' c' → NsOk (mkDown ns 0 (bitsFrom a 0 n)).2 →
      (mkDown ns 0 (bitsFrom a 0 n)).1 < (mkDown ns 0 (bitsFrom a 0 n)).2.length → Q (.tuple #[.int .i64 (mkDown ns 0 (bitsFrom a 0 n)).1, .bool true]) h') :
    Ok Try.prog F_trie_Trie_walk #[.pointer (some ⟨t, 0, none⟩), .agg #[.int .u32 a, .int .i64 n], .bool true] h Q := by
  refine trie_Trie_walk_ok (by simp) ?_
  unfold trie_Trie_walk_D
  simp (disch := omega) [trie_Trie_walk_r0]
  intro b hb
  have l : Le h (h.upd b (.cells #[.int .u32 a, .int .i64 n] 24)) := .new hb
  have ht := l _ _ T.t
  have hnb := l _ _ T.nb
  have hbb : (h.upd b (.cells #[.int .u32 a, .int .i64 n] 24)) b = some (.cells #[.int .u32 a, .int .i64 n] 24) := by simp
  have nbt : t ≠ b := ne_new T.t hb
  have nbn : nb ≠ b := ne_new T.nb hb
  generalize h.upd b (.cells #[.int .u32 a, .int .i64 n] 24) = g at *
  refine scp_one trie_Trie_walk_S0_lab0 rfl (MkInv h t b nb most many ns a n) ?_ ?_
  · intro K hK
    simp (disch := omega) [trie_Trie_walk_r1]
    exact hK n _ _ ⟨by simp, by simp, by simp, hbb, nb, ns, cap, c, ⟨fun x o hx _ _ => l _ _ hx, .inl rfl⟩, ⟨ht, hnb, T.le, T.size, T.enc⟩, O, by omega, Ne.symm nbn, 0, 0, by simp, by simp, by omega, O.pos, rfl⟩
  · rintro m env g' ⟨e0, e2, e4, hbb', nb', ns', cap', c', C, T', O', hf', nbb, at_, i, e8, e9, him, hat, hd⟩
    clear ht hnb hbb
    have ht := T'.t
    have hnb := T'.nb
    unfold trie_Trie_walk_S0_at0
    by_cases hm : m = 0
    · subst hm
      have : i = n := by omega
      subst this
      simp (disch := omega) [trie_Trie_walk_r2, trie_Trie_walk_r3, e0, e2, e4, e8, e9, hbb']
      have hd : mkDown ns 0 (bitsFrom a 0 i) = (at_, ns') := by rw [← hd]; rfl
      rw [hd] at hQ
      exact .to g' (.refl _) (hQ g' nb' cap' c' C T' O' hat)
    · obtain ⟨m, rfl⟩ : ∃ k, m = k + 1 := ⟨m - 1, by omega⟩
      have hin : ¬ (i : Int) = n := by omega
      simp (disch := omega) [trie_Trie_walk_r2, trie_Trie_walk_r4, e0, e2, e4, e8, e9, hbb', hin]
      refine bit_spec ha (by omega) ?_
      obtain ⟨x, hx⟩ : ∃ x, ns'[at_]? = some x := ⟨_, List.getElem?_eq_getElem hat⟩
      have hbt := T'.below hx (bitAt_lt a i)
      have hlt := bitAt_lt a i
      rw [bitsFrom_succ] at hd
      simp only [mkDown, hx] at hd
      rw [show a / 2 ^ (31 - i) % 2 = bitAt a i from rfl]
      generalize bitAt a i = bt at *
      by_cases hc : child x bt = 0
      · rw [if_pos hc] at hd
        simp (disch := omega) [trie_Trie_walk_r5, trie_Trie_walk_r6, trie_Trie_walk_r8, e0, e2, e4, e8, e9, hbb', ht, hnb, hbt, hc]
        intro b2 hb2
        have hb2t : t ≠ b2 := ne_new ht hb2
        have hb2n : nb' ≠ b2 := ne_new hnb hb2
        have hb2b : b ≠ b2 := ne_new hbb' hb2
        refine push_trie_node (xs := ns') (y := nd0) (enc := Nd.enc) (.inr ⟨nb', cap', c', rfl, by simp [hnb, hb2n], T'.le, T'.size, T'.enc⟩) (by simp [Nd.enc, nd0]) rfl (by simp [Nd.enc]) (by omega) ?_
        intro b3 c3 cap3 hb3 hcap hsz3 henc
        have h3 : b3 = nb' ∨ (b3 ≠ b2 ∧ g' b3 = none) := by
          rcases hb3 with e | e
          · exact .inl (by simpa [blkOf] using e)
          · exact .inr (upd_none e)
        have h3t : t ≠ b3 := by
          rcases h3 with e | e
          · rw [e]; exact T'.ne
          · exact ne_new ht e.2
        have h3b : b ≠ b3 := by
          rcases h3 with e | e
          · rw [e]; exact nbb
          · exact ne_new hbb' e.2
        have G1 : ∀ o2 o3, ((g'.upd b2 o2).upd b3 o3) t = g' t := by intro o2 o3; simp [h3t, hb2t]
        have G2 : ∀ o2 o3, ((g'.upd b2 o2).upd b3 o3) b = g' b := by intro o2 o3; simp [h3b, hb2b]
        have G3 : ∀ o2 o3, ((g'.upd b2 o2).upd b3 o3) b3 = some o3 := by intro o2 o3; simp
        have G4 : ∀ o2 o3 y o, h y = some o → y ≠ t → y ≠ nb → y ≠ b3 → ((g'.upd b2 o2).upd b3 o3) y = some o := by
          intro o2 o3 y o hy h1 h2 h4
          have := C.keep y o hy h1 h2
          have h5 : y ≠ b2 := ne_new this hb2
          simp [h4, h5, this]
        have F3 : b3 = nb ∨ h b3 = none := by
          rcases h3 with e | e
          · rw [e]; exact C.fresh
          · by_cases hn3 : b3 = nb
            · exact .inl hn3
            · refine .inr ?_
              cases hq : h b3 with
              | none => rfl
              | some o =>
                have := C.keep b3 o hq (Ne.symm h3t) hn3
                rw [e.2] at this; cases this
        specialize G1 (.cells #[.int .i64 0, .int .i64 0, .int .i64 0, .bool false] 87) (.cells c3 87 (0, 0))
        specialize G2 (.cells #[.int .i64 0, .int .i64 0, .int .i64 0, .bool false] 87) (.cells c3 87 (0, 0))
        specialize G3 (.cells #[.int .i64 0, .int .i64 0, .int .i64 0, .bool false] 87) (.cells c3 87 (0, 0))
        specialize G4 (.cells #[.int .i64 0, .int .i64 0, .int .i64 0, .bool false] 87) (.cells c3 87 (0, 0))
        generalize (g'.upd b2 (.cells #[.int .i64 0, .int .i64 0, .int .i64 0, .bool false] 87)).upd b3 (.cells c3 87 (0, 0)) = G at *
        rw [ht] at G1
        rw [hbb'] at G2
        have hg : (ns' ++ [nd0])[at_]? = some x := by rw [List.getElem?_append_left hat]; exact hx
        have hat3 : at_ * 4 + bt < c3.size := by omega
        have hc3 : c3[at_ * 4 + bt]? = some (c3[at_ * 4 + bt]) := Array.getElem?_eq_getElem hat3
        have henc' : Enc (c3.setIfInBounds (at_ * 4 + bt) (.int .i64 ns'.length)) 0 4 Nd.enc (grow ns' at_ bt x) := by
          refine henc.setCell hg (by omega) hat3 (fun j hj => ?_)
          have hbc : bt = 0 ∨ bt = 1 := by omega
          have hjc : j = 0 ∨ j = 1 ∨ j = 2 ∨ j = 3 := by omega
          rcases hbc with rfl | rfl <;> rcases hjc with rfl | rfl | rfl | rfl <;> simp [Nd.enc, setC]
        have hset : (c3.setIfInBounds (at_ * 4 + bt) (.int .i64 ns'.length))[at_ * 4 + bt]? = some (.int .i64 ns'.length) := by simp [hat3]
        have hgl : (grow ns' at_ bt x).length = ns'.length + 1 := by simp [grow]
        simp (disch := omega) [trie_Trie_walk_r9, e0, e2, e4, e8, e9, G1, G2, G3, h3t, Ne.symm h3t, h3b, Ne.symm h3b, hc3, wrap_i64]
        simp (disch := omega) [trie_Trie_walk_r10, trie_Trie_walk_r11, e0, e2, e4, e8, e9, G1, G2, G3, h3t, Ne.symm h3t, h3b, Ne.symm h3b, hc3, hset, wrap_i64]
        refine ⟨m, by omega, by simp [e0], by simp [e2], by simp [e4], by simp [h3b, Ne.symm nbt, G2], b3, grow ns' at_ bt x, cap3, c3.setIfInBounds (at_ * 4 + bt) (.int .i64 ns'.length), ⟨fun y o hy h1 h2 => ?_, F3⟩,
          ⟨by simp [h3t, hgl], by simp, by omega, by simpa using hsz3, henc'⟩, O'.grow hx (by omega), by omega, h3b, ns'.length, i + 1, by simp, by simp, by omega, by omega, hd⟩
        by_cases hy3 : y = b3
        · subst hy3
          rcases F3 with e | e
          · exact absurd e h2
          · rw [hy] at e; cases e
        · simp [hy3, h1, G4 y o hy h1 h2 hy3]
      · rw [if_neg hc] at hd
        have hc' : ¬ (child x bt : Int) = 0 := by omega
        have hlt2 := (O'.child hx (b := bt)).resolve_left hc
        simp (disch := omega) [trie_Trie_walk_r5, trie_Trie_walk_r10, trie_Trie_walk_r11, e0, e2, e4, e8, e9, hbb', ht, hnb, hbt, hc, hc', wrap_i64]
        exact ⟨m, by omega, by simp [e0], by simp [e2], by simp [e4], hbb', nb', ns', cap', c', C, T', O', by omega, nbb, child x bt, i + 1, by simp, by simp, by omega, hlt2.2, hd⟩
end Go.Proofs.Ytmbhlbohbpepaaa

/- The trie in memory: find, Get, Take, Put, Len, New. -/
namespace Go.Proofs.Ytmbhlbohbpepaaa
open Go
set_option linter.unusedSimpArgs false

/-- The node of a prefix, if it has something. -/
def look (ns : List Nd) (a : Nat) (n : Int) : Option (Nat × Nd) :=
  if mayB a n = true then
    match down ns 0 (bitsFrom a 0 n.toNat) with
    | some at_ => match ns[at_]? with
      | some x => if x.has = true then some (at_, x) else none
      | none => none
    | none => none
  else none

theorem find_spec {h : Hp} {t nb : Nat} {most many : Int} {ns : List Nd} {cap : Nat} {c : Array Value} {a : Nat} {n : Int} {Q : Value → Hp → Prop} (T : TrieAt h t nb most many ns cap c) (O : NsOk ns) (ha : a < 2 ^ 32)
    (hQ : Q (match look ns a n with | some (at_, _) => .pointer (some ⟨nb, at_ * 4, none⟩) | none => .pointer none) h) :
    Ok Try.prog F_trie_Trie_find #[.pointer (some ⟨t, 0, none⟩), .agg #[.int .u32 a, .int .i64 n]] h Q := by
  refine trie_Trie_find_ok (by simp) ?_
  unfold trie_Trie_find_D
  simp (disch := omega) [trie_Trie_find_r0]
  intro b hb
  have l : Le h (h.upd b (.cells #[.int .u32 a, .int .i64 n] 24)) := .new hb
  have T1 : TrieAt (h.upd b (.cells #[.int .u32 a, .int .i64 n] 24)) t nb most many ns cap c := ⟨l _ _ T.t, l _ _ T.nb, T.le, T.size, T.enc⟩
  have hbb : (h.upd b (.cells #[.int .u32 a, .int .i64 n] 24)) b = some (.cells #[.int .u32 a, .int .i64 n] 24) := by simp
  generalize h.upd b (.cells #[.int .u32 a, .int .i64 n] 24) = g at *
  have ht := T1.t
  have hnb := T1.nb
  have fin1 : ∀ v, Q v h → drp Q v g := fun v q => .to h l q
  simp (disch := omega) [trie_Trie_find_r1, hbb]
  refine may_spec ha ?_
  by_cases hm : mayB a n = true
  · obtain ⟨h0, h1⟩ := mayB_le hm
    obtain ⟨m, rfl⟩ := Int.eq_ofNat_of_zero_le h0
    simp (disch := omega) [trie_Trie_find_r3, hbb, hm]
    refine walk_spec T1 O ha (by omega) (fun at_ hat hd => ?_) (fun hd => ?_)
    · obtain ⟨x, hx⟩ : ∃ x, ns[at_]? = some x := ⟨_, List.getElem?_eq_getElem hat⟩
      obtain ⟨_, _, _, e3⟩ := T1.get hx
      simp only [look, hm, if_true, Int.toNat_natCast, hd, hx] at hQ
      cases hh : x.has with
      | true =>
        rw [hh] at e3
        simp only [hh, if_true] at hQ
        simp (disch := omega) [trie_Trie_find_r4, trie_Trie_find_r6, hbb, ht, hnb, e3]
        exact fin1 _ hQ
      | false =>
        rw [hh] at e3
        simp only [hh, Bool.false_eq_true, if_false] at hQ
        simp (disch := omega) [trie_Trie_find_r4, trie_Trie_find_r5, hbb, ht, hnb, e3]
        exact fin1 _ hQ
    · simp only [look, hm, if_true, Int.toNat_natCast, hd] at hQ
      simp (disch := omega) [trie_Trie_find_r4, trie_Trie_find_r5, hbb, ht, hnb]
      exact fin1 _ hQ
  · simp only [look, hm, if_false] at hQ
    simp (disch := omega) [trie_Trie_find_r2, hm]
    exact fin1 _ hQ

theorem look_some {ns : List Nd} {a at_ : Nat} {n : Int} {x : Nd} (h : look ns a n = some (at_, x)) : mayB a n = true ∧ down ns 0 (bitsFrom a 0 n.toNat) = some at_ ∧ ns[at_]? = some x ∧ x.has = true := by
  unfold look at h
  split at h
  · rename_i hm
    split at h
    · rename_i at2 hd
      split at h
      · rename_i y hy
        split at h
        · rename_i hh; simp at h; obtain ⟨rfl, rfl⟩ := h; exact ⟨hm, hd, hy, hh⟩
        · cases h
      · cases h
    · cases h
  · cases h

theorem get_spec {h : Hp} {t nb : Nat} {most many : Int} {ns : List Nd} {cap : Nat} {c : Array Value} {a : Nat} {n : Int} {Q : Value → Hp → Prop} (T : TrieAt h t nb most many ns cap c) (O : NsOk ns) (ha : a < 2 ^ 32)
    (hQ : Q (match look ns a n with | some (_, x) => .tuple #[.int .i64 x.n, .bool true] | none => .tuple #[.int .i64 0, .bool false]) h) :
    Ok Try.prog F_trie_Trie_Get #[.pointer (some ⟨t, 0, none⟩), .agg #[.int .u32 a, .int .i64 n]] h Q := by
  refine trie_Trie_Get_ok (by simp) ?_
  unfold trie_Trie_Get_D
  simp (disch := omega) [trie_Trie_Get_r0]
  intro b hb
  have l : Le h (h.upd b (.cells #[.int .u32 a, .int .i64 n] 24)) := .new hb
  have T1 : TrieAt (h.upd b (.cells #[.int .u32 a, .int .i64 n] 24)) t nb most many ns cap c := ⟨l _ _ T.t, l _ _ T.nb, T.le, T.size, T.enc⟩
  have hbb : (h.upd b (.cells #[.int .u32 a, .int .i64 n] 24)) b = some (.cells #[.int .u32 a, .int .i64 n] 24) := by simp
  generalize h.upd b (.cells #[.int .u32 a, .int .i64 n] 24) = g at *
  have hnb := T1.nb
  simp (disch := omega) [trie_Trie_Get_r1, hbb]
  refine find_spec T1 O ha ?_
  cases hl : look ns a n with
  | none =>
    simp only [hl] at hQ
    simp (disch := omega) [trie_Trie_Get_r2, trie_Trie_Get_r3]
    exact .to h l hQ
  | some p =>
    obtain ⟨at_, x⟩ := p
    simp only [hl] at hQ
    obtain ⟨_, _, e2, _⟩ := T1.get (look_some hl).2.2.1
    simp (disch := omega) [trie_Trie_Get_r2, trie_Trie_Get_r4, hnb, e2]
    exact .to h l hQ

/-- Where a trie has a prefix, what it has is told anew. -/
theorem Enc.setN {c : Array Value} {ns : List Nd} {at_ : Nat} {x : Nd} (E : Enc c 0 4 Nd.enc ns) (hx : ns[at_]? = some x) (hs : ns.length * 4 ≤ c.size) (k : Int) :
    Enc (c.setIfInBounds (at_ * 4 + 2) (.int .i64 k)) 0 4 Nd.enc (ns.set at_ { x with n := k }) := by
  have hat : at_ < ns.length := (List.getElem?_eq_some_iff.1 hx).1
  refine E.setCell hx (by omega) (by omega) (fun j hj => ?_)
  have hjc : j = 0 ∨ j = 1 ∨ j = 2 ∨ j = 3 := by omega
  rcases hjc with rfl | rfl | rfl | rfl <;> simp [Nd.enc]

theorem Enc.setHas {c : Array Value} {ns : List Nd} {at_ : Nat} {x : Nd} (E : Enc c 0 4 Nd.enc ns) (hx : ns[at_]? = some x) (hs : ns.length * 4 ≤ c.size) (k : Bool) :
    Enc (c.setIfInBounds (at_ * 4 + 3) (.bool k)) 0 4 Nd.enc (ns.set at_ { x with has := k }) := by
  have hat : at_ < ns.length := (List.getElem?_eq_some_iff.1 hx).1
  refine E.setCell hx (by omega) (by omega) (fun j hj => ?_)
  have hjc : j = 0 ∨ j = 1 ∨ j = 2 ∨ j = 3 := by omega
  rcases hjc with rfl | rfl | rfl | rfl <;> simp [Nd.enc]

theorem Enc.setBoth {c : Array Value} {ns : List Nd} {at_ : Nat} {x : Nd} (E : Enc c 0 4 Nd.enc ns) (hx : ns[at_]? = some x) (hs : ns.length * 4 ≤ c.size) (k : Int) (u : Bool) :
    Enc ((c.setIfInBounds (at_ * 4 + 2) (.int .i64 k)).setIfInBounds (at_ * 4 + 3) (.bool u)) 0 4 Nd.enc (ns.set at_ { x with n := k, has := u }) := by
  have hat : at_ < ns.length := (List.getElem?_eq_some_iff.1 hx).1
  have := (E.setN hx hs k).setHas (x := { x with n := k }) (at_ := at_) (by rw [List.getElem?_set_self hat]) (by simp; omega) u
  rwa [List.set_set] at this

theorem take_spec {h : Hp} {t nb : Nat} {most many : Int} {ns : List Nd} {cap : Nat} {c : Array Value} {a : Nat} {n : Int} {Q : Value → Hp → Prop} (T : TrieAt h t nb most many ns cap c) (O : NsOk ns) (ha : a < 2 ^ 32) (hmany : 0 ≤ many ∧ many ≤ 1000000)
    (h1 : look ns a n = none → Q (.int .i64 5) h)
    (h2 : ∀ at_ x h' c', look ns a n = some (at_, x) → Chg h h' t nb nb → TrieAt h' t nb most (many - 1) (ns.set at_ { x with n := 0, has := false }) cap c' → Q (.int .i64 0) h') :
    Ok Try.prog F_trie_Trie_Take #[.pointer (some ⟨t, 0, none⟩), .agg #[.int .u32 a, .int .i64 n]] h Q := by
  refine trie_Trie_Take_ok (by simp) ?_
  unfold trie_Trie_Take_D
  simp (disch := omega) [trie_Trie_Take_r0]
  intro b hb
  have l : Le h (h.upd b (.cells #[.int .u32 a, .int .i64 n] 24)) := .new hb
  have T1 : TrieAt (h.upd b (.cells #[.int .u32 a, .int .i64 n] 24)) t nb most many ns cap c := ⟨l _ _ T.t, l _ _ T.nb, T.le, T.size, T.enc⟩
  have hbb : (h.upd b (.cells #[.int .u32 a, .int .i64 n] 24)) b = some (.cells #[.int .u32 a, .int .i64 n] 24) := by simp
  generalize h.upd b (.cells #[.int .u32 a, .int .i64 n] 24) = g at *
  have ht := T1.t
  have hnb := T1.nb
  have hne := T1.ne
  simp (disch := omega) [trie_Trie_Take_r1, hbb]
  refine find_spec T1 O ha ?_
  cases hl : look ns a n with
  | none =>
    simp (disch := omega) [trie_Trie_Take_r2, trie_Trie_Take_r3]
    exact .to h l (h1 hl)
  | some p =>
    obtain ⟨at_, x⟩ := p
    obtain ⟨_, _, hx, _⟩ := look_some hl
    have hat : at_ < ns.length := (List.getElem?_eq_some_iff.1 hx).1
    obtain ⟨_, _, e2, e3⟩ := T1.get hx
    have hs : ns.length * 4 ≤ c.size := Nat.le_trans (Nat.mul_le_mul_right 4 T.le) T.size
    have e3' : (c.setIfInBounds (at_ * 4 + 2) (.int .i64 0))[at_ * 4 + 3]? = some (.bool x.has) := by rw [Array.getElem?_setIfInBounds_ne (by omega)]; exact e3
    simp (disch := omega) [trie_Trie_Take_r2, trie_Trie_Take_r4, trie_Trie_Take_r5, trie_Trie_Take_r6, ht, hnb, e2, e3, e3', hne, Ne.symm hne, wrap_i64]
    refine .to _ (.refl _) (h2 at_ x _ _ hl ⟨fun y o hy h1 h2 => ?_, .inl rfl⟩ ⟨by simp [hne], by simp [Ne.symm hne], by simpa using T.le, by simpa using T.size, T.enc.setBoth hx hs 0 false⟩)
    simp [h1, h2, l _ _ hy]


theorem new_spec {h : Hp} {most : Int} {Q : Value → Hp → Prop}
    (hQ : ∀ t nb h' c, h t = none → h nb = none → (∀ x o, h x = some o → h' x = some o) → TrieAt h' t nb most 0 [nd0] 1 c → Q (.pointer (some ⟨t, 0, none⟩)) h') :
    Ok Try.prog F_trie_New #[.int .i64 most] h Q := by
  refine trie_New_ok (by simp) ?_
  unfold trie_New_D
  simp (disch := omega) [trie_New_r0, trie_New_r1]
  intro nb hnb t ht
  obtain ⟨hne, ht'⟩ := upd_none ht
  refine .to _ (.refl _) (hQ t nb _ #[.int .i64 0, .int .i64 0, .int .i64 0, .bool false] ht' hnb (fun x o hx => ?_) ⟨by simp, by simp [Ne.symm hne], by simp, by simp, fun i x hx j hj => ?_⟩)
  · simp [ne_new hx ht', ne_new hx hnb, hx]
  · have hi : i = 0 := by
      rcases Nat.eq_zero_or_pos i with e | e
      · exact e
      · rw [List.getElem?_eq_none (by simp; omega)] at hx; cases hx
    subst hi
    simp at hx
    subst hx
    have hjc : j = 0 ∨ j = 1 ∨ j = 2 ∨ j = 3 := by omega
    rcases hjc with rfl | rfl | rfl | rfl <;> simp [Nd.enc, nd0]

theorem put_spec {h : Hp} {t nb : Nat} {most many : Int} {ns : List Nd} {cap : Nat} {c : Array Value} {a : Nat} {n k : Int} {Q : Value → Hp → Prop} (T : TrieAt h t nb most many ns cap c) (O : NsOk ns) (ha : a < 2 ^ 32) (hmany : 0 ≤ many ∧ many ≤ 1000000)
    (hf : ns.length + 32 ≤ 1000000)
    (h1 : mayB a n = false → Q (.int .i64 1) h)
    (h2 : ∀ at_ x h' c', look ns a n = some (at_, x) → Chg h h' t nb nb → TrieAt h' t nb most many (ns.set at_ { x with n := k }) cap c' → Q (.int .i64 0) h')
    (h3 : mayB a n = true → look ns a n = none → most ≤ many → Q (.int .i64 4) h)
    (h4 : ∀ x h' nb' cap' c', mayB a n = true → look ns a n = none → many < most → Chg h h' t nb nb' → NsOk (mkDown ns 0 (bitsFrom a 0 n.toNat)).2 → (mkDown ns 0 (bitsFrom a 0 n.toNat)).2[(mkDown ns 0 (bitsFrom a 0 n.toNat)).1]? = some x →
      TrieAt h' t nb' most (many + 1) ((mkDown ns 0 (bitsFrom a 0 n.toNat)).2.set (mkDown ns 0 (bitsFrom a 0 n.toNat)).1 { x with n := k, has := true }) cap' c' → Q (.int .i64 0) h') :
    Ok Try.prog F_trie_Trie_Put #[.pointer (some ⟨t, 0, none⟩), .agg #[.int .u32 a, .int .i64 n], .int .i64 k] h Q := by
  refine trie_Trie_Put_ok (by simp) ?_
  unfold trie_Trie_Put_D
  simp (disch := omega) [trie_Trie_Put_r0]
  intro b hb
  have l : Le h (h.upd b (.cells #[.int .u32 a, .int .i64 n] 24)) := .new hb
  have T1 : TrieAt (h.upd b (.cells #[.int .u32 a, .int .i64 n] 24)) t nb most many ns cap c := ⟨l _ _ T.t, l _ _ T.nb, T.le, T.size, T.enc⟩
  have hbb : (h.upd b (.cells #[.int .u32 a, .int .i64 n] 24)) b = some (.cells #[.int .u32 a, .int .i64 n] 24) := by simp
  generalize h.upd b (.cells #[.int .u32 a, .int .i64 n] 24) = g at *
  have ht := T1.t
  have hnb := T1.nb
  have hne := T1.ne
  simp (disch := omega) [trie_Trie_Put_r1, hbb]
  refine find_spec T1 O ha ?_
  simp (disch := omega) [trie_Trie_Put_r2, hbb]
  refine may_spec ha ?_
  cases hm : mayB a n with
  | false =>
    simp (disch := omega) [trie_Trie_Put_r3]
    exact .to h l (h1 hm)
  | true =>
  cases hl : look ns a n with
  | some p =>
    obtain ⟨at_, x⟩ := p
    obtain ⟨_, _, hx, _⟩ := look_some hl
    have hat : at_ < ns.length := (List.getElem?_eq_some_iff.1 hx).1
    obtain ⟨_, _, e2, e3⟩ := T1.get hx
    have hs : ns.length * 4 ≤ c.size := Nat.le_trans (Nat.mul_le_mul_right 4 T.le) T.size
    simp (disch := omega) [trie_Trie_Put_r4, trie_Trie_Put_r5, trie_Trie_Put_r6, ht, hnb, e2, hne, Ne.symm hne]
    refine .to _ (.refl _) (h2 at_ x _ _ hl ⟨fun y o hy h1 h2 => ?_, .inl rfl⟩ ⟨by simp [hne, ht], by simp, by simpa using T.le, by simpa using T.size, T.enc.setN hx hs k⟩)
    simp [h1, h2, l _ _ hy]
  | none =>
    by_cases hful : most ≤ many
    · simp (disch := omega) [trie_Trie_Put_r4, trie_Trie_Put_r7, trie_Trie_Put_r8, ht, hful]
      exact .to h l (h3 hm hl hful)
    · obtain ⟨h0, h32⟩ := mayB_le hm
      obtain ⟨m, rfl⟩ := Int.eq_ofNat_of_zero_le h0
      simp (disch := omega) [trie_Trie_Put_r4, trie_Trie_Put_r7, trie_Trie_Put_r9, hbb, ht, hful]
      refine make_spec T1 O hf ha (by omega) (fun h' nb' cap' c' C T' O' hlt => ?_)
      have ht' := T'.t
      have hnb' := T'.nb
      have hne' := T'.ne
      simp only [Int.toNat_natCast] at h4
      generalize hmk : mkDown ns 0 (bitsFrom a 0 m) = mk at *
      obtain ⟨at_, ns'⟩ := mk
      simp only at *
      obtain ⟨x, hx⟩ : ∃ x, ns'[at_]? = some x := ⟨_, List.getElem?_eq_getElem hlt⟩
      obtain ⟨_, _, e2, e3⟩ := T'.get hx
      have hs : ns'.length * 4 ≤ c'.size := Nat.le_trans (Nat.mul_le_mul_right 4 T'.le) T'.size
      have e3' : (c'.setIfInBounds (at_ * 4 + 2) (.int .i64 k))[at_ * 4 + 3]? = some (.bool x.has) := by rw [Array.getElem?_setIfInBounds_ne (by omega)]; exact e3
      simp (disch := omega) [trie_Trie_Put_r10, trie_Trie_Put_r11, trie_Trie_Put_r12, ht', hnb', e2, e3, e3', hne', Ne.symm hne', wrap_i64]
      refine .to _ (.refl _) (h4 x _ nb' cap' _ hm hl (by omega) ⟨fun y o hy h1 h2 => ?_, ?_⟩ O' hx ⟨by simp [hne'], by simp [Ne.symm hne'], by simpa using T'.le, by simpa using T'.size, T'.enc.setBoth hx hs k true⟩)
      · have hy' := C.keep y o (l _ _ hy) h1 h2
        have : y ≠ nb' := by
          rintro rfl
          rcases C.fresh with e | e
          · exact h2 e
          · rw [l _ _ hy] at e; cases e
        simp [h1, this, hy']
      · rcases C.fresh with e | e
        · exact .inl e
        · refine .inr ?_
          cases hq : h nb' with
          | none => rfl
          | some o => rw [l _ _ hq] at e; cases e
end Go.Proofs.Ytmbhlbohbpepaaa

/- The trie in memory: Find. -/
namespace Go.Proofs.Ytmbhlbohbpepaaa
open Go
set_option linter.unusedSimpArgs false

/-- The longest one on the way down that has something: its length, what it has. -/
def best (ns : List Nd) (addr : Nat) : Nat → Nat → Nat → Option (Nat × Int) → Option (Nat × Int)
  | 0, at_, i, cur =>
    match ns[at_]? with
    | none => cur
    | some x => if x.has = true then some (i, x.n) else cur
  | d + 1, at_, i, cur =>
    match ns[at_]? with
    | none => cur
    | some x =>
      if child x (bitAt addr i) = 0 then (if x.has = true then some (i, x.n) else cur)
      else best ns addr d (child x (bitAt addr i)) (i + 1) (if x.has = true then some (i, x.n) else cur)

def bestOf (ns : List Nd) (addr : Nat) : Option (Nat × Int) := best ns addr 32 0 0 none
def cutA (addr l : Nat) : Nat := addr / 2 ^ (32 - l) * 2 ^ (32 - l)
def curA (addr : Nat) : Option (Nat × Int) → Nat
  | none => 0
  | some (l, _) => cutA addr l
def curL : Option (Nat × Int) → Nat
  | none => 0
  | some (l, _) => l
def curN : Option (Nat × Int) → Int
  | none => 0
  | some (_, n) => n

def FindInv (h : Hp) (t b : Nat) (ns : List Nd) (addr : Nat) (m : Nat) (env : Env) (g : Hp) : Prop :=
  (∀ x o, h x = some o → g x = some o) ∧ env 0 = .pointer (some ⟨t, 0, none⟩) ∧ env 1 = .int .u32 addr ∧ env 4 = .pointer (some ⟨b, 0, none⟩) ∧
    ∃ (at_ i : Nat) (cur : Option (Nat × Int)), env 7 = .int .i64 at_ ∧ env 8 = .int .i64 i ∧ i + m = 32 ∧ at_ < ns.length ∧ (∀ l k, cur = some (l, k) → l ≤ 32) ∧
      g b = some (.cells #[.int .u32 (curA addr cur), .int .i64 (curL cur)] 24 (0, 0)) ∧ env 5 = .int .i64 (curN cur) ∧ env 6 = .bool cur.isSome ∧
      best ns addr m at_ i cur = bestOf ns addr

theorem Find_spec {h : Hp} {t nb : Nat} {most many : Int} {ns : List Nd} {cap : Nat} {c : Array Value} {addr : Nat} {Q : Value → Hp → Prop} (T : TrieAt h t nb most many ns cap c) (O : NsOk ns) (ha : addr < 2 ^ 32)
    (hQ : Q (.tuple #[.agg #[.int .u32 (curA addr (bestOf ns addr)), .int .i64 (curL (bestOf ns addr))], .int .i64 (curN (bestOf ns addr)), .bool (bestOf ns addr).isSome]) h) :
    Ok Try.prog F_trie_Trie_Find #[.pointer (some ⟨t, 0, none⟩), .int .u32 addr] h Q := by
  refine trie_Trie_Find_ok (by simp) ?_
  unfold trie_Trie_Find_D
  simp (disch := omega) [trie_Trie_Find_r0]
  intro b hb
  have l : Le h (h.upd b (.cells #[.int .u32 0, .int .i64 0] 24)) := .new hb
  have hbb : (h.upd b (.cells #[.int .u32 0, .int .i64 0] 24)) b = some (.cells #[.int .u32 0, .int .i64 0] 24) := by simp
  generalize h.upd b (.cells #[.int .u32 0, .int .i64 0] 24) = g0 at *
  refine scp_one trie_Trie_Find_S0_lab0 rfl (FindInv h t b ns addr) ?_ ?_
  · intro K hK
    simp (disch := omega) [trie_Trie_Find_r1]
    exact hK 32 _ _ ⟨l, by simp, by simp, by simp, 0, 0, none, by simp, by simp, by omega, O.pos, by simp, by simpa [curA, curL] using hbb, by simp [curN], by simp, rfl⟩
  · rintro m env g ⟨lg, e0, e1, e4, at_, i, cur, e7, e8, him, hat, hcl, hbb', e5, e6, hd⟩
    have ht := lg _ _ T.t
    have hnb := lg _ _ T.nb
    obtain ⟨x, hx⟩ : ∃ x, ns[at_]? = some x := ⟨_, List.getElem?_eq_getElem hat⟩
    obtain ⟨f0, f1, f2, f3⟩ := T.get hx
    have f0' := T.below hx (bitAt_lt addr i)
    unfold trie_Trie_Find_S0_at0
    simp (disch := omega) [trie_Trie_Find_r2, e0, e1, e4, e5, e6, e7, e8, ht, hnb, f0, f1, f2, f3]
    intro b9 hb9
    have n94 : b ≠ b9 := ne_new hbb' hb9
    have cont : ∀ (env' : Env) (g' : Hp) (cur' : Option (Nat × Int)), (∀ x o, h x = some o → g' x = some o) → env' 0 = .pointer (some ⟨t, 0, none⟩) → env' 1 = .int .u32 addr → env' 4 = .pointer (some ⟨b, 0, none⟩) →
        env' 7 = .int .i64 at_ → env' 8 = .int .i64 i → (∀ l k, cur' = some (l, k) → l ≤ 32) → g' b = some (.cells #[.int .u32 (curA addr cur'), .int .i64 (curL cur')] 24 (0, 0)) →
        env' 5 = .int .i64 (curN cur') → env' 6 = .bool cur'.isSome → cur' = (if x.has = true then some (i, x.n) else cur) →
        (sq (sq (rg trie_Trie_Find_r5) (cnd (Operand.tmp 28) (sq (rg trie_Trie_Find_r6) (sq (rg trie_Trie_Find_r7) (cnd (Operand.tmp 42) (sq (rg trie_Trie_Find_r8) (ex (.goto 0))) (ex .normal)))) (ex .normal))) (sq (rg trie_Trie_Find_r9) (ex .ret)))
          (jumpK (fun l' env h_1 => l' = 0 ∧ ∃ k, k < m ∧ FindInv h t b ns addr k env h_1) (fin Try.prog [ResultVar.cell 4 24, ResultVar.tmp 5, ResultVar.tmp 6] Q)) env' g' := by
      intro env' g' cur' lg e0 e1 e4 e7 e8 hcl hbb e5 e6 hcur
      have ht := lg _ _ T.t
      have hnb := lg _ _ T.nb
      cases m with
      | zero =>
        have : i = 32 := by omega
        subst this
        simp only [best, hx] at hd
        rw [← hcur] at hd
        rw [← hd] at hQ
        simp (disch := omega) [trie_Trie_Find_r5, trie_Trie_Find_r9, e0, e1, e4, e5, e6, e7, e8, hbb]
        exact .to h (Le.put lg hb) hQ
      | succ m =>
        have hi31 : (i : Int) ≤ 31 := by omega
        simp only [best, hx] at hd
        rw [← hcur] at hd
        simp (disch := omega) [trie_Trie_Find_r5, trie_Trie_Find_r6, e0, e1, e4, e5, e6, e7, e8, ht, hi31]
        refine bit_spec ha (by omega) ?_
        rw [show addr / 2 ^ (31 - i) % 2 = bitAt addr i from rfl]
        have hlt := bitAt_lt addr i
        generalize bitAt addr i = bt at *
        by_cases hc : child x bt = 0
        · rw [if_pos hc] at hd
          rw [← hd] at hQ
          simp (disch := omega) [trie_Trie_Find_r7, trie_Trie_Find_r9, e0, e1, e4, e5, e6, e7, e8, ht, hnb, f0', hbb, hc]
          exact .to h (Le.put lg hb) hQ
        · rw [if_neg hc] at hd
          have hlt2 := (O.child hx (b := bt)).resolve_left hc
          have hc' : ¬ (child x bt : Int) = 0 := by omega
          simp (disch := omega) [trie_Trie_Find_r7, trie_Trie_Find_r8, e0, e1, e4, e5, e6, e7, e8, ht, hnb, f0', hbb, hc, wrap_i64]
          exact ⟨m, by omega, lg, by simp [e0], by simp [e1], by simp [e4], child x bt, i + 1, cur', by simp, by simp, by omega, hlt2.2, hcl, hbb, by simp [e5], by simp [e6], hd⟩
    have lg9 : ∀ u, ∀ y o, h y = some o → (g.upd b9 u) y = some o := by
      intro u y o hy
      have := lg y o hy
      simp [ne_new this hb9, this]
    cases hh : x.has with
    | false =>
      simp (disch := omega) [trie_Trie_Find_r3, hh]
      refine cont _ _ cur (lg9 _) (by simp [e0]) (by simp [e1]) (by simp [e4]) (by simp [e7]) (by simp [e8]) hcl (by simp [n94, hbb']) (by simp [e5]) (by simp [e6]) (by simp [hh])
    | true =>
      simp (disch := omega) [trie_Trie_Find_r3, trie_Trie_Find_r4, hh, e1, e8]
      refine mask_spec ?_
      rw [maskI_nat (by omega)]
      simp (disch := omega) [bits_and_u32 ha (msk_lt i), e4, e8, n94, Ne.symm n94, hbb']
      have hv : ((addr &&& msk i : Nat) : Int) = (cutA addr i : Nat) := by rw [and_msk ha (by omega)]; rfl
      rw [hv]
      refine cont _ _ (some (i, x.n)) (fun y o hy => ?_) (by simp [e0]) (by simp [e1]) (by simp [e4]) (by simp [e7]) (by simp [e8]) (by intro l k e; cases e; omega) (by simp [n94, curA, curL]) (by simp [curN]) (by simp) (by simp [hh])
      have hyb : y ≠ b := ne_new hy hb
      have := lg9 (.cells #[.int .i64 x.l, .int .i64 x.r, .int .i64 x.n, .bool true] 87) y o hy
      simpa [hyb] using this
end Go.Proofs.Ytmbhlbohbpepaaa

/- The trie in memory: gather, All. -/
namespace Go.Proofs.Ytmbhlbohbpepaaa
open Go
set_option linter.unusedSimpArgs false

def pe (p : Nat × Nat) : List Value := [.int .u32 p.1, .int .i64 p.2]

/-- The prefixes below a node, that one first. -/
def gath (ns : List Nd) : Nat → Nat → Nat → Nat → List (Nat × Nat)
  | 0, at_, a, n => match ns[at_]? with
    | none => []
    | some x => if x.has = true then [(a, n)] else []
  | d + 1, at_, a, n => match ns[at_]? with
    | none => []
    | some x => (if x.has = true then [(a, n)] else []) ++ (if x.l = 0 then [] else gath ns d x.l a (n + 1)) ++ (if x.r = 0 then [] else gath ns d x.r (a + 2 ^ (31 - n)) (n + 1))

/-- No way goes on for more than so many bits. -/
def Fit (ns : List Nd) : Nat → Nat → Prop
  | 0, at_ => ∀ x, ns[at_]? = some x → x.l = 0 ∧ x.r = 0
  | d + 1, at_ => ∀ x, ns[at_]? = some x → (x.l = 0 ∨ Fit ns d x.l) ∧ (x.r = 0 ∨ Fit ns d x.r)

structure GKeep (h h' : Hp) (v v' : Value) : Prop where
  keep : ∀ y o, h y = some o → some y ≠ blkOf v → h' y = some o
  fresh : blkOf v' = blkOf v ∨ ∀ b, blkOf v' = some b → h b = none

theorem GKeep.trans {h h1 h2 : Hp} {v v1 v2 : Value} (a : GKeep h h1 v v1) (b : GKeep h1 h2 v1 v2) : GKeep h h2 v v2 where
  keep := fun y o hy hne => by
    refine b.keep y o (a.keep y o hy hne) ?_
    rcases a.fresh with e | e
    · rw [e]; exact hne
    · intro e2
      have := e y e2.symm
      rw [hy] at this; cases this
  fresh := by
    rcases b.fresh with e | e
    · rw [e]; exact a.fresh
    · cases hv2 : blkOf v2 with
      | none => exact .inr (fun y hy => by cases hy)
      | some y =>
        by_cases hyv : some y = blkOf v
        · exact .inl hyv
        · refine .inr fun y' hy => ?_
          cases hy
          have h1n := e y hv2
          cases hh : h y with
          | none => rfl
          | some o =>
            have := a.keep y o hh hyv
            rw [h1n] at this; cases this

theorem TrieAt.mono {h g : Hp} {t nb : Nat} {most many : Int} {ns : List Nd} {cap : Nat} {c : Array Value} (T : TrieAt h t nb most many ns cap c) (l : ∀ o, h t = some o → g t = some o) (l2 : ∀ o, h nb = some o → g nb = some o) : TrieAt g t nb most many ns cap c :=
  ⟨l _ T.t, l2 _ T.nb, T.le, T.size, T.enc⟩

theorem gath_len (ns : List Nd) : ∀ d at_ a n, (gath ns d at_ a n).length < 2 ^ (d + 1)
  | 0, at_, a, n => by
    simp only [gath]; split
    · simp
    · split <;> simp
  | d + 1, at_, a, n => by
    have hp : 0 < 2 ^ (d + 1) := Nat.two_pow_pos _
    have h0 : 2 ^ (d + 1 + 1) = 2 * 2 ^ (d + 1) := by rw [Nat.pow_succ]; omega
    simp only [gath]; split
    · simp only [List.length_nil]; omega
    · rename_i x _
      have h1 := gath_len ns d x.l a (n + 1)
      have h2 := gath_len ns d x.r (a + 2 ^ (31 - n)) (n + 1)
      have h3 : (if x.l = 0 then [] else gath ns d x.l a (n + 1)).length < 2 ^ (d + 1) := by
        split
        · exact hp
        · exact h1
      have h4 : (if x.r = 0 then [] else gath ns d x.r (a + 2 ^ (31 - n)) (n + 1)).length < 2 ^ (d + 1) := by
        split
        · exact hp
        · exact h2
      have h5 : (if x.has = true then [(a, n)] else []).length ≤ 1 := by split <;> simp
      simp only [List.length_append]
      omega

theorem or_bit {a n : Nat} (hn : n ≤ 31) (hm : a % 2 ^ (32 - n) = 0) : a ||| 2 ^ (31 - n) = a + 2 ^ (31 - n) := by
  have hp : 2 ^ (31 - n) < 2 ^ (32 - n) := Nat.pow_lt_pow_right (by omega) (by omega)
  have := Nat.two_pow_add_eq_or_of_lt hp (a / 2 ^ (32 - n))
  have e : 2 ^ (32 - n) * (a / 2 ^ (32 - n)) = a := by
    have := Nat.div_add_mod a (2 ^ (32 - n)); omega
  rw [e] at this
  exact this.symm

theorem step_bit {a n : Nat} (hn : n ≤ 31) (ha : a < 2 ^ 32) (hm : a % 2 ^ (32 - n) = 0) : a + 2 ^ (31 - n) < 2 ^ 32 ∧ (a + 2 ^ (31 - n)) % 2 ^ (32 - (n + 1)) = 0 ∧ a % 2 ^ (32 - (n + 1)) = 0 := by
  have e1 : 32 - (n + 1) = 31 - n := by omega
  have e2 : 2 ^ (32 - n) = 2 * 2 ^ (31 - n) := by
    have : 32 - n = (31 - n) + 1 := by omega
    rw [this, Nat.pow_succ]; omega
  have e3 : (2 : Nat) ^ 32 = 2 ^ n * 2 ^ (32 - n) := by rw [← Nat.pow_add]; congr 1; omega
  rw [e1]
  have hp : 0 < 2 ^ (31 - n) := Nat.two_pow_pos _
  obtain ⟨q, rfl⟩ : ∃ q, a = 2 ^ (32 - n) * q := ⟨a / 2 ^ (32 - n), by have := Nat.div_add_mod a (2 ^ (32 - n)); omega⟩
  have hq : q < 2 ^ n := by
    rw [e3, Nat.mul_comm (2 ^ n)] at ha
    exact Nat.lt_of_mul_lt_mul_left ha
  refine ⟨?_, ?_, ?_⟩
  · have : 2 ^ (32 - n) * (q + 1) ≤ 2 ^ (32 - n) * 2 ^ n := Nat.mul_le_mul_left _ hq
    rw [Nat.mul_comm (2 ^ (32 - n)) (2 ^ n), ← e3, Nat.mul_add] at this
    omega
  · rw [e2]
    have : 2 * 2 ^ (31 - n) * q + 2 ^ (31 - n) = 2 ^ (31 - n) * (2 * q + 1) := by rw [Nat.mul_add, Nat.mul_one]; congr 1; rw [Nat.mul_comm 2, Nat.mul_assoc]
    rw [this]; exact Nat.mul_mod_right _ _
  · rw [e2]
    have : 2 * 2 ^ (31 - n) * q = 2 ^ (31 - n) * (2 * q) := by rw [Nat.mul_comm 2, Nat.mul_assoc]
    rw [this]; exact Nat.mul_mod_right _ _

def GPart (ns : List Nd) (d a n : Nat) (x : Nd) (xs : List (Nat × Nat)) (j : Nat) : List (Nat × Nat) :=
  xs ++ (if x.has = true then [(a, n)] else []) ++ (if 1 ≤ j then (match d with | 0 => [] | d + 1 => if x.l = 0 then [] else gath ns d x.l a (n + 1)) else []) ++
    (if 2 ≤ j then (match d with | 0 => [] | d + 1 => if x.r = 0 then [] else gath ns d x.r (a + 2 ^ (31 - n)) (n + 1)) else [])

def GInv (h : Hp) (t b7 : Nat) (ns : List Nd) (d a n : Nat) (x : Nd) (xs : List (Nat × Nat)) (v : Value) (m : Nat) (env : Env) (g : Hp) : Prop :=
  env 0 = .pointer (some ⟨t, 0, none⟩) ∧ env 7 = .pointer (some ⟨b7, 0, none⟩) ∧ env 26 = .agg #[.int .i64 x.l, .int .i64 x.r] ∧
    ∃ (j : Nat) (v' : Value), j + m = 2 ∧ env 27 = .int .i64 j ∧ env 1 = v' ∧ g b7 = some (.cells #[.int .u32 a, .int .i64 n] 24 (0, 0)) ∧ some b7 ≠ blkOf v' ∧ GKeep h g v v' ∧ SlAt g T_api_Prefix 2 pe v' (GPart ns d a n x xs j)

def GSpec (d : Nat) : Prop := ∀ (h : Hp) (t nb : Nat) (most many : Int) (ns : List Nd) (cap : Nat) (c : Array Value) (at_ a n : Nat) (xs : List (Nat × Nat)) (v : Value) (Q : Value → Hp → Prop),
  TrieAt h t nb most many ns cap c → NsOk ns → Fit ns d at_ → at_ < ns.length → n + d = 32 → a < 2 ^ 32 → a % 2 ^ (32 - n) = 0 → SlAt h T_api_Prefix 2 pe v xs → some t ≠ blkOf v → some nb ≠ blkOf v → xs.length + 2 ^ (d + 1) ≤ 2 ^ 36 →
  (∀ v' h', SlAt h' T_api_Prefix 2 pe v' (xs ++ gath ns d at_ a n) → GKeep h h' v v' → Q v' h') →
  Ok Try.prog F_trie_Trie_gather #[.pointer (some ⟨t, 0, none⟩), v, .int .i64 at_, .agg #[.int .u32 a, .int .i64 n]] h Q

theorem slice_shape {α : Type} {h : Hp} {E sz : Nat} {enc : α → List Value} {v : Value} {xs : List α} (S : SlAt h E sz enc v xs) : ∃ p l k, v = .slice p l k := by
  rcases S with ⟨rfl, _⟩ | ⟨b, cap, c, rfl, _⟩
  · exact ⟨_, _, _, rfl⟩
  · exact ⟨_, _, _, rfl⟩

theorem gather_step (d : Nat) (IH : ∀ d', d = d' + 1 → GSpec d') : GSpec d := by
  intro h t nb most many ns cap c at_ a n xs v Q T O hfit hat hnd ha hmod S htv hnv hlen hQ
  have hpos : 0 < 2 ^ (d + 1) := Nat.two_pow_pos _
  have hlt32 : 2 ^ (d + 1) ≤ 2 ^ 33 := Nat.pow_le_pow_right (by omega) (by omega)
  refine trie_Trie_gather_ok (by simp) ?_
  unfold trie_Trie_gather_D
  simp (disch := omega) [trie_Trie_gather_r0]
  intro b7 hb7
  have l : Le h (h.upd b7 (.cells #[.int .u32 a, .int .i64 n] 24)) := .new hb7
  have hb7' : (h.upd b7 (.cells #[.int .u32 a, .int .i64 n] 24)) b7 = some (.cells #[.int .u32 a, .int .i64 n] 24) := by simp
  generalize h.upd b7 (.cells #[.int .u32 a, .int .i64 n] 24) = g at *
  obtain ⟨x, hx⟩ : ∃ x, ns[at_]? = some x := ⟨_, List.getElem?_eq_getElem hat⟩
  obtain ⟨f0, f1, f2, f3⟩ := T.get hx
  have ht := l _ _ T.t
  have hnb := l _ _ T.nb
  simp (disch := omega) [trie_Trie_gather_r1, ht, hnb, f0, f1, f2, f3]
  intro b9 hb9
  have n79 : b7 ≠ b9 := ne_new hb7' hb9
  simp (disch := omega)
  have hb9n : ∀ o, h b9 ≠ some o := fun o ho => by rw [l _ _ ho] at hb9; cases hb9
  have hb9' : (g.upd b9 (.cells #[.int .i64 x.l, .int .i64 x.r, .int .i64 x.n, .bool x.has] 87)) b9 = some (.cells #[.int .i64 x.l, .int .i64 x.r, .int .i64 x.n, .bool x.has] 87) := by simp
  have hb71 := Le.new (o := .cells #[.int .i64 x.l, .int .i64 x.r, .int .i64 x.n, .bool x.has] 87) hb9 _ _ hb7'
  have l1 := l.trans (Le.new (o := .cells #[.int .i64 x.l, .int .i64 x.r, .int .i64 x.n, .bool x.has] 87) hb9)
  generalize g.upd b9 (.cells #[.int .i64 x.l, .int .i64 x.r, .int .i64 x.n, .bool x.has] 87) = g1 at *
  clear hb7' l ht hnb hb9 g
  have vblk : ∀ b, blkOf v = some b → ∃ o, h b = some o := by
    intro b hb
    rcases S with ⟨rfl, _⟩ | ⟨b', cap', c', rfl, hh, _⟩
    · cases hb
    · cases hb; exact ⟨_, hh⟩
  have hb7v : some b7 ≠ blkOf v := by
    intro e
    obtain ⟨o, ho⟩ := vblk b7 e.symm
    rw [hb7] at ho; cases ho
  have cont : ∀ (env' : Env) (g' : Hp) (v' : Value), env' 0 = .pointer (some ⟨t, 0, none⟩) → env' 7 = .pointer (some ⟨b7, 0, none⟩) → env' 9 = .pointer (some ⟨b9, 0, none⟩) → env' 1 = v' →
      g' b7 = some (.cells #[.int .u32 a, .int .i64 n] 24 (0, 0)) → g' b9 = some (.cells #[.int .i64 x.l, .int .i64 x.r, .int .i64 x.n, .bool x.has] 87 (0, 0)) → some b7 ≠ blkOf v' → GKeep h g' v v' →
      SlAt g' T_api_Prefix 2 pe v' (GPart ns d a n x xs 0) →
      (sq (sq (rg trie_Trie_gather_r4) (blk 0 (lp trie_Trie_gather_L0))) (sq (rg trie_Trie_gather_r10) (ex .ret))) (fin Try.prog [ResultVar.tmp 8] Q) env' g' := by
    intro env' g' v' e0 e7 e9 e1 h7 h9 hne7 K' S'
    simp (disch := omega) [trie_Trie_gather_r4, e0, e7, e9, h9]
    refine ⟨GInv h t b7 ns d a n x xs v, ⟨2, by simp [e0], by simp [e7], by simp, 0, v', rfl, by simp, by simp [e1], h7, hne7, K', S'⟩, ?_⟩
    clear e0 e7 e9 e1 h7 h9 hne7 K' S' env' g' v'
    rintro m env' g' ⟨e0, e7, e26, j, v', hjm, e27, e1, h7, hne7, K', S'⟩
    have htv' : some t ≠ blkOf v' := by
      rcases K'.fresh with e | e
      · rw [e]; exact htv
      · intro e2; have := e t e2.symm; rw [T.t] at this; cases this
    have hnv' : some nb ≠ blkOf v' := by
      rcases K'.fresh with e | e
      · rw [e]; exact hnv
      · intro e2; have := e nb e2.symm; rw [T.nb] at this; cases this
    have T' : TrieAt g' t nb most many ns cap c := T.mono (fun o ho => K'.keep t o ho htv) (fun o ho => K'.keep nb o ho hnv)
    unfold trie_Trie_gather_L0
    by_cases hm : m = 0
    · subst hm
      have : j = 2 := by omega
      subst this
      simp (disch := omega) [trie_Trie_gather_r5, trie_Trie_gather_r10, e0, e7, e26, e27, e1]
      refine .to g' (.refl _) (hQ v' g' ?_ K')
      have : GPart ns d a n x xs 2 = xs ++ gath ns d at_ a n := by
        cases d <;> simp [GPart, gath, hx]
      rw [← this]; exact S'
    · have hj2 : (j : Int) < 2 := by omega
      obtain ⟨ch, hch, hcs⟩ : ∃ ch : Nat, #[Value.int .i64 x.l, Value.int .i64 x.r][j]? = some (.int .i64 ch) ∧ (ch = if j = 0 then x.l else x.r) := by
        have : j = 0 ∨ j = 1 := by omega
        rcases this with rfl | rfl
        · exact ⟨x.l, rfl, rfl⟩
        · exact ⟨x.r, rfl, rfl⟩
      by_cases hc0 : ch = 0
      · simp (disch := omega) [trie_Trie_gather_r5, trie_Trie_gather_r6, trie_Trie_gather_r7, trie_Trie_gather_r9, e0, e7, e26, e27, e1, hj2, hch, hc0, wrap_i64]
        refine ⟨m - 1, by omega, by simp [e0], by simp [e7], by simp [e26], j + 1, v', by omega, by simp, by simp [e1], h7, hne7, K', ?_⟩
        have : GPart ns d a n x xs (j + 1) = GPart ns d a n x xs j := by
          have hj : j = 0 ∨ j = 1 := by omega
          rcases hj with rfl | rfl
          · simp only [if_true] at hcs
            cases d <;> simp [GPart, ← hcs, hc0]
          · simp at hcs
            cases d <;> simp [GPart, ← hcs, hc0]
        rw [this]; exact S'
      · obtain ⟨d', rfl⟩ : ∃ d', d = d' + 1 := by
          cases d with
          | zero =>
            have := hfit x hx
            split at hcs <;> omega
          | succ d' => exact ⟨d', rfl⟩
        have hf2 := hfit x hx
        have hch2 : Fit ns d' ch ∧ at_ < ch ∧ ch < ns.length := by
          have h1 := O.l at_ x hx
          have h2 := O.r at_ x hx
          split at hcs
          · subst hcs; exact ⟨hf2.1.resolve_left hc0, h1.resolve_left hc0⟩
          · subst hcs; exact ⟨hf2.2.resolve_left hc0, h2.resolve_left hc0⟩
        obtain ⟨sb1, sb2, sb3⟩ := step_bit (by omega : n ≤ 31) ha hmod
        have hj : j = 0 ∨ j = 1 := by omega
        obtain ⟨a', ha', haddr⟩ : ∃ a' : Nat, (a' = if j = 0 then a else a + 2 ^ (31 - n)) ∧ bits_or .u32 (a : Int) (IntKind.u32.wrap (IntKind.u32.wrap (j : Int) * 2 ^ (31 - n))) = (a' : Nat) := by
          rcases hj with rfl | rfl
          · refine ⟨a, rfl, ?_⟩
            rw [wrap_u32 (x := ((0 : Nat) : Int)) (by omega) (by omega)]
            have := bits_or_u32 (b := 0) ha (by omega)
            simpa [wrap_u32] using this
          · refine ⟨a + 2 ^ (31 - n), rfl, ?_⟩
            have hp : 2 ^ (31 - n) < 2 ^ 32 := Nat.pow_lt_pow_right (by omega) (by omega)
            have := bits_or_u32 (b := 2 ^ (31 - n)) ha hp
            rw [or_bit (by omega) hmod] at this
            rw [← this]
            congr 1
            rw [wrap_u32 (x := ((1 : Nat) : Int)) (by omega) (by omega)]
            have e : ((1 : Nat) : Int) * 2 ^ (31 - n) = ((2 ^ (31 - n) : Nat) : Int) := by simp
            have hp0 : (0 : Int) ≤ ((2 ^ (31 - n) : Nat) : Int) := Int.natCast_nonneg _
            have hp1 : ((2 ^ (31 - n) : Nat) : Int) < ((4294967296 : Nat) : Int) := Int.ofNat_lt.2 hp
            rw [e, wrap_u32 hp0 hp1]
        have haz : a' < 2 ^ 32 ∧ a' % 2 ^ (32 - (n + 1)) = 0 := by
          rcases hj with rfl | rfl
          · rw [ha']; exact ⟨ha, sb3⟩
          · rw [ha']; exact ⟨sb1, sb2⟩
        have hpart : GPart ns (d' + 1) a n x xs (j + 1) = GPart ns (d' + 1) a n x xs j ++ gath ns d' ch a' (n + 1) := by
          rcases hj with rfl | rfl
          · simp only [if_true] at hcs ha'
            subst ha'
            simp [GPart, ← hcs, hc0]
          · simp at hcs ha'
            subst ha'
            simp [GPart, ← hcs, hc0]
        have hc0' : ¬ (ch : Int) = 0 := by omega
        have hn1 : IntKind.i64.wrap ((n : Int) + 1) = ((n + 1 : Nat) : Int) := by rw [wrap_i64] <;> omega
        simp (disch := omega) [trie_Trie_gather_r5, trie_Trie_gather_r6, trie_Trie_gather_r7, trie_Trie_gather_r8, e0, e7, e26, e27, e1, hj2, hch, hc0, h7]
        rw [wrap_i64 (x := 31 - (n : Int)) (by omega) (by omega)]
        simp (disch := omega) [haddr, hn1]
        have hlen' : (GPart ns (d' + 1) a n x xs j).length + 2 ^ (d' + 1) ≤ 2 ^ 36 := by
          have h1 := gath_len ns d' x.l a (n + 1)
          have h2 : 2 ^ (d' + 1 + 1) = 2 * 2 ^ (d' + 1) := by rw [Nat.pow_succ]; omega
          have h3 : (if x.l = 0 then [] else gath ns d' x.l a (n + 1)).length < 2 ^ (d' + 1) := by
            split
            · exact Nat.two_pow_pos _
            · exact h1
          have h5 : (if x.has = true then [(a, n)] else []).length ≤ 1 := by split <;> simp
          rcases hj with rfl | rfl
          · simp only [GPart, List.length_append]; simp; omega
          · simp only [GPart, List.length_append]; simp; omega
        refine IH d' rfl g' t nb most many ns cap c ch a' (n + 1) _ v' _ T' O hch2.1 hch2.2.2 (by omega) haz.1 haz.2 S' htv' hnv' hlen' (fun v2 h2 S2 K2 => ?_)
        have K2' := K'.trans K2
        have h7' := K2.keep b7 _ h7 hne7
        have hne72 : some b7 ≠ blkOf v2 := by
          rcases K2.fresh with e | e
          · rw [e]; exact hne7
          · intro e2; have := e b7 e2.symm; rw [h7] at this; cases this
        simp (disch := omega) [trie_Trie_gather_r9, e0, e7, e26, e27, e1, wrap_i64]
        exact ⟨m - 1, by omega, by simp [e0], by simp [e7], by simp [e26], j + 1, v2, by omega, by simp, by simp, h7', hne72, K2', by rw [hpart]; exact S2⟩
  have hg0 : ∀ o : List (Nat × Nat), o = (if x.has = true then [(a, n)] else []) → xs ++ o = GPart ns d a n x xs 0 := by intro o ho; simp [GPart, ho]
  cases hh : x.has with
  | false =>
    simp (disch := omega) [trie_Trie_gather_r2, hb9', hh]
    refine cont _ _ v (by simp) (by simp) (by simp) (by simp) hb71 (by rw [hb9', hh]) hb7v ⟨fun y o hy _ => l1 y o hy, .inl rfl⟩ ?_
    rw [← hg0 [] (by simp [hh]), List.append_nil]
    exact S.keep (fun b o _ hb => l1 b o hb)
  | true =>
    simp (disch := omega) [trie_Trie_gather_r2, trie_Trie_gather_r3, hb9', hb71, hh]
    intro b3 hb3
    have e3 : ∀ y o, h y = some o → y ≠ b3 := fun y o hy => ne_new (l1 y o hy) hb3
    have S3 : SlAt (g1.upd b3 (.cells #[.int .u32 a, .int .i64 n] 24)) T_api_Prefix 2 pe v xs := S.keep (fun b o _ ho => by simp [e3 b o ho, l1 b o ho])
    refine push_api_Prefix (xs := xs) (y := (a, n)) (enc := pe) S3 (by simp [pe]) rfl (by simp [pe]) (by omega) ?_
    intro b4 c4 cap4 hb4 hcap hsz4 henc
    have h4 : some b4 = blkOf v ∨ (b4 ≠ b3 ∧ g1 b4 = none) := hb4.imp id upd_none
    have n73 : b7 ≠ b3 := ne_new hb71 hb3
    have n93 : b9 ≠ b3 := ne_new hb9' hb3
    have n74 : b7 ≠ b4 := by
      rcases h4 with e | e
      · rintro rfl; exact hb7v e
      · exact ne_new hb71 e.2
    have n94 : b9 ≠ b4 := by
      rcases h4 with e | e
      · rintro rfl
        obtain ⟨o, ho⟩ := vblk b9 e.symm
        exact hb9n o ho
      · exact ne_new hb9' e.2
    refine cont _ _ (.slice (some ⟨b4, 0, none⟩) (xs.length + 1) cap4) (by simp) (by simp) (by simp) (by simp) (by simp [n74, n73, hb71]) (by simp [n94, n93, hb9', hh]) (by simpa [blkOf] using n74) ⟨fun y o hy hne => ?_, ?_⟩ ?_
    · have : y ≠ b4 := by
        rcases h4 with e | e
        · rintro rfl; exact hne e
        · exact ne_new (l1 y o hy) e.2
      simp [this, e3 y o hy, l1 y o hy]
    · rcases h4 with e | e
      · exact .inl (by simpa [blkOf] using e)
      · refine .inr fun b hb => ?_
        simp [blkOf] at hb
        subst hb
        cases hq : h b4 with
        | none => rfl
        | some o => rw [l1 b4 o hq] at e; cases e.2
    · rw [← hg0 [(a, n)] (by simp [hh])]
      exact .inr ⟨b4, cap4, c4, by simp, by simp, by simpa using hcap, hsz4, henc⟩

theorem gather_spec (d : Nat) : GSpec d := by
  induction d with
  | zero => exact gather_step 0 (fun d' h => by omega)
  | succ d ih => exact gather_step (d + 1) (fun d' h => by have : d' = d := by omega
                                                           subst this; exact ih)

theorem all_spec {h : Hp} {t nb : Nat} {most many : Int} {ns : List Nd} {cap : Nat} {c : Array Value} {Q : Value → Hp → Prop} (T : TrieAt h t nb most many ns cap c) (O : NsOk ns) (hfit : Fit ns 32 0)
    (hQ : ∀ v h', SlAt h' T_api_Prefix 2 pe v (gath ns 32 0 0 0) → (∀ y o, h y = some o → h' y = some o) → (∀ b, blkOf v = some b → h b = none) → Q v h') :
    Ok Try.prog F_trie_Trie_All #[.pointer (some ⟨t, 0, none⟩)] h Q := by
  refine trie_Trie_All_ok (by simp) ?_
  unfold trie_Trie_All_D
  simp (disch := omega) [trie_Trie_All_r0, trie_Trie_All_r1]
  refine gather_spec 32 h t nb most many ns cap c 0 0 0 [] (.slice none 0 0) _ T O hfit O.pos (by omega) (by omega) (by simp) (.inl ⟨rfl, rfl⟩) (by simp [blkOf]) (by simp [blkOf]) (by simp) (fun v h' S K => ?_)
  refine .to h' (.refl _) (hQ v h' (by simpa using S) (fun y o hy => K.keep y o hy (by simp [blkOf])) (fun b hb => ?_))
  rcases K.fresh with e | e
  · rw [hb] at e; simp [blkOf] at e
  · exact e b hb
end Go.Proofs.Ytmbhlbohbpepaaa

/- The trie as a tree: what ways there are, behind a change. -/
namespace Go.Proofs.Ytmbhlbohbpepaaa
set_option linter.unusedSimpArgs false
set_option linter.unusedVariables false

/-- No node is below two. -/
def TreeOk (ns : List Nd) : Prop := ∀ (i i' b b' : Nat) (x x' : Nd), b < 2 → b' < 2 → ns[i]? = some x → ns[i']? = some x' → child x b ≠ 0 → child x b = child x' b' → i = i' ∧ b = b'

def Bits (bs : List Nat) : Prop := ∀ b ∈ bs, b < 2

theorem bits_from (a i k : Nat) : Bits (bitsFrom a i k) := by
  intro b hb
  simp only [bitsFrom, List.mem_map] at hb
  obtain ⟨j, _, rfl⟩ := hb
  exact bitAt_lt a j

theorem bitsFrom_length (a i k : Nat) : (bitsFrom a i k).length = k := by simp [bitsFrom]

theorem down_append (ns : List Nd) : ∀ (bs cs : List Nat) (s : Nat), down ns s (bs ++ cs) = (down ns s bs).bind fun k => down ns k cs
  | [], cs, s => by simp [down]
  | b :: bs, cs, s => by
    simp only [List.cons_append, down]
    cases ns[s]? with
    | none => rfl
    | some x =>
      simp only
      split
      · rfl
      · exact down_append ns bs cs _

theorem down_lt {ns : List Nd} (O : NsOk ns) : ∀ (bs : List Nat) (s k : Nat), s < ns.length → down ns s bs = some k → k < ns.length ∧ s ≤ k ∧ (bs ≠ [] → s < k)
  | [], s, k, hs, h => by simp [down] at h; subst h; exact ⟨hs, Nat.le_refl _, by simp⟩
  | b :: bs, s, k, hs, h => by
    simp only [down] at h
    cases hx : ns[s]? with
    | none => simp [hx] at h
    | some x =>
      simp only [hx] at h
      split at h
      · cases h
      · rename_i hc
        have h1 := (O.child hx (b := b)).resolve_left hc
        have h2 := down_lt O bs _ k h1.2 h
        exact ⟨h2.1, by omega, fun _ => by omega⟩

theorem down_inj {ns : List Nd} (O : NsOk ns) (T : TreeOk ns) : ∀ (n : Nat) (bs cs : List Nat) (k : Nat), bs.length ≤ n → Bits bs → Bits cs → down ns 0 bs = some k → down ns 0 cs = some k → bs = cs := by
  intro n
  induction n with
  | zero =>
    intro bs cs k hn hb hc h1 h2
    have : bs = [] := by simpa using hn
    subst this
    simp [down] at h1
    subst h1
    cases cs with
    | nil => rfl
    | cons c cs => exact absurd ((down_lt O _ _ _ O.pos h2).2.2 (by simp)) (by omega)
  | succ n ih =>
    intro bs cs k hn hb hc h1 h2
    rcases List.eq_nil_or_concat bs with rfl | ⟨bs', b, rfl⟩
    · simp [down] at h1
      subst h1
      cases cs with
      | nil => rfl
      | cons c cs => exact absurd ((down_lt O _ _ _ O.pos h2).2.2 (by simp)) (by omega)
    · rcases List.eq_nil_or_concat cs with rfl | ⟨cs', c, rfl⟩
      · simp [down] at h2
        subst h2
        exact absurd ((down_lt O _ _ _ O.pos h1).2.2 (by simp)) (by omega)
      · simp only [List.concat_eq_append] at *
        rw [down_append] at h1 h2
        cases h3 : down ns 0 bs' with
        | none => simp [h3] at h1
        | some i =>
          cases h4 : down ns 0 cs' with
          | none => simp [h4] at h2
          | some i' =>
            simp only [h3, h4, Option.bind_some, down] at h1 h2
            cases hx : ns[i]? with
            | none => simp [hx] at h1
            | some x =>
              cases hx' : ns[i']? with
              | none => simp [hx'] at h2
              | some x' =>
                simp only [hx, hx'] at h1 h2
                split at h1
                · cases h1
                · rename_i hne
                  split at h2
                  · cases h2
                  · simp at h1 h2
                    have := T i i' b c x x' (hb b (by simp)) (hc c (by simp)) hx hx' hne (by rw [h1, h2])
                    obtain ⟨rfl, rfl⟩ := this
                    rw [ih bs' cs' i (by simp at hn; omega) (fun y hy => hb y (by simp [hy])) (fun y hy => hc y (by simp [hy])) h3 h4]

/-- A node with the same ones below. -/
theorem down_set {ns : List Nd} {at_ : Nat} {x y : Nd} (hx : ns[at_]? = some x) (hl : y.l = x.l) (hr : y.r = x.r) : ∀ (bs : List Nat) (s : Nat), down (ns.set at_ y) s bs = down ns s bs
  | [], s => rfl
  | b :: bs, s => by
    have hat : at_ < ns.length := (List.getElem?_eq_some_iff.1 hx).1
    have hc : child y b = child x b := by unfold child; rw [hl, hr]
    simp only [down]
    by_cases hs : s = at_
    · subst hs
      rw [List.getElem?_set_self hat, hx]
      simp only [hc]
      split
      · rfl
      · exact down_set hx hl hr bs _
    · rw [List.getElem?_set_ne (Ne.symm hs)]
      cases ns[s]? with
      | none => rfl
      | some z =>
        simp only
        split
        · rfl
        · exact down_set hx hl hr bs _

theorem NsOk.set {ns : List Nd} (O : NsOk ns) {at_ : Nat} {x y : Nd} (hx : ns[at_]? = some x) (hl : y.l = x.l) (hr : y.r = x.r) : NsOk (ns.set at_ y) := by
  have hat : at_ < ns.length := (List.getElem?_eq_some_iff.1 hx).1
  have key : ∀ (i : Nat) (z : Nd), (ns.set at_ y)[i]? = some z → ∃ z', ns[i]? = some z' ∧ z.l = z'.l ∧ z.r = z'.r := by
    intro i z hz
    by_cases hi : i = at_
    · subst hi; rw [List.getElem?_set_self hat] at hz; cases hz; exact ⟨x, hx, hl, hr⟩
    · rw [List.getElem?_set_ne (Ne.symm hi)] at hz; exact ⟨z, hz, rfl, rfl⟩
  refine ⟨by simpa using O.pos, by simpa using O.few, fun i z hz => ?_, fun i z hz => ?_⟩
  · obtain ⟨z', h1, h2, _⟩ := key i z hz; rw [h2]; simpa using O.l i z' h1
  · obtain ⟨z', h1, _, h2⟩ := key i z hz; rw [h2]; simpa using O.r i z' h1

theorem TreeOk.set {ns : List Nd} (T : TreeOk ns) {at_ : Nat} {x y : Nd} (hx : ns[at_]? = some x) (hl : y.l = x.l) (hr : y.r = x.r) : TreeOk (ns.set at_ y) := by
  have hat : at_ < ns.length := (List.getElem?_eq_some_iff.1 hx).1
  have key : ∀ (i : Nat) (z : Nd), (ns.set at_ y)[i]? = some z → ∃ z', ns[i]? = some z' ∧ ∀ b, child z b = child z' b := by
    intro i z hz
    by_cases hi : i = at_
    · subst hi; rw [List.getElem?_set_self hat] at hz; cases hz; exact ⟨x, hx, fun b => by unfold child; rw [hl, hr]⟩
    · rw [List.getElem?_set_ne (Ne.symm hi)] at hz; exact ⟨z, hz, fun _ => rfl⟩
  intro i i' b b' z z' hb hb' hz hz' h0 he
  obtain ⟨w, h1, h2⟩ := key i z hz
  obtain ⟨w', h1', h2'⟩ := key i' z' hz'
  exact T i i' b b' w w' hb hb' h1 h1' (by rw [← h2]; exact h0) (by rw [← h2, ← h2']; exact he)

theorem Fit.set {ns : List Nd} {at_ : Nat} {x y : Nd} (hx : ns[at_]? = some x) (hl : y.l = x.l) (hr : y.r = x.r) : ∀ (d s : Nat), Fit ns d s → Fit (ns.set at_ y) d s := by
  have hat : at_ < ns.length := (List.getElem?_eq_some_iff.1 hx).1
  have key : ∀ (i : Nat) (z : Nd), (ns.set at_ y)[i]? = some z → ∃ z', ns[i]? = some z' ∧ z.l = z'.l ∧ z.r = z'.r := by
    intro i z hz
    by_cases hi : i = at_
    · subst hi; rw [List.getElem?_set_self hat] at hz; cases hz; exact ⟨x, hx, hl, hr⟩
    · rw [List.getElem?_set_ne (Ne.symm hi)] at hz; exact ⟨z, hz, rfl, rfl⟩
  intro d
  induction d with
  | zero => intro s h z hz; obtain ⟨z', h1, h2, h3⟩ := key s z hz; rw [h2, h3]; exact h z' h1
  | succ d ih =>
    intro s h z hz
    obtain ⟨z', h1, h2, h3⟩ := key s z hz
    rw [h2, h3]
    have := h z' h1
    exact ⟨this.1.imp id (ih _), this.2.imp id (ih _)⟩

/-! ### One node more -/
section
variable {ns : List Nd} {at_ b : Nat} {x : Nd}

theorem grow_get (hx : ns[at_]? = some x) (i : Nat) : (grow ns at_ b x)[i]? = if i = at_ then some (setC x b ns.length) else if i = ns.length then some nd0 else ns[i]? := by
  have hat : at_ < ns.length := (List.getElem?_eq_some_iff.1 hx).1
  unfold grow
  by_cases hi : i = at_
  · subst hi; rw [if_pos rfl, List.getElem?_set_self (by simp; omega)]
  · rw [if_neg hi, List.getElem?_set_ne (Ne.symm hi)]
    by_cases h2 : i = ns.length
    · subst h2; simp
    · rw [if_neg h2]
      rcases Nat.lt_or_ge i ns.length with h | h
      · rw [List.getElem?_append_left h]
      · rw [List.getElem?_eq_none (by simp; omega), List.getElem?_eq_none h]

theorem grow_length : (grow ns at_ b x).length = ns.length + 1 := by simp [grow]

theorem setC_child (hb : b < 2) (c k : Nat) (hc : c < 2) : child (setC x b k) c = if c = b then k else child x c := by
  have h1 : b = 0 ∨ b = 1 := by omega
  have h2 : c = 0 ∨ c = 1 := by omega
  rcases h1 with rfl | rfl <;> rcases h2 with rfl | rfl <;> simp [child, setC]

theorem grow_tree (O : NsOk ns) (T : TreeOk ns) (hx : ns[at_]? = some x) (hb : b < 2) (h0 : child x b = 0) : TreeOk (grow ns at_ b x) := by
  have hat : at_ < ns.length := (List.getElem?_eq_some_iff.1 hx).1
  have key : ∀ (i c : Nat) (z : Nd), c < 2 → (grow ns at_ b x)[i]? = some z → child z c ≠ 0 → (i = at_ ∧ c = b ∧ child z c = ns.length) ∨ (∃ z', ns[i]? = some z' ∧ child z c = child z' c ∧ child z c < ns.length) := by
    intro i c z hc hz hne
    rw [grow_get hx] at hz
    split at hz
    · rename_i hi
      cases hz
      rw [setC_child hb c _ hc] at hne ⊢
      split at hne
      · rename_i hcb; left; exact ⟨hi, hcb, by simp [hcb]⟩
      · rename_i hcb; right; rw [if_neg hcb]; exact ⟨x, hi ▸ hx, rfl, ((O.child hx).resolve_left hne).2⟩
    · split at hz
      · cases hz; exact absurd (by unfold child nd0; split <;> rfl) hne
      · right; exact ⟨z, hz, rfl, ((O.child hz).resolve_left hne).2⟩
  intro i i' c c' z z' hc hc' hz hz' hne he
  rcases key i c z hc hz hne with ⟨h1, h2, h3⟩ | ⟨w, h1, h2, h3⟩ <;> rcases key i' c' z' hc' hz' (he ▸ hne) with ⟨h1', h2', h3'⟩ | ⟨w', h1', h2', h3'⟩
  · exact ⟨by omega, by omega⟩
  · rw [he] at h3; omega
  · rw [he] at h3; omega
  · exact T i i' c c' w w' hc hc' h1 h1' (h2 ▸ hne) (by rw [← h2, ← h2']; exact he)

theorem grow_down (O : NsOk ns) (hx : ns[at_]? = some x) (hb : b < 2) (h0 : child x b = 0) : ∀ (cs : List Nat) (s k : Nat), Bits cs → s < ns.length → down ns s cs = some k → down (grow ns at_ b x) s cs = some k := by
  intro cs
  induction cs with
  | nil => intro s k _ _ h; exact h
  | cons c cs ih =>
    intro s k hcs hs h
    simp only [down] at h ⊢
    rw [grow_get hx]
    have hc2 : c < 2 := hcs c (by simp)
    by_cases hi : s = at_
    · rw [if_pos hi]
      subst hi
      rw [hx] at h
      simp only at h ⊢
      split at h
      · cases h
      · rename_i hne
        have hcb : c ≠ b := fun e => hne (e ▸ h0)
        rw [setC_child hb c _ hc2, if_neg hcb, if_neg hne]
        exact ih _ k (fun y hy => hcs y (by simp [hy])) ((O.child hx).resolve_left hne).2 h
    · rw [if_neg hi, if_neg (by omega)]
      cases hz : ns[s]? with
      | none => simp [hz] at h
      | some z =>
        simp only [hz] at h ⊢
        split at h
        · cases h
        · rename_i hne
          rw [if_neg hne]
          exact ih _ k (fun y hy => hcs y (by simp [hy])) ((O.child hz).resolve_left hne).2 h

theorem grow_back (O : NsOk ns) (hx : ns[at_]? = some x) (hb : b < 2) : ∀ (cs : List Nat) (s k : Nat), Bits cs → s < ns.length → k < ns.length → down (grow ns at_ b x) s cs = some k → down ns s cs = some k := by
  intro cs
  induction cs with
  | nil => intro s k _ _ _ h; exact h
  | cons c cs ih =>
    intro s k hcs hs hk h
    simp only [down] at h ⊢
    rw [grow_get hx] at h
    have hc2 : c < 2 := hcs c (by simp)
    have new : ∀ cs, down (grow ns at_ b x) ns.length cs = some k → False := by
      intro cs h
      cases cs with
      | nil => simp [down] at h; omega
      | cons d cs =>
        simp only [down] at h
        have hat : at_ < ns.length := (List.getElem?_eq_some_iff.1 hx).1
        rw [grow_get hx, if_neg (by omega), if_pos rfl] at h
        have hz : child nd0 d = 0 := by unfold child nd0; split <;> rfl
        simp only at h
        rw [if_pos hz] at h
        cases h
    by_cases hi : s = at_
    · rw [if_pos hi] at h
      subst hi
      rw [hx]
      simp only at h ⊢
      rw [setC_child hb c _ hc2] at h
      by_cases hcb : c = b
      · rw [if_pos hcb] at h
        split at h
        · cases h
        · exact (new cs h).elim
      · rw [if_neg hcb] at h
        split at h
        · cases h
        · rename_i hne
          rw [if_neg hne]
          exact ih _ k (fun y hy => hcs y (by simp [hy])) ((O.child hx).resolve_left hne).2 hk h
    · rw [if_neg hi, if_neg (by omega)] at h
      cases hz : ns[s]? with
      | none => simp [hz] at h
      | some z =>
        simp only [hz] at h ⊢
        split at h
        · cases h
        · rename_i hne
          rw [if_neg hne]
          exact ih _ k (fun y hy => hcs y (by simp [hy])) ((O.child hz).resolve_left hne).2 hk h

end

/-! ### A whole way -/
structure Made (ns ns' : List Nd) (at_ at' : Nat) (bs : List Nat) : Prop where
  ok : NsOk ns'
  tree : TreeOk ns'
  le : ns.length ≤ ns'.length
  few : ns'.length ≤ ns.length + bs.length
  same : ∀ (i : Nat) (x : Nd), ns[i]? = some x → ∃ y, ns'[i]? = some y ∧ y.n = x.n ∧ y.has = x.has
  fresh : ∀ (i : Nat) (y : Nd), ns.length ≤ i → ns'[i]? = some y → y.has = false
  on : ∀ cs s k, Bits cs → s < ns.length → down ns s cs = some k → down ns' s cs = some k
  back : ∀ cs s k, Bits cs → s < ns.length → k < ns.length → down ns' s cs = some k → down ns s cs = some k
  way : down ns' at_ bs = some at'
  lt : at' < ns'.length

theorem mk_made : ∀ (bs : List Nat) (ns : List Nd) (at_ : Nat), NsOk ns → TreeOk ns → Bits bs → at_ < ns.length → ns.length + bs.length ≤ 1000000 → Made ns (mkDown ns at_ bs).2 at_ (mkDown ns at_ bs).1 bs
  | [], ns, at_, O, T, _, hat, _ => ⟨O, T, Nat.le_refl _, by simp [mkDown], fun i x hx => ⟨x, hx, rfl, rfl⟩, (fun i y hi hy => by
      simp only [mkDown] at hy
      rw [List.getElem?_eq_none hi] at hy; cases hy), fun cs s k _ _ h => h, fun cs s k _ _ _ h => h, rfl, hat⟩
  | b :: bs, ns, at_, O, T, hbs, hat, hf => by
    obtain ⟨x, hx⟩ : ∃ x, ns[at_]? = some x := ⟨_, List.getElem?_eq_getElem hat⟩
    have hb : b < 2 := hbs b (by simp)
    have hbs' : Bits bs := fun y hy => hbs y (by simp [hy])
    simp only [List.length_cons] at hf
    simp only [mkDown, hx]
    by_cases h0 : child x b = 0
    · rw [if_pos h0]
      have O1 := O.grow (b := b) hx (by omega)
      have T1 := grow_tree O T hx hb h0
      have hl : (grow ns at_ b x).length = ns.length + 1 := grow_length
      have M := mk_made bs (grow ns at_ b x) ns.length O1 T1 hbs' (by omega) (by omega)
      refine ⟨M.ok, M.tree, by have := M.le; omega, by have := M.few; simp only [List.length_cons]; omega, fun i y hy => ?_, fun i y hi hy => ?_, fun cs s k hc hs h => ?_, fun cs s k hc hs hk h => ?_, ?_, M.lt⟩
      · have hi : i < ns.length := (List.getElem?_eq_some_iff.1 hy).1
        have hg : ∃ z, (grow ns at_ b x)[i]? = some z ∧ z.n = y.n ∧ z.has = y.has := by
          rw [grow_get hx]
          by_cases hia : i = at_
          · subst hia; rw [hx] at hy; cases hy
            exact ⟨_, if_pos rfl, by unfold setC; split <;> rfl, by unfold setC; split <;> rfl⟩
          · exact ⟨y, by rw [if_neg hia, if_neg (by omega)]; exact hy, rfl, rfl⟩
        obtain ⟨z, hz, h1, h2⟩ := hg
        obtain ⟨w, hw, h3, h4⟩ := M.same i z hz
        exact ⟨w, hw, by rw [h3, h1], by rw [h4, h2]⟩
      · rcases Nat.eq_or_lt_of_le hi with e | e
        · subst e
          obtain ⟨w, hw, h3, h4⟩ := M.same ns.length nd0 (by rw [grow_get hx, if_neg (by omega), if_pos rfl])
          rw [hy] at hw; cases hw
          rw [h4]; rfl
        · exact M.fresh i y (by omega) hy
      · exact M.on cs s k hc (by omega) (grow_down O hx hb h0 cs s k hc hs h)
      · exact grow_back O hx hb cs s k hc hs hk (M.back cs s k hc (by omega) (by omega) h)
      · have h1 : down (grow ns at_ b x) at_ [b] = some ns.length := by
          simp only [down]
          rw [grow_get hx, if_pos rfl]
          simp only
          rw [setC_child hb b _ hb, if_pos rfl, if_neg (by have := O.pos; omega)]
        have h2 := M.on [b] at_ ns.length (fun y hy => by simp at hy; omega) (by omega) h1
        have := down_append (mkDown (grow ns at_ b x) ns.length bs).2 [b] bs at_
        simp only [List.singleton_append] at this
        rw [this, h2]
        exact M.way
    · rw [if_neg h0]
      have hc := (O.child hx (b := b)).resolve_left h0
      have M := mk_made bs ns (child x b) O T hbs' hc.2 (by omega)
      refine ⟨M.ok, M.tree, M.le, by have := M.few; simp only [List.length_cons]; omega, M.same, M.fresh, M.on, M.back, ?_, M.lt⟩
      have h1 : down ns at_ [b] = some (child x b) := by simp [down, hx, h0]
      have h2 := M.on [b] at_ _ (fun y hy => by simp at hy; omega) hat h1
      have := down_append (mkDown ns (child x b) bs).2 [b] bs at_
      simp only [List.singleton_append] at this
      rw [this, h2]
      exact M.way

end Go.Proofs.Ytmbhlbohbpepaaa

/- The trie as a tree: depth; what a prefix has, behind a change. -/
namespace Go.Proofs.Ytmbhlbohbpepaaa
set_option linter.unusedSimpArgs false
set_option linter.unusedVariables false

theorem fit_leaf {ns : List Nd} {s : Nat} (h : ∀ x, ns[s]? = some x → x.l = 0 ∧ x.r = 0) : ∀ d, Fit ns d s
  | 0 => h
  | d + 1 => fun x hx => ⟨.inl (h x hx).1, .inl (h x hx).2⟩

theorem fit_down {ns : List Nd} : ∀ (cs : List Nat) (d s k : Nat), Bits cs → Fit ns d s → down ns s cs = some k → cs.length ≤ d
  | [], d, s, k, _, _, _ => by simp
  | c :: cs, d, s, k, hb, hf, h => by
    simp only [down] at h
    cases hx : ns[s]? with
    | none => simp [hx] at h
    | some x =>
      simp only [hx] at h
      split at h
      · cases h
      · rename_i hne
        have hc2 : c < 2 := hb c (by simp)
        cases d with
        | zero =>
          have := hf x hx
          unfold child at hne; split at hne <;> omega
        | succ d =>
          have h2 := hf x hx
          have hf2 : Fit ns d (child x c) := by
            unfold child at hne ⊢; split at hne
            · rename_i hc; rw [if_pos hc]; exact h2.1.resolve_left hne
            · rename_i hc; rw [if_neg hc]; exact h2.2.resolve_left hne
          have := fit_down cs d _ k (fun y hy => hb y (by simp [hy])) hf2 h
          simp only [List.length_cons]; omega

theorem grow_fit {ns : List Nd} {at_ b : Nat} {x : Nd} (O : NsOk ns) (hx : ns[at_]? = some x) (hb : b < 2) : ∀ (d s : Nat), s < ns.length → Fit ns d s → (∀ p, Bits p → down ns s p = some at_ → p.length + 1 ≤ d) → Fit (grow ns at_ b x) d s := by
  have hat : at_ < ns.length := (List.getElem?_eq_some_iff.1 hx).1
  have hnew : ∀ d, Fit (grow ns at_ b x) d ns.length := fun d => fit_leaf (fun y hy => by
    rw [grow_get hx, if_neg (by omega), if_pos rfl] at hy; cases hy; exact ⟨rfl, rfl⟩) d
  intro d
  induction d with
  | zero =>
    intro s hs hf hp y hy
    rw [grow_get hx] at hy
    by_cases hi : s = at_
    · exact absurd (hp [] (fun y hy => by cases hy) (by simp [down, hi])) (by simp)
    · rw [if_neg hi, if_neg (by omega)] at hy; exact hf y hy
  | succ d ih =>
    intro s hs hf hp y hy
    have sub : ∀ (z : Nd) (c : Nat), ns[s]? = some z → c < 2 → child z c ≠ 0 → Fit ns d (child z c) → Fit (grow ns at_ b x) d (child z c) := by
      intro z c hz hc hne hfz
      refine ih _ ((O.child hz).resolve_left hne).2 hfz (fun p hpb hpd => ?_)
      have := hp (c :: p) (fun y hy => by rcases List.mem_cons.1 hy with rfl | h; exact hc; exact hpb y h) (by simp [down, hz, hne, hpd])
      simp only [List.length_cons] at this; omega
    rw [grow_get hx] at hy
    by_cases hi : s = at_
    · rw [if_pos hi] at hy
      cases hy
      rw [← hi] at hx
      have h2 := hf x hx
      have h0 : ∀ c, c < 2 → child (setC x b ns.length) c = 0 ∨ Fit (grow ns at_ b x) d (child (setC x b ns.length) c) := by
        intro c hc
        rw [setC_child hb c _ hc]
        split
        · exact .inr (hnew d)
        · by_cases hne : child x c = 0
          · exact .inl hne
          · refine .inr (sub x c hx hc hne ?_)
            unfold child at hne ⊢; split at hne
            · rename_i hc; rw [if_pos hc]; exact h2.1.resolve_left hne
            · rename_i hc; rw [if_neg hc]; exact h2.2.resolve_left hne
      exact ⟨by simpa [child] using h0 0 (by omega), by simpa [child] using h0 1 (by omega)⟩
    · rw [if_neg hi, if_neg (by omega)] at hy
      have h2 := hf y hy
      refine ⟨?_, ?_⟩
      · by_cases hne : y.l = 0
        · exact .inl hne
        · exact .inr (by simpa [child] using sub y 0 hy (by omega) (by simpa [child] using hne) (by simpa [child] using h2.1.resolve_left hne))
      · by_cases hne : y.r = 0
        · exact .inl hne
        · exact .inr (by simpa [child] using sub y 1 hy (by omega) (by simpa [child] using hne) (by simpa [child] using h2.2.resolve_left hne))

theorem mk_fit : ∀ (bs : List Nat) (ns : List Nd) (at_ : Nat) (pre : List Nat), NsOk ns → TreeOk ns → Bits bs → Bits pre → at_ < ns.length → ns.length + bs.length ≤ 1000000 → down ns 0 pre = some at_ → pre.length + bs.length ≤ 32 →
    Fit ns 32 0 → Fit (mkDown ns at_ bs).2 32 0
  | [], ns, at_, pre, O, T, _, _, _, _, _, _, hf => hf
  | b :: bs, ns, at_, pre, O, T, hbs, hpre, hat, hlen, hd, h32, hf => by
    obtain ⟨x, hx⟩ : ∃ x, ns[at_]? = some x := ⟨_, List.getElem?_eq_getElem hat⟩
    have hb : b < 2 := hbs b (by simp)
    have hbs' : Bits bs := fun y hy => hbs y (by simp [hy])
    have hpre' : Bits (pre ++ [b]) := fun y hy => by
      rcases List.mem_append.1 hy with h | h
      · exact hpre y h
      · simp at h; omega
    simp only [List.length_cons] at hlen h32
    simp only [mkDown, hx]
    by_cases h0 : child x b = 0
    · rw [if_pos h0]
      have O1 := O.grow (b := b) hx (by omega)
      have T1 := grow_tree O T hx hb h0
      have hf1 : Fit (grow ns at_ b x) 32 0 := grow_fit O hx hb 32 0 O.pos hf (fun p hp hpd => by
        have := down_inj O T _ p pre at_ (Nat.le_refl _) hp hpre hpd hd
        subst this; omega)
      have hl : (grow ns at_ b x).length = ns.length + 1 := grow_length
      refine mk_fit bs _ ns.length (pre ++ [b]) O1 T1 hbs' hpre' (by omega) (by omega) ?_ (by simp; omega) hf1
      rw [down_append, grow_down O hx hb h0 pre 0 at_ hpre O.pos hd]
      simp only [Option.bind_some, down]
      rw [grow_get hx, if_pos rfl]
      simp only
      rw [setC_child hb b _ hb, if_pos rfl, if_neg (by have := O.pos; omega)]
    · rw [if_neg h0]
      have hc := (O.child hx (b := b)).resolve_left h0
      refine mk_fit bs ns (child x b) (pre ++ [b]) O T hbs' hpre' hc.2 (by omega) ?_ (by simp; omega) hf
      rw [down_append, hd]
      simp [down, hx, h0]

/-! ### Prefixes -/
structure Pok (p : Nat × Nat) : Prop where
  a : p.1 < 2 ^ 32
  n : p.2 ≤ 32
  m : p.1 % 2 ^ (32 - p.2) = 0

theorem mayB_pok {a : Nat} {n : Int} (ha : a < 2 ^ 32) (h : mayB a n = true) : Pok (a, n.toNat) ∧ n = (n.toNat : Nat) := by
  have := mayB_le h
  simp [mayB] at h
  exact ⟨⟨ha, by simp; omega, h.2⟩, by omega⟩

theorem pok_mayB {p : Nat × Nat} (h : Pok p) : mayB p.1 (p.2 : Int) = true := by
  have := h.n
  have := h.m
  simp [mayB]; omega

/-- The bits of a number, from a place on, tell it between two powers. -/
theorem bits_eq {a b : Nat} : ∀ (k i : Nat), i + k ≤ 32 → a / 2 ^ (32 - i) = b / 2 ^ (32 - i) → bitsFrom a i k = bitsFrom b i k → a / 2 ^ (32 - (i + k)) = b / 2 ^ (32 - (i + k))
  | 0, i, _, h, _ => h
  | k + 1, i, hik, h, hb => by
    rw [bitsFrom_succ, bitsFrom_succ] at hb
    obtain ⟨h1, h2⟩ := List.cons.inj hb
    have e : i + (k + 1) = (i + 1) + k := by omega
    rw [e]
    refine bits_eq k (i + 1) (by omega) ?_ h2
    have e2 : 2 ^ (32 - i) = 2 ^ (31 - i) * 2 := by rw [← Nat.pow_succ]; congr 1; omega
    have e3 : 32 - (i + 1) = 31 - i := by omega
    rw [e2, ← Nat.div_div_eq_div_mul, ← Nat.div_div_eq_div_mul] at h
    unfold bitAt at h1
    rw [e3]
    omega

theorem bits_of_eq {a b : Nat} : ∀ (k i : Nat), i + k ≤ 32 → a / 2 ^ (32 - (i + k)) = b / 2 ^ (32 - (i + k)) → bitsFrom a i k = bitsFrom b i k
  | 0, i, _, _ => rfl
  | k + 1, i, hik, h => by
    rw [bitsFrom_succ, bitsFrom_succ]
    have e : i + (k + 1) = (i + 1) + k := by omega
    rw [e] at h
    rw [bits_of_eq k (i + 1) (by omega) h]
    congr 1
    unfold bitAt
    have e2 : 2 ^ (31 - i) = 2 ^ (32 - (i + 1 + k)) * 2 ^ k := by rw [← Nat.pow_add]; congr 1; omega
    rw [e2, ← Nat.div_div_eq_div_mul, ← Nat.div_div_eq_div_mul, h]

theorem pok_inj {p q : Nat × Nat} (hp : Pok p) (hq : Pok q) (h : bitsFrom p.1 0 p.2 = bitsFrom q.1 0 q.2) : p = q := by
  have hl : p.2 = q.2 := by
    have := congrArg List.length h
    simpa [bitsFrom_length] using this
  obtain ⟨a, n⟩ := p
  obtain ⟨b, m⟩ := q
  simp only at hl h
  subst hl
  have ha := hp.a; have hb := hq.a; have hn := hp.n; have h1 := hp.m; have h2 := hq.m
  simp only at ha hb hn h1 h2
  have := bits_eq n 0 (by omega) (by rw [Nat.div_eq_of_lt ha, Nat.div_eq_of_lt hb]) h
  rw [Nat.zero_add] at this
  have e1 := Nat.div_add_mod a (2 ^ (32 - n))
  have e2 := Nat.div_add_mod b (2 ^ (32 - n))
  rw [h1, this] at e1
  rw [h2] at e2
  have : a = b := by omega
  rw [this]

/-- What a prefix has. -/
def valOf (ns : List Nd) (p : Nat × Nat) : Option Int :=
  match down ns 0 (bitsFrom p.1 0 p.2) with
  | some k => match ns[k]? with
    | some x => if x.has = true then some x.n else none
    | none => none
  | none => none

theorem look_val {ns : List Nd} {a : Nat} {n : Int} (h : mayB a n = true) : (look ns a n).map (·.2.n) = valOf ns (a, n.toNat) := by
  unfold look valOf
  rw [if_pos h]
  cases down ns 0 (bitsFrom a 0 n.toNat) with
  | none => rfl
  | some k =>
    simp only
    cases ns[k]? with
    | none => rfl
    | some x => simp only; split <;> rfl

structure Tri (ns : List Nd) : Prop where
  ok : NsOk ns
  tree : TreeOk ns
  fit : Fit ns 32 0

theorem tri_new : Tri [nd0] := by
  have h : ∀ (i : Nat) (x : Nd), [nd0][i]? = some x → x = nd0 := by
    intro i x hx
    cases i with
    | zero => simpa using hx.symm
    | succ i => simp at hx
  refine ⟨⟨by simp, by simp, fun i x hx => .inl (by rw [h i x hx]; rfl), fun i x hx => .inl (by rw [h i x hx]; rfl)⟩, ?_, fit_leaf (fun x hx => by rw [h 0 x hx]; exact ⟨rfl, rfl⟩) 32⟩
  intro i i' b b' x x' _ _ hx _ hne
  rw [h i x hx] at hne
  exact absurd (by unfold child nd0; split <;> rfl) hne

/-- One node is told anew. -/
theorem val_set {ns : List Nd} (T : Tri ns) {p : Nat × Nat} (hp : Pok p) {k : Nat} {x y : Nd} (hd : down ns 0 (bitsFrom p.1 0 p.2) = some k) (hx : ns[k]? = some x) (hl : y.l = x.l) (hr : y.r = x.r) :
    Tri (ns.set k y) ∧ ∀ q, Pok q → valOf (ns.set k y) q = if q = p then (if y.has = true then some y.n else none) else valOf ns q := by
  have hk : k < ns.length := (List.getElem?_eq_some_iff.1 hx).1
  refine ⟨⟨T.ok.set hx hl hr, T.tree.set hx hl hr, Fit.set hx hl hr 32 0 T.fit⟩, fun q hq => ?_⟩
  unfold valOf
  rw [down_set hx hl hr]
  by_cases hqp : q = p
  · subst hqp
    rw [if_pos rfl, hd]
    simp only
    rw [List.getElem?_set_self hk]
  · rw [if_neg hqp]
    cases hdq : down ns 0 (bitsFrom q.1 0 q.2) with
    | none => rfl
    | some k' =>
      simp only
      have : k' ≠ k := by
        rintro rfl
        exact hqp (pok_inj hq hp (down_inj T.ok T.tree _ _ _ _ (Nat.le_refl _) (bits_from _ _ _) (bits_from _ _ _) hdq hd))
      rw [List.getElem?_set_ne (Ne.symm this)]

/-- A way is made. -/
theorem val_make {ns : List Nd} (T : Tri ns) {p : Nat × Nat} (hp : Pok p) (hlen : ns.length + 32 ≤ 1000000) (hv : valOf ns p = none) :
    Tri (mkDown ns 0 (bitsFrom p.1 0 p.2)).2 ∧ (mkDown ns 0 (bitsFrom p.1 0 p.2)).2.length ≤ ns.length + 32 ∧ (mkDown ns 0 (bitsFrom p.1 0 p.2)).1 < (mkDown ns 0 (bitsFrom p.1 0 p.2)).2.length ∧
      down (mkDown ns 0 (bitsFrom p.1 0 p.2)).2 0 (bitsFrom p.1 0 p.2) = some (mkDown ns 0 (bitsFrom p.1 0 p.2)).1 ∧ ∀ q, Pok q → valOf (mkDown ns 0 (bitsFrom p.1 0 p.2)).2 q = valOf ns q := by
  have hbl := bitsFrom_length p.1 0 p.2
  have hn := hp.n
  have M := mk_made (bitsFrom p.1 0 p.2) ns 0 T.ok T.tree (bits_from _ _ _) T.ok.pos (by omega)
  have hfit := mk_fit (bitsFrom p.1 0 p.2) ns 0 [] T.ok T.tree (bits_from _ _ _) (fun y hy => by cases hy) T.ok.pos (by omega) rfl (by simp only [List.length_nil]; omega) T.fit
  generalize mkDown ns 0 (bitsFrom p.1 0 p.2) = r at *
  obtain ⟨at', ns'⟩ := r
  simp only at *
  refine ⟨⟨M.ok, M.tree, hfit⟩, by have := M.few; omega, M.lt, M.way, fun q hq => ?_⟩
  unfold valOf
  cases hd : down ns 0 (bitsFrom q.1 0 q.2) with
  | some k =>
    have hk := (down_lt T.ok _ _ _ T.ok.pos hd).1
    rw [M.on _ _ _ (bits_from _ _ _) T.ok.pos hd]
    obtain ⟨x, hx⟩ : ∃ x, ns[k]? = some x := ⟨_, List.getElem?_eq_getElem hk⟩
    obtain ⟨y, hy, h1, h2⟩ := M.same k x hx
    simp only [hx, hy, h1, h2]
  | none =>
    simp only
    cases hd' : down ns' 0 (bitsFrom q.1 0 q.2) with
    | none => rfl
    | some k =>
      simp only
      rcases Nat.lt_or_ge k ns.length with h | h
      · have := M.back _ _ _ (bits_from _ _ _) T.ok.pos h hd'
        rw [hd] at this; cases this
      · cases hy : ns'[k]? with
        | none => rfl
        | some y => simp only; rw [M.fresh k y h hy]; rfl

end Go.Proofs.Ytmbhlbohbpepaaa

/- The trie's answers, told by a list of pairs in order. -/
namespace Go.Proofs.Ytmbhlbohbpepaaa

def plt (p q : Nat × Nat) : Prop := p.1 < q.1 ∨ p.1 = q.1 ∧ p.2 < q.2
instance (p q : Nat × Nat) : Decidable (plt p q) := by unfold plt; exact inferInstance

theorem plt_irrefl (p : Nat × Nat) : ¬ plt p p := by unfold plt; omega
theorem plt_trans {p q r : Nat × Nat} (h : plt p q) (h' : plt q r) : plt p r := by unfold plt at *; omega
theorem plt_asymm {p q : Nat × Nat} (h : plt p q) : ¬ plt q p := by unfold plt at *; omega
theorem plt_tri (p q : Nat × Nat) : plt p q ∨ p = q ∨ plt q p := by
  obtain ⟨a, n⟩ := p; obtain ⟨b, m⟩ := q; unfold plt; simp only [Prod.mk.injEq]; omega

/-- What is at the end of a way. -/
def hasN (ns : List Nd) (at_ : Nat) (cs : List Nat) : Option Int :=
  match down ns at_ cs with
  | some k => match ns[k]? with
    | some x => if x.has = true then some x.n else none
    | none => none
  | none => none

theorem valOf_hasN (ns : List Nd) (p : Nat × Nat) : valOf ns p = hasN ns 0 (bitsFrom p.1 0 p.2) := rfl

theorem hasN_cons {ns : List Nd} {at_ : Nat} {x : Nd} (hx : ns[at_]? = some x) (b : Nat) (cs : List Nat) : hasN ns at_ (b :: cs) = if child x b = 0 then none else hasN ns (child x b) cs := by
  unfold hasN
  simp only [down, hx]
  by_cases h : child x b = 0
  · simp [h]
  · simp [h]

theorem hasN_nil {ns : List Nd} {at_ : Nat} {x : Nd} (hx : ns[at_]? = some x) : hasN ns at_ [] = if x.has = true then some x.n else none := by
  simp [hasN, down, hx]

theorem hasN_gone {ns : List Nd} {at_ : Nat} (hx : ns[at_]? = none) (cs : List Nat) : hasN ns at_ cs = none := by
  cases cs with
  | nil => simp [hasN, down, hx]
  | cons b cs => simp [hasN, down, hx]

/-! ### The longest one -/
theorem best_law (ns : List Nd) (addr : Nat) : ∀ d at_ i cur, i + d = 32 →
    (∃ l k, best ns addr d at_ i cur = some (l, k) ∧ i ≤ l ∧ l ≤ 32 ∧ hasN ns at_ (bitsFrom addr i (l - i)) = some k ∧ ∀ l', l < l' → l' ≤ 32 → hasN ns at_ (bitsFrom addr i (l' - i)) = none) ∨
    (best ns addr d at_ i cur = cur ∧ ∀ l', i ≤ l' → l' ≤ 32 → hasN ns at_ (bitsFrom addr i (l' - i)) = none)
  | 0, at_, i, cur, h => by
    have e0 : bitsFrom addr i (i - i) = [] := by rw [Nat.sub_self]; rfl
    simp only [best]
    cases hx : ns[at_]? with
    | none => exact .inr ⟨rfl, fun l' _ _ => hasN_gone hx _⟩
    | some x =>
      simp only
      by_cases hh : x.has = true
      · rw [if_pos hh]
        exact .inl ⟨i, x.n, rfl, Nat.le_refl _, by omega, by rw [e0, hasN_nil hx, if_pos hh], fun l' h1 h2 => by omega⟩
      · rw [if_neg hh]
        refine .inr ⟨rfl, fun l' h1 h2 => ?_⟩
        have : l' = i := by omega
        rw [this, e0, hasN_nil hx, if_neg hh]
  | d + 1, at_, i, cur, h => by
    have e0 : bitsFrom addr i (i - i) = [] := by rw [Nat.sub_self]; rfl
    have e1 : ∀ l, i < l → bitsFrom addr i (l - i) = bitAt addr i :: bitsFrom addr (i + 1) (l - (i + 1)) := by
      intro l hl
      have : l - i = (l - (i + 1)) + 1 := by omega
      rw [this, bitsFrom_succ]
    simp only [best]
    cases hx : ns[at_]? with
    | none => exact .inr ⟨rfl, fun l' _ _ => hasN_gone hx _⟩
    | some x =>
      simp only
      by_cases hc : child x (bitAt addr i) = 0
      · rw [if_pos hc]
        have hno : ∀ l', i < l' → hasN ns at_ (bitsFrom addr i (l' - i)) = none := fun l' hl => by rw [e1 l' hl, hasN_cons hx, if_pos hc]
        by_cases hh : x.has = true
        · rw [if_pos hh]
          exact .inl ⟨i, x.n, rfl, Nat.le_refl _, by omega, by rw [e0, hasN_nil hx, if_pos hh], fun l' h1 h2 => hno l' h1⟩
        · rw [if_neg hh]
          refine .inr ⟨rfl, fun l' h1 h2 => ?_⟩
          rcases Nat.eq_or_lt_of_le h1 with e | e
          · rw [← e, e0, hasN_nil hx, if_neg hh]
          · exact hno l' e
      · rw [if_neg hc]
        rcases best_law ns addr d (child x (bitAt addr i)) (i + 1) (if x.has = true then some (i, x.n) else cur) (by omega) with ⟨l, k, h1, h2, h3, h4, h5⟩ | ⟨h1, h2⟩
        · refine .inl ⟨l, k, h1, by omega, h3, by rw [e1 l (by omega), hasN_cons hx, if_neg hc, h4], fun l' h6 h7 => ?_⟩
          rw [e1 l' (by omega), hasN_cons hx, if_neg hc, h5 l' h6 h7]
        · rw [h1]
          have hno : ∀ l', i < l' → l' ≤ 32 → hasN ns at_ (bitsFrom addr i (l' - i)) = none := fun l' hl hl2 => by
            rw [e1 l' hl, hasN_cons hx, if_neg hc, h2 l' (by omega) hl2]
          by_cases hh : x.has = true
          · rw [if_pos hh]
            exact .inl ⟨i, x.n, rfl, Nat.le_refl _, by omega, by rw [e0, hasN_nil hx, if_pos hh], fun l' h1 h2 => hno l' h1 h2⟩
          · rw [if_neg hh]
            refine .inr ⟨rfl, fun l' h1 h2 => ?_⟩
            rcases Nat.eq_or_lt_of_le h1 with e | e
            · rw [← e, e0, hasN_nil hx, if_neg hh]
            · exact hno l' e h2

theorem cutA_div (a l : Nat) : cutA a l / 2 ^ (32 - l) = a / 2 ^ (32 - l) := Nat.mul_div_cancel _ (Nat.two_pow_pos _)

theorem cutA_lt {a l : Nat} (ha : a < 2 ^ 32) : cutA a l < 2 ^ 32 := Nat.lt_of_le_of_lt (Nat.div_mul_le_self _ _) ha

theorem pok_cut {a l : Nat} (ha : a < 2 ^ 32) (hl : l ≤ 32) : Pok (cutA a l, l) := ⟨cutA_lt ha, hl, Nat.mul_mod_left _ _⟩

theorem val_cut (ns : List Nd) {a l : Nat} (hl : l ≤ 32) : valOf ns (cutA a l, l) = hasN ns 0 (bitsFrom a 0 l) := by
  rw [valOf_hasN]
  congr 1
  exact bits_of_eq l 0 (by omega) (by simpa using cutA_div a l)

theorem bestOf_law (ns : List Nd) (addr : Nat) :
    (∃ l k, bestOf ns addr = some (l, k) ∧ l ≤ 32 ∧ valOf ns (cutA addr l, l) = some k ∧ ∀ l', l < l' → l' ≤ 32 → valOf ns (cutA addr l', l') = none) ∨
    (bestOf ns addr = none ∧ ∀ l', l' ≤ 32 → valOf ns (cutA addr l', l') = none) := by
  rcases best_law ns addr 32 0 0 none (by omega) with ⟨l, k, h1, _, h3, h4, h5⟩ | ⟨h1, h2⟩
  · refine .inl ⟨l, k, h1, h3, by rw [val_cut ns h3]; simpa using h4, fun l' h6 h7 => ?_⟩
    rw [val_cut ns h7]; simpa using h5 l' h6 h7
  · refine .inr ⟨h1, fun l' h => ?_⟩
    rw [val_cut ns h]; simpa using h2 l' (by omega) h

/-! ### Those below a node -/
theorem pow_split {n : Nat} (hn : n ≤ 31) : 2 ^ (32 - n) = 2 * 2 ^ (31 - n) := by
  have : 32 - n = (31 - n) + 1 := by omega
  rw [this, Nat.pow_succ]; omega

theorem bit_split {a n : Nat} (hn : n ≤ 31) : a / 2 ^ (31 - n) = 2 * (a / 2 ^ (32 - n)) + bitAt a n := by
  unfold bitAt
  have : a / 2 ^ (32 - n) = a / 2 ^ (31 - n) / 2 := by rw [pow_split hn, Nat.mul_comm, Nat.div_div_eq_div_mul]
  rw [this]; omega

theorem gath_mem (ns : List Nd) (q : Nat × Nat) : ∀ d at_ a n, n + d = 32 → a % 2 ^ (32 - n) = 0 →
    (q ∈ gath ns d at_ a n ↔ n ≤ q.2 ∧ q.2 ≤ 32 ∧ q.1 % 2 ^ (32 - q.2) = 0 ∧ q.1 / 2 ^ (32 - n) = a / 2 ^ (32 - n) ∧ hasN ns at_ (bitsFrom q.1 n (q.2 - n)) ≠ none)
  | 0, at_, a, n, hd, hm => by
    have hn : n = 32 := by omega
    subst hn
    obtain ⟨b, m⟩ := q
    simp only [gath]
    cases hx : ns[at_]? with
    | none => simp [hasN_gone hx]
    | some x =>
      simp only
      constructor
      · intro h
        split at h
        · rename_i hh
          simp at h
          obtain ⟨rfl, rfl⟩ := h
          refine ⟨Nat.le_refl _, Nat.le_refl _, hm, rfl, ?_⟩
          rw [show bitsFrom b 32 (32 - 32) = [] from rfl, hasN_nil hx, if_pos hh]; simp
        · cases h
      · rintro ⟨h1, h2, h3, h4, h5⟩
        have : m = 32 := by omega
        subst this
        simp only [show bitsFrom b 32 (32 - 32) = [] from rfl, hasN_nil hx] at h5
        simp at h4
        subst h4
        split at h5
        · rename_i hh; simp [hh]
        · exact absurd rfl h5
  | d + 1, at_, a, n, hd, hm => by
    have hn : n ≤ 31 := by omega
    have hp := Nat.two_pow_pos (31 - n)
    have e1 : 32 - (n + 1) = 31 - n := by omega
    have e2 := pow_split hn
    have hml : a % 2 ^ (32 - (n + 1)) = 0 := by
      rw [e1]
      have := Nat.div_add_mod a (2 ^ (32 - n))
      rw [hm, e2, Nat.mul_assoc, Nat.mul_left_comm] at this
      rw [← this]; exact Nat.mul_mod_right _ _
    have hmr : (a + 2 ^ (31 - n)) % 2 ^ (32 - (n + 1)) = 0 := by
      rw [e1] at hml ⊢; rw [Nat.add_mod_right]; exact hml
    have ha := bit_split (a := a) hn
    have hb0 : bitAt a n = 0 := by
      have h1 := Nat.div_add_mod a (2 ^ (32 - n))
      have h2 : 2 ^ (31 - n) * (2 * (a / 2 ^ (32 - n))) = a := by
        rw [hm, e2, Nat.mul_assoc, Nat.mul_left_comm, Nat.add_zero, ← e2] at h1
        exact h1
      have h3 : a / 2 ^ (31 - n) = 2 * (a / 2 ^ (32 - n)) := Nat.div_eq_of_eq_mul_right hp h2.symm
      omega
    have har : (a + 2 ^ (31 - n)) / 2 ^ (31 - n) = a / 2 ^ (31 - n) + 1 := Nat.add_div_right _ hp
    have hq := bit_split (a := q.1) hn
    have hlt := bitAt_lt q.1 n
    have H := gath_mem ns q d
    simp only [gath]
    cases hx : ns[at_]? with
    | none => simp [hasN_gone hx]
    | some x =>
      simp only [List.mem_append]
      have HL := H x.l a (n + 1) (by omega) hml
      have HR := H x.r (a + 2 ^ (31 - n)) (n + 1) (by omega) hmr
      rw [e1] at HL HR
      rw [har] at HR
      have hcons : ∀ m, n + 1 ≤ m → bitsFrom q.1 n (m - n) = bitAt q.1 n :: bitsFrom q.1 (n + 1) (m - (n + 1)) := by
        intro m hl
        have : m - n = (m - (n + 1)) + 1 := by omega
        rw [this, bitsFrom_succ]
      constructor
      · rintro ((h | h) | h)
        · split at h
          · rename_i hh
            simp at h
            subst h
            refine ⟨Nat.le_refl _, by simp only; omega, hm, rfl, ?_⟩
            simp only [Nat.sub_self]
            rw [show bitsFrom a n 0 = [] from rfl, hasN_nil hx, if_pos hh]; simp
          · cases h
        · split at h
          · cases h
          · rename_i hc
            obtain ⟨h1, h2, h3, h4, h5⟩ := HL.1 h
            refine ⟨by omega, h2, h3, by omega, ?_⟩
            have hb : bitAt q.1 n = 0 := by omega
            rw [hcons _ h1, hasN_cons hx, hb]
            simpa [child, hc] using h5
        · split at h
          · cases h
          · rename_i hc
            obtain ⟨h1, h2, h3, h4, h5⟩ := HR.1 h
            refine ⟨by omega, h2, h3, by omega, ?_⟩
            have hb : bitAt q.1 n = 1 := by omega
            rw [hcons _ h1, hasN_cons hx, hb]
            simpa [child, hc] using h5
      · rintro ⟨h1, h2, h3, h4, h5⟩
        rcases Nat.eq_or_lt_of_le h1 with e | e
        · refine .inl (.inl ?_)
          obtain ⟨b, m⟩ := q
          simp only at e h3 h4 h5
          subst e
          rw [Nat.sub_self, show bitsFrom b n 0 = [] from rfl, hasN_nil hx] at h5
          have : b = a := by
            have h6 := Nat.div_add_mod b (2 ^ (32 - n))
            have h7 := Nat.div_add_mod a (2 ^ (32 - n))
            rw [h3, h4] at h6; rw [hm] at h7; omega
          subst this
          split at h5
          · rename_i hh; simp [hh]
          · exact absurd rfl h5
        · rw [hcons _ e, hasN_cons hx] at h5
          have h6 : bitAt q.1 n = 0 ∨ bitAt q.1 n = 1 := by omega
          rcases h6 with h6 | h6
          · rw [h6] at h5
            refine .inl (.inr ?_)
            by_cases hc : x.l = 0
            · simp [child, hc] at h5
            · rw [if_neg hc]
              exact HL.2 ⟨e, h2, h3, by omega, by simpa [child, hc] using h5⟩
          · rw [h6] at h5
            refine .inr ?_
            by_cases hc : x.r = 0
            · simp [child, hc] at h5
            · rw [if_neg hc]
              exact HR.2 ⟨e, h2, h3, by omega, by simpa [child, hc] using h5⟩

theorem gath_sorted (ns : List Nd) : ∀ d at_ a n, n + d = 32 → a % 2 ^ (32 - n) = 0 → (gath ns d at_ a n).Pairwise plt
  | 0, at_, a, n, hd, hm => by
    simp only [gath]
    split
    · exact .nil
    · split
      · simp
      · exact .nil
  | d + 1, at_, a, n, hd, hm => by
    have hn : n ≤ 31 := by omega
    have hp := Nat.two_pow_pos (31 - n)
    have e1 : 32 - (n + 1) = 31 - n := by omega
    have e2 := pow_split hn
    have hml : a % 2 ^ (31 - n) = 0 := by
      have := Nat.div_add_mod a (2 ^ (32 - n))
      rw [hm, e2, Nat.mul_assoc, Nat.mul_left_comm] at this
      rw [← this]; exact Nat.mul_mod_right _ _
    have hmr : (a + 2 ^ (31 - n)) % 2 ^ (31 - n) = 0 := by rw [Nat.add_mod_right]; exact hml
    have har : (a + 2 ^ (31 - n)) / 2 ^ (31 - n) = a / 2 ^ (31 - n) + 1 := Nat.add_div_right _ hp
    have hda := Nat.div_add_mod a (2 ^ (31 - n))
    simp only [gath]
    split
    · exact .nil
    · rename_i x hx
      have hl : ∀ q ∈ (if x.l = 0 then [] else gath ns d x.l a (n + 1)), n + 1 ≤ q.2 ∧ q.1 / 2 ^ (31 - n) = a / 2 ^ (31 - n) := by
        intro q hq
        split at hq
        · cases hq
        · obtain ⟨h1, _, _, h4, _⟩ := (gath_mem ns q d x.l a (n + 1) (by omega) (by rw [e1]; exact hml)).1 hq
          rw [e1] at h4; exact ⟨h1, h4⟩
      have hr : ∀ q ∈ (if x.r = 0 then [] else gath ns d x.r (a + 2 ^ (31 - n)) (n + 1)), n + 1 ≤ q.2 ∧ q.1 / 2 ^ (31 - n) = a / 2 ^ (31 - n) + 1 := by
        intro q hq
        split at hq
        · cases hq
        · obtain ⟨h1, _, _, h4, _⟩ := (gath_mem ns q d x.r (a + 2 ^ (31 - n)) (n + 1) (by omega) (by rw [e1]; exact hmr)).1 hq
          rw [e1, har] at h4; exact ⟨h1, h4⟩
      have hge : ∀ q : Nat × Nat, a / 2 ^ (31 - n) ≤ q.1 / 2 ^ (31 - n) → a ≤ q.1 := by
        intro q hq
        have h1 := Nat.div_mul_le_self q.1 (2 ^ (31 - n))
        have h2 := Nat.mul_le_mul_right (2 ^ (31 - n)) hq
        have h3 : a / 2 ^ (31 - n) * 2 ^ (31 - n) = a := by rw [Nat.mul_comm]; omega
        omega
      refine List.pairwise_append.2 ⟨List.pairwise_append.2 ⟨?_, ?_, ?_⟩, ?_, ?_⟩
      · split <;> simp
      · split
        · exact .nil
        · exact gath_sorted ns d x.l a (n + 1) (by omega) (by rw [e1]; exact hml)
      · intro p hpm q hqm
        split at hpm
        · simp at hpm; subst hpm
          obtain ⟨h1, h2⟩ := hl q hqm
          have := hge q (by omega)
          unfold plt; simp only; omega
        · cases hpm
      · split
        · exact .nil
        · exact gath_sorted ns d x.r _ (n + 1) (by omega) (by rw [e1]; exact hmr)
      · intro p hpm q hqm
        obtain ⟨h1, h2⟩ := hr q hqm
        rcases List.mem_append.1 hpm with h | h
        · split at h
          · simp at h; subst h
            have := hge q (by omega)
            unfold plt; simp only; omega
          · cases h
        · obtain ⟨h3, h4⟩ := hl p h
          have : p.1 < q.1 := Nat.lt_of_div_lt_div (by rw [h4, h2]; omega : p.1 / 2 ^ (31 - n) < q.1 / 2 ^ (31 - n))
          exact .inl this

/-- Two lists in order with the same members are one. -/
theorem sorted_ext : ∀ {l l' : List (Nat × Nat)}, l.Pairwise plt → l'.Pairwise plt → (∀ q, q ∈ l ↔ q ∈ l') → l = l'
  | [], [], _, _, _ => rfl
  | [], y :: l', _, _, h => absurd ((h y).2 (by simp)) (by simp)
  | x :: l, [], _, _, h => absurd ((h x).1 (by simp)) (by simp)
  | x :: l, y :: l', hs, hs', h => by
    have h1 := List.pairwise_cons.1 hs
    have h2 := List.pairwise_cons.1 hs'
    have hxy : x = y := by
      rcases List.mem_cons.1 ((h x).1 (by simp)) with e | e
      · exact e
      · rcases List.mem_cons.1 ((h y).2 (by simp)) with e' | e'
        · exact e'.symm
        · exact absurd (plt_trans (h1.1 y e') (h2.1 x e)) (plt_irrefl _)
    subst hxy
    congr 1
    refine sorted_ext h1.2 h2.2 (fun q => ⟨fun hq => ?_, fun hq => ?_⟩)
    · rcases List.mem_cons.1 ((h q).1 (by simp [hq])) with e | e
      · subst e; exact absurd (h1.1 q hq) (plt_irrefl _)
      · exact e
    · rcases List.mem_cons.1 ((h q).2 (by simp [hq])) with e | e
      · subst e; exact absurd (h2.1 q hq) (plt_irrefl _)
      · exact e
end Go.Proofs.Ytmbhlbohbpepaaa

/- The trie's laws on lists of pairs; each call's answer. -/
namespace Go.Proofs.Ytmbhlbohbpepaaa
open Go
set_option linter.unusedSimpArgs false

abbrev PL := List ((Nat × Nat) × Int)

def getL : PL → Nat × Nat → Option Int
  | [], _ => none
  | x :: xs, p => if x.1 = p then some x.2 else getL xs p

def insL : PL → Nat × Nat → Int → PL
  | [], p, n => [(p, n)]
  | x :: xs, p, n => if plt p x.1 then (p, n) :: x :: xs else x :: insL xs p n

def setL : PL → Nat × Nat → Int → PL
  | [], _, _ => []
  | x :: xs, p, n => if x.1 = p then (p, n) :: xs else x :: setL xs p n

def delL : PL → Nat × Nat → PL
  | [], _ => []
  | x :: xs, p => if x.1 = p then xs else x :: delL xs p

def Srt (L : PL) : Prop := L.Pairwise fun x y => plt x.1 y.1

theorem getL_mem {L : PL} {p : Nat × Nat} {k : Int} (h : getL L p = some k) : (p, k) ∈ L := by
  induction L with
  | nil => cases h
  | cons x xs ih =>
    simp only [getL] at h
    split at h
    · rename_i e; cases h; subst e; simp
    · simp [ih h]

theorem getL_of_mem {L : PL} (hs : Srt L) {p : Nat × Nat} {k : Int} (h : (p, k) ∈ L) : getL L p = some k := by
  induction L with
  | nil => cases h
  | cons x xs ih =>
    obtain ⟨h1, h2⟩ := List.pairwise_cons.1 hs
    simp only [getL]
    rcases List.mem_cons.1 h with e | e
    · subst e; simp
    · rw [if_neg (fun e2 => plt_irrefl p (by have := h1 _ e; rw [e2] at this; exact this)), ih h2 e]

theorem getL_insL (L : PL) (p q : Nat × Nat) (n : Int) (h : getL L p = none) : getL (insL L p n) q = if q = p then some n else getL L q := by
  induction L with
  | nil => simp only [insL, getL, eq_comm]
  | cons x xs ih =>
    simp only [getL] at h
    split at h
    · cases h
    · rename_i hx
      simp only [insL]
      split
      · simp only [getL, eq_comm]
      · simp only [getL, ih h]
        by_cases e : x.1 = q
        · rw [if_pos e, if_pos e, if_neg (fun e2 => hx (e.trans e2))]
        · rw [if_neg e, if_neg e]

theorem getL_setL (L : PL) (p q : Nat × Nat) (n : Int) (h : getL L p ≠ none) : getL (setL L p n) q = if q = p then some n else getL L q := by
  induction L with
  | nil => exact absurd rfl h
  | cons x xs ih =>
    simp only [getL] at h
    simp only [setL]
    by_cases hx : x.1 = p
    · rw [if_pos hx]
      simp only [getL, hx, eq_comm (a := p)]
      split <;> rfl
    · rw [if_neg hx] at h ⊢
      simp only [getL, ih h]
      by_cases e : x.1 = q
      · rw [if_pos e, if_pos e, if_neg (fun e2 => hx (e.trans e2))]
      · rw [if_neg e, if_neg e]

theorem getL_none_of {L : PL} {p : Nat × Nat} (h : ∀ x ∈ L, x.1 ≠ p) : getL L p = none := by
  induction L with
  | nil => rfl
  | cons x xs ih => simp only [getL]; rw [if_neg (h x (by simp)), ih (fun y hy => h y (by simp [hy]))]

theorem getL_delL {L : PL} (hs : Srt L) (p q : Nat × Nat) : getL (delL L p) q = if q = p then none else getL L q := by
  induction L with
  | nil => simp [delL, getL]
  | cons x xs ih =>
    obtain ⟨h1, h2⟩ := List.pairwise_cons.1 hs
    simp only [delL]
    by_cases hx : x.1 = p
    · rw [if_pos hx]
      by_cases e : q = p
      · rw [if_pos e]
        exact getL_none_of (fun y hy e2 => plt_irrefl p (by have := h1 y hy; rw [e2, hx, e] at this; exact this))
      · rw [if_neg e]; simp only [getL]; rw [if_neg (fun e2 => e (e2.symm.trans hx))]
    · rw [if_neg hx]
      simp only [getL, ih h2]
      by_cases e : x.1 = q
      · rw [if_pos e, if_pos e, if_neg (fun e2 => hx (e.trans e2))]
      · rw [if_neg e, if_neg e]

theorem insL_mem {L : PL} {p : Nat × Nat} {n : Int} {x : (Nat × Nat) × Int} (h : x ∈ insL L p n) : x = (p, n) ∨ x ∈ L := by
  induction L with
  | nil => simpa [insL] using h
  | cons y ys ih =>
    simp only [insL] at h
    split at h
    · simpa using h
    · rcases List.mem_cons.1 h with e | e
      · right; simp [e]
      · rcases ih e with e | e
        · exact .inl e
        · right; simp [e]

theorem setL_mem {L : PL} {p : Nat × Nat} {n : Int} {x : (Nat × Nat) × Int} (h : x ∈ setL L p n) : x = (p, n) ∨ x ∈ L := by
  induction L with
  | nil => cases h
  | cons y ys ih =>
    simp only [setL] at h
    split at h
    · rcases List.mem_cons.1 h with e | e
      · exact .inl e
      · right; simp [e]
    · rcases List.mem_cons.1 h with e | e
      · right; simp [e]
      · rcases ih e with e | e
        · exact .inl e
        · right; simp [e]

theorem setL_fst (L : PL) (p : Nat × Nat) (n : Int) : (setL L p n).map (·.1) = L.map (·.1) := by
  induction L with
  | nil => rfl
  | cons y ys ih =>
    simp only [setL]
    split
    · rename_i e; simp [e]
    · simp [ih]

theorem delL_sub (L : PL) (p : Nat × Nat) : (delL L p).Sublist L := by
  induction L with
  | nil => exact .slnil
  | cons y ys ih =>
    simp only [delL]
    split
    · exact List.sublist_cons_self _ _
    · exact ih.cons_cons _

theorem insL_srt {L : PL} (hs : Srt L) {p : Nat × Nat} (n : Int) (h : getL L p = none) : Srt (insL L p n) := by
  induction L with
  | nil => simp [insL, Srt]
  | cons y ys ih =>
    obtain ⟨h1, h2⟩ := List.pairwise_cons.1 hs
    simp only [getL] at h
    split at h
    · cases h
    · rename_i hy
      simp only [insL]
      split
      · rename_i hlt
        refine List.pairwise_cons.2 ⟨fun x hx => ?_, hs⟩
        rcases List.mem_cons.1 hx with e | e
        · subst e; exact hlt
        · exact plt_trans hlt (h1 x e)
      · rename_i hlt
        refine List.pairwise_cons.2 ⟨fun x hx => ?_, ih h2 h⟩
        rcases insL_mem hx with e | e
        · subst e
          rcases plt_tri y.1 p with t | t | t
          · exact t
          · exact absurd t hy
          · exact absurd t hlt
        · exact h1 x e

theorem setL_srt {L : PL} (hs : Srt L) (p : Nat × Nat) (n : Int) : Srt (setL L p n) := by
  have h := (List.pairwise_map (f := fun x : (Nat × Nat) × Int => x.1) (R := plt)).2 hs
  rw [← setL_fst L p n] at h
  exact (List.pairwise_map (f := fun x : (Nat × Nat) × Int => x.1) (R := plt)).1 h

theorem insL_length (L : PL) (p : Nat × Nat) (n : Int) : (insL L p n).length = L.length + 1 := by
  induction L with
  | nil => rfl
  | cons y ys ih => simp only [insL]; split <;> simp [ih]

theorem setL_length (L : PL) (p : Nat × Nat) (n : Int) : (setL L p n).length = L.length := by
  have := congrArg List.length (setL_fst L p n)
  simpa using this

theorem delL_length (L : PL) (p : Nat × Nat) (h : getL L p ≠ none) : (delL L p).length + 1 = L.length := by
  induction L with
  | nil => exact absurd rfl h
  | cons y ys ih =>
    simp only [getL] at h
    simp only [delL]
    split
    · simp
    · rename_i e; rw [if_neg e] at h; have := ih h; simp only [List.length_cons]; omega

/-! ### The trie and the list -/
structure Rep (ns : List Nd) (L : PL) : Prop where
  tri : Tri ns
  srt : Srt L
  pok : ∀ x ∈ L, Pok x.1
  val : ∀ p, Pok p → valOf ns p = getL L p

theorem rep_new : Rep [nd0] [] := by
  refine ⟨tri_new, .nil, fun x hx => by simp at hx, fun p hp => ?_⟩
  rw [valOf_hasN]
  cases h : bitsFrom p.1 0 p.2 with
  | nil => rfl
  | cons b cs =>
    rw [hasN_cons (x := nd0) (by rfl), if_pos (by unfold child nd0; split <;> rfl)]
    rfl

theorem Rep.gath {ns : List Nd} {L : PL} (R : Rep ns L) : gath ns 32 0 0 0 = L.map (·.1) := by
  refine sorted_ext (gath_sorted ns 32 0 0 0 rfl (by simp)) (List.pairwise_map.2 R.srt) (fun q => ?_)
  rw [gath_mem ns q 32 0 0 0 rfl (by simp)]
  simp only [Nat.sub_zero, Nat.zero_le, true_and]
  constructor
  · rintro ⟨h1, h2, h3, h4⟩
    have h5 : q.1 < 2 ^ 32 := by
      have := Nat.div_add_mod q.1 (2 ^ 32)
      have := Nat.mod_lt q.1 (Nat.two_pow_pos 32)
      omega
    rw [← valOf_hasN, R.val q ⟨h5, h1, h2⟩] at h4
    cases hg : getL L q with
    | none => exact absurd hg h4
    | some k => exact List.mem_map.2 ⟨(q, k), getL_mem hg, rfl⟩
  · intro h
    obtain ⟨x, hx, rfl⟩ := List.mem_map.1 h
    have hp := R.pok x hx
    refine ⟨hp.n, hp.m, ?_, ?_⟩
    · simp [Nat.div_eq_of_lt hp.a]
    · rw [← valOf_hasN, R.val _ hp, getL_of_mem R.srt (k := x.2) hx]; simp

/-- The longest of the list that has an address. -/
def findL (L : PL) (addr : Nat) : Option ((Nat × Nat) × Int) :=
  L.foldl (fun b x => if x.1.1 = cutA addr x.1.2 ∧ (∀ y ∈ b, y.1.2 < x.1.2) then some x else b) none

theorem find_law (addr : Nat) : ∀ (L : PL) (b : Option ((Nat × Nat) × Int)), (∀ y ∈ b, y.1.1 = cutA addr y.1.2) →
    (∃ x, L.foldl (fun b x => if x.1.1 = cutA addr x.1.2 ∧ (∀ y ∈ b, y.1.2 < x.1.2) then some x else b) b = some x ∧ (x ∈ L ∨ b = some x) ∧ x.1.1 = cutA addr x.1.2 ∧ (∀ y ∈ b, y.1.2 ≤ x.1.2) ∧ ∀ y ∈ L, y.1.1 = cutA addr y.1.2 → y.1.2 ≤ x.1.2) ∨
    (L.foldl (fun b x => if x.1.1 = cutA addr x.1.2 ∧ (∀ y ∈ b, y.1.2 < x.1.2) then some x else b) b = none ∧ b = none ∧ ∀ y ∈ L, y.1.1 ≠ cutA addr y.1.2)
  | [], b, hb => by
    cases b with
    | none => exact .inr ⟨rfl, rfl, by simp⟩
    | some x => exact .inl ⟨x, rfl, .inr rfl, hb x rfl, fun y hy => by cases hy; exact Nat.le_refl _, by simp⟩
  | z :: L, b, hb => by
    simp only [List.foldl_cons]
    by_cases hz : z.1.1 = cutA addr z.1.2 ∧ (∀ y ∈ b, y.1.2 < z.1.2)
    · rw [if_pos hz]
      rcases find_law addr L (some z) (fun y hy => by cases hy; exact hz.1) with ⟨x, h1, h2, h3, h4, h5⟩ | ⟨_, h2, _⟩
      · have h6 := h4 z rfl
        refine .inl ⟨x, h1, .inl ?_, h3, fun y hy => by have := hz.2 y hy; omega, fun y hy hya => ?_⟩
        · rcases h2 with h2 | h2
          · simp [h2]
          · cases h2; simp
        · rcases List.mem_cons.1 hy with e | e
          · subst e; exact h6
          · exact h5 y e hya
      · cases h2
    · rw [if_neg hz]
      rcases find_law addr L b hb with ⟨x, h1, h2, h3, h4, h5⟩ | ⟨h1, h2, h3⟩
      · refine .inl ⟨x, h1, h2.imp (fun h => by simp [h]) id, h3, h4, fun y hy hya => ?_⟩
        rcases List.mem_cons.1 hy with e | e
        · subst e
          apply Classical.byContradiction
          intro hgt
          exact hz ⟨hya, fun w hw => by have := h4 w hw; omega⟩
        · exact h5 y e hya
      · refine .inr ⟨h1, h2, fun y hy => ?_⟩
        rcases List.mem_cons.1 hy with e | e
        · subst e
          intro hya
          exact hz ⟨hya, fun w hw => by rw [h2] at hw; cases hw⟩
        · exact h3 y e

/-- What is found, told by the list. -/
inductive Found (L : PL) (addr : Nat) : Option ((Nat × Nat) × Int) → Prop where
  | some (x : (Nat × Nat) × Int) : x ∈ L → x.1.1 = cutA addr x.1.2 → (∀ y ∈ L, y.1.1 = cutA addr y.1.2 → y.1.2 ≤ x.1.2) → Found L addr (some x)
  | none : (∀ y ∈ L, y.1.1 ≠ cutA addr y.1.2) → Found L addr none

theorem found_find (L : PL) (addr : Nat) : Found L addr (findL L addr) := by
  unfold findL
  rcases find_law addr L none (fun y hy => by cases hy) with ⟨x, h1, h2, h3, _, h5⟩ | ⟨h1, _, h3⟩
  · rw [h1]; exact .some x (h2.resolve_right (by simp)) h3 h5
  · rw [h1]; exact .none h3

theorem Found.uniq {L : PL} (hs : Srt L) {addr : Nat} {a b : Option ((Nat × Nat) × Int)} (h : Found L addr a) (h' : Found L addr b) : a = b := by
  cases h with
  | some x h1 h2 h3 =>
    cases h' with
    | some y h4 h5 h6 =>
      have e : x.1.2 = y.1.2 := Nat.le_antisymm (h6 x h1 h2) (h3 y h4 h5)
      have e1 : x.1 = y.1 := Prod.ext (by rw [h2, h5, e]) e
      have e2 := getL_of_mem hs (p := x.1) (k := x.2) h1
      rw [e1, getL_of_mem hs (p := y.1) (k := y.2) h4] at e2
      exact congrArg Option.some (Prod.ext e1 (by simpa using e2.symm))
    | none h4 => exact absurd h2 (h4 x h1)
  | none h1 =>
    cases h' with
    | some y h4 h5 h6 => exact absurd h5 (h1 y h4)
    | none => rfl

theorem Rep.best {ns : List Nd} {L : PL} (R : Rep ns L) {addr : Nat} (ha : addr < 2 ^ 32) :
    Found L addr ((bestOf ns addr).map fun x => ((cutA addr x.1, x.1), x.2)) := by
  have none_of : ∀ l', l' ≤ 32 → valOf ns (cutA addr l', l') = Option.none → ∀ y ∈ L, y.1.1 = cutA addr y.1.2 → y.1.2 ≠ l' := by
    intro l' hl h y hy hya e
    rw [R.val _ (pok_cut ha hl), ← e, ← hya, getL_of_mem R.srt (k := y.2) hy] at h
    cases h
  rcases bestOf_law ns addr with ⟨l, k, h1, h2, h3, h4⟩ | ⟨h1, h2⟩
  · rw [h1]
    rw [R.val _ (pok_cut ha h2)] at h3
    refine .some _ (getL_mem h3) rfl (fun y hy hya => ?_)
    apply Classical.byContradiction
    intro hgt
    have hl := (R.pok y hy).n
    exact none_of y.1.2 hl (h4 _ (by simp only at hgt; omega) hl) y hy hya rfl
  · rw [h1]
    exact .none (fun y hy hya => none_of y.1.2 (R.pok y hy).n (h2 _ (R.pok y hy).n) y hy hya rfl)

theorem Rep.find {ns : List Nd} {L : PL} (R : Rep ns L) {addr : Nat} (ha : addr < 2 ^ 32) : ((bestOf ns addr).map fun x => ((cutA addr x.1, x.1), x.2)) = findL L addr :=
  (R.best ha).uniq R.srt (found_find L addr)

/-- A look, told by the list. -/
theorem Rep.look {ns : List Nd} {L : PL} (R : Rep ns L) {a : Nat} (ha : a < 2 ^ 32) (n : Int) : (look ns a n).map (·.2.n) = if mayB a n = true then getL L (a, n.toNat) else none := by
  by_cases h : mayB a n = true
  · rw [if_pos h, look_val h, R.val _ (mayB_pok ha h).1]
  · rw [if_neg h]; unfold Go.Proofs.Ytmbhlbohbpepaaa.look; rw [if_neg h]; rfl

/-! ### The calls on a list -/
def getR (L : PL) (a : Nat) (n : Int) : Option Int := if mayB a n = true then getL L (a, n.toNat) else none

def putR (most : Int) (L : PL) (a : Nat) (n k : Int) : Int × PL :=
  if mayB a n = true then
    if (getL L (a, n.toNat)).isSome then (0, setL L (a, n.toNat) k)
    else if most ≤ (L.length : Int) then (4, L) else (0, insL L (a, n.toNat) k)
  else (1, L)

def takeR (L : PL) (a : Nat) (n : Int) : Int × PL :=
  if (getR L a n).isSome then (0, delL L (a, n.toNat)) else (5, L)

theorem Rep.set {ns : List Nd} {L : PL} (R : Rep ns L) {p : Nat × Nat} (hp : Pok p) {k : Nat} {x y : Nd} (hd : down ns 0 (bitsFrom p.1 0 p.2) = some k) (hx : ns[k]? = some x) (hl : y.l = x.l) (hr : y.r = x.r)
    {L' : PL} (hs : Srt L') (hpk : ∀ x ∈ L', Pok x.1) (hv : ∀ q, getL L' q = if q = p then (if y.has = true then some y.n else none) else getL L q) : Rep (ns.set k y) L' := by
  obtain ⟨T, V⟩ := val_set R.tri hp hd hx hl hr
  refine ⟨T, hs, hpk, fun q hq => ?_⟩
  rw [V q hq, hv q, R.val q hq]

end Go.Proofs.Ytmbhlbohbpepaaa

/- The trie's calls, each told by the list of pairs. -/
namespace Go.Proofs.Ytmbhlbohbpepaaa
open Go
set_option linter.unusedSimpArgs false

/-- A trie in memory has these pairs. -/
def TrieM (h : Hp) (t nb : Nat) (most : Int) (L : PL) (N : Nat) : Prop :=
  ∃ ns cap c, TrieAt h t nb most (L.length : Int) ns cap c ∧ Rep ns L ∧ ns.length ≤ N ∧ L.length ≤ N

theorem TrieM.ne {h : Hp} {t nb : Nat} {most : Int} {L : PL} {N : Nat} (M : TrieM h t nb most L N) : t ≠ nb := by
  obtain ⟨ns, cap, c, T, _⟩ := M; exact T.ne

theorem TrieM.has_t {h : Hp} {t nb : Nat} {most : Int} {L : PL} {N : Nat} (M : TrieM h t nb most L N) : ∃ o, h t = some o := by
  obtain ⟨ns, cap, c, T, _⟩ := M; exact ⟨_, T.t⟩
theorem TrieM.has_nb {h : Hp} {t nb : Nat} {most : Int} {L : PL} {N : Nat} (M : TrieM h t nb most L N) : ∃ o, h nb = some o := by
  obtain ⟨ns, cap, c, T, _⟩ := M; exact ⟨_, T.nb⟩

theorem TrieM.mono {h g : Hp} {t nb : Nat} {most : Int} {L : PL} {N N' : Nat} (M : TrieM h t nb most L N) (l : ∀ o, h t = some o → g t = some o) (l2 : ∀ o, h nb = some o → g nb = some o) (hN : N ≤ N') : TrieM g t nb most L N' := by
  obtain ⟨ns, cap, c, T, R, h1, h2⟩ := M
  exact ⟨ns, cap, c, T.mono l l2, R, by omega, by omega⟩

theorem TrieM.le {h g : Hp} {t nb : Nat} {most : Int} {L : PL} {N N' : Nat} (M : TrieM h t nb most L N) (l : ∀ x o, h x = some o → g x = some o) (hN : N ≤ N') : TrieM g t nb most L N' := M.mono (l t) (l nb) hN

section
variable {h : Hp} {t nb : Nat} {most : Int} {L : PL} {N a : Nat} {n k : Int} {Q : Value → Hp → Prop}

theorem tNewM (hQ : ∀ t nb h', h t = none → h nb = none → (∀ x o, h x = some o → h' x = some o) → TrieM h' t nb most [] 1 → Q (.pointer (some ⟨t, 0, none⟩)) h') :
    Ok Try.prog F_trie_New #[.int .i64 most] h Q :=
  new_spec (fun t nb h' c h1 h2 h3 T => hQ t nb h' h1 h2 h3 ⟨_, _, _, T, rep_new, by simp, by simp⟩)

theorem tGetM (M : TrieM h t nb most L N) (ha : a < 2 ^ 32) (hQ : Q (.tuple #[.int .i64 ((getR L a n).getD 0), .bool (getR L a n).isSome]) h) :
    Ok Try.prog F_trie_Trie_Get #[.pointer (some ⟨t, 0, none⟩), .agg #[.int .u32 a, .int .i64 n]] h Q := by
  obtain ⟨ns, cap, c, T, R, _⟩ := M
  refine get_spec T R.tri.ok ha ?_
  have := R.look ha n
  rw [← getR] at this
  rw [← this] at hQ
  cases h : look ns a n with
  | none => simpa [h] using hQ
  | some p => obtain ⟨i, x⟩ := p; simpa [h] using hQ

def fa (r : Option ((Nat × Nat) × Int)) : Nat := match r with | none => 0 | some x => x.1.1
def fl (r : Option ((Nat × Nat) × Int)) : Nat := match r with | none => 0 | some x => x.1.2
def fn (r : Option ((Nat × Nat) × Int)) : Int := match r with | none => 0 | some x => x.2

theorem tFindM (M : TrieM h t nb most L N) (ha : a < 2 ^ 32) (hQ : Q (.tuple #[.agg #[.int .u32 (fa (findL L a)), .int .i64 (fl (findL L a))], .int .i64 (fn (findL L a)), .bool (findL L a).isSome]) h) :
    Ok Try.prog F_trie_Trie_Find #[.pointer (some ⟨t, 0, none⟩), .int .u32 a] h Q := by
  obtain ⟨ns, cap, c, T, R, _⟩ := M
  refine Find_spec T R.tri.ok ha ?_
  rw [← R.find ha] at hQ
  cases h : bestOf ns a with
  | none => simpa [h, fa, fl, fn, curA, curL, curN] using hQ
  | some p => obtain ⟨i, x⟩ := p; simpa [h, fa, fl, fn, curA, curL, curN] using hQ

theorem tAllM (M : TrieM h t nb most L N)
    (hQ : ∀ v h', SlAt h' T_api_Prefix 2 pe v (L.map (·.1)) → (∀ y o, h y = some o → h' y = some o) → (∀ b, blkOf v = some b → h b = none) → Q v h') :
    Ok Try.prog F_trie_Trie_All #[.pointer (some ⟨t, 0, none⟩)] h Q := by
  obtain ⟨ns, cap, c, T, R, _⟩ := M
  exact all_spec T R.tri.ok R.tri.fit (fun v h' S => by rw [R.gath] at S; exact hQ v h' S)

theorem tTakeM (M : TrieM h t nb most L N) (ha : a < 2 ^ 32) (hN : N ≤ 1000000)
    (hQ : ∀ h', Chg h h' t nb nb → TrieM h' t nb most (takeR L a n).2 N → Q (.int .i64 (takeR L a n).1) h') :
    Ok Try.prog F_trie_Trie_Take #[.pointer (some ⟨t, 0, none⟩), .agg #[.int .u32 a, .int .i64 n]] h Q := by
  have M0 := M
  obtain ⟨ns, cap, c, T, R, h1, h2⟩ := M
  have hlook := R.look ha n
  rw [← getR] at hlook
  refine take_spec T R.tri.ok ha (by omega) (fun hl => ?_) (fun at_ x h' c' hl C T' => ?_)
  · rw [hl] at hlook
    have e : takeR L a n = (5, L) := by unfold takeR; rw [← hlook]; rfl
    rw [e] at hQ
    exact hQ h ⟨fun _ _ h _ _ => h, .inl rfl⟩ M0
  · rw [hl] at hlook
    have e : takeR L a n = (0, delL L (a, n.toNat)) := by unfold takeR; rw [← hlook]; rfl
    obtain ⟨hm, hd, hx, hh⟩ := look_some hl
    have hp := (mayB_pok ha hm).1
    have hg : getL L (a, n.toNat) ≠ none := by unfold getR at hlook; rw [if_pos hm] at hlook; rw [← hlook]; simp
    have hlen := delL_length L _ hg
    rw [e] at hQ
    have el : ((delL L (a, n.toNat)).length : Int) = (L.length : Int) - 1 := by omega
    rw [← el] at T'
    exact hQ h' C ⟨_, _, _, T', R.set (y := { x with n := 0, has := false }) hp hd hx rfl rfl (R.srt.sublist (delL_sub L _)) (fun y hy => R.pok y ((delL_sub L _).subset hy)) (fun q => by simpa using getL_delL R.srt _ q), by simpa using h1, by simp only; omega⟩

theorem tPutM (M : TrieM h t nb most L N) (ha : a < 2 ^ 32) (hN : N + 32 ≤ 1000000)
    (hQ : ∀ h' nb', Chg h h' t nb nb' → TrieM h' t nb' most (putR most L a n k).2 (N + 32) → Q (.int .i64 (putR most L a n k).1) h') :
    Ok Try.prog F_trie_Trie_Put #[.pointer (some ⟨t, 0, none⟩), .agg #[.int .u32 a, .int .i64 n], .int .i64 k] h Q := by
  have M0 := M
  obtain ⟨ns, cap, c, T, R, h1, h2⟩ := M
  have hlook := R.look ha n
  refine put_spec T R.tri.ok ha (by omega) (by omega) (fun hm => ?_) (fun at_ x h' c' hl C T' => ?_) (fun hm hl hf => ?_) (fun x h' nb' cap' c' hm hl hf C O' hx T' => ?_)
  · have e : putR most L a n k = (1, L) := by unfold putR; simp [hm]
    rw [e] at hQ
    exact hQ h nb ⟨fun _ _ h _ _ => h, .inl rfl⟩ (M0.le (fun _ _ h => h) (by omega))
  · obtain ⟨hm, hd, hx, hh⟩ := look_some hl
    have hp := (mayB_pok ha hm).1
    rw [hl, if_pos hm] at hlook
    have e : putR most L a n k = (0, setL L (a, n.toNat) k) := by unfold putR; rw [if_pos hm, ← hlook]; rfl
    have hg : getL L (a, n.toNat) ≠ none := by rw [← hlook]; simp
    rw [e] at hQ
    have el : (((setL L (a, n.toNat) k).length : Nat) : Int) = (L.length : Int) := by rw [setL_length]
    rw [← el] at T'
    refine hQ h' nb C ⟨_, _, _, T', R.set (y := { x with n := k }) hp hd hx rfl rfl (setL_srt R.srt _ k) (fun y hy => ?_) (fun q => ?_), by simp; omega, by simp only [setL_length]; omega⟩
    · rcases setL_mem hy with e | e
      · subst e; exact hp
      · exact R.pok y e
    · rw [getL_setL L _ q k hg]; simp [hh]
  · rw [hl, if_pos hm] at hlook
    have e : putR most L a n k = (4, L) := by unfold putR; rw [if_pos hm, ← hlook]; simp [hf]
    rw [e] at hQ
    exact hQ h nb ⟨fun _ _ h _ _ => h, .inl rfl⟩ (M0.le (fun _ _ h => h) (by omega))
  · have hp := (mayB_pok ha hm).1
    rw [hl, if_pos hm] at hlook
    have hg : getL L (a, n.toNat) = none := by rw [← hlook]; rfl
    have e : putR most L a n k = (0, insL L (a, n.toNat) k) := by unfold putR; rw [if_pos hm, ← hlook]; simp; omega
    rw [e] at hQ
    obtain ⟨TR, hl1, hl2, hway, hval⟩ := val_make R.tri hp (by omega) (by rw [R.val _ hp]; exact hg)
    simp only at hway hl2 hl1 TR hval
    generalize mkDown ns 0 (bitsFrom a 0 n.toNat) = mk at *
    obtain ⟨at', ns'⟩ := mk
    simp only at *
    obtain ⟨TS, VS⟩ := val_set (y := { x with n := k, has := true }) TR hp hway hx rfl rfl
    have el : (((insL L (a, n.toNat) k).length : Nat) : Int) = (L.length : Int) + 1 := by rw [insL_length]; omega
    rw [← el] at T'
    refine hQ h' nb' C ⟨_, _, _, T', ⟨TS, insL_srt R.srt k hg, fun y hy => ?_, fun q hq => ?_⟩, by simp; omega, by simp only [insL_length]; omega⟩
    · rcases insL_mem hy with e | e
      · subst e; exact hp
      · exact R.pok y e
    · rw [VS q hq, getL_insL L _ q k hg, hval q hq, R.val q hq]
      simp
end
end Go.Proofs.Ytmbhlbohbpepaaa
