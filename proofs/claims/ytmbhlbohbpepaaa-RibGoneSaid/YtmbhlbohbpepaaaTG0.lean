/- Printed by wip/kit/gen.py out of the translation: what operations of these types come to. -/
import Derived.Test.YtmbhlbohbpepaaaM9
import Derived.Test.YtmbhlbohbpepaaaChecked
namespace Go.Proofs.Ytmbhlbohbpepaaa
open Go

set_option maxRecDepth 100000

abbrev F_octroilaw09_RibBetter : Nat := 3
abbrev F_octroilaw09_RibOrder : Nat := 4
abbrev F_octroilaw09_RibDepths : Nat := 5
abbrev F_octroilaw09_RibFull : Nat := 6
abbrev F_octroilaw09_RibSwaps : Nat := 7
abbrev F_octroilaw09_RibGone : Nat := 8
abbrev F_octroilaw09_RibDoes : Nat := 9
abbrev F_octroilaw09_RibTakes : Nat := 10
abbrev F_octroilaw09_awake : Nat := 11
abbrev F_octroiref09_May : Nat := 12
abbrev F_rib_Better : Nat := 13
abbrev F_octroiref09_Better : Nat := 14
abbrev F_tags_Depth : Nat := 15
abbrev F_rib_New : Nat := 16
abbrev F_rib_Rib_Put : Nat := 17
abbrev F_rib_Rib_Refused : Nat := 18
abbrev F_rib_Rib_All : Nat := 19
abbrev F_rib_Rib_Best : Nat := 20
abbrev F_rib_Rib_Find : Nat := 21
abbrev F_octroiref09_Same : Nat := 22
abbrev F_rib_Rib_Take : Nat := 23
abbrev F_octroiref09_New : Nat := 24
abbrev F_octroiref09_Rib_Put : Nat := 25
abbrev F_octroiref09_Rib_Take : Nat := 26
abbrev F_octroiref09_Rib_Best : Nat := 27
abbrev F_octroiref09_Rib_Find : Nat := 28
abbrev F_prefix_Has : Nat := 29
abbrev F_octroiref02_May : Nat := 30
abbrev F_rib_compare : Nat := 31
abbrev F_octroiref03_Depth : Nat := 32
abbrev F_trie_New : Nat := 33
abbrev F_rib_may : Nat := 34
abbrev F_trie_Trie_Get : Nat := 35
abbrev F_trie_Trie_Put : Nat := 36
abbrev F_trie_Trie_All : Nat := 37
abbrev F_rib_Rib_of : Nat := 38
abbrev F_slices_MinFunc_api_Route_api_Route : Nat := 39
abbrev F_trie_Trie_Find : Nat := 40
abbrev F_trie_Trie_Take : Nat := 41
abbrev F_octroiref09_Rib_at : Nat := 42
abbrev F_octroiref09_ahead : Nat := 43
abbrev F_octroiref02_Has : Nat := 44
abbrev F_prefix_May : Nat := 45
abbrev F_prefix_Mask : Nat := 46
abbrev F_octroiref02_Mask : Nat := 47
abbrev F_rib_first : Nat := 48
abbrev F_cmp_Compare_int : Nat := 49
abbrev F_cmp_Compare_uint16 : Nat := 50
abbrev F_trie_Trie_find : Nat := 51
abbrev F_trie_Trie_walk : Nat := 52
abbrev F_trie_Trie_gather : Nat := 53
abbrev F_trie_bit : Nat := 54
abbrev F_octroiref02_Less : Nat := 55
abbrev F_cmp_Or_int : Nat := 56
abbrev F_cmp_isNaN_int : Nat := 57
abbrev F_cmp_isNaN_uint16 : Nat := 58
abbrev T_api_Prefix : Nat := 24
abbrev T_api_Route : Nat := 27
abbrev T_api_Errno : Nat := 35
abbrev T_octroilaw09_Op : Nat := 52
abbrev T_octroiref09_Rib : Nat := 54
abbrev T_rib_Rib : Nat := 63
abbrev T_rib_key : Nat := 65
abbrev T_trie_Trie : Nat := 82
abbrev T_trie_node : Nat := 87
@[simp] theorem al_24 {h : Hp} {k : Value → Hp → Prop} : arun Try.prog (Instr.alloc 24 true (.tuple #[])) h k = nw h (.cells #[Value.int .u32 0, Value.int .i64 0] 24) fun b h => k (.pointer (some ⟨b, 0, none⟩)) h := arun_alloc (v := Value.agg #[Value.int .u32 0, Value.int .i64 0]) (by kernel_rfl)
@[simp] theorem al_27 {h : Hp} {k : Value → Hp → Prop} : arun Try.prog (Instr.alloc 27 true (.tuple #[])) h k = nw h (.cells #[Value.int .u32 0, Value.int .i64 0, Value.int .i64 0, Value.int .i64 0, Value.int .i64 0, Value.int .i64 0, Value.int .u16 0] 27) fun b h => k (.pointer (some ⟨b, 0, none⟩)) h := arun_alloc (v := Value.agg #[Value.int .u32 0, Value.int .i64 0, Value.int .i64 0, Value.int .i64 0, Value.int .i64 0, Value.int .i64 0, Value.int .u16 0]) (by kernel_rfl)
@[simp] theorem al_65 {h : Hp} {k : Value → Hp → Prop} : arun Try.prog (Instr.alloc 65 true (.tuple #[])) h k = nw h (.cells #[Value.int .u32 0, Value.int .i64 0, Value.int .i64 0] 65) fun b h => k (.pointer (some ⟨b, 0, none⟩)) h := arun_alloc (v := Value.agg #[Value.int .u32 0, Value.int .i64 0, Value.int .i64 0]) (by kernel_rfl)
@[simp] theorem al_87 {h : Hp} {k : Value → Hp → Prop} : arun Try.prog (Instr.alloc 87 true (.tuple #[])) h k = nw h (.cells #[Value.int .i64 0, Value.int .i64 0, Value.int .i64 0, Value.bool false] 87) fun b h => k (.pointer (some ⟨b, 0, none⟩)) h := arun_alloc (v := Value.agg #[Value.int .i64 0, Value.int .i64 0, Value.int .i64 0, Value.bool false]) (by kernel_rfl)
theorem und_39 : Try.prog.underlying 39 = some (.slice 27) := by kernel_rfl
theorem size_27 : (Try.prog.info? 27).map (·.size) = some 7 := by kernel_rfl
theorem bytes_27 : (Try.prog.info? 27).map (·.bytes) = some 56 := by kernel_rfl
theorem zero_27 : (Try.prog.info? 27).bind (·.zero) = some (Value.agg #[Value.int .u32 0, Value.int .i64 0, Value.int .i64 0, Value.int .i64 0, Value.int .i64 0, Value.int .i64 0, Value.int .u16 0]) := by kernel_rfl
theorem push_api_Route {α : Type} {R b2 o2 c2 : Nat} {enc : α → List Value} {v : Value} {xs : List α} {y : α} {h : Hp} {k : Value → Hp → Prop} (S : SlAt h 27 7 enc v xs) (hy : ldN h b2 o2 7 = some (enc y)) (hyl : (enc y).length = 7) (hone : ∀ u ∈ enc y, oneCell u = true) (hbd : (2 * xs.length + 770) * 56 ≤ 2 ^ 48) (K : ∀ b c cap, (some b = blkOf v ∨ h b = none) → xs.length + 1 ≤ cap → cap * 7 ≤ c.size → Enc c 0 7 enc (xs ++ [y]) → k (.slice (some ⟨b, 0, none⟩) (xs.length + 1) cap) (h.upd b (.cells c 27 (0, 0)))) :
    arun Try.prog (Builtin.append_ #[39, 39] R #[v, .slice (some ⟨b2, o2, none⟩) 1 c2]) h k := arun_push und_39 und_39 size_27 bytes_27 zero_27 (by decide) rfl S hy hyl hone hbd K
theorem und_68 : Try.prog.underlying 68 = some (.slice 24) := by kernel_rfl
theorem size_24 : (Try.prog.info? 24).map (·.size) = some 2 := by kernel_rfl
theorem bytes_24 : (Try.prog.info? 24).map (·.bytes) = some 16 := by kernel_rfl
theorem zero_24 : (Try.prog.info? 24).bind (·.zero) = some (Value.agg #[Value.int .u32 0, Value.int .i64 0]) := by kernel_rfl
theorem push_api_Prefix {α : Type} {R b2 o2 c2 : Nat} {enc : α → List Value} {v : Value} {xs : List α} {y : α} {h : Hp} {k : Value → Hp → Prop} (S : SlAt h 24 2 enc v xs) (hy : ldN h b2 o2 2 = some (enc y)) (hyl : (enc y).length = 2) (hone : ∀ u ∈ enc y, oneCell u = true) (hbd : (2 * xs.length + 770) * 16 ≤ 2 ^ 48) (K : ∀ b c cap, (some b = blkOf v ∨ h b = none) → xs.length + 1 ≤ cap → cap * 2 ≤ c.size → Enc c 0 2 enc (xs ++ [y]) → k (.slice (some ⟨b, 0, none⟩) (xs.length + 1) cap) (h.upd b (.cells c 24 (0, 0)))) :
    arun Try.prog (Builtin.append_ #[68, 68] R #[v, .slice (some ⟨b2, o2, none⟩) 1 c2]) h k := arun_push und_68 und_68 size_24 bytes_24 zero_24 (by decide) rfl S hy hyl hone hbd K
theorem und_80 : Try.prog.underlying 80 = some (.slice 87) := by kernel_rfl
theorem size_87 : (Try.prog.info? 87).map (·.size) = some 4 := by kernel_rfl
theorem bytes_87 : (Try.prog.info? 87).map (·.bytes) = some 32 := by kernel_rfl
theorem zero_87 : (Try.prog.info? 87).bind (·.zero) = some (Value.agg #[Value.int .i64 0, Value.int .i64 0, Value.int .i64 0, Value.bool false]) := by kernel_rfl
theorem push_trie_node {α : Type} {R b2 o2 c2 : Nat} {enc : α → List Value} {v : Value} {xs : List α} {y : α} {h : Hp} {k : Value → Hp → Prop} (S : SlAt h 87 4 enc v xs) (hy : ldN h b2 o2 4 = some (enc y)) (hyl : (enc y).length = 4) (hone : ∀ u ∈ enc y, oneCell u = true) (hbd : (2 * xs.length + 770) * 32 ≤ 2 ^ 48) (K : ∀ b c cap, (some b = blkOf v ∨ h b = none) → xs.length + 1 ≤ cap → cap * 4 ≤ c.size → Enc c 0 4 enc (xs ++ [y]) → k (.slice (some ⟨b, 0, none⟩) (xs.length + 1) cap) (h.upd b (.cells c 87 (0, 0)))) :
    arun Try.prog (Builtin.append_ #[80, 80] R #[v, .slice (some ⟨b2, o2, none⟩) 1 c2]) h k := arun_push und_80 und_80 size_87 bytes_87 zero_87 (by decide) rfl S hy hyl hone hbd K
@[simp] theorem bd_24_ {h : Hp}  : rrun Try.prog (Instr.build 24 #[]) h = some (.agg #[Value.int .u32 0, Value.int .i64 0]) := by kernel_rfl
@[simp] theorem bd_24_0_1 {h : Hp} {x0 : Int} {x1 : Int} : rrun Try.prog (Instr.build 24 #[(0, Value.int .u32 x0), (1, Value.int .i64 x1)]) h = some (.agg #[Value.int .u32 x0, Value.int .i64 x1]) := by kernel_rfl
@[simp] theorem bd_24_1 {h : Hp} {x1 : Int} : rrun Try.prog (Instr.build 24 #[(1, Value.int .i64 x1)]) h = some (.agg #[Value.int .u32 0, Value.int .i64 x1]) := by kernel_rfl
@[simp] theorem bd_27_ {h : Hp}  : rrun Try.prog (Instr.build 27 #[]) h = some (.agg #[Value.int .u32 0, Value.int .i64 0, Value.int .i64 0, Value.int .i64 0, Value.int .i64 0, Value.int .i64 0, Value.int .u16 0]) := by kernel_rfl
@[simp] theorem bd_27_0_1 {h : Hp} {x0_0 : Int} {x0_1 : Int} {x1 : Int} : rrun Try.prog (Instr.build 27 #[(0, Value.agg #[Value.int .u32 x0_0, Value.int .i64 x0_1]), (1, Value.int .i64 x1)]) h = some (.agg #[Value.int .u32 x0_0, Value.int .i64 x0_1, Value.int .i64 x1, Value.int .i64 0, Value.int .i64 0, Value.int .i64 0, Value.int .u16 0]) := by kernel_rfl
@[simp] theorem bd_27_1_2_3_5 {h : Hp} {x1 : Int} {x2 : Int} {x3 : Int} {x5 : Int} : rrun Try.prog (Instr.build 27 #[(1, Value.int .i64 x1), (2, Value.int .i64 x2), (3, Value.int .i64 x3), (5, Value.int .u16 x5)]) h = some (.agg #[Value.int .u32 0, Value.int .i64 0, Value.int .i64 x1, Value.int .i64 x2, Value.int .i64 x3, Value.int .i64 0, Value.int .u16 x5]) := by kernel_rfl
@[simp] theorem bd_27_2_3 {h : Hp} {x2 : Int} {x3 : Int} : rrun Try.prog (Instr.build 27 #[(2, Value.int .i64 x2), (3, Value.int .i64 x3)]) h = some (.agg #[Value.int .u32 0, Value.int .i64 0, Value.int .i64 0, Value.int .i64 x2, Value.int .i64 x3, Value.int .i64 0, Value.int .u16 0]) := by kernel_rfl
@[simp] theorem bd_54_0 {h : Hp} {x0 : Int} : rrun Try.prog (Instr.build 54 #[(0, Value.int .i64 x0)]) h = some (.agg #[Value.int .i64 x0, Value.slice none 0 0, Value.int .i64 0]) := by kernel_rfl
@[simp] theorem bd_63_0_2_3 {h : Hp} {x0 : Int} {x2 : Option Nat} {x3 : Option Addr} : rrun Try.prog (Instr.build 63 #[(0, Value.int .i64 x0), (2, Value.map x2), (3, Value.pointer x3)]) h = some (.agg #[Value.int .i64 x0, Value.int .i64 0, Value.map x2, Value.pointer x3]) := by kernel_rfl
@[simp] theorem bd_65_0_1 {h : Hp} {x0_0 : Int} {x0_1 : Int} {x1 : Int} : rrun Try.prog (Instr.build 65 #[(0, Value.agg #[Value.int .u32 x0_0, Value.int .i64 x0_1]), (1, Value.int .i64 x1)]) h = some (.agg #[Value.int .u32 x0_0, Value.int .i64 x0_1, Value.int .i64 x1]) := by kernel_rfl
@[simp] theorem bd_82_0_2 {h : Hp} {x0 : Int} {x2a : Option Addr} {x2n x2c : Nat} : rrun Try.prog (Instr.build 82 #[(0, Value.int .i64 x0), (2, Value.slice x2a x2n x2c)]) h = some (.agg #[Value.int .i64 x0, Value.int .i64 0, Value.slice x2a x2n x2c]) := by kernel_rfl
@[simp] theorem bd_87_ {h : Hp}  : rrun Try.prog (Instr.build 87 #[]) h = some (.agg #[Value.int .i64 0, Value.int .i64 0, Value.int .i64 0, Value.bool false]) := by kernel_rfl
@[simp] theorem bs_39_1_0 {h : Hp} {x0_0_0 : Int} {x0_0_1 : Int} {x0_1 : Int} {x0_2 : Int} {x0_3 : Int} {x0_4 : Int} {x0_5 : Int} {k : Value → Hp → Prop} : arun Try.prog (Instr.buildSlice 39 1 #[(0, Value.agg #[Value.int .u32 x0_0_0, Value.int .i64 x0_0_1, Value.int .i64 x0_1, Value.int .i64 x0_2, Value.int .i64 x0_3, Value.int .i64 x0_4, Value.int .u16 x0_5])]) h k = nw h (.cells #[Value.int .u32 x0_0_0, Value.int .i64 x0_0_1, Value.int .i64 x0_1, Value.int .i64 x0_2, Value.int .i64 x0_3, Value.int .i64 x0_4, Value.int .u16 x0_5] 27) fun b h => k (.slice (some ⟨b, 0, none⟩) 1 1) h := by kernel_rfl
@[simp] theorem bs_68_1_0 {h : Hp} {x0_0 : Int} {x0_1 : Int} {k : Value → Hp → Prop} : arun Try.prog (Instr.buildSlice 68 1 #[(0, Value.agg #[Value.int .u32 x0_0, Value.int .i64 x0_1])]) h k = nw h (.cells #[Value.int .u32 x0_0, Value.int .i64 x0_1] 24) fun b h => k (.slice (some ⟨b, 0, none⟩) 1 1) h := by kernel_rfl
@[simp] theorem bs_80_1_0 {h : Hp} {x0_0_0 : Int} {x0_0_1 : Int} {x0_1 : Int} {x0_2 : Bool} {k : Value → Hp → Prop} : arun Try.prog (Instr.buildSlice 80 1 #[(0, Value.agg #[Value.int .i64 x0_0_0, Value.int .i64 x0_0_1, Value.int .i64 x0_1, Value.bool x0_2])]) h k = nw h (.cells #[Value.int .i64 x0_0_0, Value.int .i64 x0_0_1, Value.int .i64 x0_1, Value.bool x0_2] 87) fun b h => k (.slice (some ⟨b, 0, none⟩) 1 1) h := by kernel_rfl
@[simp] theorem bs_92_6_0_1_2_3_4_5 {h : Hp} {x0 : Int} {x1 : Int} {x2 : Int} {x3 : Int} {x4 : Int} {x5 : Int} {k : Value → Hp → Prop} : arun Try.prog (Instr.buildSlice 92 6 #[(0, Value.int .i64 x0), (1, Value.int .i64 x1), (2, Value.int .i64 x2), (3, Value.int .i64 x3), (4, Value.int .i64 x4), (5, Value.int .i64 x5)]) h k = nw h (.cells #[Value.int .i64 x0, Value.int .i64 x1, Value.int .i64 x2, Value.int .i64 x3, Value.int .i64 x4, Value.int .i64 x5] 3) fun b h => k (.slice (some ⟨b, 0, none⟩) 6 6) h := by kernel_rfl
@[simp] theorem cv_22_3 {h : Hp} {x : Int} : rrun Try.prog (convert 22 3 (.int .u32 x)) h = some (.int .i64 (IntKind.i64.wrap x)) := by kernel_rfl
@[simp] theorem cv_25_3 {h : Hp} {x : Int} : rrun Try.prog (convert 25 3 (.int .u16 x)) h = some (.int .i64 (IntKind.i64.wrap x)) := by kernel_rfl
@[simp] theorem cv_3_22 {h : Hp} {x : Int} : rrun Try.prog (convert 3 22 (.int .i64 x)) h = some (.int .u32 (IntKind.u32.wrap x)) := by kernel_rfl
theorem eql_24_raw {h : Hp} {x y : Operand} {p_0 : Int} {p_1 : Int} {q_0 : Int} {q_1 : Int} : rrun Try.prog (bop .eql 24 x y (Value.agg #[Value.int .u32 p_0, Value.int .i64 p_1]) (Value.agg #[Value.int .u32 q_0, Value.int .i64 q_1])) h = some (.bool ((decide (p_0 = q_0) && (decide (p_1 = q_1) && true)))) :=
  rr_eql_struct Try.underlying24 (by kernel_rfl) (by kernel_rfl) (rr_eqf_cons (a := Value.int .u32 p_0) (b := Value.int .u32 q_0) (by rfl) (by kernel_rfl) (by kernel_rfl) (by kernel_rfl) (rr_eqf_cons (a := Value.int .i64 p_1) (b := Value.int .i64 q_1) (by rfl) (by kernel_rfl) (by kernel_rfl) (by kernel_rfl) rr_eqf_nil))
@[simp] theorem eql_24 {h : Hp} {x y : Operand} {p_0 : Int} {p_1 : Int} {q_0 : Int} {q_1 : Int} : rrun Try.prog (bop .eql 24 x y (Value.agg #[Value.int .u32 p_0, Value.int .i64 p_1]) (Value.agg #[Value.int .u32 q_0, Value.int .i64 q_1])) h = some (.bool ((decide (p_0 = q_0) && (decide (p_1 = q_1))))) := by
  rw [eql_24_raw]; simp only [Bool.and_true]
theorem eql_27_raw {h : Hp} {x y : Operand} {p_0_0 : Int} {p_0_1 : Int} {p_1 : Int} {p_2 : Int} {p_3 : Int} {p_4 : Int} {p_5 : Int} {q_0_0 : Int} {q_0_1 : Int} {q_1 : Int} {q_2 : Int} {q_3 : Int} {q_4 : Int} {q_5 : Int} : rrun Try.prog (bop .eql 27 x y (Value.agg #[Value.int .u32 p_0_0, Value.int .i64 p_0_1, Value.int .i64 p_1, Value.int .i64 p_2, Value.int .i64 p_3, Value.int .i64 p_4, Value.int .u16 p_5]) (Value.agg #[Value.int .u32 q_0_0, Value.int .i64 q_0_1, Value.int .i64 q_1, Value.int .i64 q_2, Value.int .i64 q_3, Value.int .i64 q_4, Value.int .u16 q_5])) h = some (.bool (((decide (p_0_0 = q_0_0) && (decide (p_0_1 = q_0_1) && true)) && (decide (p_1 = q_1) && (decide (p_2 = q_2) && (decide (p_3 = q_3) && (decide (p_4 = q_4) && (decide (p_5 = q_5) && true)))))))) :=
  rr_eql_struct Try.underlying27 (by kernel_rfl) (by kernel_rfl) (rr_eqf_cons (a := Value.agg #[Value.int .u32 p_0_0, Value.int .i64 p_0_1]) (b := Value.agg #[Value.int .u32 q_0_0, Value.int .i64 q_0_1]) (by rfl) (by kernel_rfl) (by kernel_rfl) ((rr_equalIn_struct Try.underlying24 (by kernel_rfl)).trans (rr_eqf_cons (a := Value.int .u32 p_0_0) (b := Value.int .u32 q_0_0) (by rfl) (by kernel_rfl) (by kernel_rfl) (by kernel_rfl) (rr_eqf_cons (a := Value.int .i64 p_0_1) (b := Value.int .i64 q_0_1) (by rfl) (by kernel_rfl) (by kernel_rfl) (by kernel_rfl) rr_eqf_nil))) (rr_eqf_cons (a := Value.int .i64 p_1) (b := Value.int .i64 q_1) (by rfl) (by kernel_rfl) (by kernel_rfl) (by kernel_rfl) (rr_eqf_cons (a := Value.int .i64 p_2) (b := Value.int .i64 q_2) (by rfl) (by kernel_rfl) (by kernel_rfl) (by kernel_rfl) (rr_eqf_cons (a := Value.int .i64 p_3) (b := Value.int .i64 q_3) (by rfl) (by kernel_rfl) (by kernel_rfl) (by kernel_rfl) (rr_eqf_cons (a := Value.int .i64 p_4) (b := Value.int .i64 q_4) (by rfl) (by kernel_rfl) (by kernel_rfl) (by kernel_rfl) (rr_eqf_cons (a := Value.int .u16 p_5) (b := Value.int .u16 q_5) (by rfl) (by kernel_rfl) (by kernel_rfl) (by kernel_rfl) rr_eqf_nil))))))
@[simp] theorem eql_27 {h : Hp} {x y : Operand} {p_0_0 : Int} {p_0_1 : Int} {p_1 : Int} {p_2 : Int} {p_3 : Int} {p_4 : Int} {p_5 : Int} {q_0_0 : Int} {q_0_1 : Int} {q_1 : Int} {q_2 : Int} {q_3 : Int} {q_4 : Int} {q_5 : Int} : rrun Try.prog (bop .eql 27 x y (Value.agg #[Value.int .u32 p_0_0, Value.int .i64 p_0_1, Value.int .i64 p_1, Value.int .i64 p_2, Value.int .i64 p_3, Value.int .i64 p_4, Value.int .u16 p_5]) (Value.agg #[Value.int .u32 q_0_0, Value.int .i64 q_0_1, Value.int .i64 q_1, Value.int .i64 q_2, Value.int .i64 q_3, Value.int .i64 q_4, Value.int .u16 q_5])) h = some (.bool (((decide (p_0_0 = q_0_0) && (decide (p_0_1 = q_0_1))) && (decide (p_1 = q_1) && (decide (p_2 = q_2) && (decide (p_3 = q_3) && (decide (p_4 = q_4) && (decide (p_5 = q_5))))))))) := by
  rw [eql_27_raw]; simp only [Bool.and_true]
@[simp] theorem eql_33_sn {h : Hp} {x y : Operand} {a : Addr} : rrun Try.prog (bop .eql 33 x y (.pointer (some a)) (.pointer none)) h = some (.bool false) := by kernel_rfl
@[simp] theorem eql_33_nn {h : Hp} {x y : Operand} {p : Option Addr} : rrun Try.prog (bop .eql 33 x y (.pointer none) (.pointer p)) h = some (.bool (p.isNone)) := by kernel_rfl
@[simp] theorem eql_4 {h : Hp} {x y : Operand} {a b : Bool} : rrun Try.prog (bop .eql 4 x y (.bool a) (.bool b)) h = some (.bool (decide (a = b))) := by kernel_rfl
@[simp] theorem eql_83_sn {h : Hp} {x y : Operand} {a : Addr} : rrun Try.prog (bop .eql 83 x y (.pointer (some a)) (.pointer none)) h = some (.bool false) := by kernel_rfl
@[simp] theorem eql_83_nn {h : Hp} {x y : Operand} {p : Option Addr} : rrun Try.prog (bop .eql 83 x y (.pointer none) (.pointer p)) h = some (.bool (p.isNone)) := by kernel_rfl
theorem neq_24_raw {h : Hp} {x y : Operand} {p_0 : Int} {p_1 : Int} {q_0 : Int} {q_1 : Int} : rrun Try.prog (bop .neq 24 x y (Value.agg #[Value.int .u32 p_0, Value.int .i64 p_1]) (Value.agg #[Value.int .u32 q_0, Value.int .i64 q_1])) h = some (.bool (!(decide (p_0 = q_0) && (decide (p_1 = q_1) && true)))) :=
  rr_neq_struct Try.underlying24 (by kernel_rfl) (by kernel_rfl) (rr_eqf_cons (a := Value.int .u32 p_0) (b := Value.int .u32 q_0) (by rfl) (by kernel_rfl) (by kernel_rfl) (by kernel_rfl) (rr_eqf_cons (a := Value.int .i64 p_1) (b := Value.int .i64 q_1) (by rfl) (by kernel_rfl) (by kernel_rfl) (by kernel_rfl) rr_eqf_nil))
@[simp] theorem neq_24 {h : Hp} {x y : Operand} {p_0 : Int} {p_1 : Int} {q_0 : Int} {q_1 : Int} : rrun Try.prog (bop .neq 24 x y (Value.agg #[Value.int .u32 p_0, Value.int .i64 p_1]) (Value.agg #[Value.int .u32 q_0, Value.int .i64 q_1])) h = some (.bool (!(decide (p_0 = q_0) && (decide (p_1 = q_1))))) := by
  rw [neq_24_raw]; simp only [Bool.and_true]
theorem neq_27_raw {h : Hp} {x y : Operand} {p_0_0 : Int} {p_0_1 : Int} {p_1 : Int} {p_2 : Int} {p_3 : Int} {p_4 : Int} {p_5 : Int} {q_0_0 : Int} {q_0_1 : Int} {q_1 : Int} {q_2 : Int} {q_3 : Int} {q_4 : Int} {q_5 : Int} : rrun Try.prog (bop .neq 27 x y (Value.agg #[Value.int .u32 p_0_0, Value.int .i64 p_0_1, Value.int .i64 p_1, Value.int .i64 p_2, Value.int .i64 p_3, Value.int .i64 p_4, Value.int .u16 p_5]) (Value.agg #[Value.int .u32 q_0_0, Value.int .i64 q_0_1, Value.int .i64 q_1, Value.int .i64 q_2, Value.int .i64 q_3, Value.int .i64 q_4, Value.int .u16 q_5])) h = some (.bool (!((decide (p_0_0 = q_0_0) && (decide (p_0_1 = q_0_1) && true)) && (decide (p_1 = q_1) && (decide (p_2 = q_2) && (decide (p_3 = q_3) && (decide (p_4 = q_4) && (decide (p_5 = q_5) && true)))))))) :=
  rr_neq_struct Try.underlying27 (by kernel_rfl) (by kernel_rfl) (rr_eqf_cons (a := Value.agg #[Value.int .u32 p_0_0, Value.int .i64 p_0_1]) (b := Value.agg #[Value.int .u32 q_0_0, Value.int .i64 q_0_1]) (by rfl) (by kernel_rfl) (by kernel_rfl) ((rr_equalIn_struct Try.underlying24 (by kernel_rfl)).trans (rr_eqf_cons (a := Value.int .u32 p_0_0) (b := Value.int .u32 q_0_0) (by rfl) (by kernel_rfl) (by kernel_rfl) (by kernel_rfl) (rr_eqf_cons (a := Value.int .i64 p_0_1) (b := Value.int .i64 q_0_1) (by rfl) (by kernel_rfl) (by kernel_rfl) (by kernel_rfl) rr_eqf_nil))) (rr_eqf_cons (a := Value.int .i64 p_1) (b := Value.int .i64 q_1) (by rfl) (by kernel_rfl) (by kernel_rfl) (by kernel_rfl) (rr_eqf_cons (a := Value.int .i64 p_2) (b := Value.int .i64 q_2) (by rfl) (by kernel_rfl) (by kernel_rfl) (by kernel_rfl) (rr_eqf_cons (a := Value.int .i64 p_3) (b := Value.int .i64 q_3) (by rfl) (by kernel_rfl) (by kernel_rfl) (by kernel_rfl) (rr_eqf_cons (a := Value.int .i64 p_4) (b := Value.int .i64 q_4) (by rfl) (by kernel_rfl) (by kernel_rfl) (by kernel_rfl) (rr_eqf_cons (a := Value.int .u16 p_5) (b := Value.int .u16 q_5) (by rfl) (by kernel_rfl) (by kernel_rfl) (by kernel_rfl) rr_eqf_nil))))))
@[simp] theorem neq_27 {h : Hp} {x y : Operand} {p_0_0 : Int} {p_0_1 : Int} {p_1 : Int} {p_2 : Int} {p_3 : Int} {p_4 : Int} {p_5 : Int} {q_0_0 : Int} {q_0_1 : Int} {q_1 : Int} {q_2 : Int} {q_3 : Int} {q_4 : Int} {q_5 : Int} : rrun Try.prog (bop .neq 27 x y (Value.agg #[Value.int .u32 p_0_0, Value.int .i64 p_0_1, Value.int .i64 p_1, Value.int .i64 p_2, Value.int .i64 p_3, Value.int .i64 p_4, Value.int .u16 p_5]) (Value.agg #[Value.int .u32 q_0_0, Value.int .i64 q_0_1, Value.int .i64 q_1, Value.int .i64 q_2, Value.int .i64 q_3, Value.int .i64 q_4, Value.int .u16 q_5])) h = some (.bool (!((decide (p_0_0 = q_0_0) && (decide (p_0_1 = q_0_1))) && (decide (p_1 = q_1) && (decide (p_2 = q_2) && (decide (p_3 = q_3) && (decide (p_4 = q_4) && (decide (p_5 = q_5))))))))) := by
  rw [neq_27_raw]; simp only [Bool.and_true]
@[simp] theorem neq_33_sn {h : Hp} {x y : Operand} {a : Addr} : rrun Try.prog (bop .neq 33 x y (.pointer (some a)) (.pointer none)) h = some (.bool true) := by kernel_rfl
@[simp] theorem neq_33_nn {h : Hp} {x y : Operand} {p : Option Addr} : rrun Try.prog (bop .neq 33 x y (.pointer none) (.pointer p)) h = some (.bool (!p.isNone)) := by kernel_rfl
@[simp] theorem neq_4 {h : Hp} {x y : Operand} {a b : Bool} : rrun Try.prog (bop .neq 4 x y (.bool a) (.bool b)) h = some (.bool (!decide (a = b))) := by kernel_rfl
@[simp] theorem neq_83_sn {h : Hp} {x y : Operand} {a : Addr} : rrun Try.prog (bop .neq 83 x y (.pointer (some a)) (.pointer none)) h = some (.bool true) := by kernel_rfl
@[simp] theorem neq_83_nn {h : Hp} {x y : Operand} {p : Option Addr} : rrun Try.prog (bop .neq 83 x y (.pointer none) (.pointer p)) h = some (.bool (!p.isNone)) := by kernel_rfl
@[simp] theorem fa_24_0 {h : Hp} {b o : Nat} : rrun Try.prog (Instr.fieldAt 24 (.pointer (some ⟨b, o, none⟩)) 0) h = some (.pointer (some ⟨b, o, none⟩)) := by kernel_rfl
@[simp] theorem fa_24_1 {h : Hp} {b o : Nat} : rrun Try.prog (Instr.fieldAt 24 (.pointer (some ⟨b, o, none⟩)) 1) h = some (.pointer (some ⟨b, o + 1, none⟩)) := by kernel_rfl
@[simp] theorem fa_27_0 {h : Hp} {b o : Nat} : rrun Try.prog (Instr.fieldAt 27 (.pointer (some ⟨b, o, none⟩)) 0) h = some (.pointer (some ⟨b, o, none⟩)) := by kernel_rfl
@[simp] theorem fa_27_1 {h : Hp} {b o : Nat} : rrun Try.prog (Instr.fieldAt 27 (.pointer (some ⟨b, o, none⟩)) 1) h = some (.pointer (some ⟨b, o + 2, none⟩)) := by kernel_rfl
@[simp] theorem fa_27_2 {h : Hp} {b o : Nat} : rrun Try.prog (Instr.fieldAt 27 (.pointer (some ⟨b, o, none⟩)) 2) h = some (.pointer (some ⟨b, o + 3, none⟩)) := by kernel_rfl
@[simp] theorem fa_27_3 {h : Hp} {b o : Nat} : rrun Try.prog (Instr.fieldAt 27 (.pointer (some ⟨b, o, none⟩)) 3) h = some (.pointer (some ⟨b, o + 4, none⟩)) := by kernel_rfl
@[simp] theorem fa_27_4 {h : Hp} {b o : Nat} : rrun Try.prog (Instr.fieldAt 27 (.pointer (some ⟨b, o, none⟩)) 4) h = some (.pointer (some ⟨b, o + 5, none⟩)) := by kernel_rfl
@[simp] theorem fa_27_5 {h : Hp} {b o : Nat} : rrun Try.prog (Instr.fieldAt 27 (.pointer (some ⟨b, o, none⟩)) 5) h = some (.pointer (some ⟨b, o + 6, none⟩)) := by kernel_rfl
@[simp] theorem fa_52_0 {h : Hp} {b o : Nat} : rrun Try.prog (Instr.fieldAt 52 (.pointer (some ⟨b, o, none⟩)) 0) h = some (.pointer (some ⟨b, o, none⟩)) := by kernel_rfl
@[simp] theorem fa_52_1 {h : Hp} {b o : Nat} : rrun Try.prog (Instr.fieldAt 52 (.pointer (some ⟨b, o, none⟩)) 1) h = some (.pointer (some ⟨b, o + 1, none⟩)) := by kernel_rfl
@[simp] theorem fa_54_0 {h : Hp} {b o : Nat} : rrun Try.prog (Instr.fieldAt 54 (.pointer (some ⟨b, o, none⟩)) 0) h = some (.pointer (some ⟨b, o, none⟩)) := by kernel_rfl
@[simp] theorem fa_54_1 {h : Hp} {b o : Nat} : rrun Try.prog (Instr.fieldAt 54 (.pointer (some ⟨b, o, none⟩)) 1) h = some (.pointer (some ⟨b, o + 1, none⟩)) := by kernel_rfl
@[simp] theorem fa_54_2 {h : Hp} {b o : Nat} : rrun Try.prog (Instr.fieldAt 54 (.pointer (some ⟨b, o, none⟩)) 2) h = some (.pointer (some ⟨b, o + 2, none⟩)) := by kernel_rfl
@[simp] theorem fa_63_0 {h : Hp} {b o : Nat} : rrun Try.prog (Instr.fieldAt 63 (.pointer (some ⟨b, o, none⟩)) 0) h = some (.pointer (some ⟨b, o, none⟩)) := by kernel_rfl
@[simp] theorem fa_63_1 {h : Hp} {b o : Nat} : rrun Try.prog (Instr.fieldAt 63 (.pointer (some ⟨b, o, none⟩)) 1) h = some (.pointer (some ⟨b, o + 1, none⟩)) := by kernel_rfl
@[simp] theorem fa_63_2 {h : Hp} {b o : Nat} : rrun Try.prog (Instr.fieldAt 63 (.pointer (some ⟨b, o, none⟩)) 2) h = some (.pointer (some ⟨b, o + 2, none⟩)) := by kernel_rfl
@[simp] theorem fa_63_3 {h : Hp} {b o : Nat} : rrun Try.prog (Instr.fieldAt 63 (.pointer (some ⟨b, o, none⟩)) 3) h = some (.pointer (some ⟨b, o + 3, none⟩)) := by kernel_rfl
@[simp] theorem fa_82_0 {h : Hp} {b o : Nat} : rrun Try.prog (Instr.fieldAt 82 (.pointer (some ⟨b, o, none⟩)) 0) h = some (.pointer (some ⟨b, o, none⟩)) := by kernel_rfl
@[simp] theorem fa_82_1 {h : Hp} {b o : Nat} : rrun Try.prog (Instr.fieldAt 82 (.pointer (some ⟨b, o, none⟩)) 1) h = some (.pointer (some ⟨b, o + 1, none⟩)) := by kernel_rfl
@[simp] theorem fa_82_2 {h : Hp} {b o : Nat} : rrun Try.prog (Instr.fieldAt 82 (.pointer (some ⟨b, o, none⟩)) 2) h = some (.pointer (some ⟨b, o + 2, none⟩)) := by kernel_rfl
@[simp] theorem fa_87_0 {h : Hp} {b o : Nat} : rrun Try.prog (Instr.fieldAt 87 (.pointer (some ⟨b, o, none⟩)) 0) h = some (.pointer (some ⟨b, o, none⟩)) := by kernel_rfl
@[simp] theorem fa_87_1 {h : Hp} {b o : Nat} : rrun Try.prog (Instr.fieldAt 87 (.pointer (some ⟨b, o, none⟩)) 1) h = some (.pointer (some ⟨b, o + 2, none⟩)) := by kernel_rfl
@[simp] theorem fa_87_2 {h : Hp} {b o : Nat} : rrun Try.prog (Instr.fieldAt 87 (.pointer (some ⟨b, o, none⟩)) 2) h = some (.pointer (some ⟨b, o + 3, none⟩)) := by kernel_rfl
@[simp] theorem ia_39 {h : Hp} {b o n c : Nat} {i : Int} (h0 : 0 ≤ i) (h1 : i < (n : Int)) : rrun Try.prog (Instr.indexAt 39 (.slice (some ⟨b, o, none⟩) n c) (.int .i64 i)) h = some (.pointer (some ⟨b, o + i.toNat * 7, none⟩)) := rr_indexAt_slice und_39 size_27 h0 h1
theorem und_48 : Try.prog.underlying 48 = some (.slice 52) := by kernel_rfl
theorem size_52 : (Try.prog.info? 52).map (·.size) = some 8 := by kernel_rfl
@[simp] theorem ia_48 {h : Hp} {b o n c : Nat} {i : Int} (h0 : 0 ≤ i) (h1 : i < (n : Int)) : rrun Try.prog (Instr.indexAt 48 (.slice (some ⟨b, o, none⟩) n c) (.int .i64 i)) h = some (.pointer (some ⟨b, o + i.toNat * 8, none⟩)) := rr_indexAt_slice und_48 size_52 h0 h1
@[simp] theorem ia_68 {h : Hp} {b o n c : Nat} {i : Int} (h0 : 0 ≤ i) (h1 : i < (n : Int)) : rrun Try.prog (Instr.indexAt 68 (.slice (some ⟨b, o, none⟩) n c) (.int .i64 i)) h = some (.pointer (some ⟨b, o + i.toNat * 2, none⟩)) := rr_indexAt_slice und_68 size_24 h0 h1
@[simp] theorem ia_80 {h : Hp} {b o n c : Nat} {i : Int} (h0 : 0 ≤ i) (h1 : i < (n : Int)) : rrun Try.prog (Instr.indexAt 80 (.slice (some ⟨b, o, none⟩) n c) (.int .i64 i)) h = some (.pointer (some ⟨b, o + i.toNat * 4, none⟩)) := rr_indexAt_slice und_80 size_87 h0 h1
theorem und_85 : Try.prog.underlying 85 = some (.array 2 3) := by kernel_rfl
theorem size_3 : (Try.prog.info? 3).map (·.size) = some 1 := by kernel_rfl
@[simp] theorem ia_85 {h : Hp} {b o : Nat} {i : Int} (h0 : 0 ≤ i) (h1 : i < 2) : rrun Try.prog (Instr.indexAt 85 (.pointer (some ⟨b, o, none⟩)) (.int .i64 i)) h = some (.pointer (some ⟨b, o + i.toNat * 1, none⟩)) := rr_indexAt_array und_85 size_3 h0 h1
theorem und_92 : Try.prog.underlying 92 = some (.slice 3) := by kernel_rfl
@[simp] theorem ia_92 {h : Hp} {b o n c : Nat} {i : Int} (h0 : 0 ≤ i) (h1 : i < (n : Int)) : rrun Try.prog (Instr.indexAt 92 (.slice (some ⟨b, o, none⟩) n c) (.int .i64 i)) h = some (.pointer (some ⟨b, o + i.toNat * 1, none⟩)) := rr_indexAt_slice und_92 size_3 h0 h1
@[simp] theorem ix_85 {h : Hp} {cs : Array Value} {i : Int} (h0 : 0 ≤ i) (h1 : i < 2) : rrun Try.prog (Instr.index 85 (.agg cs) (.int .i64 i)) h = cs[i.toNat]? := rr_index_array und_85 size_3 (by kernel_rfl) h0 h1
@[simp] theorem ld_22 {h : Hp} {a : Addr} : rrun Try.prog (Instr.loadAt 22 (.pointer (some a))) h = h.cell? a := rr_load_one (by kernel_rfl)
@[simp] theorem ld_24 {h : Hp} {b o : Nat} : rrun Try.prog (Instr.loadAt 24 (.pointer (some ⟨b, o, none⟩))) h = (ldN h b o 2).map fun l => .agg l.toArray := rr_load_agg (by kernel_rfl) (by kernel_rfl)
@[simp] theorem ld_25 {h : Hp} {a : Addr} : rrun Try.prog (Instr.loadAt 25 (.pointer (some a))) h = h.cell? a := rr_load_one (by kernel_rfl)
@[simp] theorem ld_27 {h : Hp} {b o : Nat} : rrun Try.prog (Instr.loadAt 27 (.pointer (some ⟨b, o, none⟩))) h = (ldN h b o 7).map fun l => .agg l.toArray := rr_load_agg (by kernel_rfl) (by kernel_rfl)
@[simp] theorem ld_3 {h : Hp} {a : Addr} : rrun Try.prog (Instr.loadAt 3 (.pointer (some a))) h = h.cell? a := rr_load_one (by kernel_rfl)
@[simp] theorem ld_39 {h : Hp} {a : Addr} : rrun Try.prog (Instr.loadAt 39 (.pointer (some a))) h = h.cell? a := rr_load_one (by kernel_rfl)
@[simp] theorem ld_4 {h : Hp} {a : Addr} : rrun Try.prog (Instr.loadAt 4 (.pointer (some a))) h = h.cell? a := rr_load_one (by kernel_rfl)
@[simp] theorem ld_59 {h : Hp} {a : Addr} : rrun Try.prog (Instr.loadAt 59 (.pointer (some a))) h = h.cell? a := rr_load_one (by kernel_rfl)
@[simp] theorem ld_60 {h : Hp} {a : Addr} : rrun Try.prog (Instr.loadAt 60 (.pointer (some a))) h = h.cell? a := rr_load_one (by kernel_rfl)
@[simp] theorem ld_65 {h : Hp} {b o : Nat} : rrun Try.prog (Instr.loadAt 65 (.pointer (some ⟨b, o, none⟩))) h = (ldN h b o 3).map fun l => .agg l.toArray := rr_load_agg (by kernel_rfl) (by kernel_rfl)
@[simp] theorem ld_80 {h : Hp} {a : Addr} : rrun Try.prog (Instr.loadAt 80 (.pointer (some a))) h = h.cell? a := rr_load_one (by kernel_rfl)
@[simp] theorem ld_85 {h : Hp} {b o : Nat} : rrun Try.prog (Instr.loadAt 85 (.pointer (some ⟨b, o, none⟩))) h = (ldN h b o 2).map fun l => .agg l.toArray := rr_load_agg (by kernel_rfl) (by kernel_rfl)
@[simp] theorem ld_87 {h : Hp} {b o : Nat} : rrun Try.prog (Instr.loadAt 87 (.pointer (some ⟨b, o, none⟩))) h = (ldN h b o 4).map fun l => .agg l.toArray := rr_load_agg (by kernel_rfl) (by kernel_rfl)
@[simp] theorem ln_39 {h : Hp} {a : Option Addr} {n c : Nat} : rrun Try.prog (Builtin.len_ #[39] 3 #[.slice a n c]) h = some (.int .i64 n) := by kernel_rfl
@[simp] theorem ln_48 {h : Hp} {a : Option Addr} {n c : Nat} : rrun Try.prog (Builtin.len_ #[48] 3 #[.slice a n c]) h = some (.int .i64 n) := by kernel_rfl
@[simp] theorem ln_59 {h : Hp} {r : Nat} {es : Array MapEntry} {cl : Nat} (hm : h r = some (.map es cl)) : rrun Try.prog (Builtin.len_ #[59] 3 #[.map (some r)]) h = some (.int .i64 es.size) := by
  have e : rrun Try.prog (Builtin.len_ #[59] 3 #[.map (some r)]) h = rrun Try.prog (Sem.getObj r fun o => match o with | .map es _ => .pure (.int .i64 es.size) | _ => stuck "len: map expected") h := by kernel_rfl
  rw [e]; simp only [rrun, hm, isRow]
@[simp] theorem ln_68 {h : Hp} {a : Option Addr} {n c : Nat} : rrun Try.prog (Builtin.len_ #[68] 3 #[.slice a n c]) h = some (.int .i64 n) := by kernel_rfl
@[simp] theorem ln_80 {h : Hp} {a : Option Addr} {n c : Nat} : rrun Try.prog (Builtin.len_ #[80] 3 #[.slice a n c]) h = some (.int .i64 n) := by kernel_rfl
@[simp] theorem ln_92 {h : Hp} {a : Option Addr} {n c : Nat} : rrun Try.prog (Builtin.len_ #[92] 3 #[.slice a n c]) h = some (.int .i64 n) := by kernel_rfl
@[simp] theorem mi_9 {h : Hp} {x : Value} : rrun Try.prog (Instr.makeInterface 9 x) h = some (.iface 9 x) := by kernel_rfl
theorem ck_59 {h : Hp} {e : Bool} {p_0_0 : Int} {p_0_1 : Int} {p_1 : Int} : rrun Try.prog (Instr.checkKey e 10000 65 (Value.agg #[Value.int .u32 p_0_0, Value.int .i64 p_0_1, Value.int .i64 p_1])) h = some () := by kernel_rfl
theorem sb_59 {p_0_0 : Int} {p_0_1 : Int} {p_1 : Int} : Instr.sameBits 10000 (Value.agg #[Value.int .u32 p_0_0, Value.int .i64 p_0_1, Value.int .i64 p_1]) (Value.agg #[Value.int .u32 p_0_0, Value.int .i64 p_0_1, Value.int .i64 p_1]) = true := by simp [Instr.sameBits]
theorem keq_59 {h : Hp} {p_0_0 : Int} {p_0_1 : Int} {p_1 : Int} {q_0_0 : Int} {q_0_1 : Int} {q_1 : Int} : rrun Try.prog (Op.equal 65 (Value.agg #[Value.int .u32 p_0_0, Value.int .i64 p_0_1, Value.int .i64 p_1]) (Value.agg #[Value.int .u32 q_0_0, Value.int .i64 q_0_1, Value.int .i64 q_1])) h = some ((decide (p_0_0 = q_0_0) && (decide (p_0_1 = q_0_1) && true)) && (decide (p_1 = q_1) && true)) := by
  rw [show Op.equal 65 (Value.agg #[Value.int .u32 p_0_0, Value.int .i64 p_0_1, Value.int .i64 p_1]) (Value.agg #[Value.int .u32 q_0_0, Value.int .i64 q_0_1, Value.int .i64 q_1]) = Op.equalIn (9999 + 1) 65 (Value.agg #[Value.int .u32 p_0_0, Value.int .i64 p_0_1, Value.int .i64 p_1]) (Value.agg #[Value.int .u32 q_0_0, Value.int .i64 q_0_1, Value.int .i64 q_1]) from rfl, rr_equalIn_struct Try.underlying65 (by kernel_rfl)]
  exact (rr_eqf_cons (a := Value.agg #[Value.int .u32 p_0_0, Value.int .i64 p_0_1]) (b := Value.agg #[Value.int .u32 q_0_0, Value.int .i64 q_0_1]) (by rfl) (by kernel_rfl) (by kernel_rfl) ((rr_equalIn_struct Try.underlying24 (by kernel_rfl)).trans (rr_eqf_cons (a := Value.int .u32 p_0_0) (b := Value.int .u32 q_0_0) (by rfl) (by kernel_rfl) (by kernel_rfl) (by kernel_rfl) (rr_eqf_cons (a := Value.int .i64 p_0_1) (b := Value.int .i64 q_0_1) (by rfl) (by kernel_rfl) (by kernel_rfl) (by kernel_rfl) rr_eqf_nil))) (rr_eqf_cons (a := Value.int .i64 p_1) (b := Value.int .i64 q_1) (by rfl) (by kernel_rfl) (by kernel_rfl) (by kernel_rfl) rr_eqf_nil))
@[simp] theorem ms_80_1_1 {h : Hp} {k : Value → Hp → Prop} : arun Try.prog (Instr.makeSlice 80 (Go.Value.int Go.IntKind.i64 1) (Go.Value.int Go.IntKind.i64 1)) h k = nw h (.cells #[Value.int .i64 0, Value.int .i64 0, Value.int .i64 0, Value.bool false] 87) fun b h => k (.slice (some ⟨b, 0, none⟩) 1 1) h := by kernel_rfl
@[simp] theorem st_24 {h : Hp} {b o : Nat} {x_0 : Int} {x_1 : Int} {k : Unit → Hp → Prop} : arun Try.prog (Instr.storeAt 24 (.pointer (some ⟨b, o, none⟩)) (Value.agg #[Value.int .u32 x_0, Value.int .i64 x_1])) h k = stN h b o [Value.int .u32 x_0, Value.int .i64 x_1] (k ()) := arun_store_eq size_24 rfl
@[simp] theorem st_27 {h : Hp} {b o : Nat} {x_0_0 : Int} {x_0_1 : Int} {x_1 : Int} {x_2 : Int} {x_3 : Int} {x_4 : Int} {x_5 : Int} {k : Unit → Hp → Prop} : arun Try.prog (Instr.storeAt 27 (.pointer (some ⟨b, o, none⟩)) (Value.agg #[Value.int .u32 x_0_0, Value.int .i64 x_0_1, Value.int .i64 x_1, Value.int .i64 x_2, Value.int .i64 x_3, Value.int .i64 x_4, Value.int .u16 x_5])) h k = stA h b o [Value.int .u32 x_0_0, Value.int .i64 x_0_1, Value.int .i64 x_1, Value.int .i64 x_2, Value.int .i64 x_3, Value.int .i64 x_4, Value.int .u16 x_5] (k ()) := arun_store_eq size_27 rfl
@[simp] theorem st_3 {h : Hp} {b o : Nat} {x : Int} {k : Unit → Hp → Prop} : arun Try.prog (Instr.storeAt 3 (.pointer (some ⟨b, o, none⟩)) (Value.int .i64 x)) h k = stN h b o [Value.int .i64 x] (k ()) := arun_store_eq size_3 rfl
theorem size_39 : (Try.prog.info? 39).map (·.size) = some 1 := by kernel_rfl
@[simp] theorem st_39 {h : Hp} {b o : Nat} {xa : Option Addr} {xn xc : Nat} {k : Unit → Hp → Prop} : arun Try.prog (Instr.storeAt 39 (.pointer (some ⟨b, o, none⟩)) (Value.slice xa xn xc)) h k = stN h b o [Value.slice xa xn xc] (k ()) := arun_store_eq size_39 rfl
theorem size_4 : (Try.prog.info? 4).map (·.size) = some 1 := by kernel_rfl
@[simp] theorem st_4 {h : Hp} {b o : Nat} {x : Bool} {k : Unit → Hp → Prop} : arun Try.prog (Instr.storeAt 4 (.pointer (some ⟨b, o, none⟩)) (Value.bool x)) h k = stN h b o [Value.bool x] (k ()) := arun_store_eq size_4 rfl
theorem size_65 : (Try.prog.info? 65).map (·.size) = some 3 := by kernel_rfl
@[simp] theorem st_65 {h : Hp} {b o : Nat} {x_0_0 : Int} {x_0_1 : Int} {x_1 : Int} {k : Unit → Hp → Prop} : arun Try.prog (Instr.storeAt 65 (.pointer (some ⟨b, o, none⟩)) (Value.agg #[Value.int .u32 x_0_0, Value.int .i64 x_0_1, Value.int .i64 x_1])) h k = stN h b o [Value.int .u32 x_0_0, Value.int .i64 x_0_1, Value.int .i64 x_1] (k ()) := arun_store_eq size_65 rfl
theorem size_80 : (Try.prog.info? 80).map (·.size) = some 1 := by kernel_rfl
@[simp] theorem st_80 {h : Hp} {b o : Nat} {xa : Option Addr} {xn xc : Nat} {k : Unit → Hp → Prop} : arun Try.prog (Instr.storeAt 80 (.pointer (some ⟨b, o, none⟩)) (Value.slice xa xn xc)) h k = stN h b o [Value.slice xa xn xc] (k ()) := arun_store_eq size_80 rfl
@[simp] theorem st_87 {h : Hp} {b o : Nat} {x_0_0 : Int} {x_0_1 : Int} {x_1 : Int} {x_2 : Bool} {k : Unit → Hp → Prop} : arun Try.prog (Instr.storeAt 87 (.pointer (some ⟨b, o, none⟩)) (Value.agg #[Value.int .i64 x_0_0, Value.int .i64 x_0_1, Value.int .i64 x_1, Value.bool x_2])) h k = stN h b o [Value.int .i64 x_0_0, Value.int .i64 x_0_1, Value.int .i64 x_1, Value.bool x_2] (k ()) := arun_store_eq size_87 rfl
end Go.Proofs.Ytmbhlbohbpepaaa
