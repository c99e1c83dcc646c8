/- Printed by wip/kit/gen.py out of the translation: what operations of these types come to. -/
import Derived.Test.YteadogmjojeleaaM9
import Derived.Test.YteadogmjojeleaaChecked
namespace Go.Proofs.Yteadogmjojeleaa
open Go

set_option maxRecDepth 100000

abbrev F_octroilaw08_TrieRoot : Nat := 3
abbrev F_octroilaw08_TrieOrder : Nat := 4
abbrev F_octroilaw08_TrieBack : Nat := 5
abbrev F_octroilaw08_TrieEmpty : Nat := 6
abbrev F_octroilaw08_TrieDoes : Nat := 7
abbrev F_octroilaw08_TrieLongest : Nat := 8
abbrev F_octroilaw08_awake : Nat := 9
abbrev F_trie_New : Nat := 10
abbrev F_trie_Trie_Put : Nat := 11
abbrev F_trie_Trie_Find : Nat := 12
abbrev F_prefix_Has : Nat := 13
abbrev F_trie_Trie_All : Nat := 14
abbrev F_trie_Trie_Get : Nat := 15
abbrev F_prefix_May : Nat := 16
abbrev F_trie_Trie_Take : Nat := 17
abbrev F_trie_Trie_Len : Nat := 18
abbrev F_octroiref08_Trie_Put : Nat := 19
abbrev F_octroiref08_Trie_Take : Nat := 20
abbrev F_octroiref08_Trie_Get : Nat := 21
abbrev F_octroiref08_Trie_Find : Nat := 22
abbrev F_octroilaw08_all : Nat := 23
abbrev F_prefix_Less : Nat := 24
abbrev F_trie_Trie_find : Nat := 25
abbrev F_trie_Trie_walk : Nat := 26
abbrev F_prefix_Mask : Nat := 27
abbrev F_trie_bit : Nat := 28
abbrev F_trie_Trie_gather : Nat := 29
abbrev F_octroiref02_May : Nat := 30
abbrev F_octroiref08_Trie_at : Nat := 31
abbrev F_octroiref02_Less : Nat := 32
abbrev F_octroiref02_Has : Nat := 33
abbrev F_octroiref02_Mask : Nat := 34
abbrev T_api_Errno : Nat := 27
abbrev T_api_Prefix : Nat := 30
abbrev T_octroilaw08_Op : Nat := 32
abbrev T_octroiref08_Trie : Nat := 50
abbrev T_trie_Trie : Nat := 56
abbrev T_trie_node : Nat := 61
abbrev T_octroiref08_Pair : Nat := 68
@[simp] theorem al_30 {h : Hp} {k : Value → Hp → Prop} : arun Try.prog (Instr.alloc 30 true (.tuple #[])) h k = nw h (.cells #[Value.int .u32 0, Value.int .i64 0] 30) fun b h => k (.pointer (some ⟨b, 0, none⟩)) h := arun_alloc (v := Value.agg #[Value.int .u32 0, Value.int .i64 0]) (by kernel_rfl)
@[simp] theorem al_61 {h : Hp} {k : Value → Hp → Prop} : arun Try.prog (Instr.alloc 61 true (.tuple #[])) h k = nw h (.cells #[Value.int .i64 0, Value.int .i64 0, Value.int .i64 0, Value.bool false] 61) fun b h => k (.pointer (some ⟨b, 0, none⟩)) h := arun_alloc (v := Value.agg #[Value.int .i64 0, Value.int .i64 0, Value.int .i64 0, Value.bool false]) (by kernel_rfl)
theorem und_37 : Try.prog.underlying 37 = some (.slice 30) := by kernel_rfl
theorem size_30 : (Try.prog.info? 30).map (·.size) = some 2 := by kernel_rfl
theorem bytes_30 : (Try.prog.info? 30).map (·.bytes) = some 16 := by kernel_rfl
theorem zero_30 : (Try.prog.info? 30).bind (·.zero) = some (Value.agg #[Value.int .u32 0, Value.int .i64 0]) := by kernel_rfl
theorem push_api_Prefix {α : Type} {R b2 o2 c2 : Nat} {enc : α → List Value} {v : Value} {xs : List α} {y : α} {h : Hp} {k : Value → Hp → Prop} (S : SlAt h 30 2 enc v xs) (hy : ldN h b2 o2 2 = some (enc y)) (hyl : (enc y).length = 2) (hone : ∀ u ∈ enc y, oneCell u = true) (hbd : (2 * xs.length + 770) * 16 ≤ 2 ^ 48) (K : ∀ b c cap, (some b = blkOf v ∨ h b = none) → xs.length + 1 ≤ cap → cap * 2 ≤ c.size → Enc c 0 2 enc (xs ++ [y]) → k (.slice (some ⟨b, 0, none⟩) (xs.length + 1) cap) (h.upd b (.cells c 30 (0, 0)))) :
    arun Try.prog (Builtin.append_ #[37, 37] R #[v, .slice (some ⟨b2, o2, none⟩) 1 c2]) h k := arun_push und_37 und_37 size_30 bytes_30 zero_30 (by decide) rfl S hy hyl hone hbd K
theorem und_48 : Try.prog.underlying 48 = some (.slice 68) := by kernel_rfl
theorem size_68 : (Try.prog.info? 68).map (·.size) = some 3 := by kernel_rfl
theorem bytes_68 : (Try.prog.info? 68).map (·.bytes) = some 24 := by kernel_rfl
theorem zero_68 : (Try.prog.info? 68).bind (·.zero) = some (Value.agg #[Value.int .u32 0, Value.int .i64 0, Value.int .i64 0]) := by kernel_rfl
theorem push_octroiref08_Pair {α : Type} {R b2 o2 c2 : Nat} {enc : α → List Value} {v : Value} {xs : List α} {y : α} {h : Hp} {k : Value → Hp → Prop} (S : SlAt h 68 3 enc v xs) (hy : ldN h b2 o2 3 = some (enc y)) (hyl : (enc y).length = 3) (hone : ∀ u ∈ enc y, oneCell u = true) (hbd : (2 * xs.length + 770) * 24 ≤ 2 ^ 48) (K : ∀ b c cap, (some b = blkOf v ∨ h b = none) → xs.length + 1 ≤ cap → cap * 3 ≤ c.size → Enc c 0 3 enc (xs ++ [y]) → k (.slice (some ⟨b, 0, none⟩) (xs.length + 1) cap) (h.upd b (.cells c 68 (0, 0)))) :
    arun Try.prog (Builtin.append_ #[48, 48] R #[v, .slice (some ⟨b2, o2, none⟩) 1 c2]) h k := arun_push und_48 und_48 size_68 bytes_68 zero_68 (by decide) rfl S hy hyl hone hbd K
theorem und_54 : Try.prog.underlying 54 = some (.slice 61) := by kernel_rfl
theorem size_61 : (Try.prog.info? 61).map (·.size) = some 4 := by kernel_rfl
theorem bytes_61 : (Try.prog.info? 61).map (·.bytes) = some 32 := by kernel_rfl
theorem zero_61 : (Try.prog.info? 61).bind (·.zero) = some (Value.agg #[Value.int .i64 0, Value.int .i64 0, Value.int .i64 0, Value.bool false]) := by kernel_rfl
theorem push_trie_node {α : Type} {R b2 o2 c2 : Nat} {enc : α → List Value} {v : Value} {xs : List α} {y : α} {h : Hp} {k : Value → Hp → Prop} (S : SlAt h 61 4 enc v xs) (hy : ldN h b2 o2 4 = some (enc y)) (hyl : (enc y).length = 4) (hone : ∀ u ∈ enc y, oneCell u = true) (hbd : (2 * xs.length + 770) * 32 ≤ 2 ^ 48) (K : ∀ b c cap, (some b = blkOf v ∨ h b = none) → xs.length + 1 ≤ cap → cap * 4 ≤ c.size → Enc c 0 4 enc (xs ++ [y]) → k (.slice (some ⟨b, 0, none⟩) (xs.length + 1) cap) (h.upd b (.cells c 61 (0, 0)))) :
    arun Try.prog (Builtin.append_ #[54, 54] R #[v, .slice (some ⟨b2, o2, none⟩) 1 c2]) h k := arun_push und_54 und_54 size_61 bytes_61 zero_61 (by decide) rfl S hy hyl hone hbd K
@[simp] theorem bd_30_ {h : Hp}  : rrun Try.prog (Instr.build 30 #[]) h = some (.agg #[Value.int .u32 0, Value.int .i64 0]) := by kernel_rfl
@[simp] theorem bd_30_0_1 {h : Hp} {x0 : Int} {x1 : Int} : rrun Try.prog (Instr.build 30 #[(0, Value.int .u32 x0), (1, Value.int .i64 x1)]) h = some (.agg #[Value.int .u32 x0, Value.int .i64 x1]) := by kernel_rfl
@[simp] theorem bd_50_0 {h : Hp} {x0 : Int} : rrun Try.prog (Instr.build 50 #[(0, Value.int .i64 x0)]) h = some (.agg #[Value.int .i64 x0, Value.slice none 0 0]) := by kernel_rfl
@[simp] theorem bd_56_0_2 {h : Hp} {x0 : Int} {x2a : Option Addr} {x2n x2c : Nat} : rrun Try.prog (Instr.build 56 #[(0, Value.int .i64 x0), (2, Value.slice x2a x2n x2c)]) h = some (.agg #[Value.int .i64 x0, Value.int .i64 0, Value.slice x2a x2n x2c]) := by kernel_rfl
@[simp] theorem bd_61_ {h : Hp}  : rrun Try.prog (Instr.build 61 #[]) h = some (.agg #[Value.int .i64 0, Value.int .i64 0, Value.int .i64 0, Value.bool false]) := by kernel_rfl
@[simp] theorem bd_68_0_1 {h : Hp} {x0_0 : Int} {x0_1 : Int} {x1 : Int} : rrun Try.prog (Instr.build 68 #[(0, Value.agg #[Value.int .u32 x0_0, Value.int .i64 x0_1]), (1, Value.int .i64 x1)]) h = some (.agg #[Value.int .u32 x0_0, Value.int .i64 x0_1, Value.int .i64 x1]) := by kernel_rfl
@[simp] theorem bs_37_1_0 {h : Hp} {x0_0 : Int} {x0_1 : Int} {k : Value → Hp → Prop} : arun Try.prog (Instr.buildSlice 37 1 #[(0, Value.agg #[Value.int .u32 x0_0, Value.int .i64 x0_1])]) h k = nw h (.cells #[Value.int .u32 x0_0, Value.int .i64 x0_1] 30) fun b h => k (.slice (some ⟨b, 0, none⟩) 1 1) h := by kernel_rfl
@[simp] theorem bs_48_1_0 {h : Hp} {x0_0_0 : Int} {x0_0_1 : Int} {x0_1 : Int} {k : Value → Hp → Prop} : arun Try.prog (Instr.buildSlice 48 1 #[(0, Value.agg #[Value.int .u32 x0_0_0, Value.int .i64 x0_0_1, Value.int .i64 x0_1])]) h k = nw h (.cells #[Value.int .u32 x0_0_0, Value.int .i64 x0_0_1, Value.int .i64 x0_1] 68) fun b h => k (.slice (some ⟨b, 0, none⟩) 1 1) h := by kernel_rfl
@[simp] theorem bs_54_1_0 {h : Hp} {x0_0_0 : Int} {x0_0_1 : Int} {x0_1 : Int} {x0_2 : Bool} {k : Value → Hp → Prop} : arun Try.prog (Instr.buildSlice 54 1 #[(0, Value.agg #[Value.int .i64 x0_0_0, Value.int .i64 x0_0_1, Value.int .i64 x0_1, Value.bool x0_2])]) h k = nw h (.cells #[Value.int .i64 x0_0_0, Value.int .i64 x0_0_1, Value.int .i64 x0_1, Value.bool x0_2] 61) fun b h => k (.slice (some ⟨b, 0, none⟩) 1 1) h := by kernel_rfl
@[simp] theorem cv_23_3 {h : Hp} {x : Int} : rrun Try.prog (convert 23 3 (.int .u32 x)) h = some (.int .i64 (IntKind.i64.wrap x)) := by kernel_rfl
@[simp] theorem cv_3_23 {h : Hp} {x : Int} : rrun Try.prog (convert 3 23 (.int .i64 x)) h = some (.int .u32 (IntKind.u32.wrap x)) := by kernel_rfl
@[simp] theorem eql_25_sn {h : Hp} {x y : Operand} {a : Addr} : rrun Try.prog (bop .eql 25 x y (.pointer (some a)) (.pointer none)) h = some (.bool false) := by kernel_rfl
@[simp] theorem eql_25_nn {h : Hp} {x y : Operand} {p : Option Addr} : rrun Try.prog (bop .eql 25 x y (.pointer none) (.pointer p)) h = some (.bool (p.isNone)) := by kernel_rfl
theorem eql_30_raw {h : Hp} {x y : Operand} {p_0 : Int} {p_1 : Int} {q_0 : Int} {q_1 : Int} : rrun Try.prog (bop .eql 30 x y (Value.agg #[Value.int .u32 p_0, Value.int .i64 p_1]) (Value.agg #[Value.int .u32 q_0, Value.int .i64 q_1])) h = some (.bool ((decide (p_0 = q_0) && (decide (p_1 = q_1) && true)))) :=
  rr_eql_struct Try.underlying30 (by kernel_rfl) (by kernel_rfl) (rr_eqf_cons (a := Value.int .u32 p_0) (b := Value.int .u32 q_0) (by rfl) (by kernel_rfl) (by kernel_rfl) (by kernel_rfl) (rr_eqf_cons (a := Value.int .i64 p_1) (b := Value.int .i64 q_1) (by rfl) (by kernel_rfl) (by kernel_rfl) (by kernel_rfl) rr_eqf_nil))
@[simp] theorem eql_30 {h : Hp} {x y : Operand} {p_0 : Int} {p_1 : Int} {q_0 : Int} {q_1 : Int} : rrun Try.prog (bop .eql 30 x y (Value.agg #[Value.int .u32 p_0, Value.int .i64 p_1]) (Value.agg #[Value.int .u32 q_0, Value.int .i64 q_1])) h = some (.bool ((decide (p_0 = q_0) && (decide (p_1 = q_1))))) := by
  rw [eql_30_raw]; simp only [Bool.and_true]
@[simp] theorem eql_4 {h : Hp} {x y : Operand} {a b : Bool} : rrun Try.prog (bop .eql 4 x y (.bool a) (.bool b)) h = some (.bool (decide (a = b))) := by kernel_rfl
@[simp] theorem eql_57_sn {h : Hp} {x y : Operand} {a : Addr} : rrun Try.prog (bop .eql 57 x y (.pointer (some a)) (.pointer none)) h = some (.bool false) := by kernel_rfl
@[simp] theorem eql_57_nn {h : Hp} {x y : Operand} {p : Option Addr} : rrun Try.prog (bop .eql 57 x y (.pointer none) (.pointer p)) h = some (.bool (p.isNone)) := by kernel_rfl
@[simp] theorem neq_25_sn {h : Hp} {x y : Operand} {a : Addr} : rrun Try.prog (bop .neq 25 x y (.pointer (some a)) (.pointer none)) h = some (.bool true) := by kernel_rfl
@[simp] theorem neq_25_nn {h : Hp} {x y : Operand} {p : Option Addr} : rrun Try.prog (bop .neq 25 x y (.pointer none) (.pointer p)) h = some (.bool (!p.isNone)) := by kernel_rfl
theorem neq_30_raw {h : Hp} {x y : Operand} {p_0 : Int} {p_1 : Int} {q_0 : Int} {q_1 : Int} : rrun Try.prog (bop .neq 30 x y (Value.agg #[Value.int .u32 p_0, Value.int .i64 p_1]) (Value.agg #[Value.int .u32 q_0, Value.int .i64 q_1])) h = some (.bool (!(decide (p_0 = q_0) && (decide (p_1 = q_1) && true)))) :=
  rr_neq_struct Try.underlying30 (by kernel_rfl) (by kernel_rfl) (rr_eqf_cons (a := Value.int .u32 p_0) (b := Value.int .u32 q_0) (by rfl) (by kernel_rfl) (by kernel_rfl) (by kernel_rfl) (rr_eqf_cons (a := Value.int .i64 p_1) (b := Value.int .i64 q_1) (by rfl) (by kernel_rfl) (by kernel_rfl) (by kernel_rfl) rr_eqf_nil))
@[simp] theorem neq_30 {h : Hp} {x y : Operand} {p_0 : Int} {p_1 : Int} {q_0 : Int} {q_1 : Int} : rrun Try.prog (bop .neq 30 x y (Value.agg #[Value.int .u32 p_0, Value.int .i64 p_1]) (Value.agg #[Value.int .u32 q_0, Value.int .i64 q_1])) h = some (.bool (!(decide (p_0 = q_0) && (decide (p_1 = q_1))))) := by
  rw [neq_30_raw]; simp only [Bool.and_true]
@[simp] theorem neq_4 {h : Hp} {x y : Operand} {a b : Bool} : rrun Try.prog (bop .neq 4 x y (.bool a) (.bool b)) h = some (.bool (!decide (a = b))) := by kernel_rfl
@[simp] theorem neq_57_sn {h : Hp} {x y : Operand} {a : Addr} : rrun Try.prog (bop .neq 57 x y (.pointer (some a)) (.pointer none)) h = some (.bool true) := by kernel_rfl
@[simp] theorem neq_57_nn {h : Hp} {x y : Operand} {p : Option Addr} : rrun Try.prog (bop .neq 57 x y (.pointer none) (.pointer p)) h = some (.bool (!p.isNone)) := by kernel_rfl
@[simp] theorem fa_30_0 {h : Hp} {b o : Nat} : rrun Try.prog (Instr.fieldAt 30 (.pointer (some ⟨b, o, none⟩)) 0) h = some (.pointer (some ⟨b, o, none⟩)) := by kernel_rfl
@[simp] theorem fa_30_1 {h : Hp} {b o : Nat} : rrun Try.prog (Instr.fieldAt 30 (.pointer (some ⟨b, o, none⟩)) 1) h = some (.pointer (some ⟨b, o + 1, none⟩)) := by kernel_rfl
@[simp] theorem fa_32_0 {h : Hp} {b o : Nat} : rrun Try.prog (Instr.fieldAt 32 (.pointer (some ⟨b, o, none⟩)) 0) h = some (.pointer (some ⟨b, o, none⟩)) := by kernel_rfl
@[simp] theorem fa_32_1 {h : Hp} {b o : Nat} : rrun Try.prog (Instr.fieldAt 32 (.pointer (some ⟨b, o, none⟩)) 1) h = some (.pointer (some ⟨b, o + 1, none⟩)) := by kernel_rfl
@[simp] theorem fa_32_2 {h : Hp} {b o : Nat} : rrun Try.prog (Instr.fieldAt 32 (.pointer (some ⟨b, o, none⟩)) 2) h = some (.pointer (some ⟨b, o + 3, none⟩)) := by kernel_rfl
@[simp] theorem fa_32_3 {h : Hp} {b o : Nat} : rrun Try.prog (Instr.fieldAt 32 (.pointer (some ⟨b, o, none⟩)) 3) h = some (.pointer (some ⟨b, o + 4, none⟩)) := by kernel_rfl
@[simp] theorem fa_50_0 {h : Hp} {b o : Nat} : rrun Try.prog (Instr.fieldAt 50 (.pointer (some ⟨b, o, none⟩)) 0) h = some (.pointer (some ⟨b, o, none⟩)) := by kernel_rfl
@[simp] theorem fa_50_1 {h : Hp} {b o : Nat} : rrun Try.prog (Instr.fieldAt 50 (.pointer (some ⟨b, o, none⟩)) 1) h = some (.pointer (some ⟨b, o + 1, none⟩)) := by kernel_rfl
@[simp] theorem fa_56_0 {h : Hp} {b o : Nat} : rrun Try.prog (Instr.fieldAt 56 (.pointer (some ⟨b, o, none⟩)) 0) h = some (.pointer (some ⟨b, o, none⟩)) := by kernel_rfl
@[simp] theorem fa_56_1 {h : Hp} {b o : Nat} : rrun Try.prog (Instr.fieldAt 56 (.pointer (some ⟨b, o, none⟩)) 1) h = some (.pointer (some ⟨b, o + 1, none⟩)) := by kernel_rfl
@[simp] theorem fa_56_2 {h : Hp} {b o : Nat} : rrun Try.prog (Instr.fieldAt 56 (.pointer (some ⟨b, o, none⟩)) 2) h = some (.pointer (some ⟨b, o + 2, none⟩)) := by kernel_rfl
@[simp] theorem fa_61_0 {h : Hp} {b o : Nat} : rrun Try.prog (Instr.fieldAt 61 (.pointer (some ⟨b, o, none⟩)) 0) h = some (.pointer (some ⟨b, o, none⟩)) := by kernel_rfl
@[simp] theorem fa_61_1 {h : Hp} {b o : Nat} : rrun Try.prog (Instr.fieldAt 61 (.pointer (some ⟨b, o, none⟩)) 1) h = some (.pointer (some ⟨b, o + 2, none⟩)) := by kernel_rfl
@[simp] theorem fa_61_2 {h : Hp} {b o : Nat} : rrun Try.prog (Instr.fieldAt 61 (.pointer (some ⟨b, o, none⟩)) 2) h = some (.pointer (some ⟨b, o + 3, none⟩)) := by kernel_rfl
@[simp] theorem fa_68_0 {h : Hp} {b o : Nat} : rrun Try.prog (Instr.fieldAt 68 (.pointer (some ⟨b, o, none⟩)) 0) h = some (.pointer (some ⟨b, o, none⟩)) := by kernel_rfl
@[simp] theorem fa_68_1 {h : Hp} {b o : Nat} : rrun Try.prog (Instr.fieldAt 68 (.pointer (some ⟨b, o, none⟩)) 1) h = some (.pointer (some ⟨b, o + 2, none⟩)) := by kernel_rfl
theorem und_22 : Try.prog.underlying 22 = some (.slice 32) := by kernel_rfl
theorem size_32 : (Try.prog.info? 32).map (·.size) = some 5 := by kernel_rfl
@[simp] theorem ia_22 {h : Hp} {b o n c : Nat} {i : Int} (h0 : 0 ≤ i) (h1 : i < (n : Int)) : rrun Try.prog (Instr.indexAt 22 (.slice (some ⟨b, o, none⟩) n c) (.int .i64 i)) h = some (.pointer (some ⟨b, o + i.toNat * 5, none⟩)) := rr_indexAt_slice und_22 size_32 h0 h1
@[simp] theorem ia_37 {h : Hp} {b o n c : Nat} {i : Int} (h0 : 0 ≤ i) (h1 : i < (n : Int)) : rrun Try.prog (Instr.indexAt 37 (.slice (some ⟨b, o, none⟩) n c) (.int .i64 i)) h = some (.pointer (some ⟨b, o + i.toNat * 2, none⟩)) := rr_indexAt_slice und_37 size_30 h0 h1
@[simp] theorem ia_48 {h : Hp} {b o n c : Nat} {i : Int} (h0 : 0 ≤ i) (h1 : i < (n : Int)) : rrun Try.prog (Instr.indexAt 48 (.slice (some ⟨b, o, none⟩) n c) (.int .i64 i)) h = some (.pointer (some ⟨b, o + i.toNat * 3, none⟩)) := rr_indexAt_slice und_48 size_68 h0 h1
@[simp] theorem ia_54 {h : Hp} {b o n c : Nat} {i : Int} (h0 : 0 ≤ i) (h1 : i < (n : Int)) : rrun Try.prog (Instr.indexAt 54 (.slice (some ⟨b, o, none⟩) n c) (.int .i64 i)) h = some (.pointer (some ⟨b, o + i.toNat * 4, none⟩)) := rr_indexAt_slice und_54 size_61 h0 h1
theorem und_59 : Try.prog.underlying 59 = some (.array 2 3) := by kernel_rfl
theorem size_3 : (Try.prog.info? 3).map (·.size) = some 1 := by kernel_rfl
@[simp] theorem ia_59 {h : Hp} {b o : Nat} {i : Int} (h0 : 0 ≤ i) (h1 : i < 2) : rrun Try.prog (Instr.indexAt 59 (.pointer (some ⟨b, o, none⟩)) (.int .i64 i)) h = some (.pointer (some ⟨b, o + i.toNat * 1, none⟩)) := rr_indexAt_array und_59 size_3 h0 h1
@[simp] theorem ix_59 {h : Hp} {cs : Array Value} {i : Int} (h0 : 0 ≤ i) (h1 : i < 2) : rrun Try.prog (Instr.index 59 (.agg cs) (.int .i64 i)) h = cs[i.toNat]? := rr_index_array und_59 size_3 (by kernel_rfl) h0 h1
@[simp] theorem ld_23 {h : Hp} {a : Addr} : rrun Try.prog (Instr.loadAt 23 (.pointer (some a))) h = h.cell? a := rr_load_one (by kernel_rfl)
@[simp] theorem ld_3 {h : Hp} {a : Addr} : rrun Try.prog (Instr.loadAt 3 (.pointer (some a))) h = h.cell? a := rr_load_one (by kernel_rfl)
@[simp] theorem ld_30 {h : Hp} {b o : Nat} : rrun Try.prog (Instr.loadAt 30 (.pointer (some ⟨b, o, none⟩))) h = (ldN h b o 2).map fun l => .agg l.toArray := rr_load_agg (by kernel_rfl) (by kernel_rfl)
@[simp] theorem ld_4 {h : Hp} {a : Addr} : rrun Try.prog (Instr.loadAt 4 (.pointer (some a))) h = h.cell? a := rr_load_one (by kernel_rfl)
@[simp] theorem ld_48 {h : Hp} {a : Addr} : rrun Try.prog (Instr.loadAt 48 (.pointer (some a))) h = h.cell? a := rr_load_one (by kernel_rfl)
@[simp] theorem ld_54 {h : Hp} {a : Addr} : rrun Try.prog (Instr.loadAt 54 (.pointer (some a))) h = h.cell? a := rr_load_one (by kernel_rfl)
@[simp] theorem ld_59 {h : Hp} {b o : Nat} : rrun Try.prog (Instr.loadAt 59 (.pointer (some ⟨b, o, none⟩))) h = (ldN h b o 2).map fun l => .agg l.toArray := rr_load_agg (by kernel_rfl) (by kernel_rfl)
@[simp] theorem ld_61 {h : Hp} {b o : Nat} : rrun Try.prog (Instr.loadAt 61 (.pointer (some ⟨b, o, none⟩))) h = (ldN h b o 4).map fun l => .agg l.toArray := rr_load_agg (by kernel_rfl) (by kernel_rfl)
@[simp] theorem ld_68 {h : Hp} {b o : Nat} : rrun Try.prog (Instr.loadAt 68 (.pointer (some ⟨b, o, none⟩))) h = (ldN h b o 3).map fun l => .agg l.toArray := rr_load_agg (by kernel_rfl) (by kernel_rfl)
@[simp] theorem ln_22 {h : Hp} {a : Option Addr} {n c : Nat} : rrun Try.prog (Builtin.len_ #[22] 3 #[.slice a n c]) h = some (.int .i64 n) := by kernel_rfl
@[simp] theorem ln_37 {h : Hp} {a : Option Addr} {n c : Nat} : rrun Try.prog (Builtin.len_ #[37] 3 #[.slice a n c]) h = some (.int .i64 n) := by kernel_rfl
@[simp] theorem ln_48 {h : Hp} {a : Option Addr} {n c : Nat} : rrun Try.prog (Builtin.len_ #[48] 3 #[.slice a n c]) h = some (.int .i64 n) := by kernel_rfl
@[simp] theorem ln_54 {h : Hp} {a : Option Addr} {n c : Nat} : rrun Try.prog (Builtin.len_ #[54] 3 #[.slice a n c]) h = some (.int .i64 n) := by kernel_rfl
@[simp] theorem ms_54_1_1 {h : Hp} {k : Value → Hp → Prop} : arun Try.prog (Instr.makeSlice 54 (Go.Value.int Go.IntKind.i64 1) (Go.Value.int Go.IntKind.i64 1)) h k = nw h (.cells #[Value.int .i64 0, Value.int .i64 0, Value.int .i64 0, Value.bool false] 61) fun b h => k (.slice (some ⟨b, 0, none⟩) 1 1) h := by kernel_rfl
@[simp] theorem st_3 {h : Hp} {b o : Nat} {x : Int} {k : Unit → Hp → Prop} : arun Try.prog (Instr.storeAt 3 (.pointer (some ⟨b, o, none⟩)) (Value.int .i64 x)) h k = stN h b o [Value.int .i64 x] (k ()) := arun_store_eq size_3 rfl
@[simp] theorem st_30 {h : Hp} {b o : Nat} {x_0 : Int} {x_1 : Int} {k : Unit → Hp → Prop} : arun Try.prog (Instr.storeAt 30 (.pointer (some ⟨b, o, none⟩)) (Value.agg #[Value.int .u32 x_0, Value.int .i64 x_1])) h k = stN h b o [Value.int .u32 x_0, Value.int .i64 x_1] (k ()) := arun_store_eq size_30 rfl
theorem size_4 : (Try.prog.info? 4).map (·.size) = some 1 := by kernel_rfl
@[simp] theorem st_4 {h : Hp} {b o : Nat} {x : Bool} {k : Unit → Hp → Prop} : arun Try.prog (Instr.storeAt 4 (.pointer (some ⟨b, o, none⟩)) (Value.bool x)) h k = stN h b o [Value.bool x] (k ()) := arun_store_eq size_4 rfl
theorem size_48 : (Try.prog.info? 48).map (·.size) = some 1 := by kernel_rfl
@[simp] theorem st_48 {h : Hp} {b o : Nat} {xa : Option Addr} {xn xc : Nat} {k : Unit → Hp → Prop} : arun Try.prog (Instr.storeAt 48 (.pointer (some ⟨b, o, none⟩)) (Value.slice xa xn xc)) h k = stN h b o [Value.slice xa xn xc] (k ()) := arun_store_eq size_48 rfl
theorem size_54 : (Try.prog.info? 54).map (·.size) = some 1 := by kernel_rfl
@[simp] theorem st_54 {h : Hp} {b o : Nat} {xa : Option Addr} {xn xc : Nat} {k : Unit → Hp → Prop} : arun Try.prog (Instr.storeAt 54 (.pointer (some ⟨b, o, none⟩)) (Value.slice xa xn xc)) h k = stN h b o [Value.slice xa xn xc] (k ()) := arun_store_eq size_54 rfl
@[simp] theorem st_61 {h : Hp} {b o : Nat} {x_0_0 : Int} {x_0_1 : Int} {x_1 : Int} {x_2 : Bool} {k : Unit → Hp → Prop} : arun Try.prog (Instr.storeAt 61 (.pointer (some ⟨b, o, none⟩)) (Value.agg #[Value.int .i64 x_0_0, Value.int .i64 x_0_1, Value.int .i64 x_1, Value.bool x_2])) h k = stN h b o [Value.int .i64 x_0_0, Value.int .i64 x_0_1, Value.int .i64 x_1, Value.bool x_2] (k ()) := arun_store_eq size_61 rfl
end Go.Proofs.Yteadogmjojeleaa
