/- Printed by wip/kit/gen.py out of the translation: what operations of these types come to. -/
import Derived.Test.YtjcecdjbllpmcaaChecked
import Derived.Shelf.SlSortCmp.WholeK
import Derived.Shelf.Small.Bits
import Derived.Test.YtjcecdjbllpmcaaZ3

set_option linter.unusedSimpArgs false
set_option linter.unusedVariables false

namespace Go.Proofs.Ytjcecdjbllpmcaa
open Go

set_option maxRecDepth 100000

abbrev F_octroilaw12_JournalLast : Nat := 3
abbrev F_octroilaw12_JournalSyncs : Nat := 4
abbrev F_octroilaw12_JournalFull : Nat := 5
abbrev F_octroilaw12_JournalLasts : Nat := 6
abbrev F_octroilaw12_JournalDoes : Nat := 7
abbrev F_octroilaw12_JournalPacks : Nat := 8
abbrev F_octroilaw12_awake : Nat := 9
abbrev F_journal_New : Nat := 10
abbrev F_journal_Journal_Put : Nat := 11
abbrev F_journal_Journal_Get : Nat := 12
abbrev F_journal_Journal_Bytes : Nat := 13
abbrev F_journal_Journal_Sync : Nat := 14
abbrev F_journal_Journal_Crash : Nat := 15
abbrev F_journal_Journal_Len : Nat := 16
abbrev F_journal_Journal_Facts : Nat := 17
abbrev F_octroiref12_Same : Nat := 18
abbrev F_journal_Journal_Pack : Nat := 19
abbrev F_octroiref12_Journal_Put : Nat := 20
abbrev F_octroiref12_Journal_Sync : Nat := 21
abbrev F_octroiref12_Journal_Crash : Nat := 22
abbrev F_octroiref12_Journal_Pack : Nat := 23
abbrev F_octroiref12_Journal_Get : Nat := 24
abbrev F_octroiref12_Journal_Facts : Nat := 25
abbrev F_octroiref12_Journal_Bytes : Nat := 26
abbrev F_journal_put : Nat := 27
abbrev F_slices_Clone_byte_byte : Nat := 28
abbrev F_journal_get : Nat := 29
abbrev F_slices_SortedFunc_journal_name : Nat := 30
abbrev F_maps_Keys_map_journal_name_uint32_journal_name_uint32 : Nat := 31
abbrev F_journal_compare : Nat := 32
abbrev F_octroiref01_Put : Nat := 33
abbrev F_slices_Concat_byte_byte : Nat := 34
abbrev F_num_Put32 : Nat := 35
abbrev F_num_Get32 : Nat := 36
abbrev F_slices_Collect_journal_name : Nat := 37
abbrev F_slices_SortFunc_journal_name_journal_name : Nat := 38
abbrev F_maps_Keys_map_journal_name_uint32_journal_name_uint32_1 : Nat := 39
abbrev F_cmp_Or_int : Nat := 40
abbrev F_cmp_Compare_int : Nat := 41
abbrev F_cmp_Compare_uint32 : Nat := 42
abbrev F_slices_Grow_byte_byte : Nat := 43
abbrev F_num_put : Nat := 44
abbrev F_num_get : Nat := 45
abbrev F_slices_AppendSeq_journal_name_journal_name : Nat := 46
abbrev F_slices_pdqsortCmpFunc_journal_name : Nat := 47
abbrev F_math_bits_Len : Nat := 48
abbrev F_cmp_isNaN_int : Nat := 49
abbrev F_cmp_isNaN_uint32 : Nat := 50
abbrev F_slices_insertionSortCmpFunc_journal_name : Nat := 51
abbrev T_api_Fact : Nat := 25
abbrev T_api_Errno : Nat := 29
abbrev T_octroiref12_Journal : Nat := 45
abbrev T_octroilaw12_Op : Nat := 47
abbrev T_journal_Journal : Nat := 52
abbrev T_journal_name : Nat := 55
@[simp] theorem al_25 {h : Hp} {k : Value → Hp → Prop} : arun Try.prog (Instr.alloc 25 true (.tuple #[])) h k = nw h (.cells #[Value.int .i64 0, Value.int .u32 0, Value.int .u32 0] 25) fun b h => k (.pointer (some ⟨b, 0, none⟩)) h := arun_alloc (v := Value.agg #[Value.int .i64 0, Value.int .u32 0, Value.int .u32 0]) (by kernel_rfl)
@[simp] theorem al_55 {h : Hp} {k : Value → Hp → Prop} : arun Try.prog (Instr.alloc 55 true (.tuple #[])) h k = nw h (.cells #[Value.int .i64 0, Value.int .u32 0] 55) fun b h => k (.pointer (some ⟨b, 0, none⟩)) h := arun_alloc (v := Value.agg #[Value.int .i64 0, Value.int .u32 0]) (by kernel_rfl)
theorem und_22 : Try.prog.underlying 22 = some (.slice 25) := by kernel_rfl
theorem size_25 : (Try.prog.info? 25).map (·.size) = some 3 := by kernel_rfl
theorem bytes_25 : (Try.prog.info? 25).map (·.bytes) = some 16 := by kernel_rfl
theorem zero_25 : (Try.prog.info? 25).bind (·.zero) = some (Value.agg #[Value.int .i64 0, Value.int .u32 0, Value.int .u32 0]) := by kernel_rfl
theorem push_api_Fact {α : Type} {R b2 o2 c2 : Nat} {enc : α → List Value} {v : Value} {xs : List α} {y : α} {h : Hp} {k : Value → Hp → Prop} (S : SlAt h 25 3 enc v xs) (hy : ldN h b2 o2 3 = some (enc y)) (hyl : (enc y).length = 3) (hone : ∀ u ∈ enc y, oneCell u = true) (hbd : (2 * xs.length + 770) * 16 ≤ 2 ^ 48) (K : ∀ b c cap, (some b = blkOf v ∨ h b = none) → xs.length + 1 ≤ cap → cap * 3 ≤ c.size → Enc c 0 3 enc (xs ++ [y]) → k (.slice (some ⟨b, 0, none⟩) (xs.length + 1) cap) (h.upd b (.cells c 25 (0, 0)))) :
    arun Try.prog (Builtin.append_ #[22, 22] R #[v, .slice (some ⟨b2, o2, none⟩) 1 c2]) h k := arun_push und_22 und_22 size_25 bytes_25 zero_25 (by decide) rfl S hy hyl hone hbd K
theorem cat_api_Fact {α : Type} {R : Nat} {enc : α → List Value} {v w : Value} {xs ys : List α} {h : Hp} {k : Value → Hp → Prop} (S : SlAt h 25 3 enc v xs) (R0 : Src h 3 enc w ys) (hbd : (2 * (xs.length + ys.length) + 770) * 16 ≤ 2 ^ 48) (K : ∀ v' h', SlAt h' 25 3 enc v' (xs ++ ys) → Grew h h' v v' → k v' h') :
    arun Try.prog (Builtin.append_ #[22, 22] R #[v, w]) h k := arun_cat und_22 und_22 size_25 bytes_25 zero_25 (by decide) rfl S R0 hbd K
theorem snoc_api_Fact {α : Type} {R E3 : Nat} {enc : α → List Value} {v : Value} {xs : List α} {y : α} {h : Hp} {k : Nat → Value → Hp → Prop} (S : SlAt h 25 3 enc v xs) (hl : (enc y).length = 3) (ho : ∀ u ∈ enc y, oneCell u = true) (hbd : (2 * (xs.length + 1) + 770) * 16 ≤ 2 ^ 48) (K : ∀ b v' h', SlAt h' 25 3 enc v' (xs ++ [y]) → Grew h h' v v' → h b = none → k b v' h') :
    ∀ b, h b = none → arun Try.prog (Builtin.append_ #[22, 22] R #[v, .slice (some ⟨b, 0, none⟩) 1 1]) (h.upd b (.cells (enc y).toArray E3 (0, 0))) (k b) := arun_snoc und_22 und_22 size_25 bytes_25 zero_25 (by decide) rfl S hl ho hbd K
theorem und_34 : Try.prog.underlying 34 = some (.slice 5) := by kernel_rfl
theorem size_5 : (Try.prog.info? 5).map (·.size) = some 1 := by kernel_rfl
theorem bytes_5 : (Try.prog.info? 5).map (·.bytes) = some 1 := by kernel_rfl
theorem zero_5 : (Try.prog.info? 5).bind (·.zero) = some (Value.int .u8 0) := by kernel_rfl
theorem push_uint8 {α : Type} {R b2 o2 c2 : Nat} {enc : α → List Value} {v : Value} {xs : List α} {y : α} {h : Hp} {k : Value → Hp → Prop} (S : SlAt h 5 1 enc v xs) (hy : ldN h b2 o2 1 = some (enc y)) (hyl : (enc y).length = 1) (hone : ∀ u ∈ enc y, oneCell u = true) (hbd : (2 * xs.length + 770) * 1 ≤ 2 ^ 48) (K : ∀ b c cap, (some b = blkOf v ∨ h b = none) → xs.length + 1 ≤ cap → cap * 1 ≤ c.size → Enc c 0 1 enc (xs ++ [y]) → k (.slice (some ⟨b, 0, none⟩) (xs.length + 1) cap) (h.upd b (.cells c 5 (0, 0)))) :
    arun Try.prog (Builtin.append_ #[34, 34] R #[v, .slice (some ⟨b2, o2, none⟩) 1 c2]) h k := arun_push und_34 und_34 size_5 bytes_5 zero_5 (by decide) rfl S hy hyl hone hbd K
theorem cat_uint8 {α : Type} {R : Nat} {enc : α → List Value} {v w : Value} {xs ys : List α} {h : Hp} {k : Value → Hp → Prop} (S : SlAt h 5 1 enc v xs) (R0 : Src h 1 enc w ys) (hbd : (2 * (xs.length + ys.length) + 770) * 1 ≤ 2 ^ 48) (K : ∀ v' h', SlAt h' 5 1 enc v' (xs ++ ys) → Grew h h' v v' → k v' h') :
    arun Try.prog (Builtin.append_ #[34, 34] R #[v, w]) h k := arun_cat und_34 und_34 size_5 bytes_5 zero_5 (by decide) rfl S R0 hbd K
theorem snoc_uint8 {α : Type} {R E3 : Nat} {enc : α → List Value} {v : Value} {xs : List α} {y : α} {h : Hp} {k : Nat → Value → Hp → Prop} (S : SlAt h 5 1 enc v xs) (hl : (enc y).length = 1) (ho : ∀ u ∈ enc y, oneCell u = true) (hbd : (2 * (xs.length + 1) + 770) * 1 ≤ 2 ^ 48) (K : ∀ b v' h', SlAt h' 5 1 enc v' (xs ++ [y]) → Grew h h' v v' → h b = none → k b v' h') :
    ∀ b, h b = none → arun Try.prog (Builtin.append_ #[34, 34] R #[v, .slice (some ⟨b, 0, none⟩) 1 1]) (h.upd b (.cells (enc y).toArray E3 (0, 0))) (k b) := arun_snoc und_34 und_34 size_5 bytes_5 zero_5 (by decide) rfl S hl ho hbd K
theorem und_58 : Try.prog.underlying 58 = some (.slice 55) := by kernel_rfl
theorem size_55 : (Try.prog.info? 55).map (·.size) = some 2 := by kernel_rfl
theorem bytes_55 : (Try.prog.info? 55).map (·.bytes) = some 16 := by kernel_rfl
theorem zero_55 : (Try.prog.info? 55).bind (·.zero) = some (Value.agg #[Value.int .i64 0, Value.int .u32 0]) := by kernel_rfl
theorem push_journal_name {α : Type} {R b2 o2 c2 : Nat} {enc : α → List Value} {v : Value} {xs : List α} {y : α} {h : Hp} {k : Value → Hp → Prop} (S : SlAt h 55 2 enc v xs) (hy : ldN h b2 o2 2 = some (enc y)) (hyl : (enc y).length = 2) (hone : ∀ u ∈ enc y, oneCell u = true) (hbd : (2 * xs.length + 770) * 16 ≤ 2 ^ 48) (K : ∀ b c cap, (some b = blkOf v ∨ h b = none) → xs.length + 1 ≤ cap → cap * 2 ≤ c.size → Enc c 0 2 enc (xs ++ [y]) → k (.slice (some ⟨b, 0, none⟩) (xs.length + 1) cap) (h.upd b (.cells c 55 (0, 0)))) :
    arun Try.prog (Builtin.append_ #[58, 58] R #[v, .slice (some ⟨b2, o2, none⟩) 1 c2]) h k := arun_push und_58 und_58 size_55 bytes_55 zero_55 (by decide) rfl S hy hyl hone hbd K
theorem cat_journal_name {α : Type} {R : Nat} {enc : α → List Value} {v w : Value} {xs ys : List α} {h : Hp} {k : Value → Hp → Prop} (S : SlAt h 55 2 enc v xs) (R0 : Src h 2 enc w ys) (hbd : (2 * (xs.length + ys.length) + 770) * 16 ≤ 2 ^ 48) (K : ∀ v' h', SlAt h' 55 2 enc v' (xs ++ ys) → Grew h h' v v' → k v' h') :
    arun Try.prog (Builtin.append_ #[58, 58] R #[v, w]) h k := arun_cat und_58 und_58 size_55 bytes_55 zero_55 (by decide) rfl S R0 hbd K
theorem snoc_journal_name {α : Type} {R E3 : Nat} {enc : α → List Value} {v : Value} {xs : List α} {y : α} {h : Hp} {k : Nat → Value → Hp → Prop} (S : SlAt h 55 2 enc v xs) (hl : (enc y).length = 2) (ho : ∀ u ∈ enc y, oneCell u = true) (hbd : (2 * (xs.length + 1) + 770) * 16 ≤ 2 ^ 48) (K : ∀ b v' h', SlAt h' 55 2 enc v' (xs ++ [y]) → Grew h h' v v' → h b = none → k b v' h') :
    ∀ b, h b = none → arun Try.prog (Builtin.append_ #[58, 58] R #[v, .slice (some ⟨b, 0, none⟩) 1 1]) (h.upd b (.cells (enc y).toArray E3 (0, 0))) (k b) := arun_snoc und_58 und_58 size_55 bytes_55 zero_55 (by decide) rfl S hl ho hbd K
@[simp] theorem bd_25_0_1_2 {h : Hp} {x0 : Int} {x1 : Int} {x2 : Int} : rrun Try.prog (Instr.build 25 #[(0, Value.int .i64 x0), (1, Value.int .u32 x1), (2, Value.int .u32 x2)]) h = some (.agg #[Value.int .i64 x0, Value.int .u32 x1, Value.int .u32 x2]) := by kernel_rfl
@[simp] theorem bd_25_0 {h : Hp} {x0 : Int} : rrun Try.prog (Instr.build 25 #[(0, Value.int .i64 x0)]) h = some (.agg #[Value.int .i64 x0, Value.int .u32 0, Value.int .u32 0]) := by kernel_rfl
@[simp] theorem bd_45_0 {h : Hp} {x0 : Int} : rrun Try.prog (Instr.build 45 #[(0, Value.int .i64 x0)]) h = some (.agg #[Value.int .i64 x0, Value.slice none 0 0, Value.int .i64 0]) := by kernel_rfl
@[simp] theorem bd_52_0_3 {h : Hp} {x0 : Int} {x3 : Option Nat} : rrun Try.prog (Instr.build 52 #[(0, Value.int .i64 x0), (3, Value.map x3)]) h = some (.agg #[Value.int .i64 x0, Value.int .i64 0, Value.slice none 0 0, Value.map x3]) := by kernel_rfl
@[simp] theorem bd_55_0_1 {h : Hp} {x0 : Int} {x1 : Int} : rrun Try.prog (Instr.build 55 #[(0, Value.int .i64 x0), (1, Value.int .u32 x1)]) h = some (.agg #[Value.int .i64 x0, Value.int .u32 x1]) := by kernel_rfl
@[simp] theorem bs_22_1_0 {h : Hp} {x0_0 : Int} {x0_1 : Int} {x0_2 : Int} {k : Value → Hp → Prop} : arun Try.prog (Instr.buildSlice 22 1 #[(0, Value.agg #[Value.int .i64 x0_0, Value.int .u32 x0_1, Value.int .u32 x0_2])]) h k = nw h (.cells #[Value.int .i64 x0_0, Value.int .u32 x0_1, Value.int .u32 x0_2] 25) fun b h => k (.slice (some ⟨b, 0, none⟩) 1 1) h := by kernel_rfl
@[simp] theorem bs_34_0_ {h : Hp}  {k : Value → Hp → Prop} : arun Try.prog (Instr.buildSlice 34 0 #[]) h k = nw h (.cells #[] 5) fun b h => k (.slice (some ⟨b, 0, none⟩) 0 0) h := by kernel_rfl
@[simp] theorem bs_34_4_0_1_2_3 {h : Hp} {x0 : Int} {x1 : Int} {x2 : Int} {x3 : Int} {k : Value → Hp → Prop} : arun Try.prog (Instr.buildSlice 34 4 #[(0, Value.int .u8 x0), (1, Value.int .u8 x1), (2, Value.int .u8 x2), (3, Value.int .u8 x3)]) h k = nw h (.cells #[Value.int .u8 x0, Value.int .u8 x1, Value.int .u8 x2, Value.int .u8 x3] 5) fun b h => k (.slice (some ⟨b, 0, none⟩) 4 4) h := by kernel_rfl
@[simp] theorem bs_58_1_0 {h : Hp} {x0_0 : Int} {x0_1 : Int} {k : Value → Hp → Prop} : arun Try.prog (Instr.buildSlice 58 1 #[(0, Value.agg #[Value.int .i64 x0_0, Value.int .u32 x0_1])]) h k = nw h (.cells #[Value.int .i64 x0_0, Value.int .u32 x0_1] 55) fun b h => k (.slice (some ⟨b, 0, none⟩) 1 1) h := by kernel_rfl
@[simp] theorem bs_74_3_0_1_2 {h : Hp} {x0a : Option Addr} {x0n x0c : Nat} {x1a : Option Addr} {x1n x1c : Nat} {x2a : Option Addr} {x2n x2c : Nat} {k : Value → Hp → Prop} : arun Try.prog (Instr.buildSlice 74 3 #[(0, Value.slice x0a x0n x0c), (1, Value.slice x1a x1n x1c), (2, Value.slice x2a x2n x2c)]) h k = nw h (.cells #[Value.slice x0a x0n x0c, Value.slice x1a x1n x1c, Value.slice x2a x2n x2c] 34) fun b h => k (.slice (some ⟨b, 0, none⟩) 3 3) h := by kernel_rfl
@[simp] theorem bs_81_2_0_1 {h : Hp} {x0 : Int} {x1 : Int} {k : Value → Hp → Prop} : arun Try.prog (Instr.buildSlice 81 2 #[(0, Value.int .i64 x0), (1, Value.int .i64 x1)]) h k = nw h (.cells #[Value.int .i64 x0, Value.int .i64 x1] 3) fun b h => k (.slice (some ⟨b, 0, none⟩) 2 2) h := by kernel_rfl
@[simp] theorem cv_23_5 {h : Hp} {x : Int} : rrun Try.prog (convert 23 5 (.int .u32 x)) h = some (.int .u8 (IntKind.u8.wrap x)) := by kernel_rfl
@[simp] theorem cv_3_5 {h : Hp} {x : Int} : rrun Try.prog (convert 3 5 (.int .i64 x)) h = some (.int .u8 (IntKind.u8.wrap x)) := by kernel_rfl
@[simp] theorem cv_3_80 {h : Hp} {x : Int} : rrun Try.prog (convert 3 80 (.int .i64 x)) h = some (.int .u64 (IntKind.u64.wrap x)) := by kernel_rfl
@[simp] theorem cv_5_23 {h : Hp} {x : Int} : rrun Try.prog (convert 5 23 (.int .u8 x)) h = some (.int .u32 (IntKind.u32.wrap x)) := by kernel_rfl
@[simp] theorem cv_5_3 {h : Hp} {x : Int} : rrun Try.prog (convert 5 3 (.int .u8 x)) h = some (.int .i64 (IntKind.i64.wrap x)) := by kernel_rfl
@[simp] theorem cv_80_23 {h : Hp} {x : Int} : rrun Try.prog (convert 80 23 (.int .u64 x)) h = some (.int .u32 (IntKind.u32.wrap x)) := by kernel_rfl
theorem eql_25_raw {h : Hp} {x y : Operand} {p_0 : Int} {p_1 : Int} {p_2 : Int} {q_0 : Int} {q_1 : Int} {q_2 : Int} : rrun Try.prog (bop .eql 25 x y (Value.agg #[Value.int .i64 p_0, Value.int .u32 p_1, Value.int .u32 p_2]) (Value.agg #[Value.int .i64 q_0, Value.int .u32 q_1, Value.int .u32 q_2])) h = some (.bool ((decide (p_0 = q_0) && (decide (p_1 = q_1) && (decide (p_2 = q_2) && true))))) :=
  rr_eql_struct Try.underlying25 (by kernel_rfl) (by kernel_rfl) (rr_eqf_cons (a := Value.int .i64 p_0) (b := Value.int .i64 q_0) (by rfl) (by kernel_rfl) (by kernel_rfl) (by kernel_rfl) (rr_eqf_cons (a := Value.int .u32 p_1) (b := Value.int .u32 q_1) (by rfl) (by kernel_rfl) (by kernel_rfl) (by kernel_rfl) (rr_eqf_cons (a := Value.int .u32 p_2) (b := Value.int .u32 q_2) (by rfl) (by kernel_rfl) (by kernel_rfl) (by kernel_rfl) rr_eqf_nil)))
@[simp] theorem eql_25 {h : Hp} {x y : Operand} {p_0 : Int} {p_1 : Int} {p_2 : Int} {q_0 : Int} {q_1 : Int} {q_2 : Int} : rrun Try.prog (bop .eql 25 x y (Value.agg #[Value.int .i64 p_0, Value.int .u32 p_1, Value.int .u32 p_2]) (Value.agg #[Value.int .i64 q_0, Value.int .u32 q_1, Value.int .u32 q_2])) h = some (.bool ((decide (p_0 = q_0) && (decide (p_1 = q_1) && (decide (p_2 = q_2)))))) := by
  rw [eql_25_raw]; simp only [Bool.and_true]
@[simp] theorem eql_27_sn {h : Hp} {x y : Operand} {a : Addr} : rrun Try.prog (bop .eql 27 x y (.pointer (some a)) (.pointer none)) h = some (.bool false) := by kernel_rfl
@[simp] theorem eql_27_nn {h : Hp} {x y : Operand} {p : Option Addr} : rrun Try.prog (bop .eql 27 x y (.pointer none) (.pointer p)) h = some (.bool (p.isNone)) := by kernel_rfl
@[simp] theorem eql_34_sn {h : Hp} {x y : Operand} {a : Addr} {n c n' c' : Nat} : rrun Try.prog (bop .eql 34 x y (.slice (some a) n c) (.slice none n' c')) h = some (.bool false) := by kernel_rfl
@[simp] theorem eql_34_nn {h : Hp} {x y : Operand} {p : Option Addr} {n c n' c' : Nat} : rrun Try.prog (bop .eql 34 x y (.slice none n' c') (.slice p n c)) h = some (.bool (p.isNone)) := by kernel_rfl
@[simp] theorem eql_4 {h : Hp} {x y : Operand} {a b : Bool} : rrun Try.prog (bop .eql 4 x y (.bool a) (.bool b)) h = some (.bool (decide (a = b))) := by kernel_rfl
theorem neq_25_raw {h : Hp} {x y : Operand} {p_0 : Int} {p_1 : Int} {p_2 : Int} {q_0 : Int} {q_1 : Int} {q_2 : Int} : rrun Try.prog (bop .neq 25 x y (Value.agg #[Value.int .i64 p_0, Value.int .u32 p_1, Value.int .u32 p_2]) (Value.agg #[Value.int .i64 q_0, Value.int .u32 q_1, Value.int .u32 q_2])) h = some (.bool (!(decide (p_0 = q_0) && (decide (p_1 = q_1) && (decide (p_2 = q_2) && true))))) :=
  rr_neq_struct Try.underlying25 (by kernel_rfl) (by kernel_rfl) (rr_eqf_cons (a := Value.int .i64 p_0) (b := Value.int .i64 q_0) (by rfl) (by kernel_rfl) (by kernel_rfl) (by kernel_rfl) (rr_eqf_cons (a := Value.int .u32 p_1) (b := Value.int .u32 q_1) (by rfl) (by kernel_rfl) (by kernel_rfl) (by kernel_rfl) (rr_eqf_cons (a := Value.int .u32 p_2) (b := Value.int .u32 q_2) (by rfl) (by kernel_rfl) (by kernel_rfl) (by kernel_rfl) rr_eqf_nil)))
@[simp] theorem neq_25 {h : Hp} {x y : Operand} {p_0 : Int} {p_1 : Int} {p_2 : Int} {q_0 : Int} {q_1 : Int} {q_2 : Int} : rrun Try.prog (bop .neq 25 x y (Value.agg #[Value.int .i64 p_0, Value.int .u32 p_1, Value.int .u32 p_2]) (Value.agg #[Value.int .i64 q_0, Value.int .u32 q_1, Value.int .u32 q_2])) h = some (.bool (!(decide (p_0 = q_0) && (decide (p_1 = q_1) && (decide (p_2 = q_2)))))) := by
  rw [neq_25_raw]; simp only [Bool.and_true]
@[simp] theorem neq_27_sn {h : Hp} {x y : Operand} {a : Addr} : rrun Try.prog (bop .neq 27 x y (.pointer (some a)) (.pointer none)) h = some (.bool true) := by kernel_rfl
@[simp] theorem neq_27_nn {h : Hp} {x y : Operand} {p : Option Addr} : rrun Try.prog (bop .neq 27 x y (.pointer none) (.pointer p)) h = some (.bool (!p.isNone)) := by kernel_rfl
@[simp] theorem neq_4 {h : Hp} {x y : Operand} {a b : Bool} : rrun Try.prog (bop .neq 4 x y (.bool a) (.bool b)) h = some (.bool (!decide (a = b))) := by kernel_rfl
@[simp] theorem fa_25_0 {h : Hp} {b o : Nat} : rrun Try.prog (Instr.fieldAt 25 (.pointer (some ⟨b, o, none⟩)) 0) h = some (.pointer (some ⟨b, o, none⟩)) := by kernel_rfl
@[simp] theorem fa_25_1 {h : Hp} {b o : Nat} : rrun Try.prog (Instr.fieldAt 25 (.pointer (some ⟨b, o, none⟩)) 1) h = some (.pointer (some ⟨b, o + 1, none⟩)) := by kernel_rfl
@[simp] theorem fa_25_2 {h : Hp} {b o : Nat} : rrun Try.prog (Instr.fieldAt 25 (.pointer (some ⟨b, o, none⟩)) 2) h = some (.pointer (some ⟨b, o + 2, none⟩)) := by kernel_rfl
@[simp] theorem fa_45_0 {h : Hp} {b o : Nat} : rrun Try.prog (Instr.fieldAt 45 (.pointer (some ⟨b, o, none⟩)) 0) h = some (.pointer (some ⟨b, o, none⟩)) := by kernel_rfl
@[simp] theorem fa_45_1 {h : Hp} {b o : Nat} : rrun Try.prog (Instr.fieldAt 45 (.pointer (some ⟨b, o, none⟩)) 1) h = some (.pointer (some ⟨b, o + 1, none⟩)) := by kernel_rfl
@[simp] theorem fa_45_2 {h : Hp} {b o : Nat} : rrun Try.prog (Instr.fieldAt 45 (.pointer (some ⟨b, o, none⟩)) 2) h = some (.pointer (some ⟨b, o + 2, none⟩)) := by kernel_rfl
@[simp] theorem fa_47_0 {h : Hp} {b o : Nat} : rrun Try.prog (Instr.fieldAt 47 (.pointer (some ⟨b, o, none⟩)) 0) h = some (.pointer (some ⟨b, o, none⟩)) := by kernel_rfl
@[simp] theorem fa_47_1 {h : Hp} {b o : Nat} : rrun Try.prog (Instr.fieldAt 47 (.pointer (some ⟨b, o, none⟩)) 1) h = some (.pointer (some ⟨b, o + 1, none⟩)) := by kernel_rfl
@[simp] theorem fa_47_2 {h : Hp} {b o : Nat} : rrun Try.prog (Instr.fieldAt 47 (.pointer (some ⟨b, o, none⟩)) 2) h = some (.pointer (some ⟨b, o + 2, none⟩)) := by kernel_rfl
@[simp] theorem fa_52_0 {h : Hp} {b o : Nat} : rrun Try.prog (Instr.fieldAt 52 (.pointer (some ⟨b, o, none⟩)) 0) h = some (.pointer (some ⟨b, o, none⟩)) := by kernel_rfl
@[simp] theorem fa_52_1 {h : Hp} {b o : Nat} : rrun Try.prog (Instr.fieldAt 52 (.pointer (some ⟨b, o, none⟩)) 1) h = some (.pointer (some ⟨b, o + 1, none⟩)) := by kernel_rfl
@[simp] theorem fa_52_2 {h : Hp} {b o : Nat} : rrun Try.prog (Instr.fieldAt 52 (.pointer (some ⟨b, o, none⟩)) 2) h = some (.pointer (some ⟨b, o + 2, none⟩)) := by kernel_rfl
@[simp] theorem fa_52_3 {h : Hp} {b o : Nat} : rrun Try.prog (Instr.fieldAt 52 (.pointer (some ⟨b, o, none⟩)) 3) h = some (.pointer (some ⟨b, o + 3, none⟩)) := by kernel_rfl
@[simp] theorem fa_55_0 {h : Hp} {b o : Nat} : rrun Try.prog (Instr.fieldAt 55 (.pointer (some ⟨b, o, none⟩)) 0) h = some (.pointer (some ⟨b, o, none⟩)) := by kernel_rfl
@[simp] theorem fa_55_1 {h : Hp} {b o : Nat} : rrun Try.prog (Instr.fieldAt 55 (.pointer (some ⟨b, o, none⟩)) 1) h = some (.pointer (some ⟨b, o + 1, none⟩)) := by kernel_rfl
@[simp] theorem ia_22 {h : Hp} {b o n c : Nat} {i : Int} (h0 : 0 ≤ i) (h1 : i < (n : Int)) : rrun Try.prog (Instr.indexAt 22 (.slice (some ⟨b, o, none⟩) n c) (.int .i64 i)) h = some (.pointer (some ⟨b, o + i.toNat * 3, none⟩)) := rr_indexAt_slice und_22 size_25 h0 h1
@[simp] theorem ia_34 {h : Hp} {b o n c : Nat} {i : Int} (h0 : 0 ≤ i) (h1 : i < (n : Int)) : rrun Try.prog (Instr.indexAt 34 (.slice (some ⟨b, o, none⟩) n c) (.int .i64 i)) h = some (.pointer (some ⟨b, o + i.toNat * 1, none⟩)) := rr_indexAt_slice und_34 size_5 h0 h1
theorem und_42 : Try.prog.underlying 42 = some (.slice 47) := by kernel_rfl
theorem size_47 : (Try.prog.info? 47).map (·.size) = some 5 := by kernel_rfl
@[simp] theorem ia_42 {h : Hp} {b o n c : Nat} {i : Int} (h0 : 0 ≤ i) (h1 : i < (n : Int)) : rrun Try.prog (Instr.indexAt 42 (.slice (some ⟨b, o, none⟩) n c) (.int .i64 i)) h = some (.pointer (some ⟨b, o + i.toNat * 5, none⟩)) := rr_indexAt_slice und_42 size_47 h0 h1
@[simp] theorem ia_58 {h : Hp} {b o n c : Nat} {i : Int} (h0 : 0 ≤ i) (h1 : i < (n : Int)) : rrun Try.prog (Instr.indexAt 58 (.slice (some ⟨b, o, none⟩) n c) (.int .i64 i)) h = some (.pointer (some ⟨b, o + i.toNat * 2, none⟩)) := rr_indexAt_slice und_58 size_55 h0 h1
theorem und_74 : Try.prog.underlying 74 = some (.slice 34) := by kernel_rfl
theorem size_34 : (Try.prog.info? 34).map (·.size) = some 1 := by kernel_rfl
@[simp] theorem ia_74 {h : Hp} {b o n c : Nat} {i : Int} (h0 : 0 ≤ i) (h1 : i < (n : Int)) : rrun Try.prog (Instr.indexAt 74 (.slice (some ⟨b, o, none⟩) n c) (.int .i64 i)) h = some (.pointer (some ⟨b, o + i.toNat * 1, none⟩)) := rr_indexAt_slice und_74 size_34 h0 h1
theorem und_81 : Try.prog.underlying 81 = some (.slice 3) := by kernel_rfl
theorem size_3 : (Try.prog.info? 3).map (·.size) = some 1 := by kernel_rfl
@[simp] theorem ia_81 {h : Hp} {b o n c : Nat} {i : Int} (h0 : 0 ≤ i) (h1 : i < (n : Int)) : rrun Try.prog (Instr.indexAt 81 (.slice (some ⟨b, o, none⟩) n c) (.int .i64 i)) h = some (.pointer (some ⟨b, o + i.toNat * 1, none⟩)) := rr_indexAt_slice und_81 size_3 h0 h1
@[simp] theorem ld_22 {h : Hp} {a : Addr} : rrun Try.prog (Instr.loadAt 22 (.pointer (some a))) h = h.cell? a := rr_load_one (by kernel_rfl)
@[simp] theorem ld_23 {h : Hp} {a : Addr} : rrun Try.prog (Instr.loadAt 23 (.pointer (some a))) h = h.cell? a := rr_load_one (by kernel_rfl)
@[simp] theorem ld_25 {h : Hp} {b o : Nat} : rrun Try.prog (Instr.loadAt 25 (.pointer (some ⟨b, o, none⟩))) h = (ldN h b o 3).map fun l => .agg l.toArray := rr_load_agg (by kernel_rfl) (by kernel_rfl)
@[simp] theorem ld_3 {h : Hp} {a : Addr} : rrun Try.prog (Instr.loadAt 3 (.pointer (some a))) h = h.cell? a := rr_load_one (by kernel_rfl)
@[simp] theorem ld_34 {h : Hp} {a : Addr} : rrun Try.prog (Instr.loadAt 34 (.pointer (some a))) h = h.cell? a := rr_load_one (by kernel_rfl)
@[simp] theorem ld_5 {h : Hp} {a : Addr} : rrun Try.prog (Instr.loadAt 5 (.pointer (some a))) h = h.cell? a := rr_load_one (by kernel_rfl)
@[simp] theorem ld_50 {h : Hp} {a : Addr} : rrun Try.prog (Instr.loadAt 50 (.pointer (some a))) h = h.cell? a := rr_load_one (by kernel_rfl)
@[simp] theorem ld_55 {h : Hp} {b o : Nat} : rrun Try.prog (Instr.loadAt 55 (.pointer (some ⟨b, o, none⟩))) h = (ldN h b o 2).map fun l => .agg l.toArray := rr_load_agg (by kernel_rfl) (by kernel_rfl)
@[simp] theorem ld_58 {h : Hp} {a : Addr} : rrun Try.prog (Instr.loadAt 58 (.pointer (some a))) h = h.cell? a := rr_load_one (by kernel_rfl)
@[simp] theorem ln_22 {h : Hp} {a : Option Addr} {n c : Nat} : rrun Try.prog (Builtin.len_ #[22] 3 #[.slice a n c]) h = some (.int .i64 n) := by kernel_rfl
@[simp] theorem ln_34 {h : Hp} {a : Option Addr} {n c : Nat} : rrun Try.prog (Builtin.len_ #[34] 3 #[.slice a n c]) h = some (.int .i64 n) := by kernel_rfl
@[simp] theorem ln_42 {h : Hp} {a : Option Addr} {n c : Nat} : rrun Try.prog (Builtin.len_ #[42] 3 #[.slice a n c]) h = some (.int .i64 n) := by kernel_rfl
@[simp] theorem ln_58 {h : Hp} {a : Option Addr} {n c : Nat} : rrun Try.prog (Builtin.len_ #[58] 3 #[.slice a n c]) h = some (.int .i64 n) := by kernel_rfl
@[simp] theorem ln_74 {h : Hp} {a : Option Addr} {n c : Nat} : rrun Try.prog (Builtin.len_ #[74] 3 #[.slice a n c]) h = some (.int .i64 n) := by kernel_rfl
@[simp] theorem ln_81 {h : Hp} {a : Option Addr} {n c : Nat} : rrun Try.prog (Builtin.len_ #[81] 3 #[.slice a n c]) h = some (.int .i64 n) := by kernel_rfl
@[simp] theorem mi_9 {h : Hp} {x : Value} : rrun Try.prog (Instr.makeInterface 9 x) h = some (.iface 9 x) := by kernel_rfl
theorem ck_50 {h : Hp} {e : Bool} {p_0 : Int} {p_1 : Int} : rrun Try.prog (Instr.checkKey e 10000 55 (Value.agg #[Value.int .i64 p_0, Value.int .u32 p_1])) h = some () := by kernel_rfl
theorem sb_50 {p_0 : Int} {p_1 : Int} : Instr.sameBits 10000 (Value.agg #[Value.int .i64 p_0, Value.int .u32 p_1]) (Value.agg #[Value.int .i64 p_0, Value.int .u32 p_1]) = true := by simp [Instr.sameBits]
theorem keq_50 {h : Hp} {p_0 : Int} {p_1 : Int} {q_0 : Int} {q_1 : Int} : rrun Try.prog (Op.equal 55 (Value.agg #[Value.int .i64 p_0, Value.int .u32 p_1]) (Value.agg #[Value.int .i64 q_0, Value.int .u32 q_1])) h = some (decide (p_0 = q_0) && (decide (p_1 = q_1) && true)) := by
  rw [show Op.equal 55 (Value.agg #[Value.int .i64 p_0, Value.int .u32 p_1]) (Value.agg #[Value.int .i64 q_0, Value.int .u32 q_1]) = Op.equalIn (9999 + 1) 55 (Value.agg #[Value.int .i64 p_0, Value.int .u32 p_1]) (Value.agg #[Value.int .i64 q_0, Value.int .u32 q_1]) from rfl, rr_equalIn_struct Try.underlying55 (by kernel_rfl)]
  exact (rr_eqf_cons (a := Value.int .i64 p_0) (b := Value.int .i64 q_0) (by rfl) (by kernel_rfl) (by kernel_rfl) (by kernel_rfl) (rr_eqf_cons (a := Value.int .u32 p_1) (b := Value.int .u32 q_1) (by rfl) (by kernel_rfl) (by kernel_rfl) (by kernel_rfl) rr_eqf_nil))
theorem size_22 : (Try.prog.info? 22).map (·.size) = some 1 := by kernel_rfl
@[simp] theorem st_22 {h : Hp} {b o : Nat} {xa : Option Addr} {xn xc : Nat} {k : Unit → Hp → Prop} : arun Try.prog (Instr.storeAt 22 (.pointer (some ⟨b, o, none⟩)) (Value.slice xa xn xc)) h k = stN h b o [Value.slice xa xn xc] (k ()) := arun_store_eq size_22 rfl
theorem size_23 : (Try.prog.info? 23).map (·.size) = some 1 := by kernel_rfl
@[simp] theorem st_23 {h : Hp} {b o : Nat} {x : Int} {k : Unit → Hp → Prop} : arun Try.prog (Instr.storeAt 23 (.pointer (some ⟨b, o, none⟩)) (Value.int .u32 x)) h k = stN h b o [Value.int .u32 x] (k ()) := arun_store_eq size_23 rfl
@[simp] theorem st_25 {h : Hp} {b o : Nat} {x_0 : Int} {x_1 : Int} {x_2 : Int} {k : Unit → Hp → Prop} : arun Try.prog (Instr.storeAt 25 (.pointer (some ⟨b, o, none⟩)) (Value.agg #[Value.int .i64 x_0, Value.int .u32 x_1, Value.int .u32 x_2])) h k = stN h b o [Value.int .i64 x_0, Value.int .u32 x_1, Value.int .u32 x_2] (k ()) := arun_store_eq size_25 rfl
@[simp] theorem st_3 {h : Hp} {b o : Nat} {x : Int} {k : Unit → Hp → Prop} : arun Try.prog (Instr.storeAt 3 (.pointer (some ⟨b, o, none⟩)) (Value.int .i64 x)) h k = stN h b o [Value.int .i64 x] (k ()) := arun_store_eq size_3 rfl
@[simp] theorem st_34 {h : Hp} {b o : Nat} {xa : Option Addr} {xn xc : Nat} {k : Unit → Hp → Prop} : arun Try.prog (Instr.storeAt 34 (.pointer (some ⟨b, o, none⟩)) (Value.slice xa xn xc)) h k = stN h b o [Value.slice xa xn xc] (k ()) := arun_store_eq size_34 rfl
@[simp] theorem st_5 {h : Hp} {b o : Nat} {x : Int} {k : Unit → Hp → Prop} : arun Try.prog (Instr.storeAt 5 (.pointer (some ⟨b, o, none⟩)) (Value.int .u8 x)) h k = stN h b o [Value.int .u8 x] (k ()) := arun_store_eq size_5 rfl
theorem size_50 : (Try.prog.info? 50).map (·.size) = some 1 := by kernel_rfl
@[simp] theorem st_50 {h : Hp} {b o : Nat} {x : Option Nat} {k : Unit → Hp → Prop} : arun Try.prog (Instr.storeAt 50 (.pointer (some ⟨b, o, none⟩)) (Value.map x)) h k = stN h b o [Value.map x] (k ()) := arun_store_eq size_50 rfl
@[simp] theorem st_55 {h : Hp} {b o : Nat} {x_0 : Int} {x_1 : Int} {k : Unit → Hp → Prop} : arun Try.prog (Instr.storeAt 55 (.pointer (some ⟨b, o, none⟩)) (Value.agg #[Value.int .i64 x_0, Value.int .u32 x_1])) h k = stN h b o [Value.int .i64 x_0, Value.int .u32 x_1] (k ()) := arun_store_eq size_55 rfl
theorem size_58 : (Try.prog.info? 58).map (·.size) = some 1 := by kernel_rfl
@[simp] theorem st_58 {h : Hp} {b o : Nat} {xa : Option Addr} {xn xc : Nat} {k : Unit → Hp → Prop} : arun Try.prog (Instr.storeAt 58 (.pointer (some ⟨b, o, none⟩)) (Value.slice xa xn xc)) h k = stN h b o [Value.slice xa xn xc] (k ()) := arun_store_eq size_58 rfl
end Go.Proofs.Ytjcecdjbllpmcaa

/- Contracts of the shelf, laid at this program in plain words (printed by wip/kit/sp.sh). -/
namespace Go.Proofs.Ytjcecdjbllpmcaa
open Go Go.Shelf Go.RowKit
set_option maxRecDepth 100000
def sortJ_ren : Go.Shelf.Ren := ⟨fun | 6 => 38 | 14 => 47 | 15 => 48 | 20 => 51 | 21 => 52 | 22 => 53 | 23 => 54 | 24 => 55 | 25 => 56 | 26 => 57 | 27 => 58 | 28 => 59 | 29 => 60 | 46 => 61 | 47 => 62 | 48 => 63 | 49 => 64 | 50 => 65 | 57 => 66 | n => n, fun | 22 => 58 | 24 => 55 | 25 => 63 | 39 => 80 | 45 => 85 | 46 => 86 | 50 => 90 | 53 => 23 | 55 => 94 | 66 => 95 | 70 => 99 | 76 => 101 | 77 => 102 | n => n, fun  | n => n⟩
theorem sortJ : SlLaysF0.n6 Try.prog sortJ_ren where
  mixed := by kernel_rfl
  f6 := ⟨Try.f38.name, by decide, Try.func38.trans (congrArg some (by kernel_rfl))⟩
  f14 := ⟨Try.f47.name, by decide, Try.func47.trans (congrArg some (by kernel_rfl))⟩
  f15 := Try.func48.trans (congrArg some (by kernel_rfl))
  f20 := ⟨Try.f51.name, by decide, Try.func51.trans (congrArg some (by kernel_rfl))⟩
  f21 := ⟨Try.f52.name, by decide, Try.func52.trans (congrArg some (by kernel_rfl))⟩
  f22 := ⟨Try.f53.name, by decide, Try.func53.trans (congrArg some (by kernel_rfl))⟩
  f23 := ⟨Try.f54.name, by decide, Try.func54.trans (congrArg some (by kernel_rfl))⟩
  f24 := ⟨Try.f55.name, by decide, Try.func55.trans (congrArg some (by kernel_rfl))⟩
  f25 := ⟨Try.f56.name, by decide, Try.func56.trans (congrArg some (by kernel_rfl))⟩
  f26 := ⟨Try.f57.name, by decide, Try.func57.trans (congrArg some (by kernel_rfl))⟩
  f27 := ⟨Try.f58.name, by decide, Try.func58.trans (congrArg some (by kernel_rfl))⟩
  f28 := Try.func59.trans (congrArg some (by kernel_rfl))
  f29 := Try.func60.trans (congrArg some (by kernel_rfl))
  f46 := ⟨Try.f61.name, by decide, Try.func61.trans (congrArg some (by kernel_rfl))⟩
  f47 := Try.func62.trans (congrArg some (by kernel_rfl))
  f48 := Try.func63.trans (congrArg some (by kernel_rfl))
  f49 := ⟨Try.f64.name, by decide, Try.func64.trans (congrArg some (by kernel_rfl))⟩
  f50 := ⟨Try.f65.name, by decide, Try.func65.trans (congrArg some (by kernel_rfl))⟩
  f57 := ⟨Try.f66.name, by decide, Try.func66.trans (congrArg some (by kernel_rfl))⟩
  t0 := Try.underlying0
  a0 := Try.isAgg0
  z0 := Try.sizeOf0
  v0 := Try.zeroValue0
  t3 := Try.underlying3
  a3 := Try.isAgg3
  z3 := Try.sizeOf3
  v3 := Try.zeroValue3
  t4 := Try.underlying4
  a4 := Try.isAgg4
  z4 := Try.sizeOf4
  v4 := Try.zeroValue4
  t5 := Try.underlying5
  a5 := Try.isAgg5
  z5 := Try.sizeOf5
  v5 := Try.zeroValue5
  t9 := Try.underlying9
  a9 := Try.isAgg9
  z9 := Try.sizeOf9
  v9 := Try.zeroValue9
  t22 := Try.underlying58
  a22 := Try.isAgg58
  z22 := Try.sizeOf58
  v22 := Try.zeroValue58
  t25 := Try.underlying63
  a25 := Try.isAgg63
  z25 := Try.sizeOf63
  v25 := Try.zeroValue63
  t39 := Try.underlying80
  a39 := Try.isAgg80
  z39 := Try.sizeOf80
  v39 := Try.zeroValue80
  t45 := Try.underlying85
  a45 := Try.isAgg85
  z45 := Try.sizeOf85
  v45 := Try.zeroValue85
  t46 := Try.underlying86
  a46 := Try.isAgg86
  z46 := Try.sizeOf86
  v46 := Try.zeroValue86
  t50 := Try.underlying90
  a50 := Try.isAgg90
  z50 := Try.sizeOf90
  v50 := Try.zeroValue90
  t53 := Try.underlying23
  a53 := Try.isAgg23
  z53 := Try.sizeOf23
  v53 := Try.zeroValue23
  t55 := Try.underlying94
  a55 := Try.isAgg94
  z55 := Try.sizeOf94
  v55 := Try.zeroValue94
  t66 := Try.underlying95
  a66 := Try.isAgg95
  z66 := Try.sizeOf95
  v66 := Try.zeroValue95
  t70 := Try.underlying99
  a70 := Try.isAgg99
  z70 := Try.sizeOf99
  v70 := Try.zeroValue99
  t76 := Try.underlying101
  a76 := Try.isAgg101
  z76 := Try.sizeOf101
  v76 := Try.zeroValue101
  t77 := Try.underlying102
  a77 := Try.isAgg102
  z77 := Try.sizeOf102
  v77 := Try.zeroValue102
def bitsJ_ren : Go.Shelf.Ren := ⟨fun | 125 => 48 | 128 => 59 | 129 => 60 | n => n, fun | 46 => 80 | 51 => 23 | 53 => 94 | n => n, fun  | n => n⟩
theorem bitsJ : Lays.n125 Try.prog bitsJ_ren where
  mixed := by kernel_rfl
  f125 := Try.func48.trans (congrArg some (by kernel_rfl))
  f128 := Try.func59.trans (congrArg some (by kernel_rfl))
  f129 := Try.func60.trans (congrArg some (by kernel_rfl))
  t3 := Try.underlying3
  a3 := Try.isAgg3
  z3 := Try.sizeOf3
  v3 := Try.zeroValue3
  t4 := Try.underlying4
  a4 := Try.isAgg4
  z4 := Try.sizeOf4
  v4 := Try.zeroValue4
  t5 := Try.underlying5
  a5 := Try.isAgg5
  z5 := Try.sizeOf5
  v5 := Try.zeroValue5
  t9 := Try.underlying9
  a9 := Try.isAgg9
  z9 := Try.sizeOf9
  v9 := Try.zeroValue9
  t46 := Try.underlying80
  a46 := Try.isAgg80
  z46 := Try.sizeOf80
  v46 := Try.zeroValue80
  t51 := Try.underlying23
  a51 := Try.isAgg23
  z51 := Try.sizeOf23
  v51 := Try.zeroValue23
  t53 := Try.underlying94
  a53 := Try.isAgg94
  z53 := Try.sizeOf94
  v53 := Try.zeroValue94
end Go.Proofs.Ytjcecdjbllpmcaa

/- Numbers as bytes: Put32. -/
namespace Go.Proofs.Ytjcecdjbllpmcaa
open Go
set_option linter.unusedVariables false
set_option linter.unusedSimpArgs false

@[simp] theorem ms_34_4 {h : Hp} {k : Value → Hp → Prop} : arun Try.prog (Instr.makeSlice 34 (.int .i64 4) (.int .i64 4)) h k = nw h (.cells #[.int .u8 0, .int .u8 0, .int .u8 0, .int .u8 0] 5) fun b h => k (.slice (some ⟨b, 0, none⟩) 4 4) h := by kernel_rfl

def byt (n k : Nat) : Nat := n / 2 ^ (8 * k) % 256
def by4 (n : Nat) : List Nat := [byt n 3, byt n 2, byt n 1, byt n 0]

theorem wrap_u8_nat (x : Nat) : IntKind.u8.wrap (x : Int) = ((x % 256 : Nat) : Int) := by
  simp [IntKind.wrap, IntKind.signed, IntKind.bits]

theorem fdiv_nat (n k : Nat) : (n : Int).fdiv (k : Int) = ((n / k : Nat) : Int) := by
  rw [Int.fdiv_eq_ediv_of_nonneg _ (by omega)]; simp

def P32Inv (g0 : Hp) (n b : Nat) (m : Nat) (env : Env) (g : Hp) : Prop :=
  ∃ i a0 a1 a2 a3, env 0 = .int .u32 (n : Nat) ∧ env 1 = .int .i64 4 ∧ env 5 = .slice (some ⟨b, 0, none⟩) 4 4 ∧ env 9 = .int .i64 4 ∧ env 10 = .int .i64 (i : Nat) ∧ i + m = 4 ∧
    g = g0.upd b (.cells #[.int .u8 (a3 : Nat), .int .u8 (a2 : Nat), .int .u8 (a1 : Nat), .int .u8 (a0 : Nat)] 5) ∧ (1 ≤ i → a0 = byt n 0) ∧ (2 ≤ i → a1 = byt n 1) ∧ (3 ≤ i → a2 = byt n 2) ∧ (4 ≤ i → a3 = byt n 3)

theorem put4_spec {n : Nat} {h : Hp} {Q : Value → Hp → Prop} (hn : n < 2 ^ 32)
    (hQ : ∀ b, h b = none → Q (.slice (some ⟨b, 0, none⟩) 4 4) (h.upd b (.cells #[.int .u8 (byt n 3 : Nat), .int .u8 (byt n 2 : Nat), .int .u8 (byt n 1 : Nat), .int .u8 (byt n 0 : Nat)] 5))) :
    Ok Try.prog F_num_put #[.int .u32 (n : Nat), .int .i64 4] h Q := by
  refine num_put_ok (by simp) ?_
  unfold num_put_D
  simp (disch := omega) [num_put_r0, num_put_r1]
  intro b hb
  simp (disch := omega) [num_put_r2]
  refine ⟨P32Inv h n b, ⟨4, 0, 0, 0, 0, 0, by simp, by simp, by simp, by simp, by simp, by omega, by simp, by omega, by omega, by omega, by omega⟩, ?_⟩
  rintro m env g ⟨i, a0, a1, a2, a3, e0, e1, e5, e9, e10, him, rfl, q0, q1, q2, q3⟩
  unfold num_put_L0
  by_cases hm : m = 0
  · have : i = 4 := by omega
    subst this
    simp (disch := omega) [num_put_r3, num_put_r7, e0, e1, e5, e9, e10]
    rw [q0 (by omega), q1 (by omega), q2 (by omega), q3 (by omega)]
    exact .to _ (.refl _) (hQ b hb)
  · obtain ⟨m, rfl⟩ : ∃ k, m = k + 1 := ⟨m - 1, by omega⟩
    have hic : i = 0 ∨ i = 1 ∨ i = 2 ∨ i = 3 := by omega
    rcases hic with rfl | rfl | rfl | rfl
    · simp (disch := omega) [num_put_r3, num_put_r4, num_put_r5, num_put_r6, e0, e1, e5, e9, e10, wrap_i64, wrap_u8_nat]
      exact ⟨m, by omega, 1, byt n 0, a1, a2, a3, by simp [e0], by simp [e1], by simp [e5], by simp [e9], by simp, by omega, by simp [byt], by simp, by omega, by omega, by omega⟩
    · have f : IntKind.u8.wrap ((n : Int).fdiv 256) = ((byt n 1 : Nat) : Int) := by rw [show (256 : Int) = ((256 : Nat) : Int) from rfl, fdiv_nat, wrap_u8_nat]; rfl
      simp (disch := omega) [num_put_r3, num_put_r4, num_put_r5, num_put_r6, e0, e1, e5, e9, e10, wrap_i64, f]
      exact ⟨m, by omega, 2, a0, byt n 1, a2, a3, by simp [e0], by simp [e1], by simp [e5], by simp [e9], by simp, by omega, by simp, fun _ => q0 (by omega), by simp, by omega, by omega⟩
    · have f : IntKind.u8.wrap ((n : Int).fdiv 65536) = ((byt n 2 : Nat) : Int) := by rw [show (65536 : Int) = ((65536 : Nat) : Int) from rfl, fdiv_nat, wrap_u8_nat]; rfl
      simp (disch := omega) [num_put_r3, num_put_r4, num_put_r5, num_put_r6, e0, e1, e5, e9, e10, wrap_i64, f]
      exact ⟨m, by omega, 3, a0, a1, byt n 2, a3, by simp [e0], by simp [e1], by simp [e5], by simp [e9], by simp, by omega, by simp, fun _ => q0 (by omega), fun _ => q1 (by omega), by simp, by omega⟩
    · have f : IntKind.u8.wrap ((n : Int).fdiv 16777216) = ((byt n 3 : Nat) : Int) := by rw [show (16777216 : Int) = ((16777216 : Nat) : Int) from rfl, fdiv_nat, wrap_u8_nat]; rfl
      simp (disch := omega) [num_put_r3, num_put_r4, num_put_r5, num_put_r6, e0, e1, e5, e9, e10, wrap_i64, f]
      exact ⟨m, by omega, 4, a0, a1, a2, byt n 3, by simp [e0], by simp [e1], by simp [e5], by simp [e9], by simp, by omega, by simp, fun _ => q0 (by omega), fun _ => q1 (by omega), fun _ => q2 (by omega), by simp⟩

theorem put32_spec {n : Nat} {h : Hp} {Q : Value → Hp → Prop} (hn : n < 2 ^ 32)
    (hQ : ∀ b, h b = none → Q (.slice (some ⟨b, 0, none⟩) 4 4) (h.upd b (.cells #[.int .u8 (byt n 3 : Nat), .int .u8 (byt n 2 : Nat), .int .u8 (byt n 1 : Nat), .int .u8 (byt n 0 : Nat)] 5))) :
    Ok Try.prog F_num_Put32 #[.int .u32 (n : Nat)] h Q := by
  refine num_Put32_ok (by simp) ?_
  unfold num_Put32_D
  simp (disch := omega) [num_Put32_r0, num_Put32_r1]
  refine put4_spec hn (fun b hb => ?_)
  exact .to _ (.refl _) (hQ b hb)
end Go.Proofs.Ytjcecdjbllpmcaa

/- Bytes: Grow from nothing, Concat of slices of bytes. -/
namespace Go.Proofs.Ytjcecdjbllpmcaa
open Go
set_option linter.unusedSimpArgs false


theorem be_ok (L : List Nat) : ∀ y ∈ L, (be y).length = 1 ∧ ∀ u ∈ be y, oneCell u = true := fun y _ => ⟨rfl, by simp [be, oneCell]⟩

theorem cat_bytes {h : Hp} {v w : Value} {xs ys : List Nat} {k : Value → Hp → Prop} (S : SlAt h 5 1 be v xs) (R0 : Src h 1 be w ys) (hbd : xs.length + ys.length ≤ 1000000)
    (K : ∀ v' h', SlAt h' 5 1 be v' (xs ++ ys) → Grew h h' v v' → k v' h') : arun Try.prog (Builtin.append_ #[34, 34] 34 #[v, w]) h k :=
  arun_cat und_34 und_34 size_5 bytes_5 zero_5 (by decide) rfl S R0 (by omega) K

theorem SlAt.src {h : Hp} {v : Value} {xs : List Nat} (S : SlAt h 5 1 be v xs) : Src h 1 be v xs := by
  refine ⟨be_ok xs, ?_⟩
  rcases S with ⟨rfl, rfl⟩ | ⟨b, cap, c, rfl, hb, h1, h2, h3⟩
  · exact .inl ⟨_, _, rfl, rfl⟩
  · exact .inr ⟨b, 0, cap, c, 5, (0, 0), rfl, hb, by simp only [Nat.mul_one] at *; omega, h3⟩

theorem sl_to_34 {h : Hp} {len cap : Nat} {a : Addr} {i : Int} (h0 : 0 ≤ i) (h1 : i ≤ (cap : Int)) : rrun Try.prog (Instr.sliceAt 34 (.slice (some a) len cap) none (some (.int .i64 i)) none) h = some (.slice (some a) i.toNat cap) := rr_slice_to und_34 size_5 h0 h1

@[simp] theorem sl_nil_34 {h : Hp} : rrun Try.prog (Instr.sliceAt 34 (.slice none 0 0) none (some (.int .i64 0)) none) h = some (.slice none 0 0) := by kernel_rfl

@[simp] theorem cp_34 {h : Hp} {a : Option Addr} {n c : Nat} : rrun Try.prog (Builtin.cap_ #[34] 3 #[.slice a n c]) h = some (.int .i64 (c : Nat)) := by kernel_rfl

theorem ext_34 {h : Hp} {n : Nat} {K : Value → Hp → Prop} (hn : 0 < n) (hb : n ≤ 1000000)
    (hK : ∀ b cap c, h b = none → n ≤ cap → c.size = cap → K (.slice (some ⟨b, 0, none⟩) n cap) (h.upd b (.cells c 5))) :
    arun Try.prog (Builtin.append_ #[34, 3] 34 #[.slice none 0 0, .int .i64 (n : Int)]) h K :=
  arun_extend_nil und_34 (k := .i64) (by kernel_rfl) size_5 bytes_5 zero_5 (by decide) (by decide) rfl hn (by omega) (fun b cap c h1 h2 h3 => hK b cap c h1 h2 (by simpa using h3))

set_option maxRecDepth 20000 in
theorem grow_spec {h : Hp} {n : Nat} {Q : Value → Hp → Prop} (hb : n ≤ 1000000)
    (hQ : ∀ v h', SlAt h' 5 1 be v [] → (∀ y o, h y = some o → h' y = some o) → (∀ b, blkOf v = some b → h b = none) → Q v h') :
    Ok Try.prog F_slices_Grow_byte_byte #[.slice none 0 0, .int .i64 (n : Int)] h Q := by
  refine slices_Grow_byte_byte_ok (by simp) ?_
  unfold slices_Grow_byte_byte_D
  by_cases h0 : n = 0
  · subst h0
    simp (disch := omega) [slices_Grow_byte_byte_r0, slices_Grow_byte_byte_r1, slices_Grow_byte_byte_r3, slices_Grow_byte_byte_r4, slices_Grow_byte_byte_r6, wrap_i64]
    exact .to _ (.refl _) (hQ _ _ (.inl ⟨rfl, rfl⟩) (fun _ _ h => h) (by simp [blkOf]))
  · have h1 : 0 < n := by omega
    have h2 : ¬ (n : Int) < 0 := by omega
    simp (disch := omega) [slices_Grow_byte_byte_r0, slices_Grow_byte_byte_r1, slices_Grow_byte_byte_r3, slices_Grow_byte_byte_r4, slices_Grow_byte_byte_r5, h1, h2, wrap_i64]
    refine ext_34 h1 hb (fun b cap c hb hc hs => ?_)
    simp (disch := omega) [sl_to_34, slices_Grow_byte_byte_r6]
    refine .to _ (.refl _) (hQ _ _ (.inr ⟨b, cap, c, rfl, by simp, by simp, by omega, fun i x hx => by simp at hx⟩) (fun y o hy => ?_) (fun b' hb' => by cases hb'; exact hb))
    have := ne_new hy hb
    simp [this, hy]
end Go.Proofs.Ytjcecdjbllpmcaa

/- Concat of slices of bytes. -/
namespace Go.Proofs.Ytjcecdjbllpmcaa
open Go
set_option linter.unusedSimpArgs false

def catL (ps : List (Value × List Nat)) : List Nat := ps.flatMap (·.2)

theorem catL_take {ps : List (Value × List Nat)} {i : Nat} {x : Value × List Nat} (h : ps[i]? = some x) : catL (ps.take (i + 1)) = catL (ps.take i) ++ x.2 := by
  unfold catL
  rw [List.take_add_one, h]; simp

theorem catL_le {ps : List (Value × List Nat)} (i : Nat) : (catL (ps.take i)).length ≤ (catL ps).length := by
  have h : catL ps = catL (ps.take i) ++ catL (ps.drop i) := by
    unfold catL
    rw [← List.flatMap_append, List.take_append_drop]
  rw [h, List.length_append]
  omega

structure Parts (h : Hp) (b : Nat) (c : Array Value) (E : TypeId) (ps : List (Value × List Nat)) : Prop where
  b : h b = some (.cells c E (0, 0))
  at_ : ∀ (i : Nat) (x : Value × List Nat), ps[i]? = some x → c[i]? = some x.1 ∧ SlAt h 5 1 be x.1 x.2

def CatInv0 (h : Hp) (b cap : Nat) (ps : List (Value × List Nat)) (m : Nat) (env : Env) (g : Hp) : Prop :=
  ∃ i, g = h ∧ env 0 = .slice (some ⟨b, 0, none⟩) ps.length cap ∧ env 9 = .slice (some ⟨b, 0, none⟩) ps.length cap ∧ env 10 = .int .i64 (ps.length : Nat) ∧ env 3 = .int .i64 ((catL (ps.take i)).length : Nat) ∧ env 11 = .int .i64 (i : Nat) ∧ i + m = ps.length

def CatInv1 (h : Hp) (b cap : Nat) (ps : List (Value × List Nat)) (m : Nat) (env : Env) (g : Hp) : Prop :=
  ∃ i v, Le h g ∧ (∀ y, blkOf v = some y → h y = none) ∧ SlAt g 5 1 be v (catL (ps.take i)) ∧ env 6 = v ∧ env 25 = .slice (some ⟨b, 0, none⟩) ps.length cap ∧ env 26 = .int .i64 (ps.length : Nat) ∧ env 27 = .int .i64 (i : Nat) ∧ i + m = ps.length

set_option maxRecDepth 20000 in
theorem concat_spec {h : Hp} {b cap : Nat} {c : Array Value} {E : TypeId} {ps : List (Value × List Nat)} {Q : Value → Hp → Prop} (A : Parts h b c E ps) (hl : (catL ps).length ≤ 500000) (hp : ps.length ≤ 1000)
    (hQ : ∀ v h', SlAt h' 5 1 be v (catL ps) → Le h h' → (∀ y, blkOf v = some y → h y = none) → Q v h') :
    Ok Try.prog F_slices_Concat_byte_byte #[.slice (some ⟨b, 0, none⟩) ps.length cap] h Q := by
  refine slices_Concat_byte_byte_ok (by simp) ?_
  unfold slices_Concat_byte_byte_D
  simp (disch := omega) [slices_Concat_byte_byte_r0, slices_Concat_byte_byte_r1, slices_Concat_byte_byte_r2]
  refine ⟨CatInv0 h b cap ps, ⟨ps.length, 0, rfl, by simp, by simp, by simp, by simp [catL], by simp, by omega⟩, ?_⟩
  rintro m env g ⟨i, rfl, e0, e9, e10, e3, e11, him⟩
  unfold slices_Concat_byte_byte_L0
  by_cases hm : m = 0
  · have : i = ps.length := by omega
    subst this
    rw [List.take_length] at e3
    simp (disch := omega) [slices_Concat_byte_byte_r3, slices_Concat_byte_byte_r9, e0, e9, e10, e3, e11]
    refine grow_spec (by omega) (fun v g1 S1 L1 F1 => ?_)
    simp (disch := omega) [slices_Concat_byte_byte_r10, e0]
    refine ⟨CatInv1 g b cap ps, ⟨ps.length, 0, v, L1, F1, by simpa [catL] using S1, by simp, by simp, by simp, by simp, by omega⟩, ?_⟩
    clear e0 e9 e10 e3 e11 S1 F1
    rintro m env g1 ⟨i, v, L1, F1, S1, e6, e25, e26, e27, him⟩
    unfold slices_Concat_byte_byte_L1
    by_cases hm : m = 0
    · have : i = ps.length := by omega
      subst this
      rw [List.take_length] at S1
      simp (disch := omega) [slices_Concat_byte_byte_r11, slices_Concat_byte_byte_r15, e6, e25, e26, e27]
      exact .to _ (.refl _) (hQ v g1 S1 L1 F1)
    · obtain ⟨m, rfl⟩ : ∃ k, m = k + 1 := ⟨m - 1, by omega⟩
      have hlt : (i : Int) < (ps.length : Int) := by omega
      obtain ⟨x, hx⟩ : ∃ x, ps[i]? = some x := ⟨_, List.getElem?_eq_getElem (by omega)⟩
      obtain ⟨hc, hs⟩ := A.at_ i x hx
      have hb := L1 _ _ A.b
      have hcat := catL_take hx
      have hle := catL_le (ps := ps) (i + 1)
      rw [hcat, List.length_append] at hle
      have hs1 : SlAt g1 5 1 be x.1 x.2 := hs.keep (fun y o _ hy => L1 _ _ hy)
      simp (disch := omega) [slices_Concat_byte_byte_r11, slices_Concat_byte_byte_r12, slices_Concat_byte_byte_r13, e6, e25, e26, e27, hlt, hb, hc]
      refine cat_bytes S1 (SlAt.src hs1) (by omega) (fun v2 g2 S2 G2 => ?_)
      rw [← hcat] at S2
      simp (disch := omega) [slices_Concat_byte_byte_r14, e6, e25, e26, e27, wrap_i64]
      refine ⟨m, by omega, i + 1, v2, fun y o hy => G2.keep y o (L1 _ _ hy) (fun e => by rw [F1 y e.symm] at hy; cases hy), fun y hy => ?_, S2, by simp, by simp [e25], by simp [e26], by simp, by omega⟩
      rcases G2.fresh with e | e
      · rw [e] at hy; exact F1 y hy
      · have e2 := e y hy
        cases hh : g y with
        | none => rfl
        | some o => rw [L1 _ _ hh] at e2; cases e2
  · obtain ⟨m, rfl⟩ : ∃ k, m = k + 1 := ⟨m - 1, by omega⟩
    have hlt : (i : Int) < (ps.length : Int) := by omega
    obtain ⟨x, hx⟩ : ∃ x, ps[i]? = some x := ⟨_, List.getElem?_eq_getElem (by omega)⟩
    obtain ⟨hc, hs⟩ := A.at_ i x hx
    have hb := A.b
    have hcat := congrArg List.length (catL_take hx)
    have hle := catL_le (ps := ps) (i + 1)
    rw [hcat, List.length_append] at hle
    rw [List.length_append] at hcat
    obtain ⟨p, cap2, hv⟩ : ∃ p cap2, x.1 = .slice p x.2.length cap2 := by
      rcases hs with ⟨h1, h2⟩ | ⟨b2, cap2, c2, h1, _⟩
      · exact ⟨none, 0, by rw [h1, h2]; rfl⟩
      · exact ⟨_, _, h1⟩
    have hw : IntKind.i64.wrap (((catL (ps.take i)).length : Int) + (x.2.length : Int)) = ((catL (ps.take (i + 1))).length : Nat) := by rw [wrap_i64 (by omega) (by omega)]; omega
    have hge : ¬ (((catL (ps.take (i + 1))).length : Nat) : Int) < 0 := by omega
    simp (disch := omega) [slices_Concat_byte_byte_r3, slices_Concat_byte_byte_r4, slices_Concat_byte_byte_r5, slices_Concat_byte_byte_r6, slices_Concat_byte_byte_r8, e0, e9, e10, e3, e11, hlt, hb, hc, hv, hw, hge, wrap_i64]
    exact ⟨m, by omega, i + 1, rfl, by simp [e0], by simp [e9], by simp [e10], by simp, by simp, by omega⟩
end Go.Proofs.Ytjcecdjbllpmcaa

/- A fact as bytes: journal.put. -/
namespace Go.Proofs.Ytjcecdjbllpmcaa
open Go
set_option linter.unusedSimpArgs false

theorem none_le {h g : Hp} {b : Nat} (L : Le h g) (hb : g b = none) : h b = none := by
  cases hh : h b with
  | none => rfl
  | some o => rw [L _ _ hh] at hb; cases hb

def fb (k : Int) (key n : Nat) : List Nat := [(k % 256).toNat, 0, 0, 0] ++ by4 key ++ by4 n

theorem sl4 {h : Hp} {b a0 a1 a2 a3 : Nat} (hb : h b = some (.cells #[.int .u8 (a0 : Nat), .int .u8 (a1 : Nat), .int .u8 (a2 : Nat), .int .u8 (a3 : Nat)] 5)) : SlAt h 5 1 be (.slice (some ⟨b, 0, none⟩) 4 4) [a0, a1, a2, a3] := by
  refine .inr ⟨b, 4, _, rfl, hb, by simp, by simp, fun i x hx j hj => ?_⟩
  have hj0 : j = 0 := by omega
  subst hj0
  have hi : i < 4 := by have := (List.getElem?_eq_some_iff.1 hx).1; simpa using this
  have hic : i = 0 ∨ i = 1 ∨ i = 2 ∨ i = 3 := by omega
  rcases hic with rfl | rfl | rfl | rfl <;> simp at hx <;> subst hx <;> simp [be]

set_option maxRecDepth 20000 in
theorem jfin {g0 g : Hp} {b1 b2 b3 : Nat} {k key n : Nat} {Q : Value → Hp → Prop} (lg : Le g0 g)
    (h1 : g b1 = some (.cells #[.int .u8 (k : Nat), .int .u8 0, .int .u8 0, .int .u8 0] 5))
    (h2 : g b2 = some (.cells #[.int .u8 (byt key 3 : Nat), .int .u8 (byt key 2 : Nat), .int .u8 (byt key 1 : Nat), .int .u8 (byt key 0 : Nat)] 5))
    (h3 : g b3 = some (.cells #[.int .u8 (byt n 3 : Nat), .int .u8 (byt n 2 : Nat), .int .u8 (byt n 1 : Nat), .int .u8 (byt n 0 : Nat)] 5))
    (hQ : ∀ v h', SlAt h' 5 1 be v ([k, 0, 0, 0] ++ by4 key ++ by4 n) → Le g0 h' → (∀ y, blkOf v = some y → g0 y = none) → Q v h') :
    arun Try.prog (Instr.buildSlice 74 3 #[(0, .slice (some ⟨b1, 0, none⟩) 4 4), (1, .slice (some ⟨b2, 0, none⟩) 4 4), (2, .slice (some ⟨b3, 0, none⟩) 4 4)]) g fun v13 h4 => Ok Try.prog 34 #[v13] h4 fun v14 h5 => drp Q v14 h5 := by
  simp (disch := omega)
  intro b4 hb4
  have l4 := Le.new (o := .cells #[.slice (some ⟨b1, 0, none⟩) 4 4, .slice (some ⟨b2, 0, none⟩) 4 4, .slice (some ⟨b3, 0, none⟩) 4 4] 34) hb4
  refine concat_spec (ps := [(.slice (some ⟨b1, 0, none⟩) 4 4, [k, 0, 0, 0]), (.slice (some ⟨b2, 0, none⟩) 4 4, by4 key), (.slice (some ⟨b3, 0, none⟩) 4 4, by4 n)]) (E := 34) ⟨by simp; rfl, fun i x hx => ?_⟩ (by simp [catL, by4]) (by simp) (fun v h' S l F => ?_)
  · have hi : i < 3 := by have := (List.getElem?_eq_some_iff.1 hx).1; simpa using this
    have hic : i = 0 ∨ i = 1 ∨ i = 2 := by omega
    rcases hic with rfl | rfl | rfl <;> simp at hx <;> subst hx
    · exact ⟨rfl, sl4 (l4 _ _ (by simpa using h1))⟩
    · exact ⟨rfl, sl4 (l4 _ _ h2)⟩
    · exact ⟨rfl, sl4 (l4 _ _ h3)⟩
  · refine .to _ (.refl _) (hQ v h' (by simpa [catL] using S) ((lg.trans l4).trans l) (fun y hy => ?_))
    have := F y hy
    cases hh : g0 y with
    | none => rfl
    | some o => rw [(lg.trans l4) _ _ hh] at this; cases this

set_option maxRecDepth 20000 in
theorem jput_spec {h : Hp} {k : Int} {key n : Nat} {Q : Value → Hp → Prop} (hk : 0 ≤ k ∧ k ≤ 255) (h1 : key < 2 ^ 32) (h2 : n < 2 ^ 32)
    (hQ : ∀ v h', SlAt h' 5 1 be v (fb k key n) → Le h h' → (∀ y, blkOf v = some y → h y = none) → Q v h') :
    Ok Try.prog F_journal_put #[.agg #[.int .i64 k, .int .u32 key, .int .u32 n]] h Q := by
  refine journal_put_ok (by simp) ?_
  unfold journal_put_D
  simp (disch := omega) [journal_put_r0]
  intro b hb
  have hbb : (h.upd b (.cells #[.int .i64 k, .int .u32 key, .int .u32 n] 25)) b = some (.cells #[.int .i64 k, .int .u32 key, .int .u32 n] 25) := by simp
  have l : Le h (h.upd b (.cells #[.int .i64 k, .int .u32 key, .int .u32 n] 25)) := .new hb
  generalize h.upd b (.cells #[.int .i64 k, .int .u32 key, .int .u32 n] 25) = g0 at *
  have hw : IntKind.u8.wrap k = k := by rw [wrap_u8] <;> omega
  simp (disch := omega) [journal_put_r1, hbb, hw]
  obtain ⟨k0, hk0⟩ := Int.eq_ofNat_of_zero_le hk.1
  have hfb : fb k key n = [k0, 0, 0, 0] ++ by4 key ++ by4 n := by unfold fb; rw [hk0]; congr 2; congr 1; omega
  rw [hfb] at hQ
  have hQ' : ∀ v h', SlAt h' 5 1 be v ([k0, 0, 0, 0] ++ by4 key ++ by4 n) → Le g0 h' → (∀ y, blkOf v = some y → g0 y = none) → Q v h' := fun v h' S L F => hQ v h' S (l.trans L) (fun y hy => none_le l (F y hy))
  subst hk0
  refine ⟨?_, ?_⟩
  · intro b1 hb1
    have f1 : (g0.upd b1 (.cells #[.int .u8 (k0 : Nat), .int .u8 0, .int .u8 0, .int .u8 0] 5)) b1 = some (.cells #[.int .u8 (k0 : Nat), .int .u8 0, .int .u8 0, .int .u8 0] 5) := by simp
    have l1 : Le g0 (g0.upd b1 (.cells #[.int .u8 (k0 : Nat), .int .u8 0, .int .u8 0, .int .u8 0] 5)) := .new hb1
    generalize g0.upd b1 (.cells #[.int .u8 (k0 : Nat), .int .u8 0, .int .u8 0, .int .u8 0] 5) = g1 at *
    simp (disch := omega) [l1 _ _ hbb]
    refine put32_spec h1 (fun b2 hb2 => ?_)
    have l2 := Le.new (o := .cells #[.int .u8 (byt key 3 : Nat), .int .u8 (byt key 2 : Nat), .int .u8 (byt key 1 : Nat), .int .u8 (byt key 0 : Nat)] 5) hb2
    simp (disch := omega) [ne_new (l1 _ _ hbb) hb2, l1 _ _ hbb]
    refine put32_spec h2 (fun b3 hb3 => ?_)
    have l3 := Le.new (o := .cells #[.int .u8 (byt n 3 : Nat), .int .u8 (byt n 2 : Nat), .int .u8 (byt n 1 : Nat), .int .u8 (byt n 0 : Nat)] 5) hb3
    exact jfin ((l1.trans l2).trans l3) (l3 _ _ (l2 _ _ f1)) (l3 _ _ (by simp)) (by simp) hQ'
  · refine put32_spec h1 (fun b2 hb2 => ?_)
    have f2 : (g0.upd b2 (.cells #[.int .u8 (byt key 3 : Nat), .int .u8 (byt key 2 : Nat), .int .u8 (byt key 1 : Nat), .int .u8 (byt key 0 : Nat)] 5)) b2 = some (.cells #[.int .u8 (byt key 3 : Nat), .int .u8 (byt key 2 : Nat), .int .u8 (byt key 1 : Nat), .int .u8 (byt key 0 : Nat)] 5) := by simp
    have l2 := Le.new (o := .cells #[.int .u8 (byt key 3 : Nat), .int .u8 (byt key 2 : Nat), .int .u8 (byt key 1 : Nat), .int .u8 (byt key 0 : Nat)] 5) hb2
    generalize g0.upd b2 (.cells #[.int .u8 (byt key 3 : Nat), .int .u8 (byt key 2 : Nat), .int .u8 (byt key 1 : Nat), .int .u8 (byt key 0 : Nat)] 5) = g1 at *
    simp (disch := omega) [l2 _ _ hbb]
    refine ⟨?_, ?_⟩
    · intro b1 hb1
      have l1 := Le.new (o := .cells #[.int .u8 (k0 : Nat), .int .u8 0, .int .u8 0, .int .u8 0] 5) hb1
      simp (disch := omega) [ne_new (l2 _ _ hbb) hb1, l2 _ _ hbb]
      refine put32_spec h2 (fun b3 hb3 => ?_)
      have l3 := Le.new (o := .cells #[.int .u8 (byt n 3 : Nat), .int .u8 (byt n 2 : Nat), .int .u8 (byt n 1 : Nat), .int .u8 (byt n 0 : Nat)] 5) hb3
      exact jfin ((l2.trans l1).trans l3) (l3 _ _ (by simp)) (l3 _ _ (l1 _ _ f2)) (by simp) hQ'
    · refine put32_spec h2 (fun b3 hb3 => ?_)
      have f3 : (g1.upd b3 (.cells #[.int .u8 (byt n 3 : Nat), .int .u8 (byt n 2 : Nat), .int .u8 (byt n 1 : Nat), .int .u8 (byt n 0 : Nat)] 5)) b3 = some (.cells #[.int .u8 (byt n 3 : Nat), .int .u8 (byt n 2 : Nat), .int .u8 (byt n 1 : Nat), .int .u8 (byt n 0 : Nat)] 5) := by simp
      have l3 := Le.new (o := .cells #[.int .u8 (byt n 3 : Nat), .int .u8 (byt n 2 : Nat), .int .u8 (byt n 1 : Nat), .int .u8 (byt n 0 : Nat)] 5) hb3
      generalize g1.upd b3 (.cells #[.int .u8 (byt n 3 : Nat), .int .u8 (byt n 2 : Nat), .int .u8 (byt n 1 : Nat), .int .u8 (byt n 0 : Nat)] 5) = g3 at *
      simp (disch := omega) [l3 _ _ (l2 _ _ hbb)]
      intro b1 hb1
      have l1 := Le.new (o := .cells #[.int .u8 (k0 : Nat), .int .u8 0, .int .u8 0, .int .u8 0] 5) hb1
      have J := jfin (b1 := b1) ((l2.trans l3).trans l1) (by simp) (l1 _ _ (l3 _ _ f2)) (l1 _ _ f3) hQ'
      rw [bs_74_3_0_1_2] at J
      exact J
end Go.Proofs.Ytjcecdjbllpmcaa

/- The journal's map: its keys. -/
namespace Go.Proofs.Ytjcecdjbllpmcaa
open Go
set_option linter.unusedVariables false
set_option linter.unusedSimpArgs false

def nke (p : Int × Nat) : Value := .agg #[.int .i64 p.1, .int .u32 (p.2 : Nat)]
def nve (v : Nat) : Value := .int .u32 (v : Nat)

theorem ck_55 {h : Hp} {e : Bool} {p : Int × Nat} : rrun Try.prog (Instr.checkKey e 10000 55 (nke p)) h = some () := by kernel_rfl
theorem sb_55 {p : Int × Nat} : Instr.sameBits 10000 (nke p) (nke p) = true := by
  simp [nke, Instr.sameBits]

theorem eq_55 {h : Hp} {p q : Int × Nat} : rrun Try.prog (Op.equal 55 (nke p) (nke q)) h = some (decide (p.1 = q.1) && (decide ((p.2 : Int) = (q.2 : Int)) && true)) := by
  have e : Op.equal 55 (nke p) (nke q) = Op.equalIn (9999 + 1) 55 (nke p) (nke q) := rfl
  rw [e]
  unfold nke
  rw [rr_equalIn_struct Try.underlying55 (by kernel_rfl)]
  exact rr_eqf_cons (a := Value.int .i64 p.1) (b := Value.int .i64 q.1) (by rfl) (by kernel_rfl) (by kernel_rfl) (by kernel_rfl) (rr_eqf_cons (a := Value.int .u32 (p.2 : Nat)) (b := Value.int .u32 (q.2 : Nat)) (by rfl) (by kernel_rfl) (by kernel_rfl) (by kernel_rfl) rr_eqf_nil)

theorem eq_55' {h : Hp} {p q : Int × Nat} : rrun Try.prog (Op.equal 55 (nke p) (nke q)) h = some (decide (p = q)) := by
  rw [eq_55]
  congr 1
  rw [Bool.eq_iff_iff]
  simp only [Bool.and_true, Bool.and_eq_true, decide_eq_true_eq, Prod.ext_iff]
  omega

theorem fk_55 {h : Hp} {p : Int × Nat} {m : List ((Int × Nat) × Nat)} {es : List MapEntry} (H : Ents nke nve es m) : rrun Try.prog (Instr.findKey 55 (nke p) es) h = some ((findM p m 0).map fun x => (x.1, nve x.2)) :=
  rr_findKey_struct Try.underlying55 (fun q => eq_55') H
end Go.Proofs.Ytjcecdjbllpmcaa

/- Rules that keep simp out of what is done behind an operation that it can't work off: to be imported by texts that want it. -/
namespace Go.Proofs.Ytjcecdjbllpmcaa
open Go

section
variable {P : Program} {h : Hp}
@[congr] theorem rdv_stop {o o' : Option Value} {k : Value → Prop} {r : Unit → Prop} (e : o = o') (_t : ∀ u : Unit, (True ∧ True) = r u) : rdv o k = rdv o' k := by rw [e]
@[congr] theorem rd_stop {s s' : Sem Value} {k : Value → Prop} {r : Unit → Prop} (e : s = s') (_t : ∀ u : Unit, (True ∧ True) = r u) : rd P s h k = rd P s' h k := by rw [e]
@[congr] theorem arun_stop {α : Type} {s s' : Sem α} {k : α → Hp → Prop} {r : Unit → Prop} (e : s = s') (_t : ∀ u : Unit, (True ∧ True) = r u) : arun P s h k = arun P s' h k := by rw [e]
@[congr] theorem Ok_stop {f : Nat} {a a' : Array Value} {k : Value → Hp → Prop} {r : Unit → Prop} (e : a = a') (_t : ∀ u : Unit, (True ∧ True) = r u) : Ok P f a h k = Ok P f a' h k := by rw [e]
@[congr] theorem callV_stop {v v' : Value} {a a' : Array Value} {k : Value → Hp → Prop} {r : Unit → Prop} (e0 : v = v') (e : a = a') (_t : ∀ u : Unit, (True ∧ True) = r u) : callV P v a h k = callV P v' a' h k := by rw [e0, e]
@[congr] theorem nck_stop {x x' : Value} {q : Prop} {r : Unit → Prop} (e : x = x') (_t : ∀ u : Unit, (True ∧ True) = r u) : nck x q = nck x' q := by rw [e]
@[congr] theorem gd_stop {c c' : Bool} {ex : Hp → (Value → Hp → Prop) → Prop} {k : Value → Hp → Prop} {r : Unit → Prop} (e : c = c') (_t : ∀ u : Unit, (True ∧ True) = r u) : gd c ex h k = gd c' ex h k := by rw [e]
@[congr] theorem stw_stop {c c' : Option Value} {f f' : Bool} {q : Prop} {r : Unit → Prop} (e : c = c') (e2 : f = f') (_t : ∀ u : Unit, (True ∧ True) = r u) : stw c f q = stw c' f' q := by rw [e, e2]
@[congr] theorem brv_stop {v v' : Value} {x y : Prop} {r : Unit → Prop} (e : v = v') (_t : ∀ u : Unit, (True ∧ True) = r u) : brv v x y = brv v' x y := by rw [e]
@[congr] theorem stA_stop {h h' : Hp} {b o : Nat} {l l' : List Value} {k : Hp → Prop} {r : Unit → Prop} (e0 : h = h') (e : l = l') (_t : ∀ u : Unit, (True ∧ True) = r u) : stA h b o l k = stA h' b o l' k := by rw [e0, e]
end
end Go.Proofs.Ytjcecdjbllpmcaa

/- slices.SortFunc at structs: the kit's contract, turned to partial heaps. -/
namespace Go.Proofs.Ytjcecdjbllpmcaa
open Go
open Go.Sort (SWO PermIn SortedIn)
open Go.Shelf (Ren)
set_option linter.unusedSimpArgs false
set_option linter.unusedVariables false

/-- What a call from nowhere leaves: all that was, and more. -/
theorem Keep.grown {W w' : World} {h' : Hp} (K : Keep noHp W h' w') : ∃ q os', w' = Go.Sort.grow (W.drewN q) os' := by
  refine ⟨w'.drawn - W.drawn, w'.heap.extract W.heap.size w'.heap.size, ?_⟩
  obtain ⟨k1, k2, k3, k4, k5, _, k7⟩ := K
  unfold Go.Sort.grow World.drewN
  cases w' with
  | mk heap tape drawn os output =>
    simp only at k1 k2 k3 k4 k5 k7 ⊢
    subst k1 k2 k3
    congr 1
    · refine Array.ext_getElem? fun i => ?_
      rw [Array.getElem?_append]
      split
      · rename_i hi; exact k5 i hi rfl
      · rename_i hi
        rw [Array.getElem?_extract]
        split
        · congr 1; omega
        · rw [Array.getElem?_eq_none (by omega)]
    · omega

theorem sw_heap {α : Type} [Inhabited α] {enc : α → List Value} {k b n : Nat} {w : World} {d : Array α} {os : Array Obj} {i : Nat} (hi : i < w.heap.size) :
    (sortWorldK enc k w b 0 n d os).heap[i]? = if b = i then (w.heap[i]?).map (Go.Sort.onCells (Go.Sort.putCells id 0 (Go.Sort.flatK enc k d))) else w.heap[i]? := by
  unfold sortWorldK Go.Sort.grow Go.Sort.putRowK Go.Sort.putRow Go.Sort.mapBlock Go.Sort.ahead
  simp only []
  rw [Array.getElem?_append_left (by simpa using hi), Array.getElem?_modify]

theorem enc_flat {α : Type} [Inhabited α] {enc : α → List Value} {k : Nat} {c : Array Value} {d : Array α} (hk : ∀ x, (enc x).length = k) (hl : d.size * k ≤ c.size) : Enc (Go.Sort.putCells id 0 (Go.Sort.flatK enc k d) c) 0 k enc d.toList := by
  intro i x hx j hj
  have hi : i < d.size := by have := (List.getElem?_eq_some_iff.1 hx).1; simpa using this
  have hlt : i * k + j < d.size * k := by
    have : (i + 1) * k ≤ d.size * k := Nat.mul_le_mul_right _ hi
    rw [Nat.add_mul] at this; omega
  unfold Go.Sort.putCells
  rw [Array.getElem?_mapIdx, Nat.zero_add, Array.getElem?_eq_getElem (by omega), Option.map_some, if_pos ⟨by omega, by rw [Go.Sort.size_flatK]; omega⟩, Nat.sub_zero]
  rw [Go.Sort.get_flatK _ _ _ _ hlt]
  have e1 : (i * k + j) / k = i := (Go.Sort.blk_iff k i _ (by omega)).1 ⟨by omega, by omega⟩
  have e2 : (i * k + j) % k = j := by rw [Nat.mod_eq_sub_div_mul, e1]; omega
  rw [e1, e2]
  have hx' : d[i]! = x := by
    rw [getElem!_pos d i hi]
    have := (List.getElem?_eq_some_iff.1 hx).2
    simpa using this
  rw [hx']
  have hlj : j < (enc x).length := by rw [hk]; exact hj
  rw [List.getElem?_eq_getElem hlj, id, getElem!_pos _ j hlj]

theorem holds_of {α : Type} [Inhabited α] {enc : α → List Value} {k b E : Nat} {c : Array Value} {d : List α} {w : World} (hk : ∀ x, (enc x).length = k) (hb : w.heap[b]? = some (.cells c E (0, 0))) (hl : d.length * k ≤ c.size) (henc : Enc c 0 k enc d) :
    Go.Sort.HoldsK enc k w b 0 d.toArray := by
  intro t ht
  rw [Go.Sort.size_flatK] at ht
  have ht' : t < d.length * k := by simpa using ht
  have k0 : 0 < k := by rcases Nat.eq_zero_or_pos k with h | h
                        · subst h; simp at ht'
                        · exact h
  have hi : t / k < d.length := by rw [Nat.div_lt_iff_lt_mul k0]; exact ht'
  have hj : t % k < k := Nat.mod_lt _ k0
  have e : t / k * k + t % k = t := by rw [Nat.mul_comm]; exact Nat.div_add_mod t k
  constructor
  · rw [Go.Sort.get_flatK _ _ _ _ ht]
    have := henc (t / k) (d[t / k]'hi) (List.getElem?_eq_getElem hi) (t % k) hj
    have hlj : t % k < (enc (d[t / k]'hi)).length := by rw [hk]; exact hj
    rw [Nat.zero_add, e, List.getElem?_eq_getElem hlj] at this
    unfold World.cell?
    simp only [hb]
    rw [Nat.zero_add]
    simp only [Option.isSome_none, Bool.false_eq_true, if_false]
    rw [this]
    have e9 : (d.toArray)[t / k]! = d[t / k]'hi := by rw [getElem!_pos _ _ (by simpa using hi)]; simp
    rw [e9, id, getElem!_pos (enc (d[t / k]'hi)) _ hlj]
  · unfold World.frozen?
    simp only [hb]
    simp

theorem ok_sortFunc {P : Program} {ρ : Ren} {α : Type} [Inhabited α] (L : SlLaysF0.n6 P ρ) {k : Nat} (aE : ∀ w, (isAgg (ρ.t 24)).run P w = .ok true w) (zE : ∀ w, (Go.sizeOf (ρ.t 24)).run P w = .ok k w)
    {enc : α → List Value} (hk : ∀ x, (enc x).length = k) (h1 : ∀ x, ∀ v ∈ enc x, v.oneCell' = true) {cf : α → α → Int} (hO : SWO (ltOf cf)) {g : Nat} {cb : Array Value}
    (eg : ∀ args w, (callFunc g args).run P w = .ok (.enter g args) w)
    (hcmp : ∀ x y, Ok P g (#[.agg (enc x).toArray, .agg (enc y).toArray] ++ cb) noHp (fun v _ => v = .int .i64 (cf x y)))
    (f6 : ∃ fn c, P.funcs[ρ.f 6]? = some fn ∧ fn.body = some c)
    {E : Nat} {h : Hp} {b cap : Nat} {c : Array Value} {d : List α} (hb : h b = some (.cells c E (0, 0))) (hl : d.length * k ≤ c.size) (henc : Enc c 0 k enc d) (hsz : d.length < 4611686018427387904) {Q : Value → Hp → Prop}
    (hQ : ∀ (d' : List α) (c' : Array Value), d'.Perm d → List.Pairwise (fun x y => ltOf cf y x = false) d' → c'.size = c.size → Enc c' 0 k enc d' → Q (.tuple #[]) (h.upd b (.cells c' E (0, 0)))) :
    Ok P (ρ.f 6) #[.slice (some ⟨b, 0, none⟩) d.length cap, .func (.func g) #[] cb] h Q := by
  refine ⟨f6, fun w V => ?_⟩
  have hbw := V b _ hb
  have hblk : b < w.heap.size := (Array.getElem?_eq_some_iff.1 hbw).1
  have hC : CmpLays P g cb enc k cf b 0 d.toArray.size w := fun m os dk hs x y =>
    ((hcmp x y).2 _ (fun b o e => by cases e)).mono fun e w' ⟨v, h', he, _, K, hv⟩ => ⟨by rw [he, hv], K.grown⟩
  have hs := AnyQ.slices_SortFunc L k aE zE enc hk h1 cf hO g cb b 0 cap d.toArray w eg hC (holds_of hk hbw hl henc) hblk (by simpa using hsz)
  rw [show d.toArray.size = d.length by simp] at hs
  refine hs.mono ?_
  rintro e w' ⟨rfl, d', n, os, hp, hsr, rfl⟩
  obtain ⟨hp1, _, hp3⟩ := hp
  have hds : d'.size = d.length := by simpa using hp1
  have hperm : d'.toList.Perm d := by
    have e1 : d'.extract 0 d.length = d' := by rw [← hds]; exact Array.extract_size
    have e2 : d.toArray.extract 0 d.length = d.toArray := by
      have : d.length = d.toArray.size := by simp
      rw [this]; exact Array.extract_size
    rw [e1, e2] at hp3
    exact hp3
  have hpw : List.Pairwise (fun x y => ltOf cf y x = false) d'.toList := by
    rw [List.pairwise_iff_getElem]
    intro i j hi hj hij
    have hi' : i < d'.size := by simpa using hi
    have hj' : j < d'.size := by simpa using hj
    have := hsr i j (Nat.zero_le _) hij (by omega)
    rw [getElem!_pos d' i hi', getElem!_pos d' j hj'] at this
    simpa using this
  have hcs : (Go.Sort.putCells id 0 (Go.Sort.flatK enc k d') c).size = c.size := by unfold Go.Sort.putCells; simp
  refine ⟨_, h.upd b (.cells (Go.Sort.putCells id 0 (Go.Sort.flatK enc k d') c) E (0, 0)), rfl, ?_, ?_, hQ _ _ hperm hpw hcs (enc_flat hk (by rw [hds]; exact hl))⟩
  · intro x o hx
    unfold Hp.upd at hx
    split at hx
    · rename_i e; subst e; cases hx
      rw [sw_heap hblk, if_pos rfl, hbw]; rfl
    · rename_i ne
      have hw := V x o hx
      rw [sw_heap (Array.getElem?_eq_some_iff.1 hw).1, if_neg (fun e => ne e.symm)]; exact hw
  · refine ⟨rfl, rfl, rfl, ?_, fun i hi hn => ?_, fun i hi hn => ?_, ?_⟩
    · unfold sortWorldK Go.Sort.putRowK
      rw [Go.Sort.size_grow, Go.Sort.size_putRow]
      exact Nat.le_add_right _ _
    · rw [sw_heap hi, if_neg (by rintro rfl; rw [hb] at hn; cases hn)]
    · unfold Hp.upd; rw [if_neg (by rintro rfl; rw [hb] at hn; cases hn)]; exact hn
    · show w.drawn ≤ w.drawn + n; omega
end Go.Proofs.Ytjcecdjbllpmcaa

/- cmp.Compare and cmp.Or at ints. -/
namespace Go.Proofs.Ytjcecdjbllpmcaa
open Go
set_option linter.unusedSimpArgs false
set_option linter.unusedVariables false

def cmpI (a b : Int) : Int := if a < b then -1 else if b < a then 1 else 0
def orI : List Int → Int
  | [] => 0
  | x :: xs => if x = 0 then orI xs else x

theorem compare_spec {a b : Int} {h : Hp} {Q : Value → Hp → Prop} (hQ : Q (.int .i64 (cmpI a b)) h) : Ok Try.prog F_cmp_Compare_int #[.int .i64 a, .int .i64 b] h Q := by
  have nan : ∀ {a : Int} {h : Hp} {Q : Value → Hp → Prop}, Q (.bool false) h → Ok Try.prog F_cmp_isNaN_int #[.int .i64 a] h Q := by
    intro a h Q hQ
    refine cmp_isNaN_int_ok (by simp) ?_
    unfold cmp_isNaN_int_D
    simp (disch := omega) [cmp_isNaN_int_r0, cmp_isNaN_int_r1]
    exact .to _ (.refl _) hQ
  refine cmp_Compare_int_ok (by simp) ?_
  unfold cmp_Compare_int_D
  simp (disch := omega) [cmp_Compare_int_r0, cmp_Compare_int_r1]
  refine nan ?_
  simp (disch := omega) [cmp_Compare_int_r2]
  refine nan ?_
  unfold cmpI at hQ
  by_cases h1 : a < b
  · simp (disch := omega) [cmp_Compare_int_r3, cmp_Compare_int_r7, cmp_Compare_int_r9, cmp_Compare_int_r10, h1]
    rw [if_pos h1] at hQ
    exact .to _ (.refl _) hQ
  · by_cases h2 : b < a
    · simp (disch := omega) [cmp_Compare_int_r3, cmp_Compare_int_r7, cmp_Compare_int_r9, cmp_Compare_int_r11, cmp_Compare_int_r12, h1, h2]
      rw [if_neg h1, if_pos h2] at hQ
      exact .to _ (.refl _) hQ
    · simp (disch := omega) [cmp_Compare_int_r3, cmp_Compare_int_r7, cmp_Compare_int_r9, cmp_Compare_int_r11, cmp_Compare_int_r13, h1, h2]
      rw [if_neg h1, if_neg h2] at hQ
      exact .to _ (.refl _) hQ

def OrInv (h0 : Hp) (b n cap : Nat) (l : List Int) (m : Nat) (env : Env) (g : Hp) : Prop :=
  g = h0 ∧ ∃ i : Nat, env 3 = .int .i64 0 ∧ env 6 = .slice (some ⟨b, 0, none⟩) n cap ∧ env 7 = .int .i64 (n : Nat) ∧ env 8 = .int .i64 (i : Nat) ∧ i + m = n ∧ orI (l.drop i) = orI l

theorem orI_drop {l : List Int} {i : Nat} {x : Int} (h : l[i]? = some x) : orI (l.drop i) = if x = 0 then orI (l.drop (i + 1)) else x := by
  have hi := (List.getElem?_eq_some_iff.1 h).1
  have e := (List.getElem?_eq_some_iff.1 h).2
  rw [List.drop_eq_getElem_cons hi, e]; rfl

theorem or_spec {b cap : Nat} {c : Array Value} {E : TypeId} {fr : Nat × Nat} {l : List Int} {h : Hp} {Q : Value → Hp → Prop} (hb : h b = some (.cells c E fr)) (hl : ∀ (i : Nat) (x : Int), l[i]? = some x → c[i]? = some (Value.int .i64 x)) (hn : l.length ≤ 1000)
    (hQ : Q (.int .i64 (orI l)) h) : Ok Try.prog F_cmp_Or_int #[.slice (some ⟨b, 0, none⟩) l.length cap] h Q := by
  refine cmp_Or_int_ok (by simp) ?_
  unfold cmp_Or_int_D
  simp (disch := omega) [cmp_Or_int_r0, cmp_Or_int_r1, cmp_Or_int_r2]
  refine ⟨OrInv h b l.length cap l, ⟨l.length, rfl, 0, by simp, by simp, by simp, by simp, by omega, by simp⟩, ?_⟩
  rintro m env g ⟨rfl, i, e3, e6, e7, e8, him, ho⟩
  unfold cmp_Or_int_L0
  by_cases hm : m = 0
  · have : i = l.length := by omega
    subst this
    simp (disch := omega) [cmp_Or_int_r3, cmp_Or_int_r8, e3, e6, e7, e8]
    rw [List.drop_length] at ho
    rw [← ho] at hQ
    exact .to _ (.refl _) hQ
  · obtain ⟨x, hx⟩ : ∃ x, l[i]? = some x := ⟨_, List.getElem?_eq_getElem (by omega)⟩
    have hc := hl i x hx
    have hi : i < l.length := by omega
    have hi' : (i : Int) < (l.length : Int) := by omega
    rw [orI_drop hx] at ho
    by_cases hx0 : x = 0
    · subst hx0
      simp (disch := omega) [cmp_Or_int_r3, cmp_Or_int_r4, cmp_Or_int_r5, cmp_Or_int_r7, e3, e6, e7, e8, hi, hi', hb, hc, wrap_i64]
      exact ⟨m - 1, by omega, rfl, i + 1, by simp [e3], by simp [e6], by simp [e7], by simp, by omega, by simpa using ho⟩
    · simp (disch := omega) [cmp_Or_int_r3, cmp_Or_int_r4, cmp_Or_int_r5, cmp_Or_int_r6, e3, e6, e7, e8, hi, hi', hb, hc, hx0]
      rw [if_neg hx0] at ho
      rw [← ho] at hQ
      exact .to _ (.refl _) hQ
end Go.Proofs.Ytjcecdjbllpmcaa

/- Maps with integer keys; a range over a map, whatever order is drawn. -/
namespace Go.Proofs.Ytjcecdjbllpmcaa
open Go
set_option linter.unusedSimpArgs false
set_option linter.unusedVariables false

section
variable {P : Program} {h : Hp} {α β : Type} [DecidableEq α] {kenc : α → Value} {venc : β → Value}

theorem findNow_int {kd kd' : IntKind} {f : α → Int} (hf : ∀ x y, f x = f y → x = y) {a : α} : ∀ {es : List MapEntry} {m : List (α × β)} (i : Nat), Ents (fun x => .int kd (f x)) venc es m →
    Instr.findNow (.int kd') (.int kd (f a)) es i = some ((findM a m i).map fun x => (x.1, venc x.2)) := by
  intro es m i H
  induction H generalizing i with
  | nil => rfl
  | @cons e es k v m h1 h2 _ ih =>
    unfold Instr.findNow
    have hs : Instr.sameNow (.int kd') (.int kd (f a)) e.key = some (f a == f k) := by
      rw [h1]; simp [Instr.sameNow]
    rw [hs]
    by_cases hak : a = k
    · subst hak; simp [findM, h2]
    · have : (f a == f k) = false := by simp; exact fun e => hak (hf _ _ e)
      rw [this]
      simp only [findM, if_neg hak]
      exact ih _

theorem rr_findKey_int {kt : TypeId} {kd kd' : IntKind} {f : α → Int} (hf : ∀ x y, f x = f y → x = y) {a : α} (hu : P.underlying kt = some (.int kd')) {es : List MapEntry} {m : List (α × β)} (H : Ents (fun x => .int kd (f x)) venc es m) :
    rrun P (Instr.findKey kt (.int kd (f a)) es) h = some ((findM a m 0).map fun x => (x.1, venc x.2)) := by
  unfold Instr.findKey
  rw [rrun_bnd, rr_underlying, hu, Option.bind_some, findNow_int hf 0 H]
  rfl

/-! ### When entries came -/
def BornOk (es : List MapEntry) (clock : Nat) : Prop := (es.map (·.born)).Nodup ∧ ∀ e ∈ es, e.born < clock

def MapB (h : Hp) (r : Nat) (kenc : α → Value) (venc : β → Value) (m : List (α × β)) : Prop := ∃ es clock, h r = some (.map es clock) ∧ Ents kenc venc es.toList m ∧ BornOk es.toList clock

omit [DecidableEq α] in
theorem MapB.at {r : Nat} {m : List (α × β)} (M : MapB h r kenc venc m) : MapAt h r kenc venc m := by
  obtain ⟨es, clock, h1, h2, _⟩ := M; exact ⟨es, clock, h1, h2⟩

omit [DecidableEq α] in
theorem MapB.keep {h' : Hp} {r : Nat} {m : List (α × β)} (M : MapB h r kenc venc m) (e : h' r = h r) : MapB h' r kenc venc m := by
  obtain ⟨es, clock, h1, h2, h3⟩ := M; exact ⟨es, clock, by rw [e]; exact h1, h2, h3⟩

omit [DecidableEq α] in
theorem MapB.le {h' : Hp} {r : Nat} {m : List (α × β)} (M : MapB h r kenc venc m) (e : Le h h') : MapB h' r kenc venc m := by
  obtain ⟨es, clock, h1, h2, h3⟩ := M; exact ⟨es, clock, e _ _ h1, h2, h3⟩

omit [DecidableEq α] in
theorem MapB.alive {r : Nat} {m : List (α × β)} (M : MapB h r kenc venc m) : ∃ o, h r = some o := by
  obtain ⟨es, clock, h1, _⟩ := M; exact ⟨_, h1⟩

theorem BornOk.push {es : List MapEntry} {c : Nat} (B : BornOk es c) {k v : Value} : BornOk (es ++ [{ key := k, val := v, born := c }]) (c + 1) := by
  refine ⟨?_, fun e he => ?_⟩
  · rw [List.map_append, List.nodup_append]
    refine ⟨B.1, by simp, fun x hx y hy => ?_⟩
    obtain ⟨e, he, rfl⟩ := List.mem_map.1 hx
    simp at hy; subst hy
    exact Nat.ne_of_lt (B.2 e he)
  · rcases List.mem_append.1 he with q | q
    · exact Nat.lt_succ_of_lt (B.2 e q)
    · simp at q; subst q; exact Nat.lt_succ_self _

theorem map_modify_same {γ δ : Type} (g : γ → δ) (f : γ → γ) (hg : ∀ x, g (f x) = g x) : ∀ (l : List γ) (j : Nat), (l.modify j f).map g = l.map g
  | [], j => by simp
  | x :: xs, 0 => by simp [hg]
  | x :: xs, j + 1 => by simp [map_modify_same g f hg xs j]

theorem BornOk.modify {es : List MapEntry} {c j : Nat} (B : BornOk es c) {f : MapEntry → MapEntry} (hf : ∀ e, (f e).born = e.born) : BornOk (es.modify j f) c := by
  have e := map_modify_same (·.born) f hf es j
  refine ⟨by rw [e]; exact B.1, fun x hx => ?_⟩
  have : x.born ∈ (es.modify j f).map (·.born) := List.mem_map_of_mem hx
  rw [e] at this
  obtain ⟨y, hy, q⟩ := List.mem_map.1 this
  rw [← q]; exact B.2 y hy

theorem BornOk.sub {es es' : List MapEntry} {c : Nat} (B : BornOk es c) (s : List.Sublist es' es) : BornOk es' c :=
  ⟨List.Sublist.nodup (s.map _) B.1, fun e he => B.2 e (s.subset he)⟩

theorem arun_mapUpdateB {t kt et : TypeId} {r : Nat} {a : α} {v : β} {m : List (α × β)} {K : Unit → Hp → Prop} (hu : P.underlying t = some (.map kt et)) (M : MapB h r kenc venc m) (hck : ∀ e, rrun P (Instr.checkKey e 10000 kt (kenc a)) h = some ())
    (hfk : ∀ es : List MapEntry, Ents kenc venc es m → rrun P (Instr.findKey kt (kenc a) es) h = some ((findM a m 0).map fun x => (x.1, venc x.2))) (hsb : Instr.sameBits 10000 (kenc a) (kenc a) = true)
    (hK : ∀ es clock, MapB (h.upd r (.map es clock)) r kenc venc (setM a v m) → K () (h.upd r (.map es clock))) :
    arun P (Instr.mapUpdate t (.map (some r)) (kenc a) (venc v)) h K := by
  obtain ⟨es, clock, hr, hE, hB⟩ := M
  unfold Instr.mapUpdate
  rw [arun_bnd_rr (a := .map kt et) (by rw [rr_underlying, hu])]
  simp only []
  rw [arun_bnd_rr (a := .map es clock) (rr_getObj hr)]
  simp only []
  rw [arun_bnd_rr (a := ()) (hck _), arun_bnd_rr (hfk _ hE)]
  have set : ∀ o, K () (h.upd r o) → arun P (setObj r o) h K := fun o hk => ⟨⟨_, hr, rfl⟩, hk⟩
  have kk : ∀ es clock, Ents kenc venc es.toList (setM a v m) → BornOk es.toList clock → K () (h.upd r (.map es clock)) := fun es clock q1 q2 =>
    hK es clock ⟨es, clock, upd_same, q1, q2⟩
  cases hf : findM a m 0 with
  | none =>
    simp only [Option.map_none]
    refine set _ (kk _ _ ?_ ?_)
    · rw [Array.toList_push]; exact hE.push hf
    · rw [Array.toList_push]; exact hB.push
  | some x =>
    obtain ⟨j, v0⟩ := x
    simp only [Option.map_some]
    obtain ⟨e, he, hke, _⟩ := hE.get (i := j) (x := (a, v0)) (by have := (findM_some hf).2; simpa using this)
    have hes : es[j]? = some e := by simpa using he
    have hks : rrun P (Instr.keyThatStays (((es[j]?).map (·.key)).getD (kenc a)) (kenc a)) h = some (kenc a) := by
      rw [hes]
      unfold Instr.keyThatStays
      simp only [Option.map_some, Option.getD_some, hke, hsb, if_true]
      rfl
    rw [arun_bnd_rr hks]
    refine set _ (kk _ _ ?_ ?_)
    · rw [Array.toList_modify]; exact hE.modify hf
    · rw [Array.toList_modify]; exact hB.modify (fun _ => rfl)

theorem arun_mapDeleteB {t kt et R : TypeId} {ts : Array TypeId} {r : Nat} {a : α} {m : List (α × β)} {K : Value → Hp → Prop} (ht : ts[0]? = some t) (hu : P.underlying t = some (.map kt et)) (M : MapB h r kenc venc m)
    (hck : ∀ e, rrun P (Instr.checkKey e 10000 kt (kenc a)) h = some ())
    (hfk : ∀ es : List MapEntry, Ents kenc venc es m → rrun P (Instr.findKey kt (kenc a) es) h = some ((findM a m 0).map fun x => (x.1, venc x.2)))
    (hK : ∀ es clock, MapB (h.upd r (.map es clock)) r kenc venc (delM a m) → K (.tuple #[]) (h.upd r (.map es clock))) :
    arun P (Builtin.delete_ ts R #[.map (some r), kenc a]) h K := by
  obtain ⟨es, clock, hr, hE, hB⟩ := M
  have set : ∀ o, K (.tuple #[]) (h.upd r o) → arun P (setObj r o >>= fun _ => pure (Value.tuple #[])) h K := fun o hk => ⟨⟨_, hr, rfl⟩, hk⟩
  have kk : ∀ es clock, Ents kenc venc es.toList (delM a m) → BornOk es.toList clock → K (.tuple #[]) (h.upd r (.map es clock)) := fun es clock q1 q2 =>
    hK es clock ⟨es, clock, upd_same, q1, q2⟩
  unfold Builtin.delete_
  rw [ht]
  simp only [List.getElem?_toArray, List.getElem?_cons_zero, List.getElem?_cons_succ]
  rw [arun_bnd_rr (a := .map kt et) (by rw [rr_underlying, hu])]
  simp only [bind_assoc, pure_bind]
  rw [arun_bnd_rr (a := .map es clock) (rr_getObj hr)]
  simp only []
  rw [arun_bnd_rr (a := ()) (hck _), arun_bnd_rr (hfk _ hE)]
  cases hf : findM a m 0 with
  | none =>
    simp only [Option.map_none]
    have : delM a m = m := delM_none (by unfold getM; rw [hf]; rfl)
    exact set _ (kk _ _ (by rw [this]; exact hE) hB)
  | some x =>
    obtain ⟨j, v⟩ := x
    simp only [Option.map_some]
    refine set _ (kk _ _ ?_ ?_)
    · rw [Array.toList_eraseIdxIfInBounds]; exact hE.erase hf
    · rw [Array.toList_eraseIdxIfInBounds]; exact hB.sub (List.eraseIdx_sublist _ _)

omit [DecidableEq α] in
theorem arun_makeMapB {t : TypeId} {K : Value → Hp → Prop} (hK : ∀ b, h b = none → MapB (h.upd b (.map #[] 0)) b kenc venc [] → K (.map (some b)) (h.upd b (.map #[] 0))) : arun P (Instr.makeMap t none) h K :=
  fun b hb => hK b hb ⟨#[], 0, upd_same, .nil, by simp [BornOk]⟩

/-! ### A range over a map -/
def seenOf (es : Array MapEntry) (is : List Nat) : Array Nat := (is.map fun i => ((es[i]?).map (·.born)).getD 0).toArray

/-- An iterator that has handed out these places, in this order. -/
def IterAt (h : Hp) (it r : Nat) (kenc : α → Value) (venc : β → Value) (m : List (α × β)) (is : List Nat) : Prop :=
  ∃ es clock, h r = some (.map es clock) ∧ h it = some (.mapIter (some r) clock (seenOf es is) clock) ∧ Ents kenc venc es.toList m ∧ BornOk es.toList clock ∧ is.Nodup ∧ ∀ i ∈ is, i < m.length

omit [DecidableEq α] in
theorem IterAt.keep {h' : Hp} {it r : Nat} {m : List (α × β)} {is : List Nat} (I : IterAt h it r kenc venc m is) (e1 : h' r = h r) (e2 : h' it = h it) : IterAt h' it r kenc venc m is := by
  obtain ⟨es, clock, h1, h2, h3⟩ := I; exact ⟨es, clock, by rw [e1]; exact h1, by rw [e2]; exact h2, h3⟩

omit [DecidableEq α] in
theorem IterAt.le {h' : Hp} {it r : Nat} {m : List (α × β)} {is : List Nat} (I : IterAt h it r kenc venc m is) (l : Le h h') : IterAt h' it r kenc venc m is := by
  obtain ⟨es, clock, h1, h2, h3⟩ := I; exact ⟨es, clock, l _ _ h1, l _ _ h2, h3⟩

omit [DecidableEq α] in
theorem IterAt.map {it r : Nat} {m : List (α × β)} {is : List Nat} (I : IterAt h it r kenc venc m is) : MapB h r kenc venc m := by
  obtain ⟨es, clock, h1, h2, h3, h4, _⟩ := I; exact ⟨es, clock, h1, h3, h4⟩

omit [DecidableEq α] in
theorem IterAt.ne {it r : Nat} {m : List (α × β)} {is : List Nat} (I : IterAt h it r kenc venc m is) : it ≠ r := by
  obtain ⟨es, clock, h1, h2, _⟩ := I
  rintro rfl; rw [h1] at h2; cases h2

omit [DecidableEq α] in
theorem arun_range {t kt et : TypeId} {r : Nat} {m : List (α × β)} {K : Value → Hp → Prop} (hu : P.underlying t = some (.map kt et)) (M : MapB h r kenc venc m)
    (hK : ∀ b o, h b = none → IterAt (h.upd b o) b r kenc venc m [] → K (.pointer (some ⟨b, 0, none⟩)) (h.upd b o)) : arun P (Instr.range t (.map (some r))) h K := by
  obtain ⟨es, clock, hr, hE, hB⟩ := M
  unfold Instr.range
  rw [arun_bnd_rr (a := .map kt et) (by rw [rr_underlying, hu])]
  simp only [bind_assoc, pure_bind]
  rw [arun_bnd_rr (a := .map es clock) (rr_getObj hr)]
  simp only [pure_bind]
  intro b hb
  refine hK b _ hb ⟨es, clock, ?_, upd_same, hE, hB, by simp, by simp⟩
  rw [upd_ne (by rintro rfl; rw [hr] at hb; cases hb)]; exact hr

omit [DecidableEq α] in
theorem born_inj {es : Array MapEntry} {c : Nat} (B : BornOk es.toList c) {i j : Nat} {e e' : MapEntry} (hi : es[i]? = some e) (hj : es[j]? = some e') (q : e.born = e'.born) : i = j := by
  have h1 : (es.toList.map (·.born))[i]? = some e.born := by rw [List.getElem?_map]; simp [hi]
  have h2 : (es.toList.map (·.born))[j]? = some e.born := by rw [List.getElem?_map]; simp [hj, q]
  exact (List.getElem?_inj (List.getElem?_eq_some_iff.1 h1).1 B.1).1 (by rw [h1, h2])

omit [DecidableEq α] in
theorem mem_seen {es : Array MapEntry} {c : Nat} (B : BornOk es.toList c) {is : List Nat} (hl : ∀ i ∈ is, i < es.size) {i : Nat} {e : MapEntry} (hi : es[i]? = some e) : (seenOf es is).contains e.born = decide (i ∈ is) := by
  rw [Bool.eq_iff_iff, decide_eq_true_eq, Array.contains_iff_mem]
  unfold seenOf
  rw [List.mem_toArray, List.mem_map]
  constructor
  · rintro ⟨j, hj, q⟩
    have hj' : es[j]? = some (es[j]'(hl j hj)) := Array.getElem?_eq_getElem (hl j hj)
    rw [hj', Option.map_some, Option.getD_some] at q
    rw [← born_inj B hj' hi q]; exact hj
  · intro hm; exact ⟨i, hm, by rw [hi]; rfl⟩

theorem seenOf_push {es : Array MapEntry} {is : List Nat} {i : Nat} {e : MapEntry} (hi : es[i]? = some e) : (seenOf es is).push e.born = seenOf es (is ++ [i]) := by
  unfold seenOf; simp [hi]

omit [DecidableEq α] in
theorem arun_next {it r : Nat} {m : List (α × β)} {is : List Nat} {ty : TypeId} {K : Value → Hp → Prop} (I : IterAt h it r kenc venc m is) (hend : (∀ i, i < m.length → i ∈ is) → K (.tuple #[.bool false]) h)
    (hstep : ∀ i x o, m[i]? = some x → i ∉ is → IterAt (h.upd it o) it r kenc venc m (is ++ [i]) → K (.tuple #[.bool true, kenc x.1, venc x.2]) (h.upd it o)) :
    arun P (Instr.next (.pointer (some ⟨it, 0, none⟩)) false ty) h K := by
  have hne := I.ne
  obtain ⟨es, clock, hr, hi, hE, hB, hN, hl⟩ := I
  have hlen : es.size = m.length := by have := hE.length_eq; rwa [Array.length_toList] at this
  have hgi : rrun P (getObj it) h = some (.mapIter (some r) clock (seenOf es is) clock) := by unfold getObj; simp only [rrun, hi, isRow]
  unfold Instr.next
  simp only []
  rw [arun_bnd_rr hgi]
  simp only []
  rw [arun_bnd_rr (a := .map es clock) (rr_getObj hr)]
  simp only []
  have hall : (!(seenOf es is).isEmpty && !es.isEmpty && es.all (fun x => decide (x.born ≥ clock))) = false := by
    by_cases h0 : es.size = 0
    · have : es = #[] := Array.eq_empty_of_size_eq_zero h0
      subst this; simp
    · have : es.all (fun x => decide (x.born ≥ clock)) = false := by
        rw [Array.all_eq_false]
        refine ⟨0, by omega, ?_⟩
        have := hB.2 es[0] (by simp)
        simp; omega
      rw [this]; simp
  have hc0 : (!(seenOf es is).isEmpty && !es.isEmpty && es.all fun x => decide (x.born ≥ clock)) = false := hall
  rw [if_neg (by rw [hc0]; simp)]
  generalize hL : (es.filter fun e => !(seenOf es is).contains e.born) = L
  have hmemL : ∀ e ∈ L, e.born < clock := by
    intro e he; rw [← hL] at he; simp at he; exact hB.2 e (by simpa using he.1)
  have e1 : L.filter (fun x => decide (x.born < clock)) = L := Array.filter_eq_self.2 (fun x hx => by simpa using hmemL x hx)
  have e2 : L.filter (fun x => decide (x.born ≥ clock)) = #[] := by
    rw [Array.filter_eq_empty_iff]
    intro x hx
    have := hmemL x hx
    simp; omega
  simp only [e1, e2, Array.append_empty]
  by_cases h0 : L.size = 0
  · have hLe : L = #[] := Array.eq_empty_of_size_eq_zero h0
    subst hLe
    simp only [Array.isEmpty_empty, if_true, Array.map_empty, Array.append_empty]
    show arun P (.choose (.mapNext 1) _) h K
    unfold arun
    simp only [Question.forced, Nat.le_refl, decide_true, if_true]
    refine hend fun i hi => ?_
    have hi' : i < es.size := by omega
    have hei : es[i]? = some es[i] := Array.getElem?_eq_getElem hi'
    have := mem_seen hB (is := is) (fun j hj => by rw [hlen]; exact hl j hj) hei
    rw [Array.filter_eq_empty_iff] at hL
    have h2 := hL es[i] (by simp)
    rw [this] at h2
    simpa using h2
  · have hne' : L.isEmpty = false := by simp [Array.isEmpty, h0]
    have step : ∀ j, j < L.size → ∃ e, L[j]? = some e ∧ K (.tuple #[.bool true, e.key, e.val]) (h.upd it (.mapIter (some r) clock ((seenOf es is).push e.born) clock)) := by
      intro j hj
      refine ⟨L[j], Array.getElem?_eq_getElem hj, ?_⟩
      have hm : L[j] ∈ (es.filter fun e => !(seenOf es is).contains e.born) := by rw [hL]; exact Array.getElem_mem hj
      generalize L[j] = e at hm
      rw [Array.mem_filter] at hm
      obtain ⟨i, hi1, hi2⟩ := Array.mem_iff_getElem.1 hm.1
      have hei : es[i]? = some e := by rw [Array.getElem?_eq_getElem hi1, hi2]
      have hns : i ∉ is := by
        have h2 := hm.2
        rw [mem_seen hB (is := is) (fun j hj => by rw [hlen]; exact hl j hj) hei] at h2
        simpa using h2
      have hil : i < m.length := by omega
      obtain ⟨e', he', hk, hv⟩ := hE.get (i := i) (x := m[i]) (List.getElem?_eq_getElem hil)
      have : e' = e := by
        have : es[i]? = some e' := by simpa using he'
        rw [hei] at this; simpa using this.symm
      subst this
      rw [hk, hv]
      refine hstep i m[i] _ (List.getElem?_eq_getElem hil) hns ⟨es, clock, by rw [upd_ne hne.symm]; exact hr, by rw [upd_same, seenOf_push hei], hE, hB, ?_, ?_⟩
      · rw [List.nodup_append]; exact ⟨hN, by simp, fun x hx y hy => by simp at hy; subst hy; rintro rfl; exact hns hx⟩
      · intro j hj
        rcases List.mem_append.1 hj with q | q
        · exact hl j q
        · simp at q; subst q; exact hil
    simp only [hne', Bool.false_eq_true, if_false, Array.empty_append, Array.size_map]
    show arun P (.choose (.mapNext L.size) _) h K
    unfold arun
    have fin : ∀ j, j < L.size → arun P (match (L.map some)[j]? with
        | some (some e) => (do setObj it (.mapIter (some r) clock ((seenOf es is).push e.born) clock); pure (.tuple #[.bool true, e.key, e.val]))
        | some none => pure (.tuple #[.bool false])
        | none => stuck "Next: no such candidate") h K := by
      intro j hj
      obtain ⟨e, he, hk⟩ := step j hj
      rw [Array.getElem?_map, he, Option.map_some]
      exact ⟨⟨_, hi, rfl⟩, hk⟩
    by_cases hf : L.size ≤ 1
    · simp only [Question.forced, hf, decide_true, if_true]
      exact fin 0 (by omega)
    · simp only [Question.forced, hf, decide_false, Bool.false_eq_true, if_false]
      intro t
      exact fin _ (Nat.mod_lt _ (by omega))

omit [DecidableEq α] in
theorem arun_entry {it r : Nat} {m : List (α × β)} {is : List Nat} {i : Nat} {x : α × β} {K : Value → Hp → Prop} (I : IterAt h it r kenc venc m (is ++ [i])) (hx : m[i]? = some x) (hK : K (.tuple #[kenc x.1, venc x.2]) h) :
    arun P (Instr.entry (.pointer (some ⟨it, 0, none⟩))) h K := by
  obtain ⟨es, clock, hr, hi, hE, hB, hN, hl⟩ := I
  obtain ⟨e, he, hk, hv⟩ := hE.get hx
  have hei : es[i]? = some e := by simpa using he
  have hgi : rrun P (getObj it) h = some (.mapIter (some r) clock (seenOf es (is ++ [i])) clock) := by unfold getObj; simp only [rrun, hi, isRow]
  have hf : es.find? (·.born == e.born) = some e := by
    cases hq : es.find? (·.born == e.born) with
    | none =>
      rw [Array.find?_eq_none] at hq
      have := hq e (Array.mem_of_getElem? hei)
      simp at this
    | some e' =>
      have hb := Array.find?_some hq
      have hm := Array.mem_of_find?_eq_some hq
      obtain ⟨j, hj1, hj2⟩ := Array.mem_iff_getElem.1 hm
      have hej : es[j]? = some e' := by rw [Array.getElem?_eq_getElem hj1, hj2]
      have := born_inj hB hej hei (by simpa using hb)
      subst this
      rw [hej] at hei; exact hei
  unfold Instr.entry
  simp only []
  rw [arun_bnd_rr hgi]
  simp only []
  rw [← seenOf_push hei, Array.back?_push]
  simp only []
  rw [arun_bnd_rr (a := .map es clock) (rr_getObj hr)]
  simp only [bne_self_eq_false, Bool.false_eq_true, if_false, hf]
  rw [← hk, ← hv] at hK
  exact hK
end

/-! ### What has been visited -/
def vis {γ : Type} (m : List γ) (is : List Nat) : List γ := is.filterMap (m[·]?)

theorem vis_nil {γ : Type} (m : List γ) : vis m [] = [] := rfl
theorem vis_snoc {γ : Type} {m : List γ} {is : List Nat} {i : Nat} {x : γ} (h : m[i]? = some x) : vis m (is ++ [i]) = vis m is ++ [x] := by
  unfold vis; simp [h]

theorem vis_range {γ : Type} : ∀ (m : List γ), vis m (List.range m.length) = m
  | [] => rfl
  | x :: xs => by
    have := vis_range xs
    unfold vis at *
    rw [List.length_cons, List.range_succ_eq_map, List.filterMap_cons]
    simp only [List.getElem?_cons_zero, List.filterMap_map]
    congr 1

theorem vis_perm {γ : Type} {m : List γ} {is : List Nat} (hn : is.Nodup) (hl : ∀ i ∈ is, i < m.length) (ha : ∀ i, i < m.length → i ∈ is) : (vis m is).Perm m := by
  have h1 : is.Perm (List.range m.length) := (List.perm_ext_iff_of_nodup hn List.nodup_range).2 (fun i => by rw [List.mem_range]; exact ⟨hl i, ha i⟩)
  have h2 := h1.filterMap (m[·]?)
  have h3 := vis_range m
  unfold vis at *
  rw [h3] at h2; exact h2

theorem vis_sub {γ : Type} {m : List γ} {is : List Nat} : ∀ x ∈ vis m is, x ∈ m := by
  intro x hx
  unfold vis at hx
  obtain ⟨i, _, e⟩ := List.mem_filterMap.1 hx
  exact List.mem_of_getElem? e

theorem vis_length {γ : Type} {m : List γ} {is : List Nat} : (vis m is).length ≤ is.length := List.length_filterMap_le _ _

theorem IterAt.nodup {h : Hp} {α β : Type} {kenc : α → Value} {venc : β → Value} {it r : Nat} {m : List (α × β)} {is : List Nat} (I : IterAt h it r kenc venc m is) : is.Nodup ∧ ∀ i ∈ is, i < m.length := by
  obtain ⟨es, cl, _, _, _, _, h1, h2⟩ := I; exact ⟨h1, h2⟩

theorem nodup_bound {is : List Nat} {n : Nat} (hn : is.Nodup) (hl : ∀ i ∈ is, i < n) : is.length ≤ n := by
  have h1 := List.Nodup.length_le_of_subset hn (l₂ := List.range n) (fun i hi => List.mem_range.2 (hl i hi))
  simpa using h1

theorem IterAt.len {h : Hp} {α β : Type} {kenc : α → Value} {venc : β → Value} {it r : Nat} {m : List (α × β)} {is : List Nat} (I : IterAt h it r kenc venc m is) : is.length ≤ m.length := nodup_bound I.nodup.1 I.nodup.2
end Go.Proofs.Ytjcecdjbllpmcaa

/- A range over a map out of which entries may be taken, or whose values may be set anew, on the way. -/
namespace Go.Proofs.Ytjcecdjbllpmcaa
open Go
set_option linter.unusedSimpArgs false
set_option linter.unusedVariables false

section
variable {P : Program} {h : Hp} {α β : Type} [DecidableEq α] {kenc : α → Value} {venc : β → Value}

/-- What an iterator has seen, of the entries that are there, is what it has handed out. -/
def SeenOk (es : List MapEntry) (ks : List α) (seen : Array Nat) (V : List α) : Prop :=
  ∀ (i : Nat) (e : MapEntry) (k : α), es[i]? = some e → ks[i]? = some k → seen.contains e.born = decide (k ∈ V) ∧ (V.getLast? = some k → seen.back? = some e.born)

/-- An iterator that has handed out these keys, over a map that now holds these. -/
def IterS (h : Hp) (it r : Nat) (kenc : α → Value) (venc : β → Value) (m : List (α × β)) (V : List α) : Prop :=
  Uniq m ∧ ∃ (es : Array MapEntry) (clock : Nat) (seen : Array Nat), h r = some (.map es clock) ∧ h it = some (.mapIter (some r) clock seen clock) ∧ Ents kenc venc es.toList m ∧ BornOk es.toList clock ∧
    (∀ b ∈ seen, b < clock) ∧ SeenOk es.toList (m.map (·.1)) seen V

omit [DecidableEq α] in
theorem IterS.keep [DecidableEq α] {h' : Hp} {it r : Nat} {m : List (α × β)} {V : List α} (I : IterS h it r kenc venc m V) (e1 : h' r = h r) (e2 : h' it = h it) : IterS h' it r kenc venc m V := by
  obtain ⟨u, es, clock, seen, h1, h2, h3⟩ := I; exact ⟨u, es, clock, seen, by rw [e1]; exact h1, by rw [e2]; exact h2, h3⟩

theorem IterS.le {h' : Hp} {it r : Nat} {m : List (α × β)} {V : List α} (I : IterS h it r kenc venc m V) (l : Le h h') : IterS h' it r kenc venc m V := by
  obtain ⟨u, es, clock, seen, h1, h2, h3⟩ := I; exact ⟨u, es, clock, seen, l _ _ h1, l _ _ h2, h3⟩

theorem IterS.map {it r : Nat} {m : List (α × β)} {V : List α} (I : IterS h it r kenc venc m V) : MapB h r kenc venc m := by
  obtain ⟨u, es, clock, seen, h1, h2, h3, h4, _⟩ := I; exact ⟨es, clock, h1, h3, h4⟩

theorem IterS.ne {it r : Nat} {m : List (α × β)} {V : List α} (I : IterS h it r kenc venc m V) : it ≠ r := by
  obtain ⟨u, es, clock, seen, h1, h2, _⟩ := I
  rintro rfl; rw [h1] at h2; cases h2

theorem IterS.alive {it r : Nat} {m : List (α × β)} {V : List α} (I : IterS h it r kenc venc m V) : (∃ o, h r = some o) ∧ ∃ o, h it = some o := by
  obtain ⟨u, es, clock, seen, h1, h2, _⟩ := I; exact ⟨⟨_, h1⟩, ⟨_, h2⟩⟩

theorem arun_rangeS {t kt et : TypeId} {r : Nat} {m : List (α × β)} {K : Value → Hp → Prop} (hu : P.underlying t = some (.map kt et)) (M : MapB h r kenc venc m) (u : Uniq m)
    (hK : ∀ b o, h b = none → IterS (h.upd b o) b r kenc venc m [] → K (.pointer (some ⟨b, 0, none⟩)) (h.upd b o)) : arun P (Instr.range t (.map (some r))) h K := by
  obtain ⟨es, clock, hr, hE, hB⟩ := M
  unfold Instr.range
  rw [arun_bnd_rr (a := .map kt et) (by rw [rr_underlying, hu])]
  simp only [bind_assoc, pure_bind]
  rw [arun_bnd_rr (a := .map es clock) (rr_getObj hr)]
  simp only [pure_bind]
  intro b hb
  refine hK b _ hb ⟨u, es, clock, #[], ?_, upd_same, hE, hB, by simp, fun i e k he hk => by simp⟩
  rw [upd_ne (by rintro rfl; rw [hr] at hb; cases hb)]; exact hr

theorem arun_nextS {it r : Nat} {m : List (α × β)} {V : List α} {ty : TypeId} {K : Value → Hp → Prop} (I : IterS h it r kenc venc m V) (hend : (∀ x ∈ m, x.1 ∈ V) → K (.tuple #[.bool false]) h)
    (hstep : ∀ x o, x ∈ m → x.1 ∉ V → IterS (h.upd it o) it r kenc venc m (V ++ [x.1]) → K (.tuple #[.bool true, kenc x.1, venc x.2]) (h.upd it o)) :
    arun P (Instr.next (.pointer (some ⟨it, 0, none⟩)) false ty) h K := by
  have hne := I.ne
  obtain ⟨u, es, clock, seen, hr, hi, hE, hB, hL0, hS⟩ := I
  have hlen : es.size = m.length := by have := hE.length_eq; rwa [Array.length_toList] at this
  have hgi : rrun P (getObj it) h = some (.mapIter (some r) clock seen clock) := by unfold getObj; simp only [rrun, hi, isRow]
  unfold Instr.next
  simp only []
  rw [arun_bnd_rr hgi]
  simp only []
  rw [arun_bnd_rr (a := .map es clock) (rr_getObj hr)]
  simp only []
  have hc0 : (!seen.isEmpty && !es.isEmpty && es.all fun x => decide (x.born ≥ clock)) = false := by
    by_cases h0 : es.size = 0
    · have : es = #[] := Array.eq_empty_of_size_eq_zero h0
      subst this; simp
    · have : es.all (fun x => decide (x.born ≥ clock)) = false := by
        rw [Array.all_eq_false]
        refine ⟨0, by omega, ?_⟩
        have := hB.2 es[0] (by simp)
        simp; omega
      rw [this]; simp
  rw [if_neg (by rw [hc0]; simp)]
  generalize hL : (es.filter fun e => !seen.contains e.born) = L
  have hmemL : ∀ e ∈ L, e.born < clock := by
    intro e he; rw [← hL] at he; simp at he; exact hB.2 e (by simpa using he.1)
  have e1 : L.filter (fun x => decide (x.born < clock)) = L := Array.filter_eq_self.2 (fun x hx => by simpa using hmemL x hx)
  have e2 : L.filter (fun x => decide (x.born ≥ clock)) = #[] := by
    rw [Array.filter_eq_empty_iff]
    intro x hx
    have := hmemL x hx
    simp; omega
  simp only [e1, e2, Array.append_empty]
  by_cases h0 : L.size = 0
  · have hLe : L = #[] := Array.eq_empty_of_size_eq_zero h0
    subst hLe
    simp only [Array.isEmpty_empty, if_true, Array.map_empty, Array.append_empty]
    show arun P (.choose (.mapNext 1) _) h K
    unfold arun
    simp only [Question.forced, Nat.le_refl, decide_true, if_true]
    refine hend fun x hx => ?_
    obtain ⟨i, hi', rfl⟩ := List.mem_iff_getElem.1 hx
    have hi2 : i < es.size := by omega
    have hei : es.toList[i]? = some es[i] := by simp [Array.getElem?_eq_getElem hi2]
    have hk : (m.map (·.1))[i]? = some m[i].1 := by rw [List.getElem?_map, List.getElem?_eq_getElem hi']; rfl
    have := (hS i _ _ hei hk).1
    rw [Array.filter_eq_empty_iff] at hL
    have h2 := hL es[i] (by simp)
    rw [this] at h2
    simpa using h2
  · have hne' : L.isEmpty = false := by simp [Array.isEmpty, h0]
    have step : ∀ j, j < L.size → ∃ e, L[j]? = some e ∧ K (.tuple #[.bool true, e.key, e.val]) (h.upd it (.mapIter (some r) clock (seen.push e.born) clock)) := by
      intro j hj
      refine ⟨L[j], Array.getElem?_eq_getElem hj, ?_⟩
      have hm : L[j] ∈ (es.filter fun e => !seen.contains e.born) := by rw [hL]; exact Array.getElem_mem hj
      generalize L[j] = e at hm
      rw [Array.mem_filter] at hm
      obtain ⟨i, hi1, hi2⟩ := Array.mem_iff_getElem.1 hm.1
      have hei : es[i]? = some e := by rw [Array.getElem?_eq_getElem hi1, hi2]
      have hei' : es.toList[i]? = some e := by simpa using hei
      have hil : i < m.length := by omega
      obtain ⟨e', he', hk, hv⟩ := hE.get (i := i) (x := m[i]) (List.getElem?_eq_getElem hil)
      have : e' = e := by rw [hei'] at he'; simpa using he'.symm
      subst this
      have hki : (m.map (·.1))[i]? = some m[i].1 := by rw [List.getElem?_map, List.getElem?_eq_getElem hil]; rfl
      have hns : m[i].1 ∉ V := by
        have h2 := hm.2
        rw [(hS i _ _ hei' hki).1] at h2
        simpa using h2
      rw [hk, hv]
      refine hstep m[i] _ (List.getElem_mem hil) hns ⟨u, es, clock, _, by rw [upd_ne hne.symm]; exact hr, upd_same, hE, hB, ?_, ?_⟩
      · intro b hb
        rcases Array.mem_push.1 hb with q | q
        · exact hL0 b q
        · subst q; exact hB.2 e' (List.mem_of_getElem? hei')
      · intro i' e2 k2 h1 h2
        have hcon : (seen.push e'.born).contains e2.born = (seen.contains e2.born || decide (e2.born = e'.born)) := by
          rw [Bool.eq_iff_iff, Array.contains_iff_mem, Array.mem_push, Bool.or_eq_true, Array.contains_iff_mem, decide_eq_true_eq]
        have hsame : e2.born = e'.born ↔ k2 = m[i].1 := by
          constructor
          · intro q
            have := born_inj hB (by simpa using h1) hei q
            subst this
            rw [hki] at h2; simpa using h2.symm
          · intro q
            subst q
            have hnd : (m.map (·.1)).Nodup := u
            have hi3 : i' = i := (List.getElem?_inj (List.getElem?_eq_some_iff.1 h2).1 hnd).1 (by rw [h2, hki])
            subst hi3
            rw [hei'] at h1; simp at h1; rw [h1]
        refine ⟨?_, fun q => ?_⟩
        · rw [hcon, (hS i' e2 k2 h1 h2).1, Bool.eq_iff_iff]
          simp only [Bool.or_eq_true, decide_eq_true_eq, List.mem_append, List.mem_singleton, hsame]
        · simp at q
          rw [Array.back?_push, hsame.2 q.symm]
    simp only [hne', Bool.false_eq_true, if_false, Array.empty_append, Array.size_map]
    show arun P (.choose (.mapNext L.size) _) h K
    unfold arun
    have fin : ∀ j, j < L.size → arun P (match (L.map some)[j]? with
        | some (some e) => (do setObj it (.mapIter (some r) clock (seen.push e.born) clock); pure (.tuple #[.bool true, e.key, e.val]))
        | some none => pure (.tuple #[.bool false])
        | none => stuck "Next: no such candidate") h K := by
      intro j hj
      obtain ⟨e, he, hk⟩ := step j hj
      rw [Array.getElem?_map, he, Option.map_some]
      exact ⟨⟨_, hi, rfl⟩, hk⟩
    by_cases hf : L.size ≤ 1
    · simp only [Question.forced, hf, decide_true, if_true]
      exact fin 0 (by omega)
    · simp only [Question.forced, hf, decide_false, Bool.false_eq_true, if_false]
      intro t
      exact fin _ (Nat.mod_lt _ (by omega))

theorem arun_entryS {it r : Nat} {m : List (α × β)} {V : List α} {x : α × β} {K : Value → Hp → Prop} (I : IterS h it r kenc venc m (V ++ [x.1])) (hx : x ∈ m) (hK : K (.tuple #[kenc x.1, venc x.2]) h) :
    arun P (Instr.entry (.pointer (some ⟨it, 0, none⟩))) h K := by
  obtain ⟨u, es, clock, seen, hr, hi, hE, hB, hL0, hS⟩ := I
  obtain ⟨i, hil, hxi⟩ := List.mem_iff_getElem.1 hx
  have hxi' : m[i]? = some x := by rw [List.getElem?_eq_getElem hil, hxi]
  obtain ⟨e, he, hk, hv⟩ := hE.get hxi'
  have hei : es[i]? = some e := by simpa using he
  have hki : (m.map (·.1))[i]? = some x.1 := by rw [List.getElem?_map, hxi']; rfl
  have hback := (hS i e x.1 he hki).2 (by simp)
  have hgi : rrun P (getObj it) h = some (.mapIter (some r) clock seen clock) := by unfold getObj; simp only [rrun, hi, isRow]
  have hf : es.find? (·.born == e.born) = some e := by
    cases hq : es.find? (·.born == e.born) with
    | none =>
      rw [Array.find?_eq_none] at hq
      have := hq e (Array.mem_of_getElem? hei)
      simp at this
    | some e' =>
      have hb := Array.find?_some hq
      have hm := Array.mem_of_find?_eq_some hq
      obtain ⟨j, hj1, hj2⟩ := Array.mem_iff_getElem.1 hm
      have hej : es[j]? = some e' := by rw [Array.getElem?_eq_getElem hj1, hj2]
      have := born_inj hB hej hei (by simpa using hb)
      subst this
      rw [hej] at hei; exact hei
  unfold Instr.entry
  simp only []
  rw [arun_bnd_rr hgi]
  simp only []
  rw [hback]
  simp only []
  rw [arun_bnd_rr (a := .map es clock) (rr_getObj hr)]
  simp only [bne_self_eq_false, Bool.false_eq_true, if_false, hf]
  rw [← hk, ← hv] at hK
  exact hK

theorem delM_erase {a : α} {v : β} : ∀ {m : List (α × β)} {i j : Nat}, findM a m i = some (i + j, v) → delM a m = m.eraseIdx j
  | [], _, _, h => by cases h
  | x :: xs, i, j, h => by
    simp only [findM] at h
    split at h
    · rename_i e
      have : j = 0 := by simp only [Option.some.injEq, Prod.mk.injEq] at h; omega
      subst this
      simp only [delM, if_pos e, List.eraseIdx_zero, List.tail_cons]
    · rename_i hne
      have := (findM_some h).1
      obtain ⟨j', rfl⟩ : ∃ j', j = j' + 1 := ⟨j - 1, by omega⟩
      simp only [delM, if_neg hne, List.eraseIdx_cons_succ]
      rw [delM_erase (i := i + 1) (j := j') (by rw [h]; congr 2; omega)]

theorem SeenOk.erase {es : List MapEntry} {ks : List α} {seen : Array Nat} {V : List α} {j : Nat} (S : SeenOk es ks seen V) : SeenOk (es.eraseIdx j) (ks.eraseIdx j) seen V := by
  intro i e k h1 h2
  rw [List.getElem?_eraseIdx] at h1 h2
  by_cases hij : i < j
  · rw [if_pos hij] at h1 h2; exact S i e k h1 h2
  · rw [if_neg hij] at h1 h2; exact S (i + 1) e k h1 h2

theorem SeenOk.modify {es : List MapEntry} {ks : List α} {seen : Array Nat} {V : List α} {j : Nat} {f : MapEntry → MapEntry} (hf : ∀ e, (f e).born = e.born) (S : SeenOk es ks seen V) : SeenOk (es.modify j f) ks seen V := by
  intro i e k h1 h2
  rw [List.getElem?_modify] at h1
  cases he : es[i]? with
  | none => rw [he] at h1; cases h1
  | some e0 =>
    rw [he] at h1
    have hb : e.born = e0.born := by
      simp at h1; subst h1; split
      · exact hf _
      · rfl
    rw [hb]; exact S i e0 k he h2

theorem arun_mapDeleteS {t kt et R : TypeId} {ts : Array TypeId} {it r : Nat} {a : α} {m : List (α × β)} {V : List α} {K : Value → Hp → Prop} (ht : ts[0]? = some t) (hu : P.underlying t = some (.map kt et)) (I : IterS h it r kenc venc m V)
    (hck : ∀ e, rrun P (Instr.checkKey e 10000 kt (kenc a)) h = some ())
    (hfk : ∀ es : List MapEntry, Ents kenc venc es m → rrun P (Instr.findKey kt (kenc a) es) h = some ((findM a m 0).map fun x => (x.1, venc x.2)))
    (hK : ∀ o, IterS (h.upd r o) it r kenc venc (delM a m) V → K (.tuple #[]) (h.upd r o)) :
    arun P (Builtin.delete_ ts R #[.map (some r), kenc a]) h K := by
  have hne := I.ne
  obtain ⟨u, es, clock, seen, hr, hi, hE, hB, hL0, hS⟩ := I
  have set : ∀ o, K (.tuple #[]) (h.upd r o) → arun P (setObj r o >>= fun _ => pure (Value.tuple #[])) h K := fun o hk => ⟨⟨_, hr, rfl⟩, hk⟩
  have kk : ∀ es' : Array MapEntry, Ents kenc venc es'.toList (delM a m) → BornOk es'.toList clock → SeenOk es'.toList ((delM a m).map (·.1)) seen V → K (.tuple #[]) (h.upd r (.map es' clock)) := fun es' q1 q2 q3 =>
    hK _ ⟨u.del, es', clock, seen, upd_same, by rw [upd_ne hne]; exact hi, q1, q2, hL0, q3⟩
  unfold Builtin.delete_
  rw [ht]
  simp only [List.getElem?_toArray, List.getElem?_cons_zero, List.getElem?_cons_succ]
  rw [arun_bnd_rr (a := .map kt et) (by rw [rr_underlying, hu])]
  simp only [bind_assoc, pure_bind]
  rw [arun_bnd_rr (a := .map es clock) (rr_getObj hr)]
  simp only []
  rw [arun_bnd_rr (a := ()) (hck _), arun_bnd_rr (hfk _ hE)]
  cases hf : findM a m 0 with
  | none =>
    simp only [Option.map_none]
    have hd : delM a m = m := delM_none (by unfold getM; rw [hf]; rfl)
    exact set _ (kk _ (by rw [hd]; exact hE) hB (by rw [hd]; exact hS))
  | some x =>
    obtain ⟨j, v⟩ := x
    simp only [Option.map_some]
    refine set _ (kk _ ?_ ?_ ?_)
    · rw [Array.toList_eraseIdxIfInBounds]; exact hE.erase hf
    · rw [Array.toList_eraseIdxIfInBounds]; exact hB.sub (List.eraseIdx_sublist _ _)
    · rw [Array.toList_eraseIdxIfInBounds, delM_erase (i := 0) (j := j) (v := v) (by simpa using hf)]
      have : (m.eraseIdx j).map (·.1) = (m.map (·.1)).eraseIdx j := by
        refine List.ext_getElem? fun i => ?_
        rw [List.getElem?_map, List.getElem?_eraseIdx, List.getElem?_eraseIdx, List.getElem?_map, List.getElem?_map]
        split <;> rfl
      rw [this]
      exact hS.erase

/-- A value set anew, of a key that is there. -/
theorem arun_mapUpdateS {t kt et : TypeId} {it r : Nat} {a : α} {v : β} {m : List (α × β)} {V : List α} {K : Unit → Hp → Prop} (hu : P.underlying t = some (.map kt et)) (I : IterS h it r kenc venc m V) (hin : (getM m a).isSome = true)
    (hck : ∀ e, rrun P (Instr.checkKey e 10000 kt (kenc a)) h = some ())
    (hfk : ∀ es : List MapEntry, Ents kenc venc es m → rrun P (Instr.findKey kt (kenc a) es) h = some ((findM a m 0).map fun x => (x.1, venc x.2)))
    (hsb : Instr.sameBits 10000 (kenc a) (kenc a) = true)
    (hK : ∀ o, IterS (h.upd r o) it r kenc venc (setM a v m) V → K () (h.upd r o)) :
    arun P (Instr.mapUpdate t (.map (some r)) (kenc a) (venc v)) h K := by
  have hne := I.ne
  obtain ⟨u, es, clock, seen, hr, hi, hE, hB, hL0, hS⟩ := I
  have set : ∀ o, K () (h.upd r o) → arun P (setObj r o) h K := fun o hk => ⟨⟨_, hr, rfl⟩, hk⟩
  unfold Instr.mapUpdate
  rw [arun_bnd_rr (a := .map kt et) (by rw [rr_underlying, hu])]
  simp only [bind_assoc, pure_bind]
  rw [arun_bnd_rr (a := .map es clock) (rr_getObj hr)]
  simp only []
  rw [arun_bnd_rr (a := ()) (hck _), arun_bnd_rr (hfk _ hE)]
  cases hf : findM a m 0 with
  | none => unfold getM at hin; rw [hf] at hin; cases hin
  | some x =>
    obtain ⟨j, v0⟩ := x
    simp only [Option.map_some]
    obtain ⟨e, he, hke, _⟩ := hE.get (i := j) (x := (a, v0)) (by have := (findM_some hf).2; simpa using this)
    have hes : es[j]? = some e := by simpa using he
    have hks : rrun P (Instr.keyThatStays (((es[j]?).map (·.key)).getD (kenc a)) (kenc a)) h = some (kenc a) := by
      rw [hes]
      unfold Instr.keyThatStays
      simp only [Option.map_some, Option.getD_some, hke, hsb, if_true]
      rfl
    rw [arun_bnd_rr hks]
    refine set _ (hK _ ⟨u.set, _, clock, seen, upd_same, by rw [upd_ne hne]; exact hi, ?_, ?_, hL0, ?_⟩)
    · rw [Array.toList_modify]; exact hE.modify hf
    · rw [Array.toList_modify]; exact hB.modify (fun _ => rfl)
    · rw [Array.toList_modify]
      have hk : (setM a v m).map (·.1) = m.map (·.1) := by
        rw [setM_keys, if_pos]
        unfold getM at hin
        cases hg : getM m a with
        | none => unfold getM at hg; rw [hf] at hg; cases hg
        | some v => exact List.mem_map_of_mem (getM_mem hg)
      rw [hk]
      exact hS.modify (fun _ => rfl)
end
end Go.Proofs.Ytjcecdjbllpmcaa

/- The frame of a call: what it need not know stays. -/
namespace Go.Proofs.Ytjcecdjbllpmcaa
open Go

/-- A heap laid over what the smaller one did not know. -/
def Hp.over (h' h g : Hp) : Hp := fun b => match h b, g b with
  | none, some o => some o
  | _, _ => h' b

theorem over_view {h h' g : Hp} {w w' : World} (l : Le h g) (Vg : View g w) (V' : View h' w') (K : Keep h w h' w') : View (h'.over h g) w' ∧ Keep g w (h'.over h g) w' := by
  constructor
  · intro b o e
    unfold Hp.over at e
    split at e
    · rename_i o2 h1 h2
      cases e
      rw [K.old b (Vg.lt h2) h1]; exact Vg b o h2
    · exact V' b o e
  · refine ⟨K.os, K.tape, K.output, K.size, fun b hb hn => ?_, fun b hb hn => ?_, K.drawn⟩
    · refine K.old b hb ?_
      cases hh : h b with
      | none => rfl
      | some o => rw [l b o hh] at hn; cases hn
    · have h0 : h b = none := by
        cases hh : h b with
        | none => rfl
        | some o => rw [l b o hh] at hn; cases hn
      unfold Hp.over
      simp only [h0, hn]
      exact K.dom b hb h0

theorem Ok.frame {P : Program} {f : FuncId} {args : Array Value} {h g : Hp} {Q : Value → Hp → Prop} (a : Ok P f args h Q) (l : Le h g) : Ok P f args g fun v g' => ∃ h', Q v h' ∧ g' = h'.over h g ∧ ∀ b o, g b = some o → h b = none → h' b = none :=
  ⟨a.1, fun w V => (a.2 w (fun b o e => V b o (l b o e))).mono fun _ w' ⟨v, h', e, V', K, q⟩ => by
    obtain ⟨V2, K2⟩ := over_view l V V' K
    exact ⟨v, _, e, V2, K2, h', q, rfl, fun b o hg hn => K.dom b (V.lt hg) hn⟩⟩

theorem YOk.frame {P : Program} {y : Nat} {args : Array Value} {h g : Hp} {Q : Value → Hp → Prop} (a : YOk P y args h Q) (l : Le h g) : YOk P y args g fun v g' => ∃ h', Q v h' ∧ g' = h'.over h g ∧ ∀ b o, g b = some o → h b = none → h' b = none := fun w V => by
  obtain ⟨f, tmps, asg, bd, e, r⟩ := a w (fun b o e => V b o (l b o e))
  refine ⟨f, tmps, asg, bd, e, r.mono fun _ w' ⟨v, h', e, V', K, q⟩ => ?_⟩
  obtain ⟨V2, K2⟩ := over_view l V V' K
  exact ⟨v, _, e, V2, K2, h', q, rfl, fun b o hg hn => K.dom b (V.lt hg) hn⟩

theorem over_out {h' h g : Hp} {b : Nat} (hb : h b = none) {o : Obj} (hg : g b = some o) : (h'.over h g) b = some o := by unfold Hp.over; simp only [hb, hg]
theorem over_in {h' h g : Hp} {b : Nat} {o : Obj} (hb : h b = some o) : (h'.over h g) b = h' b := by unfold Hp.over; simp only [hb]
theorem over_new {h' h g : Hp} {b : Nat} (hg : g b = none) : (h'.over h g) b = h' b := by unfold Hp.over; simp only [hg]; split <;> simp_all

theorem rem_same {h : Hp} {l : Nat} : (h.rem l) l = none := by unfold Hp.rem; simp
theorem rem_ne {h : Hp} {l b : Nat} (n : b ≠ l) : (h.rem l) b = h b := by unfold Hp.rem; rw [if_neg n]
theorem rem_upd {h : Hp} {l : Nat} {o : Obj} (hl : h l = none) : (h.upd l o).rem l = h := by
  funext b
  by_cases e : b = l
  · subst e; rw [rem_same, hl]
  · rw [rem_ne e, upd_ne e]
theorem upd_rem {h : Hp} {l : Nat} {o : Obj} : (h.rem l).upd l o = h.upd l o := by
  funext b
  by_cases e : b = l
  · subst e; rw [upd_same, upd_same]
  · rw [upd_ne e, upd_ne e, rem_ne e]
theorem rem_le {h : Hp} {l : Nat} : Le (h.rem l) h := fun b o e => by unfold Hp.rem at e; split at e <;> first | cases e | exact e
end Go.Proofs.Ytjcecdjbllpmcaa

/- maps.Keys and slices.Collect at a map's keys, whatever order is drawn (printed by wip/lib/keys.py). -/
namespace Go.Proofs.Ytjcecdjbllpmcaa
open Go
set_option linter.unusedSimpArgs false
set_option linter.unusedVariables false

abbrev kencJ (x : (Int × Nat)) : List Value := [.int .i64 x.1, .int .u32 (x.2 : Nat)]
abbrev kvalJ (x : (Int × Nat)) : Value := (.agg #[.int .i64 x.1, .int .u32 (x.2 : Nat)])

section
variable {β : Type} {venc : β → Value}

def K1InvJ (h : Hp) (l Bm it r : Nat) (m : List ((Int × Nat) × β)) (venc : β → Value) (I : List (Int × Nat) → Hp → Prop) (n : Nat) (env : Env) (G : Hp) : Prop :=
  ∃ V hI, V.length + n = m.length ∧ V.Nodup ∧ (∀ k ∈ V, k ∈ m.map (·.1)) ∧ I V hI ∧ Le hI G ∧ IterS G it r kvalJ venc m V ∧ hI it = none ∧
    env 0 = .func (.yield l) #[] #[] ∧ env 1 = .pointer (some ⟨Bm, 0, none⟩) ∧ env 5 = .pointer (some ⟨it, 0, none⟩)

theorem nodup_le {α : Type} [DecidableEq α] {V K : List α} (n : V.Nodup) (s : ∀ k ∈ V, k ∈ K) : V.length ≤ K.length := List.Nodup.length_le_of_subset n s

set_option maxRecDepth 20000 in
/-- func(yield) { for k := range m { if !yield(k) { return } } }: whatever the rounds keep between them, if they go on. -/
theorem keys1J {h : Hp} {l Bm r : Nat} {Q : Value → Hp → Prop} {m : List ((Int × Nat) × β)} {E : TypeId} {fr : Nat × Nat} (hB : h Bm = some (.cells #[.map (some r)] E fr)) (MB : MapB h r kvalJ venc m) (u : Uniq m)
    (I : List (Int × Nat) → Hp → Prop) (I0 : I [] h) (hI : ∀ V g, I V g → g r = h r)
    (step : ∀ V x g k, I V g → x ∈ m → x.1 ∉ V → V.length < m.length → (∀ g', I (V ++ [x.1]) g' → k (.bool true) g') → YOk Try.prog l #[kvalJ x.1] g k)
    (hQ : ∀ ks v g, I ks g → ks.Perm (m.map (·.1)) → Q v g) : Ok Try.prog F_maps_Keys_map_journal_name_uint32_journal_name_uint32_1 #[.func (.yield l) #[] #[], .pointer (some ⟨Bm, 0, none⟩)] h Q := by
  refine maps_Keys_map_journal_name_uint32_journal_name_uint32_1_ok (by simp) ?_
  unfold maps_Keys_map_journal_name_uint32_journal_name_uint32_1_D
  simp (disch := omega) [maps_Keys_map_journal_name_uint32_journal_name_uint32_1_r0, hB]
  refine arun_rangeS Try.underlying50 MB u (fun it o hit IS => ?_)
  simp (disch := omega)
  refine ⟨K1InvJ h l Bm it r m venc I, ⟨m.length, [], h, by simp, .nil, by simp, I0, .new hit, IS, hit, by simp, by simp, by simp⟩, ?_⟩
  rintro n env G ⟨V, g, hn, nd, sub, IV, lg, IS, git, e0, e1, e5⟩
  unfold maps_Keys_map_journal_name_uint32_journal_name_uint32_1_L0
  simp (disch := omega) [maps_Keys_map_journal_name_uint32_journal_name_uint32_1_r1, e5]
  refine arun_nextS IS (fun hend => ?_) (fun x o hx hxV IS2 => ?_)
  · simp (disch := omega)
    have hp : V.Perm (m.map (·.1)) := (List.perm_ext_iff_of_nodup nd u).2 (fun k => ⟨sub k, fun hk => by obtain ⟨y, hy, rfl⟩ := List.mem_map.1 hk; exact hend y hy⟩)
    exact .to g lg (hQ V _ g IV hp)
  · simp (disch := omega) [maps_Keys_map_journal_name_uint32_journal_name_uint32_1_r2, e5]
    refine arun_entryS IS2 hx ?_
    simp (disch := omega)
    intro b3 hb3
    have L2 : Le g (G.upd it o) := lg.put git
    have L3 : Le (G.upd it o) ((G.upd it o).upd b3 (.cells (kencJ x.1).toArray 55)) := .new hb3
    have f3 : ((G.upd it o).upd b3 (.cells (kencJ x.1).toArray 55)) b3 = some (.cells (kencJ x.1).toArray 55) := upd_same
    have IS3 := IS2.le L3
    have hit3 : ((G.upd it o).upd b3 (.cells (kencJ x.1).toArray 55)) it = some o := L3 _ _ upd_same
    have L4 := L2.trans L3
    simp (disch := omega)
    show maps_Keys_map_journal_name_uint32_journal_name_uint32_1_r3 _ ((G.upd it o).upd b3 (.cells (kencJ x.1).toArray 55)) _
    generalize (G.upd it o).upd b3 (.cells (kencJ x.1).toArray 55) = G4 at *
    clear L3
    have hVl : V.length < m.length := by
      have hnd2 : (V ++ [x.1]).Nodup := List.nodup_append.2 ⟨nd, by simp, fun y hy z hz => by simp at hz; subst hz; rintro rfl; exact hxV hy⟩
      have := nodup_le hnd2 (K := m.map (·.1)) (fun k hk => by
        rcases List.mem_append.1 hk with q | q
        · exact sub k q
        · simp at q; subst q; exact List.mem_map_of_mem hx)
      simp at this; omega
    simp (disch := omega) [maps_Keys_map_journal_name_uint32_journal_name_uint32_1_r3, e0, f3]
    refine ((step V x g (fun v g' => v = .bool true ∧ I (V ++ [x.1]) g') IV hx hxV hVl (fun g' h' => ⟨rfl, h'⟩)).frame L4).mono ?_
    rintro v G5 ⟨g5, ⟨rfl, I5⟩, rfl, dom⟩
    simp (disch := omega)
    have le5 : Le g5 (g5.over g G4) := fun b o' e => by
      cases hg : g b with
      | some o2 => rw [over_in hg]; exact e
      | none =>
        cases h4 : G4 b with
        | none => rw [over_new h4]; exact e
        | some o3 => rw [dom b o3 h4 hg] at e; cases e
    have e_it : (g5.over g G4) it = G4 it := (over_out git hit3).trans hit3.symm
    obtain ⟨mo, hmo⟩ := MB.alive
    have hgr : g r = some mo := (hI _ _ IV).trans hmo
    have e_r : (g5.over g G4) r = G4 r := by rw [over_in hgr, hI _ _ I5, hmo, L4 _ _ hgr]
    refine ⟨n - 1, by omega, V ++ [x.1], g5, by simp; omega, List.nodup_append.2 ⟨nd, by simp, fun y hy z hz => by simp at hz; subst hz; rintro rfl; exact hxV hy⟩, fun k hk => ?_, I5, le5, IS3.keep e_r e_it, dom it o hit3 git, by simp [e0], by simp [e1], by simp [e5]⟩
    rcases List.mem_append.1 hk with q | q
    · exact sub k q
    · simp at q; subst q; exact List.mem_map_of_mem hx

def CoIJ (h : Hp) (b l : Nat) (rec : Obj) (V : List (Int × Nat)) (g : Hp) : Prop :=
  ∃ v, g b = some (.cells #[v] 58 (0, 0)) ∧ SlAt g 55 2 kencJ v V ∧ g l = some rec ∧ Le h g ∧ (∀ x, blkOf v = some x → h x = none ∧ x ≠ b ∧ x ≠ l)

set_option maxRecDepth 20000 in
theorem collectJ {h : Hp} {Bm r : Nat} {Q : Value → Hp → Prop} {m : List ((Int × Nat) × β)} {E : TypeId} {fr : Nat × Nat} (hB : h Bm = some (.cells #[.map (some r)] E fr)) (MB : MapB h r kvalJ venc m) (u : Uniq m) (hl : m.length ≤ 1000000)
    (hQ : ∀ v ks h', Le h h' → SlAt h' 55 2 kencJ v ks → ks.Perm (m.map (·.1)) → (∀ b, blkOf v = some b → h b = none) → Q v h') :
    Ok Try.prog F_slices_Collect_journal_name #[.func (.func F_maps_Keys_map_journal_name_uint32_journal_name_uint32_1) #[] #[.pointer (some ⟨Bm, 0, none⟩)]] h Q := by
  refine slices_Collect_journal_name_ok (by simp) ?_
  unfold slices_Collect_journal_name_D
  simp (disch := omega) [slices_Collect_journal_name_r0, slices_Collect_journal_name_r1]
  have end_ : ∀ v ks h', Le h h' → SlAt h' 55 2 kencJ v ks → ks.Perm (m.map (·.1)) → (∀ b, blkOf v = some b → h b = none) → drp Q v h' := fun v ks h' a b c d => .to _ (.refl _) (hQ v ks h' a b c d)
  refine Ok.mono (Q := fun v h' => drp Q v h') ?_ (fun v h' q => by simp (disch := omega); exact q)
  refine slices_AppendSeq_journal_name_journal_name_ok (by simp) ?_
  unfold slices_AppendSeq_journal_name_journal_name_D
  simp (disch := omega) [slices_AppendSeq_journal_name_journal_name_r0]
  intro b hb
  simp (disch := omega) [slices_AppendSeq_journal_name_journal_name_r1]
  refine ⟨F_maps_Keys_map_journal_name_uint32_journal_name_uint32_1, #[], #[.pointer (some ⟨Bm, 0, none⟩)], by simp, fun l fn D hl2 hu => ?_⟩
  obtain ⟨nlb, hlh⟩ := upd_none hl2
  have L1 : Le h (h.upd b (.cells #[.slice none 0 0] 58)) := .new hb
  simp (disch := omega)
  have key : ∀ (env : Env), env 2 = .pointer (some ⟨b, 0, none⟩) → (∀ t, 13 ≤ t → env t = undef) →
      Ok Try.prog F_maps_Keys_map_journal_name_uint32_journal_name_uint32_1 #[.func (.yield l) #[] #[], .pointer (some ⟨Bm, 0, none⟩)] ((h.upd b (.cells #[.slice none 0 0] 58)).upd l (recOf 13 env #[7] slices_AppendSeq_journal_name_journal_name_F0_a slices_AppendSeq_journal_name_journal_name_F0_b .ready none fn D)) (fun _ h2 => ∃ v ks, h2 l = some (recOf 13 env #[7] slices_AppendSeq_journal_name_journal_name_F0_a slices_AppendSeq_journal_name_journal_name_F0_b .ready none fn D) ∧ Le h h2 ∧ h2 b = some (.cells #[v] 58 (0, 0)) ∧ SlAt h2 55 2 kencJ v ks ∧ ks.Perm (m.map (·.1)) ∧ (∀ x, blkOf v = some x → h x = none ∧ x ≠ b ∧ x ≠ l)) := by
    intro env e2 hu
    generalize hR : recOf 13 env #[7] slices_AppendSeq_journal_name_journal_name_F0_a slices_AppendSeq_journal_name_journal_name_F0_b .ready none fn D = oR
    have L2 : Le h ((h.upd b (.cells #[.slice none 0 0] 58)).upd l oR) := L1.trans (.new hl2)
    have hb2 : ((h.upd b (.cells #[.slice none 0 0] 58)).upd l oR) b = some (.cells #[.slice none 0 0] 58 (0, 0)) := by rw [upd_ne (Ne.symm nlb), upd_same]
    have hl3 : ((h.upd b (.cells #[.slice none 0 0] 58)).upd l oR) l = some oR := upd_same
    generalize (h.upd b (.cells #[.slice none 0 0] 58)).upd l oR = h1 at *
    refine keys1J (L2 _ _ hB) (MB.le L2) u (CoIJ h b l oR) ⟨_, hb2, .inl ⟨rfl, rfl⟩, hl3, L2, by simp [blkOf]⟩ ?_ ?_ ?_
    · rintro V g ⟨v, q1, q2, q3, q4, q5⟩
      obtain ⟨mo, hmo⟩ := MB.alive
      rw [q4 _ _ hmo, L2 _ _ hmo]
    · rintro V x g k ⟨v, q1, q2, q3, q4, q5⟩ hx hxV hVl hk
      subst hR
      refine slices_AppendSeq_journal_name_journal_name_F0_yok q3 hu ?_
      generalize hR : recOf 13 env #[7] slices_AppendSeq_journal_name_journal_name_F0_a slices_AppendSeq_journal_name_journal_name_F0_b .ready none fn D = oR at *
      generalize hB2 : recOf 13 env #[7] slices_AppendSeq_journal_name_journal_name_F0_a slices_AppendSeq_journal_name_journal_name_F0_b .busy none fn D = oB
      unfold rnd
      unfold slices_AppendSeq_journal_name_journal_name_F0_A
      simp (disch := omega) [slices_AppendSeq_journal_name_journal_name_r2]
      intro b5 hb5
      have nb5 : b5 ≠ l := by rintro rfl; rw [q3] at hb5; cases hb5
      have nbb5 : b5 ≠ b := by rintro rfl; rw [q1] at hb5; cases hb5
      simp (disch := omega)
      have La : ∀ y o, y ≠ l → g y = some o → ((g.upd b5 (.cells (kencJ x.1).toArray 55)).upd l oB) y = some o := fun y o n e => by rw [upd_ne n, upd_ne (by rintro rfl; rw [hb5] at e; cases e)]; exact e
      have f5 : ((g.upd b5 (.cells (kencJ x.1).toArray 55)).upd l oB) b5 = some (.cells (kencJ x.1).toArray 55) := by rw [upd_ne nb5, upd_same]
      have fl : ((g.upd b5 (.cells (kencJ x.1).toArray 55)).upd l oB) l = some oB := upd_same
      have nbl : b ≠ l := Ne.symm nlb
      have fb := La b _ nbl q1
      have S1 : SlAt ((g.upd b5 (.cells (kencJ x.1).toArray 55)).upd l oB) 55 2 kencJ v V := q2.keep (fun y o e e2 => La _ _ (q5 y e).2.2 e2)
      have Lh : Le h ((g.upd b5 (.cells (kencJ x.1).toArray 55)).upd l oB) := fun y o e => La y o (by rintro rfl; rw [hlh] at e; cases e) (q4 _ _ e)
      refine ⟨by rw [if_neg nb5.symm]; exact q3, ?_⟩
      show slices_AppendSeq_journal_name_journal_name_F0_B _ _ ((g.upd b5 (.cells (kencJ x.1).toArray 55)).upd l oB)
      generalize (g.upd b5 (.cells (kencJ x.1).toArray 55)).upd l oB = g1 at *
      unfold slices_AppendSeq_journal_name_journal_name_F0_B
      simp (disch := omega) [slices_AppendSeq_journal_name_journal_name_r3, e2, fb, f5]
      refine snoc_journal_name S1 (y := x.1) rfl (by simp) (by omega) (fun b9 v' g' S' G hb9 => ?_)
      have ke : ∀ y o, g1 y = some o → blkOf v ≠ some y → g' y = some o := fun y o e n => G.keep y o e (fun q => n q.symm)
      have nvb : blkOf v ≠ some b := fun e => (q5 b e).2.1 rfl
      have nvl : blkOf v ≠ some l := fun e => (q5 l e).2.2 rfl
      have gb := ke b _ fb nvb
      have gl := ke l _ fl nvl
      obtain ⟨sp, sc, hv'⟩ := S'.shape'
      rw [List.length_append, List.length_singleton] at hv'
      simp (disch := omega) [gb, hv', e2]
      rw [← hv']
      have nv' : ∀ y, blkOf v' = some y → h y = none ∧ y ≠ b ∧ y ≠ l := fun y e => by
        rcases G.fresh with q | q
        · exact q5 y (by rw [← q]; exact e)
        · have := q y e
          exact ⟨none_of_le Lh this, (by rintro rfl; rw [fb] at this; cases this), (by rintro rfl; rw [fl] at this; cases this)⟩
      unfold rndK
      simp only [hR, hB2]
      refine ⟨by rw [upd_ne nbl.symm, gl], ?_⟩
      refine hk _ ⟨v', by rw [upd_ne nbl, upd_same], S'.keep (fun y o e e2 => by rw [upd_ne (nv' y e).2.2, upd_ne (nv' y e).2.1]; exact e2), upd_same, fun y o e => ?_, nv'⟩
      rw [upd_ne (by rintro rfl; rw [hlh] at e; cases e), upd_ne (by rintro rfl; rw [hb] at e; cases e)]
      exact ke y o (Lh _ _ e) (fun q => by rw [(q5 y q).1] at e; cases e)
    · rintro ks v g ⟨w, q1, q2, q3, q4, q5⟩ hp
      exact ⟨w, ks, q3, q4, q1, q2, hp, q5⟩
  refine (key _ ?_ ?_).mono ?_
  · simp
  · intro t ht; exact hu t ht
  · rintro _ h2 ⟨v, ks, hr, l2, hb2, S2, hp, nv⟩
    refine .inl ⟨hr, ?_⟩
    have hbr : (h2.rem l) b = some (.cells #[v] 58 (0, 0)) := by rw [rem_ne (Ne.symm nlb)]; exact hb2
    have S3 : SlAt (h2.rem l) 55 2 kencJ v ks := S2.keep (fun y o e e2 => by rw [rem_ne (nv y e).2.2]; exact e2)
    have L3 : Le h (h2.rem l) := fun y o e => by rw [rem_ne (by rintro rfl; rw [hlh] at e; cases e)]; exact l2 _ _ e
    simp (disch := omega) [slices_AppendSeq_journal_name_journal_name_r4, hbr]
    exact .to _ (.refl _) (end_ v ks _ L3 S3 hp (fun y e => (nv y e).1))
end
end Go.Proofs.Ytjcecdjbllpmcaa

/- The journal: the order of names. -/
namespace Go.Proofs.Ytjcecdjbllpmcaa
open Go Go.Sort
set_option linter.unusedSimpArgs false
set_option linter.unusedVariables false

abbrev NK := Int × Nat
def cmpJ (x y : NK) : Int := orI [cmpI x.1 y.1, cmpI (x.2 : Int) (y.2 : Int)]
def nlt (x y : NK) : Prop := x.1 < y.1 ∨ (x.1 = y.1 ∧ x.2 < y.2)
instance (x y : NK) : Decidable (nlt x y) := by unfold nlt; infer_instance

theorem compareU_spec {a b : Nat} {h : Hp} {Q : Value → Hp → Prop} (hQ : Q (.int .i64 (cmpI (a : Int) (b : Int))) h) : Ok Try.prog F_cmp_Compare_uint32 #[.int .u32 (a : Nat), .int .u32 (b : Nat)] h Q := by
  have nan : ∀ {a : Nat} {h : Hp} {Q : Value → Hp → Prop}, Q (.bool false) h → Ok Try.prog F_cmp_isNaN_uint32 #[.int .u32 (a : Nat)] h Q := by
    intro a h Q hQ
    refine cmp_isNaN_uint32_ok (by simp) ?_
    unfold cmp_isNaN_uint32_D
    simp (disch := omega) [cmp_isNaN_uint32_r0, cmp_isNaN_uint32_r1]
    exact .to _ (.refl _) hQ
  refine cmp_Compare_uint32_ok (by simp) ?_
  unfold cmp_Compare_uint32_D
  simp (disch := omega) [cmp_Compare_uint32_r0, cmp_Compare_uint32_r1]
  refine nan ?_
  simp (disch := omega) [cmp_Compare_uint32_r2]
  refine nan ?_
  unfold cmpI at hQ
  by_cases h1 : (a : Int) < b
  · simp (disch := omega) [cmp_Compare_uint32_r3, cmp_Compare_uint32_r7, cmp_Compare_uint32_r9, cmp_Compare_uint32_r10, h1, show a < b by omega]
    rw [if_pos h1] at hQ
    exact .to _ (.refl _) hQ
  · by_cases h2 : (b : Int) < a
    · simp (disch := omega) [cmp_Compare_uint32_r3, cmp_Compare_uint32_r7, cmp_Compare_uint32_r9, cmp_Compare_uint32_r11, cmp_Compare_uint32_r12, h1, h2, show ¬ a < b by omega, show b < a by omega]
      rw [if_neg h1, if_pos h2] at hQ
      exact .to _ (.refl _) hQ
    · simp (disch := omega) [cmp_Compare_uint32_r3, cmp_Compare_uint32_r7, cmp_Compare_uint32_r9, cmp_Compare_uint32_r11, cmp_Compare_uint32_r13, h1, h2, show ¬ a < b by omega, show ¬ b < a by omega]
      rw [if_neg h1, if_neg h2] at hQ
      exact .to _ (.refl _) hQ

theorem ncompare_spec {x y : NK} {h : Hp} {Q : Value → Hp → Prop} (hQ : ∀ h', Le h h' → Q (.int .i64 (cmpJ x y)) h') : Ok Try.prog F_journal_compare #[kvalJ x, kvalJ y] h Q := by
  refine journal_compare_ok (by simp) ?_
  unfold journal_compare_D
  simp (disch := omega) [journal_compare_r0]
  intro b1 hb1 b2 hb2
  obtain ⟨n21, hb2'⟩ := upd_none hb2
  have L1 : Le h ((h.upd b1 (.cells #[.int .i64 x.1, .int .u32 (x.2 : Nat)] 55)).upd b2 (.cells #[.int .i64 y.1, .int .u32 (y.2 : Nat)] 55)) := (Le.new hb1).trans (Le.new hb2)
  have f1 : ((h.upd b1 (.cells #[.int .i64 x.1, .int .u32 (x.2 : Nat)] 55)).upd b2 (.cells #[.int .i64 y.1, .int .u32 (y.2 : Nat)] 55)) b1 = some (.cells #[.int .i64 x.1, .int .u32 (x.2 : Nat)] 55) := by rw [upd_ne (Ne.symm n21), upd_same]
  have f2 : ((h.upd b1 (.cells #[.int .i64 x.1, .int .u32 (x.2 : Nat)] 55)).upd b2 (.cells #[.int .i64 y.1, .int .u32 (y.2 : Nat)] 55)) b2 = some (.cells #[.int .i64 y.1, .int .u32 (y.2 : Nat)] 55) := upd_same
  generalize (h.upd b1 (.cells #[.int .i64 x.1, .int .u32 (x.2 : Nat)] 55)).upd b2 (.cells #[.int .i64 y.1, .int .u32 (y.2 : Nat)] 55) = g1 at *
  simp (disch := omega) [journal_compare_r1, f1, f2]
  refine compare_spec ?_
  simp (disch := omega) [f1, f2]
  refine compareU_spec ?_
  simp (disch := omega) [f1, f2]
  intro b3 hb3
  refine or_spec (l := [cmpI x.1 y.1, cmpI (x.2 : Int) (y.2 : Int)]) upd_same (fun i x hx => ?_) (by simp) ?_
  · rcases i with _ | _ | i <;> simp at hx ⊢ <;> exact hx
  · simp (disch := omega)
    exact .to _ (.refl _) (hQ _ (L1.trans (Le.new hb3)))

theorem cmpJ_lt {x y : NK} : cmpJ x y < 0 ↔ nlt x y := by
  unfold cmpJ orI orI orI cmpI nlt
  split <;> rename_i h1 <;> split <;> (try split) <;> (try split) <;> omega
theorem ltJ (x y : NK) : ltOf cmpJ x y = decide (nlt x y) := by
  unfold ltOf
  rw [decide_eq_decide]
  exact cmpJ_lt
theorem nlt_trans {x y z : NK} (h1 : nlt x y) (h2 : nlt y z) : nlt x z := by unfold nlt at *; omega
theorem nlt_ntrans {x y z : NK} (h1 : ¬ nlt x y) (h2 : ¬ nlt y z) : ¬ nlt x z := by unfold nlt at *; omega
theorem nlt_tri {x y : NK} (h1 : ¬ nlt x y) (h2 : ¬ nlt y x) : x = y := by
  unfold nlt at *
  exact Prod.ext (by omega) (by omega)
theorem nlt_irr {x : NK} : ¬ nlt x x := by unfold nlt; omega
theorem nlt_asym {x y : NK} (h : nlt x y) : ¬ nlt y x := by unfold nlt at *; omega
theorem swoJ : SWO (ltOf cmpJ) where
  irrefl x := by rw [ltJ]; simp [nlt]
  trans x y z h1 h2 := by rw [ltJ, decide_eq_true_eq] at *; exact nlt_trans h1 h2
  ntrans x y z h1 h2 := by rw [ltJ, decide_eq_false_iff_not] at *; exact nlt_ntrans h1 h2
/-- None comes ahead of an earlier one. -/
def SrtJ (l : List NK) : Prop := l.Pairwise fun x y => ¬ nlt y x
theorem srtJ_unique {l l' : List NK} (s : SrtJ l) (s' : SrtJ l') (p : l.Perm l') : l = l' :=
  List.Perm.eq_of_pairwise (le := fun x y => ¬ nlt y x) (fun a b _ _ h1 h2 => nlt_tri h2 h1) s s' p
end Go.Proofs.Ytjcecdjbllpmcaa

/- slices.SortFunc at these elements (printed by wip/lib/sort.py). -/
namespace Go.Proofs.Ytjcecdjbllpmcaa
open Go Go.Shelf Go.RowKit Go.Lib Go.Sort
set_option linter.unusedSimpArgs false
set_option linter.unusedVariables false

theorem isAggJ : ∀ w, (isAgg (sortJ_ren.t 24)).run Try.prog w = .ok true w := by intro w; kernel_rfl
theorem sizeJ : ∀ w, (Go.sizeOf (sortJ_ren.t 24)).run Try.prog w = .ok 2 w := by intro w; kernel_rfl

theorem len_specJ {n : Nat} {h : Hp} {Q : Value → Hp → Prop} (hn : n < 2 ^ 63) (hQ : ∀ k : Int, Q (.int .i64 k) h) : Ok Try.prog F_math_bits_Len #[.int .u64 (n : Nat)] h Q := by
  refine ⟨⟨Try.f48, math_bits_Len_code, Try.func48, by kernel_rfl⟩, fun w V => ?_⟩
  have := Any.bits_Len bitsJ (n : Int) w (by omega) (by omega)
  refine Calls.mono (P := Try.prog) this ?_
  rintro e w' ⟨rfl, rfl⟩
  exact ⟨_, h, rfl, V, .refl _ _, hQ _⟩


theorem sort_nilJ {Q : Value → Hp → Prop} {h : Hp} (hQ : Q (.tuple #[]) h) : Ok Try.prog F_slices_SortFunc_journal_name_journal_name #[.slice none 0 0, .func (.func F_journal_compare) #[] #[]] h Q := by
  refine slices_SortFunc_journal_name_journal_name_ok (by simp) ?_
  unfold slices_SortFunc_journal_name_journal_name_D
  simp (disch := omega) [slices_SortFunc_journal_name_journal_name_r0, slices_SortFunc_journal_name_journal_name_r1]
  refine len_specJ (n := 0) (by omega) (fun k => ?_)
  simp (disch := omega)
  refine slices_pdqsortCmpFunc_journal_name_ok (by simp) ?_
  unfold slices_pdqsortCmpFunc_journal_name_D
  simp (disch := omega) [slices_pdqsortCmpFunc_journal_name_r0, slices_pdqsortCmpFunc_journal_name_r1]
  refine ⟨fun _ env g => g = h ∧ env 0 = .slice none 0 0 ∧ env 1 = .int .i64 0 ∧ env 2 = .int .i64 0, ⟨0, rfl, by simp, by simp, by simp⟩, ?_⟩
  rintro _ env g ⟨rfl, e0, e1, e2⟩
  unfold slices_pdqsortCmpFunc_journal_name_L0
  simp (disch := omega) [slices_pdqsortCmpFunc_journal_name_r2, slices_pdqsortCmpFunc_journal_name_r3, slices_pdqsortCmpFunc_journal_name_r4, e0, e1, e2, wrap_i64]
  refine slices_insertionSortCmpFunc_journal_name_ok (by simp) ?_
  unfold slices_insertionSortCmpFunc_journal_name_D
  simp (disch := omega) [slices_insertionSortCmpFunc_journal_name_r0, wrap_i64]
  refine ⟨fun _ env g2 => g2 = g ∧ env 2 = .int .i64 0 ∧ env 8 = .int .i64 1, ⟨0, rfl, by simp, by simp⟩, ?_⟩
  rintro _ env2 g2 ⟨rfl, f2, f8⟩
  unfold slices_insertionSortCmpFunc_journal_name_L1
  simp (disch := omega) [slices_insertionSortCmpFunc_journal_name_r1, f2, f8]
  exact .to _ (.refl _) (.to _ (.refl _) (.to _ (.refl _) hQ))

theorem sort_specJ {h : Hp} {v : Value} {d : List (Int × Nat)} {Q : Value → Hp → Prop} (S : SlAt h 55 2 kencJ v d) (hsz : d.length < 4611686018427387904)
    (hQ : ∀ (d' : List (Int × Nat)) h', d'.Perm d → SrtJ d' → (∀ x o, h x = some o → blkOf v ≠ some x → h' x = some o) → SlAt h' 55 2 kencJ v d' → Q (.tuple #[]) h') :
    Ok Try.prog F_slices_SortFunc_journal_name_journal_name #[v, .func (.func F_journal_compare) #[] #[]] h Q := by
  rcases S with ⟨rfl, rfl⟩ | ⟨b, cap, c, rfl, hb, h1, h2, h3⟩
  · exact sort_nilJ (hQ [] h (.refl _) .nil (fun _ _ e _ => e) (.inl ⟨rfl, rfl⟩))
  · have hlc : d.length * 2 ≤ c.size := by omega
    refine ok_sortFunc sortJ isAggJ sizeJ (enc := kencJ) (fun _ => rfl) (fun x v hv => by simp [kencJ] at hv; rcases hv with rfl | rfl <;> rfl) swoJ (g := F_journal_compare) (cb := #[])
      (enters_of Try.func32 (by kernel_rfl) rfl) (fun x y => ncompare_spec (fun _ _ => rfl)) ⟨_, slices_SortFunc_journal_name_journal_name_code, Try.func38, by kernel_rfl⟩ hb hlc h3 hsz (fun d' c' hp hs hc he => ?_)
    have hl := hp.length_eq
    refine hQ d' _ hp (hs.imp fun {x y} q => by rw [ltJ] at q; simpa using q) (fun x o e n => ?_) (.inr ⟨b, cap, c', by rw [hl], upd_same, by omega, by omega, he⟩)
    rw [upd_ne (fun q => n (by subst q; rfl))]; exact e
end Go.Proofs.Ytjcecdjbllpmcaa

/- The journal in memory: Len, Get, New. -/
namespace Go.Proofs.Ytjcecdjbllpmcaa
open Go
set_option linter.unusedSimpArgs false

structure JAt (h : Hp) (j : Nat) (room kept : Int) (vd : Value) (bs : List Nat) (mr : Nat) (m : List ((Int × Nat) × Nat)) : Prop where
  j : h j = some (.cells #[.int .i64 room, .int .i64 kept, vd, .map (some mr)] T_journal_Journal (0, 0))
  d : SlAt h 5 1 be vd bs
  m : MapB h mr nke nve m

theorem jlen_spec {h : Hp} {j : Nat} {room kept : Int} {vd : Value} {bs : List Nat} {mr : Nat} {m : List ((Int × Nat) × Nat)} {Q : Value → Hp → Prop} (J : JAt h j room kept vd bs mr m) (hl : bs.length ≤ 1000000)
    (hQ : Q (.int .i64 ((bs.length / 12 : Nat) : Int)) h) : Ok Try.prog F_journal_Journal_Len #[.pointer (some ⟨j, 0, none⟩)] h Q := by
  refine journal_Journal_Len_ok (by simp) ?_
  unfold journal_Journal_Len_D
  have hj := J.j
  obtain ⟨p, cap, hv⟩ : ∃ p cap, vd = .slice p bs.length cap := by
    rcases J.d with ⟨rfl, rfl⟩ | ⟨b, cap, c, rfl, _⟩
    · exact ⟨none, 0, rfl⟩
    · exact ⟨_, _, rfl⟩
  rw [hv] at hj
  simp (disch := omega) [journal_Journal_Len_r0, journal_Journal_Len_r1, hj, wrap_i64]
  exact .to _ (.refl _) (by simpa using hQ)

theorem lk_50 {h : Hp} {r : Nat} {p : Int × Nat} {m : List ((Int × Nat) × Nat)} (M : MapAt h r nke nve m) :
    rrun Try.prog (Instr.lookup 50 (.map (some r)) (nke p) true) h = some (.tuple #[.int .u32 (((getM m p).getD 0 : Nat) : Int), .bool (getM m p).isSome]) := by
  rw [rr_lookup (z := .int .u32 0) Try.underlying50 M (fun e => ck_55) (fun es H => fk_55 H) (by kernel_rfl)]
  cases getM m p <;> simp [nve]

theorem jget_spec {h : Hp} {j : Nat} {room kept k : Int} {key : Nat} {vd : Value} {bs : List Nat} {mr : Nat} {m : List ((Int × Nat) × Nat)} {Q : Value → Hp → Prop} (J : JAt h j room kept vd bs mr m)
    (hQ : Q (.tuple #[.int .u32 (((getM m (k, key)).getD 0 : Nat) : Int), .bool (getM m (k, key)).isSome]) h) : Ok Try.prog F_journal_Journal_Get #[.pointer (some ⟨j, 0, none⟩), .int .i64 k, .int .u32 (key : Nat)] h Q := by
  refine journal_Journal_Get_ok (by simp) ?_
  unfold journal_Journal_Get_D
  have hj := J.j
  have lk := lk_50 (p := (k, key)) J.m.at
  unfold nke at lk
  simp (disch := omega) [journal_Journal_Get_r0, journal_Journal_Get_r1, journal_Journal_Get_r2, hj, lk]
  exact .to _ (.refl _) hQ
end Go.Proofs.Ytjcecdjbllpmcaa

/- A look into a map, the value alone; what stays in a map. -/
namespace Go.Proofs.Ytjcecdjbllpmcaa
open Go
theorem fm_congr {α β : Type} {f g : α → Option β} : ∀ {l : List α}, (∀ x ∈ l, f x = g x) → l.filterMap f = l.filterMap g
  | [], _ => rfl
  | x :: xs, h => by rw [List.filterMap_cons, List.filterMap_cons, h x (by simp), fm_congr (fun y hy => h y (by simp [hy]))]

theorem take_snoc {α : Type} {l : List α} {i : Nat} {x : α} (hx : l[i]? = some x) : l.take (i + 1) = l.take i ++ [x] := by rw [List.take_add_one, hx]; rfl
theorem drop_cons {α : Type} {l : List α} {i : Nat} {x : α} (hx : l[i]? = some x) : l.drop i = x :: l.drop (i + 1) := by
  obtain ⟨h1, h2⟩ := List.getElem?_eq_some_iff.1 hx
  rw [List.drop_eq_getElem_cons h1, h2]

section
variable {P : Program} {h : Hp} {α β : Type} [DecidableEq α] {kenc : α → Value} {venc : β → Value}

theorem rr_lookup1 {t kt et : TypeId} {r : Nat} {a : α} {m : List (α × β)} {z : Value} (hu : P.underlying t = some (.map kt et)) (M : MapAt h r kenc venc m) (hck : ∀ e, rrun P (Instr.checkKey e 10000 kt (kenc a)) h = some ())
    (hfk : ∀ es : List MapEntry, Ents kenc venc es m → rrun P (Instr.findKey kt (kenc a) es) h = some ((findM a m 0).map fun x => (x.1, venc x.2))) (hz : (P.info? et).bind (·.zero) = some z) :
    rrun P (Instr.lookup t (.map (some r)) (kenc a) false) h = some (match getM m a with | some v => venc v | none => z) := by
  obtain ⟨es, clock, hr, hE⟩ := M
  unfold Instr.lookup
  rw [rrun_bnd, rr_underlying, hu, Option.bind_some]
  simp only []
  have hg : rrun P (getObj r) h = some (.map es clock) := by
    unfold getObj
    simp only [rrun, hr, isRow]
  simp only [rrun_bnd, hg, Option.bind_some, rrun_pure, hck, hfk _ hE]
  unfold getM
  cases findM a m 0 with
  | none =>
    have e : ∀ (s : Sem Value) (f : Value → Value), rrun P (f <$> s) h = (rrun P s h).map f := by
      intro s f
      have : f <$> s = s >>= fun x => pure (f x) := by simp
      rw [this, rrun_bnd]
      cases rrun P s h <;> rfl
    simp [rrun_bnd, rrun_pure, e, rr_zeroValue hz]
  | some x => simp [rrun_bnd, rrun_pure]

theorem getM_isSome {a : α} {m : List (α × β)} : (getM m a).isSome = decide (a ∈ m.map (·.1)) := by
  cases h : getM m a with
  | none => simp [getM_none.1 h]
  | some v => simp only [Option.isSome_some]; symm; rw [decide_eq_true_eq]; exact List.mem_map_of_mem (getM_mem h)

theorem setM_mem {a : α} {v : β} {m : List (α × β)} {e : α × β} (he : e ∈ setM a v m) : e = (a, v) ∨ (e ∈ m) := by
  induction m with
  | nil => simp [setM] at he; exact .inl he
  | cons y ys ih =>
    simp only [setM] at he
    split at he
    · rcases List.mem_cons.1 he with q | q
      · exact .inl q
      · exact .inr (List.mem_cons_of_mem _ q)
    · rcases List.mem_cons.1 he with q | q
      · exact .inr (by rw [q]; exact List.mem_cons_self)
      · rcases ih q with q | q
        · exact .inl q
        · exact .inr (List.mem_cons_of_mem _ q)
theorem setM_mem_ne {a : α} {v : β} : ∀ {m : List (α × β)}, Uniq m → ∀ {e : α × β}, e ∈ setM a v m → e = (a, v) ∨ (e ∈ m ∧ e.1 ≠ a)
  | [], _, e, he => by simp [setM] at he; exact .inl he
  | y :: ys, u, e, he => by
    have u' := u
    unfold Uniq at u
    rw [List.map_cons, List.nodup_cons] at u
    simp only [setM] at he
    split at he
    · rename_i q0
      rcases List.mem_cons.1 he with q | q
      · exact .inl q
      · exact .inr ⟨List.mem_cons_of_mem _ q, fun q2 => u.1 (by rw [← q0, ← q2]; exact List.mem_map_of_mem q)⟩
    · rename_i q0
      rcases List.mem_cons.1 he with q | q
      · exact .inr ⟨by rw [q]; exact List.mem_cons_self, by rw [q]; exact fun q2 => q0 q2.symm⟩
      · rcases setM_mem_ne u.2 q with q | q
        · exact .inl q
        · exact .inr ⟨List.mem_cons_of_mem _ q.1, q.2⟩
end
end Go.Proofs.Ytjcecdjbllpmcaa

/- Writing into one of a slice. -/
namespace Go.Proofs.Ytjcecdjbllpmcaa
open Go
set_option linter.unusedSimpArgs false
set_option linter.unusedVariables false

theorem stN_at {b : Nat} {E : TypeId} {k : Hp → Prop} : ∀ (vals : List Value) (o : Nat) (c : Array Value) (h : Hp), h b = some (.cells c E (0, 0)) → o + vals.length ≤ c.size → vals.all oneCell = true →
    ∃ c' : Array Value, c'.size = c.size ∧ (∀ j, j < vals.length → c'[o + j]? = vals[j]?) ∧ (∀ j, j < o ∨ o + vals.length ≤ j → c'[j]? = c[j]?) ∧ (k (h.upd b (.cells c' E (0, 0))) → stN h b o vals k)
  | [], o, c, h, hb, hs, _ => ⟨c, rfl, fun j hj => by simp at hj, fun j _ => rfl, fun q => by rw [upd_self hb] at q; exact q⟩
  | v :: vals, o, c, h, hb, hs, ho => by
    simp only [List.all_cons, Bool.and_eq_true] at ho
    simp only [List.length_cons] at hs
    have hlt : o < c.size := by omega
    obtain ⟨c', h1, h2, h3, h4⟩ := stN_at (k := k) vals (o + 1) (c.setIfInBounds o v) (h.upd b (.cells (c.setIfInBounds o v) E (0, 0))) upd_same (by simp; omega) ho.2
    refine ⟨c', by rw [h1]; simp, fun j hj => ?_, fun j hj => ?_, fun q => ?_⟩
    · cases j with
      | zero =>
        rw [h3 (o + 0) (by omega)]
        simp [hlt]
      | succ j =>
        have := h2 j (by simpa using hj)
        rw [show o + (j + 1) = o + 1 + j by omega, this]
        simp
    · simp only [List.length_cons] at hj
      rw [h3 j (by omega), Array.getElem?_setIfInBounds_ne (by omega)]
    · rw [stN_cons]
      have hc : h.cell? ⟨b, o, none⟩ = some c[o] := by unfold Hp.cell?; simp [hb, hlt]
      have hf : h.frozen? ⟨b, o, none⟩ = false := by unfold Hp.frozen?; simp [hb]
      have hset : h.setCell ⟨b, o, none⟩ v = h.upd b (.cells (c.setIfInBounds o v) E (0, 0)) := by rw [setCell_def, hb]
      rw [hc, hf, stw_ok, hset]
      refine ⟨ho.1, h4 ?_⟩
      have e : (h.upd b (.cells (c.setIfInBounds o v) E (0, 0))).upd b (.cells c' E (0, 0)) = h.upd b (.cells c' E (0, 0)) := by
        funext i; rw [upd_get, upd_get, upd_get]; split <;> simp
      rw [e]; exact q

/-- A part of one of a slice is written. -/
theorem SlAt.setPart {α : Type} {h : Hp} {E sz : Nat} {enc : α → List Value} {b cap n o : Nat} {xs : List α} {i : Nat} {x y : α} {vals : List Value} {k : Hp → Prop} (S : SlAt h E sz enc (.slice (some ⟨b, 0, none⟩) n cap) xs) (j : Nat) (ho : o = i * sz + j) (hn : n = xs.length) (hx : xs[i]? = some x) (hlen : (enc x).length = sz)
    (hone : vals.all oneCell = true) (hj : j + vals.length ≤ sz) (hy : enc y = (enc x).take j ++ (vals ++ (enc x).drop (j + vals.length)))
    (hk : ∀ h', (∀ x o, h x = some o → x ≠ b → h' x = some o) → SlAt h' E sz enc (.slice (some ⟨b, 0, none⟩) n cap) (xs.set i y) → k h') : stN h b o vals k := by
  subst hn ho
  have hi : i < xs.length := by rw [List.getElem?_eq_some_iff] at hx; exact hx.1
  rcases S with ⟨e, _⟩ | ⟨b', cap', c, e, hb, h1, h2, h3⟩
  · cases e
  · cases e
    have hs0 : i * sz + sz ≤ c.size := by
      have : (i + 1) * sz ≤ cap * sz := Nat.mul_le_mul_right sz (by omega)
      rw [Nat.add_mul] at this; omega
    obtain ⟨c', k1, k2, k3, k4⟩ := stN_at (k := k) vals (i * sz + j) c h hb (by omega) hone
    refine k4 (hk _ (fun x o e n => by rw [upd_ne n]; exact e) (.inr ⟨b, cap, c', by rw [List.length_set], upd_same, by rw [List.length_set]; exact h1, by rw [k1]; exact h2, fun j' x' hx' m hm => ?_⟩))
    rw [List.getElem?_set] at hx'
    split at hx'
    · rename_i e
      subst e
      cases hx'
      have h3' := h3 i x hx m hm
      rw [Nat.zero_add] at h3' ⊢
      rw [hy]
      have hl : ((enc x).take j).length = j := by rw [List.length_take]; omega
      by_cases q : m < j
      · rw [k3 _ (by omega), h3', List.getElem?_append_left (by omega), List.getElem?_take, if_pos q]
      · rw [List.getElem?_append_right (by omega), hl]
        by_cases q2 : m < j + vals.length
        · rw [List.getElem?_append_left (by omega), show i * sz + m = i * sz + j + (m - j) by omega, k2 _ (by omega)]
        · rw [List.getElem?_append_right (by omega), List.getElem?_drop, k3 _ (by omega), h3']
          congr 1; omega
    · rename_i e
      have := h3 j' x' hx' m hm
      rw [k3 (0 + j' * sz + m) ?_]
      · exact this
      · rw [Nat.zero_add]
        rcases Nat.lt_or_gt_of_ne e with q | q
        · right
          have : (i + 1) * sz ≤ j' * sz := Nat.mul_le_mul_right sz (by omega)
          rw [Nat.add_mul] at this; omega
        · left
          have : (j' + 1) * sz ≤ i * sz := Nat.mul_le_mul_right sz (by omega)
          rw [Nat.add_mul] at this; omega

/-- One of a slice is written. -/
theorem SlAt.setOne {α : Type} {h : Hp} {E sz : Nat} {enc : α → List Value} {b cap n : Nat} {xs : List α} {i : Nat} {x y : α} {vals : List Value} {k : Hp → Prop} (S : SlAt h E sz enc (.slice (some ⟨b, 0, none⟩) n cap) xs) (hn : n = xs.length) (hx : xs[i]? = some x) (hlen : (enc x).length = sz)
    (hone : vals.all oneCell = true) (hv : vals.length = sz) (hy : enc y = vals)
    (hk : ∀ h', (∀ x o, h x = some o → x ≠ b → h' x = some o) → SlAt h' E sz enc (.slice (some ⟨b, 0, none⟩) n cap) (xs.set i y) → k h') : stN h b (i * sz) vals k := by
  refine SlAt.setPart (j := 0) S rfl hn hx hlen hone (by omega) ?_ hk
  rw [hy]
  have : (enc x).drop (0 + vals.length) = [] := List.drop_of_length_le (by omega)
  rw [this]; simp

/-- The first of a key is the one that is written anew. -/
theorem findM_set {α β : Type} [DecidableEq α] {a : α} {v w : β} : ∀ {m : List (α × β)} {i j : Nat}, findM a m i = some (i + j, v) → m.set j (a, w) = setM a w m
  | [], i, j, h => by cases h
  | x :: xs, i, j, h => by
    simp only [findM, setM] at *
    by_cases q : a = x.1
    · rw [if_pos q] at h ⊢
      simp at h
      rw [h.1]; rfl
    · rw [if_neg q] at h ⊢
      have hle := (findM_some h).1
      obtain ⟨j', rfl⟩ : ∃ j', j = j' + 1 := ⟨j - 1, by omega⟩
      rw [List.set_cons_succ, findM_set (i := i + 1) (j := j') (by rw [h]; congr 2; omega)]
theorem getM_findM {α β : Type} [DecidableEq α] {a : α} {m : List (α × β)} {i : Nat} {v : β} (h : findM a m 0 = some (i, v)) : getM m a = some v := by unfold getM; rw [h]; rfl
theorem findM_getM {α β : Type} [DecidableEq α] {a : α} {m : List (α × β)} {v : β} (h : getM m a = some v) : ∃ i, findM a m 0 = some (i, v) ∧ m[i]? = some (a, v) := by
  unfold getM at h
  cases hf : findM a m 0 with
  | none => rw [hf] at h; cases h
  | some y =>
    rw [hf] at h
    obtain ⟨i, z⟩ := y
    simp at h
    subst h
    exact ⟨i, rfl, by have := (findM_some hf).2; simpa using this⟩
/-- The first of a key, told by what is ahead of it. -/
theorem findM_first {α β : Type} [DecidableEq α] {a : α} {v : β} : ∀ {m : List (α × β)} {i j : Nat}, m[j]? = some (a, v) → (∀ e ∈ m.take j, e.1 ≠ a) → findM a m i = some (i + j, v)
  | [], i, j, h, _ => by simp at h
  | x :: xs, i, 0, h, _ => by
    simp at h; subst h; simp [findM]
  | x :: xs, i, j + 1, h, hn => by
    have hx : x.1 ≠ a := hn x (by simp)
    simp only [findM]
    rw [if_neg (Ne.symm hx), findM_first (i := i + 1) (j := j) (by simpa using h) (fun e he => hn e (by simp [he]))]
    congr 2; omega

theorem getM_perm {α β : Type} [DecidableEq α] {m m' : List (α × β)} (u : Uniq m) (p : m.Perm m') (a : α) : getM m a = getM m' a := by
  have u' : Uniq m' := by unfold Uniq at *; exact (p.map _).nodup_iff.1 u
  cases h : getM m a with
  | some v => exact (getM_of_mem u' (p.mem_iff.1 (getM_mem h))).symm
  | none =>
    cases h' : getM m' a with
    | none => rfl
    | some v => rw [getM_of_mem u (p.mem_iff.2 (getM_mem h'))] at h; cases h
theorem perm_of_getM {α β : Type} [DecidableEq α] [DecidableEq β] {m m' : List (α × β)} (u : Uniq m) (u' : Uniq m') (h : ∀ a, getM m a = getM m' a) : m.Perm m' := by
  have nd : ∀ {l : List (α × β)}, Uniq l → l.Nodup := fun {l} ul => by unfold Uniq at ul; exact List.Pairwise.of_map (·.1) (fun a b hab he => hab (by rw [he])) ul
  refine (List.perm_ext_iff_of_nodup (nd u) (nd u')).2 fun e => ?_
  constructor
  · intro he; have := getM_of_mem (a := e.1) (v := e.2) u he; rw [h] at this; exact getM_mem this
  · intro he; have := getM_of_mem (a := e.1) (v := e.2) u' he; rw [← h] at this; exact getM_mem this
end Go.Proofs.Ytjcecdjbllpmcaa

/- The journal's calls, told by the list of its facts: New, Len, Get, Put, Sync. -/
namespace Go.Proofs.Ytjcecdjbllpmcaa
open Go
set_option linter.unusedVariables false
set_option linter.unusedSimpArgs false

abbrev F3 := Int × Nat × Nat
def okF (f : F3) : Prop := 0 ≤ f.1 ∧ f.1 ≤ 255 ∧ f.2.1 < 2 ^ 32 ∧ f.2.2 < 2 ^ 32
def fbs (L : List F3) : List Nat := L.flatMap fun f => fb f.1 f.2.1 f.2.2
def stF (m : List ((Int × Nat) × Nat)) (f : F3) : List ((Int × Nat) × Nat) := setM (f.1, f.2.1) f.2.2 m
def lastOf (L : List F3) : List ((Int × Nat) × Nat) := L.foldl stF []
def fe (f : F3) : Value := .agg #[.int .i64 f.1, .int .u32 (f.2.1 : Nat), .int .u32 (f.2.2 : Nat)]

theorem fb_length (k : Int) (a b : Nat) : (fb k a b).length = 12 := rfl
theorem fbs_length : ∀ L : List F3, (fbs L).length = 12 * L.length
  | [] => rfl
  | f :: L => by
    have := fbs_length L
    unfold fbs at *
    rw [List.flatMap_cons, List.length_append, this, fb_length, List.length_cons]; omega
theorem fbs_append (L M : List F3) : fbs (L ++ M) = fbs L ++ fbs M := by unfold fbs; rw [List.flatMap_append]
theorem fbs_one (f : F3) : fbs [f] = fb f.1 f.2.1 f.2.2 := by simp [fbs]
theorem lastOf_append (L : List F3) (f : F3) : lastOf (L ++ [f]) = stF (lastOf L) f := by simp [lastOf]

theorem Uniq_perm {α β : Type} {m m' : List (α × β)} (p : m.Perm m') (u : Uniq m) : Uniq m' := by unfold Uniq at *; exact (p.map _).nodup_iff.1 u
theorem uniq_fold : ∀ {L : List F3} {m : List ((Int × Nat) × Nat)}, Uniq m → Uniq (L.foldl stF m)
  | [], m, h => h
  | f :: L, m, h => by rw [List.foldl_cons]; exact uniq_fold (L := L) (m := stF m f) (Uniq.set h)
theorem uniq_last {L : List F3} : Uniq (lastOf L) := uniq_fold (by simp [Uniq])
theorem setM_permF {α β : Type} [DecidableEq α] {a : α} {v : β} : ∀ {m : List (α × β)}, Uniq m → (setM a v m).Perm ((m.filter fun e => decide (e.1 ≠ a)) ++ [(a, v)])
  | [], _ => .refl _
  | e :: m, u => by
    have u' : Uniq m := by unfold Uniq at *; rw [List.map_cons, List.nodup_cons] at u; exact u.2
    rw [setM]
    by_cases h : a = e.1
    · have hf : (m.filter fun e => decide (e.1 ≠ a)) = m := by
        rw [List.filter_eq_self]
        intro y hy
        simp only [decide_eq_true_eq]
        rintro rfl
        unfold Uniq at u; rw [List.map_cons, List.nodup_cons] at u
        exact u.1 (by rw [← h]; exact List.mem_map_of_mem hy)
      rw [if_pos h, List.filter_cons, if_neg (by simp [h]), hf]
      exact (List.perm_append_singleton (a, v) m).symm
    · rw [if_neg h, List.filter_cons, if_pos (by simpa using fun q => h q.symm), List.cons_append]
      exact (setM_permF u').cons e
/-- The same entries in another order are so behind a store. -/
theorem setM_permC {α β : Type} [DecidableEq α] {a : α} {v : β} {m m' : List (α × β)} (u : Uniq m') (p : m.Perm m') : (setM a v m).Perm (setM a v m') :=
  ((setM_permF (Uniq_perm p.symm u)).trans (List.Perm.append_right _ (p.filter _))).trans (setM_permF u).symm

/-- A journal in memory: its room, how many facts are kept, its facts, and the blocks that are its own. -/
def JM (h : Hp) (j : Nat) (room : Int) (kp : Nat) (L : List F3) (O : List Nat) : Prop :=
  ∃ vd mr m, JAt h j room (12 * kp : Nat) vd (fbs L) mr m ∧ m.Perm (lastOf L) ∧ O = j :: mr :: (blkOf vd).toList ∧ kp ≤ L.length ∧ ∀ f ∈ L, okF f

theorem JAt.ne {h : Hp} {j mr : Nat} {room kept : Int} {vd : Value} {bs : List Nat} {m : List ((Int × Nat) × Nat)} (J : JAt h j room kept vd bs mr m) : mr ≠ j ∧ ∀ b, blkOf vd = some b → b ≠ j ∧ b ≠ mr := by
  obtain ⟨es, cl, e, _⟩ := J.m
  have hj := J.j
  refine ⟨fun q => ?_, fun b e2 => ?_⟩
  · subst q; rw [hj] at e; cases e
  · rcases J.d with ⟨rfl, _⟩ | ⟨b', cap, c, rfl, hb, _⟩
    · cases e2
    · cases e2
      refine ⟨fun q => ?_, fun q => ?_⟩
      · subst q; rw [hj] at hb; cases hb
      · subst q; rw [e] at hb; cases hb

theorem JM.alive {h : Hp} {j : Nat} {room : Int} {kp : Nat} {L : List F3} {O : List Nat} (M : JM h j room kp L O) : ∀ x, x ∈ O → ∃ o, h x = some o := by
  obtain ⟨vd, mr, m, J, pm, rfl, _⟩ := M
  intro x hx
  simp only [List.mem_cons] at hx
  rcases hx with rfl | rfl | hx
  · exact ⟨_, J.j⟩
  · obtain ⟨es, cl, e, _⟩ := J.m; exact ⟨_, e⟩
  · exact J.d.alive (by simpa using hx)

theorem JAt.fr {h h' : Hp} {j mr : Nat} {room kept : Int} {vd : Value} {bs : List Nat} {m : List ((Int × Nat) × Nat)} (J : JAt h j room kept vd bs mr m) (l : ∀ x o, x ∈ j :: mr :: (blkOf vd).toList → h x = some o → h' x = some o) : JAt h' j room kept vd bs mr m := by
  obtain ⟨es, cl, e, H⟩ := J.m
  exact ⟨l _ _ (by simp) J.j, J.d.keep (fun b o e q => l _ _ (by simp [e]) q), ⟨es, cl, l _ _ (by simp) e, H⟩⟩

theorem JM.keep {h h' : Hp} {j : Nat} {room : Int} {kp : Nat} {L : List F3} {O : List Nat} (M : JM h j room kp L O) (l : ∀ x o, x ∈ O → h x = some o → h' x = some o) : JM h' j room kp L O := by
  obtain ⟨vd, mr, m, J, pm, rfl, r⟩ := M
  exact ⟨vd, mr, m, J.fr l, pm, rfl, r⟩

theorem JM.le {h h' : Hp} {j : Nat} {room : Int} {kp : Nat} {L : List F3} {O : List Nat} (M : JM h j room kp L O) (l : Le h h') : JM h' j room kp L O := M.keep fun _ _ _ e => l _ _ e

section
variable {h : Hp} {j kp : Nat} {room : Int} {L : List F3} {O : List Nat} {Q : Value → Hp → Prop}

theorem jnewM (hQ : ∀ j h' O, Le h h' → (∀ x, x ∈ O → h x = none) → JM h' j room 0 [] O → Q (.pointer (some ⟨j, 0, none⟩)) h') : Ok Try.prog F_journal_New #[.int .i64 room] h Q := by
  refine journal_New_ok (by simp) ?_
  unfold journal_New_D
  simp (disch := omega) [journal_New_r0, journal_New_r1]
  refine arun_makeMapB (kenc := nke) (venc := nve) (fun b hb MB => ?_)
  simp (disch := omega)
  intro b2 hb2
  obtain ⟨hne, hb2'⟩ := upd_none hb2
  refine .to _ (.refl _) (hQ b2 _ [b2, b] ((Le.new hb).trans (Le.new hb2)) ?_ ⟨.slice none 0 0, b, [], ⟨?_, .inl ⟨rfl, rfl⟩, MB.le (Le.new hb2)⟩, .refl _, rfl, by simp, by simp⟩)
  · intro x hx
    simp only [List.mem_cons, List.not_mem_nil, or_false] at hx
    rcases hx with rfl | rfl
    · exact hb2'
    · exact hb
  · simp

theorem jlenM (M : JM h j room kp L O) (hl : L.length ≤ 10000) (hQ : Q (.int .i64 (L.length : Nat)) h) : Ok Try.prog F_journal_Journal_Len #[.pointer (some ⟨j, 0, none⟩)] h Q := by
  obtain ⟨vd, mr, m, J, pm, rfl, r⟩ := M
  refine jlen_spec J (by rw [fbs_length]; omega) ?_
  rw [fbs_length, Nat.mul_div_cancel_left _ (by omega)]
  exact hQ

theorem jgetM {k : Int} {key : Nat} (M : JM h j room kp L O) (hQ : Q (.tuple #[.int .u32 (((getM (lastOf L) (k, key)).getD 0 : Nat) : Int), .bool (getM (lastOf L) (k, key)).isSome]) h) :
    Ok Try.prog F_journal_Journal_Get #[.pointer (some ⟨j, 0, none⟩), .int .i64 k, .int .u32 (key : Nat)] h Q := by
  obtain ⟨vd, mr, m, J, pm, rfl, r⟩ := M
  rw [← getM_perm (Uniq_perm pm.symm uniq_last) pm] at hQ
  exact jget_spec J hQ

theorem jsyncM (M : JM h j room kp L O) (hl : L.length ≤ 10000) (hQ : ∀ h', Fr h h' O O → JM h' j room L.length L O → Q (.tuple #[]) h') : Ok Try.prog F_journal_Journal_Sync #[.pointer (some ⟨j, 0, none⟩)] h Q := by
  obtain ⟨vd, mr, m, J, pm, rfl, hk, ho⟩ := M
  refine journal_Journal_Sync_ok (by simp) ?_
  unfold journal_Journal_Sync_D
  have hj := J.j
  obtain ⟨p, cap, hv⟩ := J.d.shape'
  obtain ⟨hjm, hjd⟩ := J.ne
  rw [hv] at hj
  simp (disch := omega) [journal_Journal_Sync_r0, hj]
  refine .to _ (.refl _) (hQ _ (.upd (by simp)) ⟨vd, mr, m, ⟨?_, ?_, ?_⟩, pm, rfl, Nat.le_refl _, ho⟩)
  · rw [upd_same, hv, fbs_length]
  · exact J.d.keep (fun b o e q => by rw [upd_ne (hjd b e).1]; exact q)
  · obtain ⟨es, cl, e, H⟩ := J.m
    exact ⟨es, cl, by rw [upd_ne hjm]; exact e, H⟩
end
end Go.Proofs.Ytjcecdjbllpmcaa

/- The journal's Put. -/
namespace Go.Proofs.Ytjcecdjbllpmcaa
open Go
set_option linter.unusedVariables false
set_option linter.unusedSimpArgs false

def putJ (room : Int) (L : List F3) (f : F3) : Int × List F3 := if f.1 < 0 ∨ 255 < f.1 then (1, L) else if room ≤ (L.length : Int) then (4, L) else (0, L ++ [f])

theorem mu_50 {h : Hp} {r : Nat} {k : Int} {key v : Nat} {m : List ((Int × Nat) × Nat)} {K : Unit → Hp → Prop} (M : MapB h r nke nve m) (hK : ∀ o, MapB (h.upd r o) r nke nve (setM (k, key) v m) → K () (h.upd r o)) :
    arun Try.prog (Instr.mapUpdate 50 (.map (some r)) (.agg #[.int .i64 k, .int .u32 key]) (.int .u32 v)) h K :=
  arun_mapUpdateB (a := (k, key)) (v := v) (kenc := nke) (venc := nve) Try.underlying50 M (fun e => ck_55) (fun es H => fk_55 H) sb_55 (fun _ _ => hK _)

section
variable {h : Hp} {j kp : Nat} {room : Int} {L : List F3} {O : List Nat} {f : F3} {Q : Value → Hp → Prop}

theorem jputM (M : JM h j room kp L O) (hl : L.length ≤ 10000) (h1 : f.2.1 < 2 ^ 32) (h2 : f.2.2 < 2 ^ 32)
    (hQ : ∀ h' O', Fr h h' O O' → JM h' j room kp (putJ room L f).2 O' → Q (.int .i64 (putJ room L f).1) h') : Ok Try.prog F_journal_Journal_Put #[.pointer (some ⟨j, 0, none⟩), fe f] h Q := by
  obtain ⟨k, key, n⟩ := f
  refine journal_Journal_Put_ok (by simp) ?_
  unfold journal_Journal_Put_D
  unfold fe
  simp (disch := omega) [journal_Journal_Put_r0]
  simp only at h1 h2
  intro b hb
  have fr0 : Fr h (h.upd b (.cells #[.int .i64 k, .int .u32 key, .int .u32 n] 25)) O O := .of_le (.new hb) fun _ e => .inl e
  have M0 := M.le (.new (o := .cells #[.int .i64 k, .int .u32 key, .int .u32 n] 25) hb)
  have hbb : (h.upd b (.cells #[.int .i64 k, .int .u32 key, .int .u32 n] 25)) b = some (.cells #[.int .i64 k, .int .u32 key, .int .u32 n] 25) := by simp
  have nb : b ∉ O := fun m => by obtain ⟨o, e⟩ := M.alive _ m; rw [hb] at e; cases e
  generalize h.upd b (.cells #[.int .i64 k, .int .u32 key, .int .u32 n] 25) = g0 at *
  by_cases hk0 : k < 0
  · have e : putJ room L (k, key, n) = (1, L) := by unfold putJ; rw [if_pos (.inl hk0)]
    rw [e] at hQ
    simp (disch := omega) [journal_Journal_Put_r1, journal_Journal_Put_r2, hbb, hk0]
    exact .to _ (.refl _) (hQ _ _ fr0 M0)
  by_cases hk1 : 255 < k
  · have e : putJ room L (k, key, n) = (1, L) := by unfold putJ; rw [if_pos (.inr hk1)]
    rw [e] at hQ
    simp (disch := omega) [journal_Journal_Put_r1, journal_Journal_Put_r2, hbb, hk0, hk1]
    exact .to _ (.refl _) (hQ _ _ fr0 M0)
  have M1 := M0
  obtain ⟨vd, mr, m, J, pm, rfl, hkp, ho⟩ := M0
  have hj := J.j
  simp (disch := omega) [journal_Journal_Put_r1, journal_Journal_Put_r3, hbb, hk0, hk1, hj]
  refine jlenM M1 hl ?_
  by_cases hr : room ≤ (L.length : Int)
  · have e : putJ room L (k, key, n) = (4, L) := by unfold putJ; rw [if_neg (by simp only; omega), if_pos hr]
    rw [e] at hQ
    simp (disch := omega) [journal_Journal_Put_r4, hj, hr]
    exact .to _ (.refl _) (hQ _ _ fr0 M1)
  have e : putJ room L (k, key, n) = (0, L ++ [(k, key, n)]) := by unfold putJ; rw [if_neg (by simp only; omega), if_neg hr]
  rw [e] at hQ
  obtain ⟨hjm, hjd⟩ := J.ne
  simp (disch := omega) [journal_Journal_Put_r5, hj, hr, hbb]
  refine jput_spec ⟨by omega, by omega⟩ h1 h2 (fun v2 g1 S1 l1 n1 => ?_)
  have J1 := J.fr (fun x o _ e => l1 x o e)
  have hj1 := J1.j
  simp (disch := omega) [hj1]
  refine cat_bytes J1.d S1.src (by rw [fbs_length, fb_length]; omega) (fun v3 g2 S2 G2 => ?_)
  have fr2 : Fr g0 g2 _ _ := (Fr.of_le l1 (fun _ e => .inl e)).trans G2.fr
  have hj2 : g2 j = _ := G2.keep _ _ hj1 (fun q => (hjd _ q.symm).1 rfl)
  obtain ⟨es, cl, em, hE⟩ := J.m
  have em2 : g2 mr = _ := fr2.keep _ _ em (fun q => (hjd mr (by simpa using q)).2 rfl)
  have hb2 : g2 b = _ := fr2.keep _ _ hbb (fun q => nb (by simp; exact .inr (.inr (by simpa using q))))
  have nbj : b ≠ j := fun q => nb (by simp [q])
  obtain ⟨p3, cap3, hv3⟩ := S2.shape'
  have n3 : ∀ x, blkOf v3 = some x → x ≠ j ∧ x ≠ mr ∧ (∃ o, g2 x = some o) := by
    intro x e
    refine ⟨?_, ?_, S2.alive e⟩
    · rintro rfl
      rcases fr2.own x (by simp [e]) with q | q
      · exact (hjd _ (by simpa using q)).1 rfl
      · rw [hj] at q; cases q
    · rintro rfl
      rcases fr2.own x (by simp [e]) with q | q
      · exact (hjd _ (by simpa using q)).2 rfl
      · rw [em] at q; cases q
  rw [hv3]
  simp (disch := omega) [hj2]
  simp (disch := omega) [journal_Journal_Put_r6, journal_Journal_Put_r7, nbj, hjm, hb2]
  refine mu_50 (m := m) ⟨es, cl, by rw [upd_ne hjm]; exact em2, hE⟩ (fun o2 H2 => ?_)
  simp (disch := omega) [journal_Journal_Put_r7]
  refine .to _ (.refl _) (hQ _ (j :: mr :: (blkOf v3).toList) ?_ ?_)
  · refine fr0.trans (Fr.trans (O1 := j :: mr :: (blkOf v3).toList) ⟨fun x o e n => ?_, fun x e => ?_⟩ ((Fr.upd (by simp)).trans (Fr.upd (by simp))))
    · exact fr2.keep x o e (fun q => n (by simp; exact .inr (.inr (by simpa using q))))
    · simp only [List.mem_cons] at e ⊢
      rcases e with e | e | e
      · exact .inl (.inl e)
      · exact .inl (.inr (.inl e))
      · rcases fr2.own x e with q | q
        · exact .inl (.inr (.inr q))
        · exact .inr q
  · refine ⟨v3, mr, _, ⟨?_, ?_, H2⟩, (by rw [lastOf_append]; exact setM_permC uniq_last pm), rfl, by simp; omega, ?_⟩
    · rw [upd_ne (Ne.symm hjm), upd_same, hv3, List.length_append]; rfl
    · rw [fbs_append, fbs_one]
      exact S2.keep (fun x o e q => by rw [upd_ne (n3 x e).2.1, upd_ne (n3 x e).1]; exact q)
    · intro f hf
      rcases List.mem_append.1 hf with q | q
      · exact ho f q
      · simp at q; subst q; exact ⟨by simp only; omega, by simp only; omega, h1, h2⟩
end
end Go.Proofs.Ytjcecdjbllpmcaa

/- Numbers out of bytes: num.get, Get32; a fact of bytes: journal.get. -/
namespace Go.Proofs.Ytjcecdjbllpmcaa
open Go
set_option linter.unusedSimpArgs false

theorem bits_or_u32 {a b : Nat} (ha : a < 2 ^ 32) (hb : b < 2 ^ 32) : bits_or .u32 (a : Int) (b : Int) = ((a ||| b : Nat) : Int) := by
  have h : (BitVec.ofInt 32 (a : Int) ||| BitVec.ofInt 32 (b : Int)).toNat = a ||| b := by
    simp [BitVec.ofInt_natCast, BitVec.toNat_or, Nat.mod_eq_of_lt ha, Nat.mod_eq_of_lt hb]
  show IntKind.u32.wrap ((BitVec.ofInt 32 (a : Int) ||| BitVec.ofInt 32 (b : Int)).toNat : Nat) = _
  rw [h, wrap_u32]
  · omega
  · have := Nat.or_lt_two_pow ha hb; omega

def num4 (xs : List Nat) : Nat := xs.foldl (fun a x => a * 256 + x) 0

theorem or8 (a x : Nat) (hx : x < 256) : (a * 256) ||| x = a * 256 + x := by
  have := Nat.two_pow_add_eq_or_of_lt (i := 8) (b := x) hx a
  rw [Nat.mul_comm a 256]
  exact this.symm

theorem num4_snoc (xs : List Nat) (x : Nat) : num4 (xs ++ [x]) = num4 xs * 256 + x := by simp [num4]

theorem num4_lt : ∀ (n : Nat) (xs : List Nat), xs.length = n → (∀ x ∈ xs, x < 256) → num4 xs < 256 ^ n
  | 0, xs, h, _ => by
    have : xs = [] := List.length_eq_zero_iff.1 h
    subst this; simp [num4]
  | n + 1, xs, h, hx => by
    obtain ⟨ys, y, rfl⟩ : ∃ ys y, xs = ys ++ [y] := ⟨xs.dropLast, xs.getLast (by intro q; simp [q] at h), (List.dropLast_concat_getLast _).symm⟩
    rw [num4_snoc, Nat.pow_succ]
    have := num4_lt n ys (by simpa using h) (fun x m => hx x (by simp [m]))
    have := hx y (by simp)
    omega

theorem num4_by4 {n : Nat} (h : n < 2 ^ 32) : num4 (by4 n) = n := by
  simp [num4, by4, byt]; omega

theorem by4_lt {n x : Nat} (h : x ∈ by4 n) : x < 256 := by
  simp [by4, byt] at h; omega

def GetInv (h : Hp) (b o cap : Nat) (xs : List Nat) (m : Nat) (env : Env) (g : Hp) : Prop :=
  g = h ∧ ∃ i, env 25 = .slice (some ⟨b, o, none⟩) 4 cap ∧ env 26 = .int .i64 4 ∧ env 27 = .int .i64 (i : Nat) ∧ i + m = 4 ∧ env 6 = .int .u32 (num4 (xs.take i) : Nat)

theorem get4_spec {b o at_ len cap : Nat} {c : Array Value} {fr : Nat × Nat} {xs : List Nat} {h : Hp} {Q : Value → Hp → Prop} (hb : h b = some (.cells c 5 fr)) (hx : xs.length = 4) (hlt : ∀ x ∈ xs, x < 256) (hr : ∀ (i x : Nat), xs[i]? = some x → c[o + at_ + i]? = some (.int .u8 (x : Nat)))
    (h1 : at_ + 4 ≤ len) (h2 : len ≤ cap) (h3 : len ≤ 100000000) (hQ : Q (.tuple #[.int .u32 (num4 xs : Nat), .bool true]) h) :
    Ok Try.prog F_num_get #[.slice (some ⟨b, o, none⟩) len cap, .int .i64 (at_ : Nat), .int .i64 4] h Q := by
  refine num_get_ok (by simp) ?_
  unfold num_get_D
  have a1 : ¬ ((at_ : Nat) : Int) < 0 := by omega
  have a2 : ¬ ((len : Nat) : Int) - 4 < (at_ : Nat) := by omega
  have sl : rrun Try.prog (Instr.sliceAt 34 (.slice (some ⟨b, o, none⟩) len cap) (some (.int .i64 (at_ : Nat))) (some (.int .i64 ((at_ : Nat) + 4 : Int))) none) noHp = some (.slice (some ⟨b, o + at_, none⟩) 4 (cap - at_)) := by
    rw [rr_slice_part und_34 size_5 (by omega) (by omega) (by omega) (by omega)]
    simp only [Int.toNat_natCast, Nat.mul_one]
    congr 2; omega
  simp (disch := omega) [num_get_r0, num_get_r1, num_get_r3, wrap_i64, a1, a2, sl]
  refine ⟨GetInv h b (o + at_) (cap - at_) xs, ⟨4, rfl, 0, by simp, by simp, by simp, by omega, by simp [num4]⟩, ?_⟩
  rintro m env g ⟨rfl, i, e25, e26, e27, him, e6⟩
  unfold num_get_L0
  by_cases hm : m = 0
  · have : i = 4 := by omega
    subst this
    rw [List.take_of_length_le (by omega)] at e6
    simp (disch := omega) [num_get_r4, num_get_r8, e25, e26, e27, e6]
    exact .to _ (.refl _) hQ
  · obtain ⟨x, hxi⟩ : ∃ x, xs[i]? = some x := ⟨_, List.getElem?_eq_getElem (by omega)⟩
    have hc := hr i x hxi
    have hx2 := hlt x (List.mem_of_getElem? hxi)
    have hi : (i : Int) < 4 := by omega
    have tk : xs.take (i + 1) = xs.take i ++ [x] := by rw [List.take_add_one, hxi]; rfl
    have lt := num4_lt i (xs.take i) (by rw [List.length_take]; omega) (fun y hy => hlt y (List.mem_of_mem_take hy))
    have lt3 : num4 (xs.take i) * 256 < 2 ^ 32 := by
      have : 256 ^ i ≤ 256 ^ 3 := Nat.pow_le_pow_right (by omega) (by omega)
      omega
    have w : IntKind.u32.wrap (((num4 (xs.take i) : Nat) : Int) * 256) = ((num4 (xs.take i) * 256 : Nat) : Int) := by rw [wrap_u32] <;> omega
    have w2 : IntKind.u32.wrap (x : Int) = (x : Int) := by rw [wrap_u32] <;> omega
    have w3 := bits_or_u32 (a := num4 (xs.take i) * 256) (b := x) lt3 (by omega)
    rw [or8 _ _ hx2, ← num4_snoc, ← tk] at w3
    simp (disch := omega) [num_get_r4, num_get_r5, num_get_r6, num_get_r7, e25, e26, e27, e6, hi, hb, hc, wrap_i64, w, w2, w3]
    exact ⟨m - 1, by omega, rfl, i + 1, by simp [e25], by simp [e26], by simp, by omega, by simp; exact w3⟩

theorem get32_spec {b o at_ len cap : Nat} {c : Array Value} {fr : Nat × Nat} {n : Nat} {h : Hp} {Q : Value → Hp → Prop} (hb : h b = some (.cells c 5 fr)) (hn : n < 2 ^ 32) (hr : ∀ (i x : Nat), (by4 n)[i]? = some x → c[o + at_ + i]? = some (.int .u8 (x : Nat)))
    (h1 : at_ + 4 ≤ len) (h2 : len ≤ cap) (h3 : len ≤ 100000000) (hQ : Q (.tuple #[.int .u32 (n : Nat), .bool true]) h) :
    Ok Try.prog F_num_Get32 #[.slice (some ⟨b, o, none⟩) len cap, .int .i64 (at_ : Nat)] h Q := by
  refine num_Get32_ok (by simp) ?_
  unfold num_Get32_D
  simp (disch := omega) [num_Get32_r0, num_Get32_r1]
  refine get4_spec hb (xs := by4 n) rfl (fun x => by4_lt) hr h1 h2 h3 ?_
  rw [num4_by4 hn]
  simp (disch := omega)
  exact .to _ (.refl _) hQ

/-- The fact of twelve bytes. -/
theorem jgetf_spec {b o len cap : Nat} {c : Array Value} {fr : Nat × Nat} {f : F3} {h : Hp} {Q : Value → Hp → Prop} (hb : h b = some (.cells c 5 fr)) (hf : okF f) (hr : ∀ (i x : Nat), (fb f.1 f.2.1 f.2.2)[i]? = some x → c[o + i]? = some (.int .u8 (x : Nat)))
    (h1 : 12 ≤ len) (h2 : len ≤ cap) (h3 : len ≤ 100000000) (hQ : ∀ h', Le h h' → Q (fe f) h') :
    Ok Try.prog F_journal_get #[.slice (some ⟨b, o, none⟩) len cap] h Q := by
  obtain ⟨k, key, n⟩ := f
  obtain ⟨hk0, hk1, hk2, hk3⟩ := hf
  simp only at hk0 hk1 hk2 hk3
  refine journal_get_ok (by simp) ?_
  unfold journal_get_D
  simp (disch := omega) [journal_get_r0]
  intro b1 hb1
  have n1 : b ≠ b1 := ne_new hb hb1
  have c0 : c[o]? = some (.int .u8 k) := by
    have := hr 0 (k % 256).toNat rfl
    rw [show (((k % 256).toNat : Nat) : Int) = k by omega] at this
    simpa using this
  have w : IntKind.i64.wrap k = k := by rw [wrap_i64] <;> omega
  simp (disch := omega) [journal_get_r1, hb, n1, c0, w]
  intro b2 hb2
  obtain ⟨n2, hb2'⟩ := upd_none hb2
  have n3 : b ≠ b2 := ne_new hb hb2'
  simp (disch := omega) [journal_get_r2]
  have K1 : ∀ (i x : Nat), (by4 key)[i]? = some x → c[o + 4 + i]? = some (.int .u8 (x : Nat)) := by
    intro i x e
    have := hr (4 + i) x (by
      show (([(k % 256).toNat, 0, 0, 0] ++ by4 key) ++ by4 n)[4 + i]? = _
      have hi : i < 4 := (List.getElem?_eq_some_iff.1 e).1
      rw [List.getElem?_append_left (by simp [by4]; omega), List.getElem?_append_right (by simp)]
      simpa using e)
    rw [← this, Nat.add_assoc]
  have K2 : ∀ (i x : Nat), (by4 n)[i]? = some x → c[o + 8 + i]? = some (.int .u8 (x : Nat)) := by
    intro i x e
    have := hr (8 + i) x (by
      show (([(k % 256).toNat, 0, 0, 0] ++ by4 key) ++ by4 n)[8 + i]? = _
      rw [List.getElem?_append_right (by simp [by4])]
      simpa [by4] using e)
    rw [← this, Nat.add_assoc]
  refine get32_spec (at_ := 4) (by simp [n1, n3]; exact hb) hk2 K1 (by omega) h2 h3 ?_
  simp (disch := omega) [journal_get_r3]
  refine get32_spec (at_ := 8) (by simp [n1, n3]; exact hb) hk3 K2 (by omega) h2 h3 ?_
  simp (disch := omega) [journal_get_r4, n2, Ne.symm n2]
  refine .to _ (.refl _) (hQ _ ?_)
  exact Le.put (Le.put (Le.new hb1) hb2') hb1
end Go.Proofs.Ytjcecdjbllpmcaa
