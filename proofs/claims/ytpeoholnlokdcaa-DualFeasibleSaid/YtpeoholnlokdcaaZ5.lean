/- Printed by wip/kit/gen.py out of the translation: what operations of these types come to. -/
import Derived.Test.YtpeoholnlokdcaaChecked
import Derived.Shelf.SlSortCmp.WholeK
import Derived.Shelf.Small.Bits
import Derived.Shelf.Sort.Plain
import Derived.Test.YtpeoholnlokdcaaZ4

set_option linter.unusedSimpArgs false
set_option linter.unusedVariables false

namespace Go.Proofs.Ytpeoholnlokdcaa
open Go

set_option maxRecDepth 100000

abbrev F_octroilaw18_DualBest : Nat := 3
abbrev F_octroilaw18_DualAsks : Nat := 4
abbrev F_octroilaw18_DualAnswers : Nat := 5
abbrev F_octroilaw18_DualNumbers : Nat := 6
abbrev F_octroilaw18_DualFeasible : Nat := 7
abbrev F_octroilaw18_DualWaits : Nat := 8
abbrev F_octroilaw18_awake : Nat := 9
abbrev F_dual_New : Nat := 10
abbrev F_octroiref04_Reached : Nat := 11
abbrev F_dual_Dual_Up : Nat := 12
abbrev F_metric_May : Nat := 13
abbrev F_dual_Dual_Hear : Nat := 14
abbrev F_dual_Dual_Least : Nat := 15
abbrev F_metric_Join : Nat := 16
abbrev F_metric_Reached : Nat := 17
abbrev F_metric_Of : Nat := 18
abbrev F_dual_Dual_All : Nat := 19
abbrev F_metric_Better : Nat := 20
abbrev F_octroilaw18_Does : Nat := 21
abbrev F_tags_Has : Nat := 22
abbrev F_octroiref04_May : Nat := 23
abbrev F_dual_Dual_all : Nat := 24
abbrev F_dual_Dual_send : Nat := 25
abbrev F_dual_Dual_take : Nat := 26
abbrev F_prefix_May : Nat := 27
abbrev F_dual_Dual_report : Nat := 28
abbrev F_dual_known_close : Nat := 29
abbrev F_dual_Dual_settle : Nat := 30
abbrev F_metric_length : Nat := 31
abbrev F_metric_within : Nat := 32
abbrev F_dual_Dual_best : Nat := 33
abbrev F_dual_Dual_Down : Nat := 34
abbrev F_dual_Dual_Own : Nat := 35
abbrev F_dual_Dual_Drop : Nat := 36
abbrev F_dual_Dual_Again : Nat := 37
abbrev F_tags_may : Nat := 38
abbrev F_dual_Dual_all_1 : Nat := 39
abbrev F_slices_SortedFunc_api_Prefix : Nat := 40
abbrev F_maps_Keys_map_api_Prefix_dual_known_api_Prefix_dual_known : Nat := 41
abbrev F_dual_Dual_all_1_1 : Nat := 42
abbrev F_prefix_Less : Nat := 43
abbrev F_prefix_Mask : Nat := 44
abbrev F_dual_Dual_add : Nat := 45
abbrev F_dual_Dual_neighbours : Nat := 46
abbrev F_dual_way_ahead : Nat := 47
abbrev F_slices_Sorted_int : Nat := 48
abbrev F_maps_Keys_map_int_uint32_int_uint32 : Nat := 49
abbrev F_slices_Collect_api_Prefix : Nat := 50
abbrev F_slices_SortFunc_api_Prefix_api_Prefix : Nat := 51
abbrev F_maps_Keys_map_api_Prefix_dual_known_api_Prefix_dual_known_1 : Nat := 52
abbrev F_dual_Dual_neighbours_1 : Nat := 53
abbrev F_maps_Keys_map_int_dual_link_int_dual_link : Nat := 54
abbrev F_slices_Collect_int : Nat := 55
abbrev F_slices_Sort_int_int : Nat := 56
abbrev F_maps_Keys_map_int_uint32_int_uint32_1 : Nat := 57
abbrev F_slices_AppendSeq_api_Prefix_api_Prefix : Nat := 58
abbrev F_slices_pdqsortCmpFunc_api_Prefix : Nat := 59
abbrev F_math_bits_Len : Nat := 60
abbrev F_maps_Keys_map_int_dual_link_int_dual_link_1 : Nat := 61
abbrev F_slices_AppendSeq_int_int : Nat := 62
abbrev F_slices_pdqsortOrdered_int : Nat := 63
abbrev F_slices_insertionSortCmpFunc_api_Prefix : Nat := 64
abbrev F_slices_insertionSortOrdered_int : Nat := 74
abbrev T_api_Vector : Nat := 23
abbrev T_api_Errno : Nat := 29
abbrev T_api_Prefix : Nat := 35
abbrev T_api_DualEntry : Nat := 38
abbrev T_api_Letter : Nat := 40
abbrev T_api_Route : Nat := 49
abbrev T_octroilaw18_Op : Nat := 55
abbrev T_dual_Dual : Nat := 65
abbrev T_dual_link : Nat := 68
abbrev T_dual_way : Nat := 74
abbrev T_dual_known : Nat := 79
@[simp] theorem al_23 {h : Hp} {k : Value → Hp → Prop} : arun Try.prog (Instr.alloc 23 true (.tuple #[])) h k = nw h (.cells #[Value.int .i64 0, Value.int .i64 0, Value.int .i64 0] 23) fun b h => k (.pointer (some ⟨b, 0, none⟩)) h := arun_alloc (v := Value.agg #[Value.int .i64 0, Value.int .i64 0, Value.int .i64 0]) (by kernel_rfl)
@[simp] theorem al_3 {h : Hp} {k : Value → Hp → Prop} : arun Try.prog (Instr.alloc 3 true (.tuple #[])) h k = nw h (.cells #[Value.int .i64 0] 3) fun b h => k (.pointer (some ⟨b, 0, none⟩)) h := arun_alloc (v := Value.int .i64 0) (by kernel_rfl)
@[simp] theorem al_35 {h : Hp} {k : Value → Hp → Prop} : arun Try.prog (Instr.alloc 35 true (.tuple #[])) h k = nw h (.cells #[Value.int .u32 0, Value.int .i64 0] 35) fun b h => k (.pointer (some ⟨b, 0, none⟩)) h := arun_alloc (v := Value.agg #[Value.int .u32 0, Value.int .i64 0]) (by kernel_rfl)
@[simp] theorem al_4 {h : Hp} {k : Value → Hp → Prop} : arun Try.prog (Instr.alloc 4 true (.tuple #[])) h k = nw h (.cells #[Value.bool false] 4) fun b h => k (.pointer (some ⟨b, 0, none⟩)) h := arun_alloc (v := Value.bool false) (by kernel_rfl)
@[simp] theorem al_45 {h : Hp} {k : Value → Hp → Prop} : arun Try.prog (Instr.alloc 45 true (.tuple #[])) h k = nw h (.cells #[Value.slice none 0 0] 45) fun b h => k (.pointer (some ⟨b, 0, none⟩)) h := arun_alloc (v := Value.slice none 0 0) (by kernel_rfl)
@[simp] theorem al_55 {h : Hp} {k : Value → Hp → Prop} : arun Try.prog (Instr.alloc 55 true (.tuple #[])) h k = nw h (.cells #[Value.int .i64 0, Value.int .i64 0, Value.int .i64 0, Value.int .i64 0, Value.int .u32 0, Value.int .u32 0, Value.int .u32 0, Value.int .i64 0, Value.int .i64 0, Value.int .i64 0, Value.int .i64 0, Value.int .u16 0] 55) fun b h => k (.pointer (some ⟨b, 0, none⟩)) h := arun_alloc (v := Value.agg #[Value.int .i64 0, Value.int .i64 0, Value.int .i64 0, Value.int .i64 0, Value.int .u32 0, Value.int .u32 0, Value.int .u32 0, Value.int .i64 0, Value.int .i64 0, Value.int .i64 0, Value.int .i64 0, Value.int .u16 0]) (by kernel_rfl)
@[simp] theorem al_74 {h : Hp} {k : Value → Hp → Prop} : arun Try.prog (Instr.alloc 74 true (.tuple #[])) h k = nw h (.cells #[Value.int .i64 0, Value.int .i64 0, Value.int .i64 0, Value.int .u16 0, Value.int .i64 0] 74) fun b h => k (.pointer (some ⟨b, 0, none⟩)) h := arun_alloc (v := Value.agg #[Value.int .i64 0, Value.int .i64 0, Value.int .i64 0, Value.int .u16 0, Value.int .i64 0]) (by kernel_rfl)
theorem und_112 : Try.prog.underlying 112 = some (.slice 3) := by kernel_rfl
theorem size_3 : (Try.prog.info? 3).map (·.size) = some 1 := by kernel_rfl
theorem bytes_3 : (Try.prog.info? 3).map (·.bytes) = some 8 := by kernel_rfl
theorem zero_3 : (Try.prog.info? 3).bind (·.zero) = some (Value.int .i64 0) := by kernel_rfl
theorem push_int {α : Type} {R b2 o2 c2 : Nat} {enc : α → List Value} {v : Value} {xs : List α} {y : α} {h : Hp} {k : Value → Hp → Prop} (S : SlAt h 3 1 enc v xs) (hy : ldN h b2 o2 1 = some (enc y)) (hyl : (enc y).length = 1) (hone : ∀ u ∈ enc y, oneCell u = true) (hbd : (2 * xs.length + 770) * 8 ≤ 2 ^ 48) (K : ∀ b c cap, (some b = blkOf v ∨ h b = none) → xs.length + 1 ≤ cap → cap * 1 ≤ c.size → Enc c 0 1 enc (xs ++ [y]) → k (.slice (some ⟨b, 0, none⟩) (xs.length + 1) cap) (h.upd b (.cells c 3 (0, 0)))) :
    arun Try.prog (Builtin.append_ #[112, 112] R #[v, .slice (some ⟨b2, o2, none⟩) 1 c2]) h k := arun_push und_112 und_112 size_3 bytes_3 zero_3 (by decide) rfl S hy hyl hone hbd K
theorem cat_int {α : Type} {R : Nat} {enc : α → List Value} {v w : Value} {xs ys : List α} {h : Hp} {k : Value → Hp → Prop} (S : SlAt h 3 1 enc v xs) (R0 : Src h 1 enc w ys) (hbd : (2 * (xs.length + ys.length) + 770) * 8 ≤ 2 ^ 48) (K : ∀ v' h', SlAt h' 3 1 enc v' (xs ++ ys) → Grew h h' v v' → k v' h') :
    arun Try.prog (Builtin.append_ #[112, 112] R #[v, w]) h k := arun_cat und_112 und_112 size_3 bytes_3 zero_3 (by decide) rfl S R0 hbd K
theorem snoc_int {α : Type} {R E3 : Nat} {enc : α → List Value} {v : Value} {xs : List α} {y : α} {h : Hp} {k : Nat → Value → Hp → Prop} (S : SlAt h 3 1 enc v xs) (hl : (enc y).length = 1) (ho : ∀ u ∈ enc y, oneCell u = true) (hbd : (2 * (xs.length + 1) + 770) * 8 ≤ 2 ^ 48) (K : ∀ b v' h', SlAt h' 3 1 enc v' (xs ++ [y]) → Grew h h' v v' → h b = none → k b v' h') :
    ∀ b, h b = none → arun Try.prog (Builtin.append_ #[112, 112] R #[v, .slice (some ⟨b, 0, none⟩) 1 1]) (h.upd b (.cells (enc y).toArray E3 (0, 0))) (k b) := arun_snoc und_112 und_112 size_3 bytes_3 zero_3 (by decide) rfl S hl ho hbd K
theorem und_28 : Try.prog.underlying 28 = some (.slice 40) := by kernel_rfl
theorem size_40 : (Try.prog.info? 40).map (·.size) = some 10 := by kernel_rfl
theorem bytes_40 : (Try.prog.info? 40).map (·.bytes) = some 72 := by kernel_rfl
theorem zero_40 : (Try.prog.info? 40).bind (·.zero) = some (Value.agg #[Value.int .i64 0, Value.int .i64 0, Value.int .u32 0, Value.int .u32 0, Value.int .u32 0, Value.int .i64 0, Value.int .i64 0, Value.int .i64 0, Value.int .i64 0, Value.int .u16 0]) := by kernel_rfl
theorem push_api_Letter {α : Type} {R b2 o2 c2 : Nat} {enc : α → List Value} {v : Value} {xs : List α} {y : α} {h : Hp} {k : Value → Hp → Prop} (S : SlAt h 40 10 enc v xs) (hy : ldN h b2 o2 10 = some (enc y)) (hyl : (enc y).length = 10) (hone : ∀ u ∈ enc y, oneCell u = true) (hbd : (2 * xs.length + 770) * 72 ≤ 2 ^ 48) (K : ∀ b c cap, (some b = blkOf v ∨ h b = none) → xs.length + 1 ≤ cap → cap * 10 ≤ c.size → Enc c 0 10 enc (xs ++ [y]) → k (.slice (some ⟨b, 0, none⟩) (xs.length + 1) cap) (h.upd b (.cells c 40 (0, 0)))) :
    arun Try.prog (Builtin.append_ #[28, 28] R #[v, .slice (some ⟨b2, o2, none⟩) 1 c2]) h k := arun_push und_28 und_28 size_40 bytes_40 zero_40 (by decide) rfl S hy hyl hone hbd K
theorem cat_api_Letter {α : Type} {R : Nat} {enc : α → List Value} {v w : Value} {xs ys : List α} {h : Hp} {k : Value → Hp → Prop} (S : SlAt h 40 10 enc v xs) (R0 : Src h 10 enc w ys) (hbd : (2 * (xs.length + ys.length) + 770) * 72 ≤ 2 ^ 48) (K : ∀ v' h', SlAt h' 40 10 enc v' (xs ++ ys) → Grew h h' v v' → k v' h') :
    arun Try.prog (Builtin.append_ #[28, 28] R #[v, w]) h k := arun_cat und_28 und_28 size_40 bytes_40 zero_40 (by decide) rfl S R0 hbd K
theorem snoc_api_Letter {α : Type} {R E3 : Nat} {enc : α → List Value} {v : Value} {xs : List α} {y : α} {h : Hp} {k : Nat → Value → Hp → Prop} (S : SlAt h 40 10 enc v xs) (hl : (enc y).length = 10) (ho : ∀ u ∈ enc y, oneCell u = true) (hbd : (2 * (xs.length + 1) + 770) * 72 ≤ 2 ^ 48) (K : ∀ b v' h', SlAt h' 40 10 enc v' (xs ++ [y]) → Grew h h' v v' → h b = none → k b v' h') :
    ∀ b, h b = none → arun Try.prog (Builtin.append_ #[28, 28] R #[v, .slice (some ⟨b, 0, none⟩) 1 1]) (h.upd b (.cells (enc y).toArray E3 (0, 0))) (k b) := arun_snoc und_28 und_28 size_40 bytes_40 zero_40 (by decide) rfl S hl ho hbd K
theorem und_45 : Try.prog.underlying 45 = some (.slice 49) := by kernel_rfl
theorem size_49 : (Try.prog.info? 49).map (·.size) = some 7 := by kernel_rfl
theorem bytes_49 : (Try.prog.info? 49).map (·.bytes) = some 56 := by kernel_rfl
theorem zero_49 : (Try.prog.info? 49).bind (·.zero) = some (Value.agg #[Value.int .u32 0, Value.int .i64 0, Value.int .i64 0, Value.int .i64 0, Value.int .i64 0, Value.int .i64 0, Value.int .u16 0]) := by kernel_rfl
theorem push_api_Route {α : Type} {R b2 o2 c2 : Nat} {enc : α → List Value} {v : Value} {xs : List α} {y : α} {h : Hp} {k : Value → Hp → Prop} (S : SlAt h 49 7 enc v xs) (hy : ldN h b2 o2 7 = some (enc y)) (hyl : (enc y).length = 7) (hone : ∀ u ∈ enc y, oneCell u = true) (hbd : (2 * xs.length + 770) * 56 ≤ 2 ^ 48) (K : ∀ b c cap, (some b = blkOf v ∨ h b = none) → xs.length + 1 ≤ cap → cap * 7 ≤ c.size → Enc c 0 7 enc (xs ++ [y]) → k (.slice (some ⟨b, 0, none⟩) (xs.length + 1) cap) (h.upd b (.cells c 49 (0, 0)))) :
    arun Try.prog (Builtin.append_ #[45, 45] R #[v, .slice (some ⟨b2, o2, none⟩) 1 c2]) h k := arun_push und_45 und_45 size_49 bytes_49 zero_49 (by decide) rfl S hy hyl hone hbd K
theorem cat_api_Route {α : Type} {R : Nat} {enc : α → List Value} {v w : Value} {xs ys : List α} {h : Hp} {k : Value → Hp → Prop} (S : SlAt h 49 7 enc v xs) (R0 : Src h 7 enc w ys) (hbd : (2 * (xs.length + ys.length) + 770) * 56 ≤ 2 ^ 48) (K : ∀ v' h', SlAt h' 49 7 enc v' (xs ++ ys) → Grew h h' v v' → k v' h') :
    arun Try.prog (Builtin.append_ #[45, 45] R #[v, w]) h k := arun_cat und_45 und_45 size_49 bytes_49 zero_49 (by decide) rfl S R0 hbd K
theorem snoc_api_Route {α : Type} {R E3 : Nat} {enc : α → List Value} {v : Value} {xs : List α} {y : α} {h : Hp} {k : Nat → Value → Hp → Prop} (S : SlAt h 49 7 enc v xs) (hl : (enc y).length = 7) (ho : ∀ u ∈ enc y, oneCell u = true) (hbd : (2 * (xs.length + 1) + 770) * 56 ≤ 2 ^ 48) (K : ∀ b v' h', SlAt h' 49 7 enc v' (xs ++ [y]) → Grew h h' v v' → h b = none → k b v' h') :
    ∀ b, h b = none → arun Try.prog (Builtin.append_ #[45, 45] R #[v, .slice (some ⟨b, 0, none⟩) 1 1]) (h.upd b (.cells (enc y).toArray E3 (0, 0))) (k b) := arun_snoc und_45 und_45 size_49 bytes_49 zero_49 (by decide) rfl S hl ho hbd K
theorem und_99 : Try.prog.underlying 99 = some (.slice 35) := by kernel_rfl
theorem size_35 : (Try.prog.info? 35).map (·.size) = some 2 := by kernel_rfl
theorem bytes_35 : (Try.prog.info? 35).map (·.bytes) = some 16 := by kernel_rfl
theorem zero_35 : (Try.prog.info? 35).bind (·.zero) = some (Value.agg #[Value.int .u32 0, Value.int .i64 0]) := by kernel_rfl
theorem push_api_Prefix {α : Type} {R b2 o2 c2 : Nat} {enc : α → List Value} {v : Value} {xs : List α} {y : α} {h : Hp} {k : Value → Hp → Prop} (S : SlAt h 35 2 enc v xs) (hy : ldN h b2 o2 2 = some (enc y)) (hyl : (enc y).length = 2) (hone : ∀ u ∈ enc y, oneCell u = true) (hbd : (2 * xs.length + 770) * 16 ≤ 2 ^ 48) (K : ∀ b c cap, (some b = blkOf v ∨ h b = none) → xs.length + 1 ≤ cap → cap * 2 ≤ c.size → Enc c 0 2 enc (xs ++ [y]) → k (.slice (some ⟨b, 0, none⟩) (xs.length + 1) cap) (h.upd b (.cells c 35 (0, 0)))) :
    arun Try.prog (Builtin.append_ #[99, 99] R #[v, .slice (some ⟨b2, o2, none⟩) 1 c2]) h k := arun_push und_99 und_99 size_35 bytes_35 zero_35 (by decide) rfl S hy hyl hone hbd K
theorem cat_api_Prefix {α : Type} {R : Nat} {enc : α → List Value} {v w : Value} {xs ys : List α} {h : Hp} {k : Value → Hp → Prop} (S : SlAt h 35 2 enc v xs) (R0 : Src h 2 enc w ys) (hbd : (2 * (xs.length + ys.length) + 770) * 16 ≤ 2 ^ 48) (K : ∀ v' h', SlAt h' 35 2 enc v' (xs ++ ys) → Grew h h' v v' → k v' h') :
    arun Try.prog (Builtin.append_ #[99, 99] R #[v, w]) h k := arun_cat und_99 und_99 size_35 bytes_35 zero_35 (by decide) rfl S R0 hbd K
theorem snoc_api_Prefix {α : Type} {R E3 : Nat} {enc : α → List Value} {v : Value} {xs : List α} {y : α} {h : Hp} {k : Nat → Value → Hp → Prop} (S : SlAt h 35 2 enc v xs) (hl : (enc y).length = 2) (ho : ∀ u ∈ enc y, oneCell u = true) (hbd : (2 * (xs.length + 1) + 770) * 16 ≤ 2 ^ 48) (K : ∀ b v' h', SlAt h' 35 2 enc v' (xs ++ [y]) → Grew h h' v v' → h b = none → k b v' h') :
    ∀ b, h b = none → arun Try.prog (Builtin.append_ #[99, 99] R #[v, .slice (some ⟨b, 0, none⟩) 1 1]) (h.upd b (.cells (enc y).toArray E3 (0, 0))) (k b) := arun_snoc und_99 und_99 size_35 bytes_35 zero_35 (by decide) rfl S hl ho hbd K
@[simp] theorem bd_23_0_1_2 {h : Hp} {x0 : Int} {x1 : Int} {x2 : Int} : rrun Try.prog (Instr.build 23 #[(0, Value.int .i64 x0), (1, Value.int .i64 x1), (2, Value.int .i64 x2)]) h = some (.agg #[Value.int .i64 x0, Value.int .i64 x1, Value.int .i64 x2]) := by kernel_rfl
@[simp] theorem bd_35_ {h : Hp}  : rrun Try.prog (Instr.build 35 #[]) h = some (.agg #[Value.int .u32 0, Value.int .i64 0]) := by kernel_rfl
@[simp] theorem bd_38_0_1_2 {h : Hp} {x0_0 : Int} {x0_1 : Int} {x1_0 : Int} {x1_1 : Int} {x1_2 : Int} {x2 : Int} : rrun Try.prog (Instr.build 38 #[(0, Value.agg #[Value.int .u32 x0_0, Value.int .i64 x0_1]), (1, Value.agg #[Value.int .i64 x1_0, Value.int .i64 x1_1, Value.int .i64 x1_2]), (2, Value.int .u16 x2)]) h = some (.agg #[Value.int .u32 x0_0, Value.int .i64 x0_1, Value.int .i64 x1_0, Value.int .i64 x1_1, Value.int .i64 x1_2, Value.int .u16 x2]) := by kernel_rfl
@[simp] theorem bd_38_1 {h : Hp} {x1_0 : Int} {x1_1 : Int} {x1_2 : Int} : rrun Try.prog (Instr.build 38 #[(1, Value.agg #[Value.int .i64 x1_0, Value.int .i64 x1_1, Value.int .i64 x1_2])]) h = some (.agg #[Value.int .u32 0, Value.int .i64 0, Value.int .i64 x1_0, Value.int .i64 x1_1, Value.int .i64 x1_2, Value.int .u16 0]) := by kernel_rfl
@[simp] theorem bd_40_0_1_2_3_4 {h : Hp} {x0 : Int} {x1 : Int} {x2 : Int} {x3 : Int} {x4_0_0 : Int} {x4_0_1 : Int} {x4_1_0 : Int} {x4_1_1 : Int} {x4_1_2 : Int} {x4_2 : Int} : rrun Try.prog (Instr.build 40 #[(0, Value.int .i64 x0), (1, Value.int .i64 x1), (2, Value.int .u32 x2), (3, Value.int .u32 x3), (4, Value.agg #[Value.int .u32 x4_0_0, Value.int .i64 x4_0_1, Value.int .i64 x4_1_0, Value.int .i64 x4_1_1, Value.int .i64 x4_1_2, Value.int .u16 x4_2])]) h = some (.agg #[Value.int .i64 x0, Value.int .i64 x1, Value.int .u32 x2, Value.int .u32 x3, Value.int .u32 x4_0_0, Value.int .i64 x4_0_1, Value.int .i64 x4_1_0, Value.int .i64 x4_1_1, Value.int .i64 x4_1_2, Value.int .u16 x4_2]) := by kernel_rfl
@[simp] theorem bd_40_1_2_3 {h : Hp} {x1 : Int} {x2 : Int} {x3 : Int} : rrun Try.prog (Instr.build 40 #[(1, Value.int .i64 x1), (2, Value.int .u32 x2), (3, Value.int .u32 x3)]) h = some (.agg #[Value.int .i64 0, Value.int .i64 x1, Value.int .u32 x2, Value.int .u32 x3, Value.int .u32 0, Value.int .i64 0, Value.int .i64 0, Value.int .i64 0, Value.int .i64 0, Value.int .u16 0]) := by kernel_rfl
@[simp] theorem bd_40_1_2_3_4 {h : Hp} {x1 : Int} {x2 : Int} {x3 : Int} {x4_0_0 : Int} {x4_0_1 : Int} {x4_1_0 : Int} {x4_1_1 : Int} {x4_1_2 : Int} {x4_2 : Int} : rrun Try.prog (Instr.build 40 #[(1, Value.int .i64 x1), (2, Value.int .u32 x2), (3, Value.int .u32 x3), (4, Value.agg #[Value.int .u32 x4_0_0, Value.int .i64 x4_0_1, Value.int .i64 x4_1_0, Value.int .i64 x4_1_1, Value.int .i64 x4_1_2, Value.int .u16 x4_2])]) h = some (.agg #[Value.int .i64 0, Value.int .i64 x1, Value.int .u32 x2, Value.int .u32 x3, Value.int .u32 x4_0_0, Value.int .i64 x4_0_1, Value.int .i64 x4_1_0, Value.int .i64 x4_1_1, Value.int .i64 x4_1_2, Value.int .u16 x4_2]) := by kernel_rfl
@[simp] theorem bd_40_1_2_4 {h : Hp} {x1 : Int} {x2 : Int} {x4_0_0 : Int} {x4_0_1 : Int} {x4_1_0 : Int} {x4_1_1 : Int} {x4_1_2 : Int} {x4_2 : Int} : rrun Try.prog (Instr.build 40 #[(1, Value.int .i64 x1), (2, Value.int .u32 x2), (4, Value.agg #[Value.int .u32 x4_0_0, Value.int .i64 x4_0_1, Value.int .i64 x4_1_0, Value.int .i64 x4_1_1, Value.int .i64 x4_1_2, Value.int .u16 x4_2])]) h = some (.agg #[Value.int .i64 0, Value.int .i64 x1, Value.int .u32 x2, Value.int .u32 0, Value.int .u32 x4_0_0, Value.int .i64 x4_0_1, Value.int .i64 x4_1_0, Value.int .i64 x4_1_1, Value.int .i64 x4_1_2, Value.int .u16 x4_2]) := by kernel_rfl
@[simp] theorem bd_49_0_1_2_3_4_5 {h : Hp} {x0_0 : Int} {x0_1 : Int} {x1 : Int} {x2 : Int} {x3 : Int} {x4 : Int} {x5 : Int} : rrun Try.prog (Instr.build 49 #[(0, Value.agg #[Value.int .u32 x0_0, Value.int .i64 x0_1]), (1, Value.int .i64 x1), (2, Value.int .i64 x2), (3, Value.int .i64 x3), (4, Value.int .i64 x4), (5, Value.int .u16 x5)]) h = some (.agg #[Value.int .u32 x0_0, Value.int .i64 x0_1, Value.int .i64 x1, Value.int .i64 x2, Value.int .i64 x3, Value.int .i64 x4, Value.int .u16 x5]) := by kernel_rfl
@[simp] theorem bd_65_0_1_2_3 {h : Hp} {x0 : Int} {x1 : Int} {x2 : Option Nat} {x3 : Option Nat} : rrun Try.prog (Instr.build 65 #[(0, Value.int .i64 x0), (1, Value.int .i64 x1), (2, Value.map x2), (3, Value.map x3)]) h = some (.agg #[Value.int .i64 x0, Value.int .i64 x1, Value.map x2, Value.map x3, Value.slice none 0 0]) := by kernel_rfl
@[simp] theorem bd_68_0 {h : Hp} {x0_0 : Int} {x0_1 : Int} {x0_2 : Int} : rrun Try.prog (Instr.build 68 #[(0, Value.agg #[Value.int .i64 x0_0, Value.int .i64 x0_1, Value.int .i64 x0_2])]) h = some (.agg #[Value.int .i64 x0_0, Value.int .i64 x0_1, Value.int .i64 x0_2, Value.int .u32 0, Value.int .u32 0]) := by kernel_rfl
@[simp] theorem bd_74_0_1 {h : Hp} {x0_0 : Int} {x0_1 : Int} {x0_2 : Int} {x1 : Int} : rrun Try.prog (Instr.build 74 #[(0, Value.agg #[Value.int .i64 x0_0, Value.int .i64 x0_1, Value.int .i64 x0_2]), (1, Value.int .u16 x1)]) h = some (.agg #[Value.int .i64 x0_0, Value.int .i64 x0_1, Value.int .i64 x0_2, Value.int .u16 x1, Value.int .i64 0]) := by kernel_rfl
@[simp] theorem bd_74_0_1_2 {h : Hp} {x0_0 : Int} {x0_1 : Int} {x0_2 : Int} {x1 : Int} {x2 : Int} : rrun Try.prog (Instr.build 74 #[(0, Value.agg #[Value.int .i64 x0_0, Value.int .i64 x0_1, Value.int .i64 x0_2]), (1, Value.int .u16 x1), (2, Value.int .i64 x2)]) h = some (.agg #[Value.int .i64 x0_0, Value.int .i64 x0_1, Value.int .i64 x0_2, Value.int .u16 x1, Value.int .i64 x2]) := by kernel_rfl
@[simp] theorem bd_79_0_2_4_5 {h : Hp} {x0_0 : Int} {x0_1 : Int} {x2 : Option Nat} {x4 : Int} {x5 : Option Nat} : rrun Try.prog (Instr.build 79 #[(0, Value.agg #[Value.int .u32 x0_0, Value.int .i64 x0_1]), (2, Value.map x2), (4, Value.int .i64 x4), (5, Value.map x5)]) h = some (.agg #[Value.int .u32 x0_0, Value.int .i64 x0_1, Value.pointer none, Value.map x2, Value.int .i64 0, Value.int .i64 0, Value.int .i64 0, Value.int .u16 0, Value.int .i64 0, Value.int .i64 x4, Value.map x5]) := by kernel_rfl
@[simp] theorem bs_112_1_0 {h : Hp} {x0 : Int} {k : Value → Hp → Prop} : arun Try.prog (Instr.buildSlice 112 1 #[(0, Value.int .i64 x0)]) h k = nw h (.cells #[Value.int .i64 x0] 3) fun b h => k (.slice (some ⟨b, 0, none⟩) 1 1) h := by kernel_rfl
@[simp] theorem bs_28_1_0 {h : Hp} {x0_0 : Int} {x0_1 : Int} {x0_2 : Int} {x0_3 : Int} {x0_4_0_0 : Int} {x0_4_0_1 : Int} {x0_4_1_0 : Int} {x0_4_1_1 : Int} {x0_4_1_2 : Int} {x0_4_2 : Int} {k : Value → Hp → Prop} : arun Try.prog (Instr.buildSlice 28 1 #[(0, Value.agg #[Value.int .i64 x0_0, Value.int .i64 x0_1, Value.int .u32 x0_2, Value.int .u32 x0_3, Value.int .u32 x0_4_0_0, Value.int .i64 x0_4_0_1, Value.int .i64 x0_4_1_0, Value.int .i64 x0_4_1_1, Value.int .i64 x0_4_1_2, Value.int .u16 x0_4_2])]) h k = nw h (.cells #[Value.int .i64 x0_0, Value.int .i64 x0_1, Value.int .u32 x0_2, Value.int .u32 x0_3, Value.int .u32 x0_4_0_0, Value.int .i64 x0_4_0_1, Value.int .i64 x0_4_1_0, Value.int .i64 x0_4_1_1, Value.int .i64 x0_4_1_2, Value.int .u16 x0_4_2] 40) fun b h => k (.slice (some ⟨b, 0, none⟩) 1 1) h := by kernel_rfl
@[simp] theorem bs_45_1_0 {h : Hp} {x0_0_0 : Int} {x0_0_1 : Int} {x0_1 : Int} {x0_2 : Int} {x0_3 : Int} {x0_4 : Int} {x0_5 : Int} {k : Value → Hp → Prop} : arun Try.prog (Instr.buildSlice 45 1 #[(0, Value.agg #[Value.int .u32 x0_0_0, Value.int .i64 x0_0_1, Value.int .i64 x0_1, Value.int .i64 x0_2, Value.int .i64 x0_3, Value.int .i64 x0_4, Value.int .u16 x0_5])]) h k = nw h (.cells #[Value.int .u32 x0_0_0, Value.int .i64 x0_0_1, Value.int .i64 x0_1, Value.int .i64 x0_2, Value.int .i64 x0_3, Value.int .i64 x0_4, Value.int .u16 x0_5] 49) fun b h => k (.slice (some ⟨b, 0, none⟩) 1 1) h := by kernel_rfl
@[simp] theorem bs_99_1_0 {h : Hp} {x0_0 : Int} {x0_1 : Int} {k : Value → Hp → Prop} : arun Try.prog (Instr.buildSlice 99 1 #[(0, Value.agg #[Value.int .u32 x0_0, Value.int .i64 x0_1])]) h k = nw h (.cells #[Value.int .u32 x0_0, Value.int .i64 x0_1] 35) fun b h => k (.slice (some ⟨b, 0, none⟩) 1 1) h := by kernel_rfl
@[simp] theorem cv_125_33 {h : Hp} {x : Int} : rrun Try.prog (convert 125 33 (.int .u64 x)) h = some (.int .u32 (IntKind.u32.wrap x)) := by kernel_rfl
@[simp] theorem cv_3_125 {h : Hp} {x : Int} : rrun Try.prog (convert 3 125 (.int .i64 x)) h = some (.int .u64 (IntKind.u64.wrap x)) := by kernel_rfl
theorem eql_23_raw {h : Hp} {x y : Operand} {p_0 : Int} {p_1 : Int} {p_2 : Int} {q_0 : Int} {q_1 : Int} {q_2 : Int} : rrun Try.prog (bop .eql 23 x y (Value.agg #[Value.int .i64 p_0, Value.int .i64 p_1, Value.int .i64 p_2]) (Value.agg #[Value.int .i64 q_0, Value.int .i64 q_1, Value.int .i64 q_2])) h = some (.bool ((decide (p_0 = q_0) && (decide (p_1 = q_1) && (decide (p_2 = q_2) && true))))) :=
  rr_eql_struct Try.underlying23 (by kernel_rfl) (by kernel_rfl) (rr_eqf_cons (a := Value.int .i64 p_0) (b := Value.int .i64 q_0) (by rfl) (by kernel_rfl) (by kernel_rfl) (by kernel_rfl) (rr_eqf_cons (a := Value.int .i64 p_1) (b := Value.int .i64 q_1) (by rfl) (by kernel_rfl) (by kernel_rfl) (by kernel_rfl) (rr_eqf_cons (a := Value.int .i64 p_2) (b := Value.int .i64 q_2) (by rfl) (by kernel_rfl) (by kernel_rfl) (by kernel_rfl) rr_eqf_nil)))
@[simp] theorem eql_23 {h : Hp} {x y : Operand} {p_0 : Int} {p_1 : Int} {p_2 : Int} {q_0 : Int} {q_1 : Int} {q_2 : Int} : rrun Try.prog (bop .eql 23 x y (Value.agg #[Value.int .i64 p_0, Value.int .i64 p_1, Value.int .i64 p_2]) (Value.agg #[Value.int .i64 q_0, Value.int .i64 q_1, Value.int .i64 q_2])) h = some (.bool ((decide (p_0 = q_0) && (decide (p_1 = q_1) && (decide (p_2 = q_2)))))) := by
  rw [eql_23_raw]; simp only [Bool.and_true]
@[simp] theorem eql_25_sn {h : Hp} {x y : Operand} {a : Addr} : rrun Try.prog (bop .eql 25 x y (.pointer (some a)) (.pointer none)) h = some (.bool false) := by kernel_rfl
@[simp] theorem eql_25_nn {h : Hp} {x y : Operand} {p : Option Addr} : rrun Try.prog (bop .eql 25 x y (.pointer none) (.pointer p)) h = some (.bool (p.isNone)) := by kernel_rfl
theorem eql_35_raw {h : Hp} {x y : Operand} {p_0 : Int} {p_1 : Int} {q_0 : Int} {q_1 : Int} : rrun Try.prog (bop .eql 35 x y (Value.agg #[Value.int .u32 p_0, Value.int .i64 p_1]) (Value.agg #[Value.int .u32 q_0, Value.int .i64 q_1])) h = some (.bool ((decide (p_0 = q_0) && (decide (p_1 = q_1) && true)))) :=
  rr_eql_struct Try.underlying35 (by kernel_rfl) (by kernel_rfl) (rr_eqf_cons (a := Value.int .u32 p_0) (b := Value.int .u32 q_0) (by rfl) (by kernel_rfl) (by kernel_rfl) (by kernel_rfl) (rr_eqf_cons (a := Value.int .i64 p_1) (b := Value.int .i64 q_1) (by rfl) (by kernel_rfl) (by kernel_rfl) (by kernel_rfl) rr_eqf_nil))
@[simp] theorem eql_35 {h : Hp} {x y : Operand} {p_0 : Int} {p_1 : Int} {q_0 : Int} {q_1 : Int} : rrun Try.prog (bop .eql 35 x y (Value.agg #[Value.int .u32 p_0, Value.int .i64 p_1]) (Value.agg #[Value.int .u32 q_0, Value.int .i64 q_1])) h = some (.bool ((decide (p_0 = q_0) && (decide (p_1 = q_1))))) := by
  rw [eql_35_raw]; simp only [Bool.and_true]
@[simp] theorem eql_66_sn {h : Hp} {x y : Operand} {a : Addr} : rrun Try.prog (bop .eql 66 x y (.pointer (some a)) (.pointer none)) h = some (.bool false) := by kernel_rfl
@[simp] theorem eql_66_nn {h : Hp} {x y : Operand} {p : Option Addr} : rrun Try.prog (bop .eql 66 x y (.pointer none) (.pointer p)) h = some (.bool (p.isNone)) := by kernel_rfl
@[simp] theorem eql_72_sn {h : Hp} {x y : Operand} {a : Addr} : rrun Try.prog (bop .eql 72 x y (.pointer (some a)) (.pointer none)) h = some (.bool false) := by kernel_rfl
@[simp] theorem eql_72_nn {h : Hp} {x y : Operand} {p : Option Addr} : rrun Try.prog (bop .eql 72 x y (.pointer none) (.pointer p)) h = some (.bool (p.isNone)) := by kernel_rfl
theorem eql_74_raw {h : Hp} {x y : Operand} {p_0_0 : Int} {p_0_1 : Int} {p_0_2 : Int} {p_1 : Int} {p_2 : Int} {q_0_0 : Int} {q_0_1 : Int} {q_0_2 : Int} {q_1 : Int} {q_2 : Int} : rrun Try.prog (bop .eql 74 x y (Value.agg #[Value.int .i64 p_0_0, Value.int .i64 p_0_1, Value.int .i64 p_0_2, Value.int .u16 p_1, Value.int .i64 p_2]) (Value.agg #[Value.int .i64 q_0_0, Value.int .i64 q_0_1, Value.int .i64 q_0_2, Value.int .u16 q_1, Value.int .i64 q_2])) h = some (.bool (((decide (p_0_0 = q_0_0) && (decide (p_0_1 = q_0_1) && (decide (p_0_2 = q_0_2) && true))) && (decide (p_1 = q_1) && (decide (p_2 = q_2) && true))))) :=
  rr_eql_struct Try.underlying74 (by kernel_rfl) (by kernel_rfl) (rr_eqf_cons (a := Value.agg #[Value.int .i64 p_0_0, Value.int .i64 p_0_1, Value.int .i64 p_0_2]) (b := Value.agg #[Value.int .i64 q_0_0, Value.int .i64 q_0_1, Value.int .i64 q_0_2]) (by rfl) (by kernel_rfl) (by kernel_rfl) ((rr_equalIn_struct Try.underlying23 (by kernel_rfl)).trans (rr_eqf_cons (a := Value.int .i64 p_0_0) (b := Value.int .i64 q_0_0) (by rfl) (by kernel_rfl) (by kernel_rfl) (by kernel_rfl) (rr_eqf_cons (a := Value.int .i64 p_0_1) (b := Value.int .i64 q_0_1) (by rfl) (by kernel_rfl) (by kernel_rfl) (by kernel_rfl) (rr_eqf_cons (a := Value.int .i64 p_0_2) (b := Value.int .i64 q_0_2) (by rfl) (by kernel_rfl) (by kernel_rfl) (by kernel_rfl) rr_eqf_nil)))) (rr_eqf_cons (a := Value.int .u16 p_1) (b := Value.int .u16 q_1) (by rfl) (by kernel_rfl) (by kernel_rfl) (by kernel_rfl) (rr_eqf_cons (a := Value.int .i64 p_2) (b := Value.int .i64 q_2) (by rfl) (by kernel_rfl) (by kernel_rfl) (by kernel_rfl) rr_eqf_nil)))
@[simp] theorem eql_74 {h : Hp} {x y : Operand} {p_0_0 : Int} {p_0_1 : Int} {p_0_2 : Int} {p_1 : Int} {p_2 : Int} {q_0_0 : Int} {q_0_1 : Int} {q_0_2 : Int} {q_1 : Int} {q_2 : Int} : rrun Try.prog (bop .eql 74 x y (Value.agg #[Value.int .i64 p_0_0, Value.int .i64 p_0_1, Value.int .i64 p_0_2, Value.int .u16 p_1, Value.int .i64 p_2]) (Value.agg #[Value.int .i64 q_0_0, Value.int .i64 q_0_1, Value.int .i64 q_0_2, Value.int .u16 q_1, Value.int .i64 q_2])) h = some (.bool (((decide (p_0_0 = q_0_0) && (decide (p_0_1 = q_0_1) && (decide (p_0_2 = q_0_2)))) && (decide (p_1 = q_1) && (decide (p_2 = q_2)))))) := by
  rw [eql_74_raw]; simp only [Bool.and_true]
@[simp] theorem eql_75_sn {h : Hp} {x y : Operand} {a : Addr} : rrun Try.prog (bop .eql 75 x y (.pointer (some a)) (.pointer none)) h = some (.bool false) := by kernel_rfl
@[simp] theorem eql_75_nn {h : Hp} {x y : Operand} {p : Option Addr} : rrun Try.prog (bop .eql 75 x y (.pointer none) (.pointer p)) h = some (.bool (p.isNone)) := by kernel_rfl
@[simp] theorem neq_25_sn {h : Hp} {x y : Operand} {a : Addr} : rrun Try.prog (bop .neq 25 x y (.pointer (some a)) (.pointer none)) h = some (.bool true) := by kernel_rfl
@[simp] theorem neq_25_nn {h : Hp} {x y : Operand} {p : Option Addr} : rrun Try.prog (bop .neq 25 x y (.pointer none) (.pointer p)) h = some (.bool (!p.isNone)) := by kernel_rfl
theorem neq_35_raw {h : Hp} {x y : Operand} {p_0 : Int} {p_1 : Int} {q_0 : Int} {q_1 : Int} : rrun Try.prog (bop .neq 35 x y (Value.agg #[Value.int .u32 p_0, Value.int .i64 p_1]) (Value.agg #[Value.int .u32 q_0, Value.int .i64 q_1])) h = some (.bool (!(decide (p_0 = q_0) && (decide (p_1 = q_1) && true)))) :=
  rr_neq_struct Try.underlying35 (by kernel_rfl) (by kernel_rfl) (rr_eqf_cons (a := Value.int .u32 p_0) (b := Value.int .u32 q_0) (by rfl) (by kernel_rfl) (by kernel_rfl) (by kernel_rfl) (rr_eqf_cons (a := Value.int .i64 p_1) (b := Value.int .i64 q_1) (by rfl) (by kernel_rfl) (by kernel_rfl) (by kernel_rfl) rr_eqf_nil))
@[simp] theorem neq_35 {h : Hp} {x y : Operand} {p_0 : Int} {p_1 : Int} {q_0 : Int} {q_1 : Int} : rrun Try.prog (bop .neq 35 x y (Value.agg #[Value.int .u32 p_0, Value.int .i64 p_1]) (Value.agg #[Value.int .u32 q_0, Value.int .i64 q_1])) h = some (.bool (!(decide (p_0 = q_0) && (decide (p_1 = q_1))))) := by
  rw [neq_35_raw]; simp only [Bool.and_true]
@[simp] theorem neq_66_sn {h : Hp} {x y : Operand} {a : Addr} : rrun Try.prog (bop .neq 66 x y (.pointer (some a)) (.pointer none)) h = some (.bool true) := by kernel_rfl
@[simp] theorem neq_66_nn {h : Hp} {x y : Operand} {p : Option Addr} : rrun Try.prog (bop .neq 66 x y (.pointer none) (.pointer p)) h = some (.bool (!p.isNone)) := by kernel_rfl
@[simp] theorem neq_72_sn {h : Hp} {x y : Operand} {a : Addr} : rrun Try.prog (bop .neq 72 x y (.pointer (some a)) (.pointer none)) h = some (.bool true) := by kernel_rfl
@[simp] theorem neq_72_nn {h : Hp} {x y : Operand} {p : Option Addr} : rrun Try.prog (bop .neq 72 x y (.pointer none) (.pointer p)) h = some (.bool (!p.isNone)) := by kernel_rfl
@[simp] theorem neq_75_sn {h : Hp} {x y : Operand} {a : Addr} : rrun Try.prog (bop .neq 75 x y (.pointer (some a)) (.pointer none)) h = some (.bool true) := by kernel_rfl
@[simp] theorem neq_75_nn {h : Hp} {x y : Operand} {p : Option Addr} : rrun Try.prog (bop .neq 75 x y (.pointer none) (.pointer p)) h = some (.bool (!p.isNone)) := by kernel_rfl
@[simp] theorem fa_23_0 {h : Hp} {b o : Nat} : rrun Try.prog (Instr.fieldAt 23 (.pointer (some ⟨b, o, none⟩)) 0) h = some (.pointer (some ⟨b, o, none⟩)) := by kernel_rfl
@[simp] theorem fa_23_1 {h : Hp} {b o : Nat} : rrun Try.prog (Instr.fieldAt 23 (.pointer (some ⟨b, o, none⟩)) 1) h = some (.pointer (some ⟨b, o + 1, none⟩)) := by kernel_rfl
@[simp] theorem fa_23_2 {h : Hp} {b o : Nat} : rrun Try.prog (Instr.fieldAt 23 (.pointer (some ⟨b, o, none⟩)) 2) h = some (.pointer (some ⟨b, o + 2, none⟩)) := by kernel_rfl
@[simp] theorem fa_35_0 {h : Hp} {b o : Nat} : rrun Try.prog (Instr.fieldAt 35 (.pointer (some ⟨b, o, none⟩)) 0) h = some (.pointer (some ⟨b, o, none⟩)) := by kernel_rfl
@[simp] theorem fa_35_1 {h : Hp} {b o : Nat} : rrun Try.prog (Instr.fieldAt 35 (.pointer (some ⟨b, o, none⟩)) 1) h = some (.pointer (some ⟨b, o + 1, none⟩)) := by kernel_rfl
@[simp] theorem fa_38_0 {h : Hp} {b o : Nat} : rrun Try.prog (Instr.fieldAt 38 (.pointer (some ⟨b, o, none⟩)) 0) h = some (.pointer (some ⟨b, o, none⟩)) := by kernel_rfl
@[simp] theorem fa_38_1 {h : Hp} {b o : Nat} : rrun Try.prog (Instr.fieldAt 38 (.pointer (some ⟨b, o, none⟩)) 1) h = some (.pointer (some ⟨b, o + 2, none⟩)) := by kernel_rfl
@[simp] theorem fa_38_2 {h : Hp} {b o : Nat} : rrun Try.prog (Instr.fieldAt 38 (.pointer (some ⟨b, o, none⟩)) 2) h = some (.pointer (some ⟨b, o + 5, none⟩)) := by kernel_rfl
@[simp] theorem fa_40_0 {h : Hp} {b o : Nat} : rrun Try.prog (Instr.fieldAt 40 (.pointer (some ⟨b, o, none⟩)) 0) h = some (.pointer (some ⟨b, o, none⟩)) := by kernel_rfl
@[simp] theorem fa_40_1 {h : Hp} {b o : Nat} : rrun Try.prog (Instr.fieldAt 40 (.pointer (some ⟨b, o, none⟩)) 1) h = some (.pointer (some ⟨b, o + 1, none⟩)) := by kernel_rfl
@[simp] theorem fa_40_2 {h : Hp} {b o : Nat} : rrun Try.prog (Instr.fieldAt 40 (.pointer (some ⟨b, o, none⟩)) 2) h = some (.pointer (some ⟨b, o + 2, none⟩)) := by kernel_rfl
@[simp] theorem fa_40_3 {h : Hp} {b o : Nat} : rrun Try.prog (Instr.fieldAt 40 (.pointer (some ⟨b, o, none⟩)) 3) h = some (.pointer (some ⟨b, o + 3, none⟩)) := by kernel_rfl
@[simp] theorem fa_40_4 {h : Hp} {b o : Nat} : rrun Try.prog (Instr.fieldAt 40 (.pointer (some ⟨b, o, none⟩)) 4) h = some (.pointer (some ⟨b, o + 4, none⟩)) := by kernel_rfl
@[simp] theorem fa_49_0 {h : Hp} {b o : Nat} : rrun Try.prog (Instr.fieldAt 49 (.pointer (some ⟨b, o, none⟩)) 0) h = some (.pointer (some ⟨b, o, none⟩)) := by kernel_rfl
@[simp] theorem fa_49_3 {h : Hp} {b o : Nat} : rrun Try.prog (Instr.fieldAt 49 (.pointer (some ⟨b, o, none⟩)) 3) h = some (.pointer (some ⟨b, o + 4, none⟩)) := by kernel_rfl
@[simp] theorem fa_49_4 {h : Hp} {b o : Nat} : rrun Try.prog (Instr.fieldAt 49 (.pointer (some ⟨b, o, none⟩)) 4) h = some (.pointer (some ⟨b, o + 5, none⟩)) := by kernel_rfl
@[simp] theorem fa_49_5 {h : Hp} {b o : Nat} : rrun Try.prog (Instr.fieldAt 49 (.pointer (some ⟨b, o, none⟩)) 5) h = some (.pointer (some ⟨b, o + 6, none⟩)) := by kernel_rfl
@[simp] theorem fa_55_0 {h : Hp} {b o : Nat} : rrun Try.prog (Instr.fieldAt 55 (.pointer (some ⟨b, o, none⟩)) 0) h = some (.pointer (some ⟨b, o, none⟩)) := by kernel_rfl
@[simp] theorem fa_55_1 {h : Hp} {b o : Nat} : rrun Try.prog (Instr.fieldAt 55 (.pointer (some ⟨b, o, none⟩)) 1) h = some (.pointer (some ⟨b, o + 1, none⟩)) := by kernel_rfl
@[simp] theorem fa_55_2 {h : Hp} {b o : Nat} : rrun Try.prog (Instr.fieldAt 55 (.pointer (some ⟨b, o, none⟩)) 2) h = some (.pointer (some ⟨b, o + 2, none⟩)) := by kernel_rfl
@[simp] theorem fa_65_0 {h : Hp} {b o : Nat} : rrun Try.prog (Instr.fieldAt 65 (.pointer (some ⟨b, o, none⟩)) 0) h = some (.pointer (some ⟨b, o, none⟩)) := by kernel_rfl
@[simp] theorem fa_65_1 {h : Hp} {b o : Nat} : rrun Try.prog (Instr.fieldAt 65 (.pointer (some ⟨b, o, none⟩)) 1) h = some (.pointer (some ⟨b, o + 1, none⟩)) := by kernel_rfl
@[simp] theorem fa_65_2 {h : Hp} {b o : Nat} : rrun Try.prog (Instr.fieldAt 65 (.pointer (some ⟨b, o, none⟩)) 2) h = some (.pointer (some ⟨b, o + 2, none⟩)) := by kernel_rfl
@[simp] theorem fa_65_3 {h : Hp} {b o : Nat} : rrun Try.prog (Instr.fieldAt 65 (.pointer (some ⟨b, o, none⟩)) 3) h = some (.pointer (some ⟨b, o + 3, none⟩)) := by kernel_rfl
@[simp] theorem fa_65_4 {h : Hp} {b o : Nat} : rrun Try.prog (Instr.fieldAt 65 (.pointer (some ⟨b, o, none⟩)) 4) h = some (.pointer (some ⟨b, o + 4, none⟩)) := by kernel_rfl
@[simp] theorem fa_68_0 {h : Hp} {b o : Nat} : rrun Try.prog (Instr.fieldAt 68 (.pointer (some ⟨b, o, none⟩)) 0) h = some (.pointer (some ⟨b, o, none⟩)) := by kernel_rfl
@[simp] theorem fa_68_1 {h : Hp} {b o : Nat} : rrun Try.prog (Instr.fieldAt 68 (.pointer (some ⟨b, o, none⟩)) 1) h = some (.pointer (some ⟨b, o + 3, none⟩)) := by kernel_rfl
@[simp] theorem fa_68_2 {h : Hp} {b o : Nat} : rrun Try.prog (Instr.fieldAt 68 (.pointer (some ⟨b, o, none⟩)) 2) h = some (.pointer (some ⟨b, o + 4, none⟩)) := by kernel_rfl
@[simp] theorem fa_74_0 {h : Hp} {b o : Nat} : rrun Try.prog (Instr.fieldAt 74 (.pointer (some ⟨b, o, none⟩)) 0) h = some (.pointer (some ⟨b, o, none⟩)) := by kernel_rfl
@[simp] theorem fa_74_1 {h : Hp} {b o : Nat} : rrun Try.prog (Instr.fieldAt 74 (.pointer (some ⟨b, o, none⟩)) 1) h = some (.pointer (some ⟨b, o + 3, none⟩)) := by kernel_rfl
@[simp] theorem fa_74_2 {h : Hp} {b o : Nat} : rrun Try.prog (Instr.fieldAt 74 (.pointer (some ⟨b, o, none⟩)) 2) h = some (.pointer (some ⟨b, o + 4, none⟩)) := by kernel_rfl
@[simp] theorem fa_79_0 {h : Hp} {b o : Nat} : rrun Try.prog (Instr.fieldAt 79 (.pointer (some ⟨b, o, none⟩)) 0) h = some (.pointer (some ⟨b, o, none⟩)) := by kernel_rfl
@[simp] theorem fa_79_1 {h : Hp} {b o : Nat} : rrun Try.prog (Instr.fieldAt 79 (.pointer (some ⟨b, o, none⟩)) 1) h = some (.pointer (some ⟨b, o + 2, none⟩)) := by kernel_rfl
@[simp] theorem fa_79_2 {h : Hp} {b o : Nat} : rrun Try.prog (Instr.fieldAt 79 (.pointer (some ⟨b, o, none⟩)) 2) h = some (.pointer (some ⟨b, o + 3, none⟩)) := by kernel_rfl
@[simp] theorem fa_79_3 {h : Hp} {b o : Nat} : rrun Try.prog (Instr.fieldAt 79 (.pointer (some ⟨b, o, none⟩)) 3) h = some (.pointer (some ⟨b, o + 4, none⟩)) := by kernel_rfl
@[simp] theorem fa_79_4 {h : Hp} {b o : Nat} : rrun Try.prog (Instr.fieldAt 79 (.pointer (some ⟨b, o, none⟩)) 4) h = some (.pointer (some ⟨b, o + 9, none⟩)) := by kernel_rfl
@[simp] theorem fa_79_5 {h : Hp} {b o : Nat} : rrun Try.prog (Instr.fieldAt 79 (.pointer (some ⟨b, o, none⟩)) 5) h = some (.pointer (some ⟨b, o + 10, none⟩)) := by kernel_rfl
@[simp] theorem ia_112 {h : Hp} {b o n c : Nat} {i : Int} (h0 : 0 ≤ i) (h1 : i < (n : Int)) : rrun Try.prog (Instr.indexAt 112 (.slice (some ⟨b, o, none⟩) n c) (.int .i64 i)) h = some (.pointer (some ⟨b, o + i.toNat * 1, none⟩)) := rr_indexAt_slice und_112 size_3 h0 h1
@[simp] theorem ia_28 {h : Hp} {b o n c : Nat} {i : Int} (h0 : 0 ≤ i) (h1 : i < (n : Int)) : rrun Try.prog (Instr.indexAt 28 (.slice (some ⟨b, o, none⟩) n c) (.int .i64 i)) h = some (.pointer (some ⟨b, o + i.toNat * 10, none⟩)) := rr_indexAt_slice und_28 size_40 h0 h1
@[simp] theorem ia_45 {h : Hp} {b o n c : Nat} {i : Int} (h0 : 0 ≤ i) (h1 : i < (n : Int)) : rrun Try.prog (Instr.indexAt 45 (.slice (some ⟨b, o, none⟩) n c) (.int .i64 i)) h = some (.pointer (some ⟨b, o + i.toNat * 7, none⟩)) := rr_indexAt_slice und_45 size_49 h0 h1
theorem und_52 : Try.prog.underlying 52 = some (.slice 55) := by kernel_rfl
theorem size_55 : (Try.prog.info? 55).map (·.size) = some 12 := by kernel_rfl
@[simp] theorem ia_52 {h : Hp} {b o n c : Nat} {i : Int} (h0 : 0 ≤ i) (h1 : i < (n : Int)) : rrun Try.prog (Instr.indexAt 52 (.slice (some ⟨b, o, none⟩) n c) (.int .i64 i)) h = some (.pointer (some ⟨b, o + i.toNat * 12, none⟩)) := rr_indexAt_slice und_52 size_55 h0 h1
theorem und_57 : Try.prog.underlying 57 = some (.slice 4) := by kernel_rfl
theorem size_4 : (Try.prog.info? 4).map (·.size) = some 1 := by kernel_rfl
@[simp] theorem ia_57 {h : Hp} {b o n c : Nat} {i : Int} (h0 : 0 ≤ i) (h1 : i < (n : Int)) : rrun Try.prog (Instr.indexAt 57 (.slice (some ⟨b, o, none⟩) n c) (.int .i64 i)) h = some (.pointer (some ⟨b, o + i.toNat * 1, none⟩)) := rr_indexAt_slice und_57 size_4 h0 h1
theorem und_58 : Try.prog.underlying 58 = some (.slice 33) := by kernel_rfl
theorem size_33 : (Try.prog.info? 33).map (·.size) = some 1 := by kernel_rfl
@[simp] theorem ia_58 {h : Hp} {b o n c : Nat} {i : Int} (h0 : 0 ≤ i) (h1 : i < (n : Int)) : rrun Try.prog (Instr.indexAt 58 (.slice (some ⟨b, o, none⟩) n c) (.int .i64 i)) h = some (.pointer (some ⟨b, o + i.toNat * 1, none⟩)) := rr_indexAt_slice und_58 size_33 h0 h1
@[simp] theorem ia_99 {h : Hp} {b o n c : Nat} {i : Int} (h0 : 0 ≤ i) (h1 : i < (n : Int)) : rrun Try.prog (Instr.indexAt 99 (.slice (some ⟨b, o, none⟩) n c) (.int .i64 i)) h = some (.pointer (some ⟨b, o + i.toNat * 2, none⟩)) := rr_indexAt_slice und_99 size_35 h0 h1
@[simp] theorem ld_112 {h : Hp} {a : Addr} : rrun Try.prog (Instr.loadAt 112 (.pointer (some a))) h = h.cell? a := rr_load_one (by kernel_rfl)
@[simp] theorem ld_23 {h : Hp} {b o : Nat} : rrun Try.prog (Instr.loadAt 23 (.pointer (some ⟨b, o, none⟩))) h = (ldN h b o 3).map fun l => .agg l.toArray := rr_load_agg (by kernel_rfl) (by kernel_rfl)
@[simp] theorem ld_25 {h : Hp} {a : Addr} : rrun Try.prog (Instr.loadAt 25 (.pointer (some a))) h = h.cell? a := rr_load_one (by kernel_rfl)
@[simp] theorem ld_28 {h : Hp} {a : Addr} : rrun Try.prog (Instr.loadAt 28 (.pointer (some a))) h = h.cell? a := rr_load_one (by kernel_rfl)
@[simp] theorem ld_3 {h : Hp} {a : Addr} : rrun Try.prog (Instr.loadAt 3 (.pointer (some a))) h = h.cell? a := rr_load_one (by kernel_rfl)
@[simp] theorem ld_33 {h : Hp} {a : Addr} : rrun Try.prog (Instr.loadAt 33 (.pointer (some a))) h = h.cell? a := rr_load_one (by kernel_rfl)
@[simp] theorem ld_35 {h : Hp} {b o : Nat} : rrun Try.prog (Instr.loadAt 35 (.pointer (some ⟨b, o, none⟩))) h = (ldN h b o 2).map fun l => .agg l.toArray := rr_load_agg (by kernel_rfl) (by kernel_rfl)
@[simp] theorem ld_36 {h : Hp} {a : Addr} : rrun Try.prog (Instr.loadAt 36 (.pointer (some a))) h = h.cell? a := rr_load_one (by kernel_rfl)
@[simp] theorem ld_38 {h : Hp} {b o : Nat} : rrun Try.prog (Instr.loadAt 38 (.pointer (some ⟨b, o, none⟩))) h = (ldN h b o 6).map fun l => .agg l.toArray := rr_load_agg (by kernel_rfl) (by kernel_rfl)
@[simp] theorem ld_4 {h : Hp} {a : Addr} : rrun Try.prog (Instr.loadAt 4 (.pointer (some a))) h = h.cell? a := rr_load_one (by kernel_rfl)
@[simp] theorem ld_40 {h : Hp} {b o : Nat} : rrun Try.prog (Instr.loadAt 40 (.pointer (some ⟨b, o, none⟩))) h = (ldN h b o 10).map fun l => .agg l.toArray := rr_load_agg (by kernel_rfl) (by kernel_rfl)
@[simp] theorem ld_45 {h : Hp} {a : Addr} : rrun Try.prog (Instr.loadAt 45 (.pointer (some a))) h = h.cell? a := rr_load_one (by kernel_rfl)
@[simp] theorem ld_55 {h : Hp} {b o : Nat} : rrun Try.prog (Instr.loadAt 55 (.pointer (some ⟨b, o, none⟩))) h = (ldN h b o 12).map fun l => .agg l.toArray := rr_load_agg (by kernel_rfl) (by kernel_rfl)
@[simp] theorem ld_62 {h : Hp} {a : Addr} : rrun Try.prog (Instr.loadAt 62 (.pointer (some a))) h = h.cell? a := rr_load_one (by kernel_rfl)
@[simp] theorem ld_63 {h : Hp} {a : Addr} : rrun Try.prog (Instr.loadAt 63 (.pointer (some a))) h = h.cell? a := rr_load_one (by kernel_rfl)
@[simp] theorem ld_72 {h : Hp} {a : Addr} : rrun Try.prog (Instr.loadAt 72 (.pointer (some a))) h = h.cell? a := rr_load_one (by kernel_rfl)
@[simp] theorem ld_74 {h : Hp} {b o : Nat} : rrun Try.prog (Instr.loadAt 74 (.pointer (some ⟨b, o, none⟩))) h = (ldN h b o 5).map fun l => .agg l.toArray := rr_load_agg (by kernel_rfl) (by kernel_rfl)
@[simp] theorem ld_75 {h : Hp} {a : Addr} : rrun Try.prog (Instr.loadAt 75 (.pointer (some a))) h = h.cell? a := rr_load_one (by kernel_rfl)
@[simp] theorem ld_76 {h : Hp} {a : Addr} : rrun Try.prog (Instr.loadAt 76 (.pointer (some a))) h = h.cell? a := rr_load_one (by kernel_rfl)
@[simp] theorem ld_77 {h : Hp} {a : Addr} : rrun Try.prog (Instr.loadAt 77 (.pointer (some a))) h = h.cell? a := rr_load_one (by kernel_rfl)
@[simp] theorem ld_99 {h : Hp} {a : Addr} : rrun Try.prog (Instr.loadAt 99 (.pointer (some a))) h = h.cell? a := rr_load_one (by kernel_rfl)
@[simp] theorem ln_112 {h : Hp} {a : Option Addr} {n c : Nat} : rrun Try.prog (Builtin.len_ #[112] 3 #[.slice a n c]) h = some (.int .i64 n) := by kernel_rfl
@[simp] theorem ln_28 {h : Hp} {a : Option Addr} {n c : Nat} : rrun Try.prog (Builtin.len_ #[28] 3 #[.slice a n c]) h = some (.int .i64 n) := by kernel_rfl
@[simp] theorem ln_45 {h : Hp} {a : Option Addr} {n c : Nat} : rrun Try.prog (Builtin.len_ #[45] 3 #[.slice a n c]) h = some (.int .i64 n) := by kernel_rfl
@[simp] theorem ln_52 {h : Hp} {a : Option Addr} {n c : Nat} : rrun Try.prog (Builtin.len_ #[52] 3 #[.slice a n c]) h = some (.int .i64 n) := by kernel_rfl
@[simp] theorem ln_62 {h : Hp} {r : Nat} {es : Array MapEntry} {cl : Nat} (hm : h r = some (.map es cl)) : rrun Try.prog (Builtin.len_ #[62] 3 #[.map (some r)]) h = some (.int .i64 es.size) := by
  have e : rrun Try.prog (Builtin.len_ #[62] 3 #[.map (some r)]) h = rrun Try.prog (Sem.getObj r fun o => match o with | .map es _ => .pure (.int .i64 es.size) | _ => stuck "len: map expected") h := by kernel_rfl
  rw [e]; simp only [rrun, hm, isRow]
@[simp] theorem ln_63 {h : Hp} {r : Nat} {es : Array MapEntry} {cl : Nat} (hm : h r = some (.map es cl)) : rrun Try.prog (Builtin.len_ #[63] 3 #[.map (some r)]) h = some (.int .i64 es.size) := by
  have e : rrun Try.prog (Builtin.len_ #[63] 3 #[.map (some r)]) h = rrun Try.prog (Sem.getObj r fun o => match o with | .map es _ => .pure (.int .i64 es.size) | _ => stuck "len: map expected") h := by kernel_rfl
  rw [e]; simp only [rrun, hm, isRow]
@[simp] theorem ln_77 {h : Hp} {r : Nat} {es : Array MapEntry} {cl : Nat} (hm : h r = some (.map es cl)) : rrun Try.prog (Builtin.len_ #[77] 3 #[.map (some r)]) h = some (.int .i64 es.size) := by
  have e : rrun Try.prog (Builtin.len_ #[77] 3 #[.map (some r)]) h = rrun Try.prog (Sem.getObj r fun o => match o with | .map es _ => .pure (.int .i64 es.size) | _ => stuck "len: map expected") h := by kernel_rfl
  rw [e]; simp only [rrun, hm, isRow]
@[simp] theorem ln_99 {h : Hp} {a : Option Addr} {n c : Nat} : rrun Try.prog (Builtin.len_ #[99] 3 #[.slice a n c]) h = some (.int .i64 n) := by kernel_rfl
theorem ck_63 {h : Hp} {e : Bool} {p_0 : Int} {p_1 : Int} : rrun Try.prog (Instr.checkKey e 10000 35 (Value.agg #[Value.int .u32 p_0, Value.int .i64 p_1])) h = some () := by kernel_rfl
theorem sb_63 {p_0 : Int} {p_1 : Int} : Instr.sameBits 10000 (Value.agg #[Value.int .u32 p_0, Value.int .i64 p_1]) (Value.agg #[Value.int .u32 p_0, Value.int .i64 p_1]) = true := by simp [Instr.sameBits]
theorem keq_63 {h : Hp} {p_0 : Int} {p_1 : Int} {q_0 : Int} {q_1 : Int} : rrun Try.prog (Op.equal 35 (Value.agg #[Value.int .u32 p_0, Value.int .i64 p_1]) (Value.agg #[Value.int .u32 q_0, Value.int .i64 q_1])) h = some (decide (p_0 = q_0) && (decide (p_1 = q_1) && true)) := by
  rw [show Op.equal 35 (Value.agg #[Value.int .u32 p_0, Value.int .i64 p_1]) (Value.agg #[Value.int .u32 q_0, Value.int .i64 q_1]) = Op.equalIn (9999 + 1) 35 (Value.agg #[Value.int .u32 p_0, Value.int .i64 p_1]) (Value.agg #[Value.int .u32 q_0, Value.int .i64 q_1]) from rfl, rr_equalIn_struct Try.underlying35 (by kernel_rfl)]
  exact (rr_eqf_cons (a := Value.int .u32 p_0) (b := Value.int .u32 q_0) (by rfl) (by kernel_rfl) (by kernel_rfl) (by kernel_rfl) (rr_eqf_cons (a := Value.int .i64 p_1) (b := Value.int .i64 q_1) (by rfl) (by kernel_rfl) (by kernel_rfl) (by kernel_rfl) rr_eqf_nil))
@[simp] theorem ms_57_33_33 {h : Hp} {k : Value → Hp → Prop} : arun Try.prog (Instr.makeSlice 57 (Go.Value.int Go.IntKind.i64 33) (Go.Value.int Go.IntKind.i64 33)) h k = nw h (.cells #[Value.bool false, Value.bool false, Value.bool false, Value.bool false, Value.bool false, Value.bool false, Value.bool false, Value.bool false, Value.bool false, Value.bool false, Value.bool false, Value.bool false, Value.bool false, Value.bool false, Value.bool false, Value.bool false, Value.bool false, Value.bool false, Value.bool false, Value.bool false, Value.bool false, Value.bool false, Value.bool false, Value.bool false, Value.bool false, Value.bool false, Value.bool false, Value.bool false, Value.bool false, Value.bool false, Value.bool false, Value.bool false, Value.bool false] 4) fun b h => k (.slice (some ⟨b, 0, none⟩) 33 33) h := by kernel_rfl
@[simp] theorem ms_58_33_33 {h : Hp} {k : Value → Hp → Prop} : arun Try.prog (Instr.makeSlice 58 (Go.Value.int Go.IntKind.i64 33) (Go.Value.int Go.IntKind.i64 33)) h k = nw h (.cells #[Value.int .u32 0, Value.int .u32 0, Value.int .u32 0, Value.int .u32 0, Value.int .u32 0, Value.int .u32 0, Value.int .u32 0, Value.int .u32 0, Value.int .u32 0, Value.int .u32 0, Value.int .u32 0, Value.int .u32 0, Value.int .u32 0, Value.int .u32 0, Value.int .u32 0, Value.int .u32 0, Value.int .u32 0, Value.int .u32 0, Value.int .u32 0, Value.int .u32 0, Value.int .u32 0, Value.int .u32 0, Value.int .u32 0, Value.int .u32 0, Value.int .u32 0, Value.int .u32 0, Value.int .u32 0, Value.int .u32 0, Value.int .u32 0, Value.int .u32 0, Value.int .u32 0, Value.int .u32 0, Value.int .u32 0] 33) fun b h => k (.slice (some ⟨b, 0, none⟩) 33 33) h := by kernel_rfl
theorem size_112 : (Try.prog.info? 112).map (·.size) = some 1 := by kernel_rfl
@[simp] theorem st_112 {h : Hp} {b o : Nat} {xa : Option Addr} {xn xc : Nat} {k : Unit → Hp → Prop} : arun Try.prog (Instr.storeAt 112 (.pointer (some ⟨b, o, none⟩)) (Value.slice xa xn xc)) h k = stN h b o [Value.slice xa xn xc] (k ()) := arun_store_eq size_112 rfl
theorem size_23 : (Try.prog.info? 23).map (·.size) = some 3 := by kernel_rfl
@[simp] theorem st_23 {h : Hp} {b o : Nat} {x_0 : Int} {x_1 : Int} {x_2 : Int} {k : Unit → Hp → Prop} : arun Try.prog (Instr.storeAt 23 (.pointer (some ⟨b, o, none⟩)) (Value.agg #[Value.int .i64 x_0, Value.int .i64 x_1, Value.int .i64 x_2])) h k = stN h b o [Value.int .i64 x_0, Value.int .i64 x_1, Value.int .i64 x_2] (k ()) := arun_store_eq size_23 rfl
theorem size_28 : (Try.prog.info? 28).map (·.size) = some 1 := by kernel_rfl
@[simp] theorem st_28 {h : Hp} {b o : Nat} {xa : Option Addr} {xn xc : Nat} {k : Unit → Hp → Prop} : arun Try.prog (Instr.storeAt 28 (.pointer (some ⟨b, o, none⟩)) (Value.slice xa xn xc)) h k = stN h b o [Value.slice xa xn xc] (k ()) := arun_store_eq size_28 rfl
@[simp] theorem st_3 {h : Hp} {b o : Nat} {x : Int} {k : Unit → Hp → Prop} : arun Try.prog (Instr.storeAt 3 (.pointer (some ⟨b, o, none⟩)) (Value.int .i64 x)) h k = stN h b o [Value.int .i64 x] (k ()) := arun_store_eq size_3 rfl
@[simp] theorem st_33 {h : Hp} {b o : Nat} {x : Int} {k : Unit → Hp → Prop} : arun Try.prog (Instr.storeAt 33 (.pointer (some ⟨b, o, none⟩)) (Value.int .u32 x)) h k = stN h b o [Value.int .u32 x] (k ()) := arun_store_eq size_33 rfl
@[simp] theorem st_35 {h : Hp} {b o : Nat} {x_0 : Int} {x_1 : Int} {k : Unit → Hp → Prop} : arun Try.prog (Instr.storeAt 35 (.pointer (some ⟨b, o, none⟩)) (Value.agg #[Value.int .u32 x_0, Value.int .i64 x_1])) h k = stN h b o [Value.int .u32 x_0, Value.int .i64 x_1] (k ()) := arun_store_eq size_35 rfl
@[simp] theorem st_4 {h : Hp} {b o : Nat} {x : Bool} {k : Unit → Hp → Prop} : arun Try.prog (Instr.storeAt 4 (.pointer (some ⟨b, o, none⟩)) (Value.bool x)) h k = stN h b o [Value.bool x] (k ()) := arun_store_eq size_4 rfl
theorem size_45 : (Try.prog.info? 45).map (·.size) = some 1 := by kernel_rfl
@[simp] theorem st_45 {h : Hp} {b o : Nat} {xa : Option Addr} {xn xc : Nat} {k : Unit → Hp → Prop} : arun Try.prog (Instr.storeAt 45 (.pointer (some ⟨b, o, none⟩)) (Value.slice xa xn xc)) h k = stN h b o [Value.slice xa xn xc] (k ()) := arun_store_eq size_45 rfl
@[simp] theorem st_55 {h : Hp} {b o : Nat} {x_0 : Int} {x_1 : Int} {x_2_0 : Int} {x_2_1 : Int} {x_2_2 : Int} {x_2_3 : Int} {x_2_4_0_0 : Int} {x_2_4_0_1 : Int} {x_2_4_1_0 : Int} {x_2_4_1_1 : Int} {x_2_4_1_2 : Int} {x_2_4_2 : Int} {k : Unit → Hp → Prop} : arun Try.prog (Instr.storeAt 55 (.pointer (some ⟨b, o, none⟩)) (Value.agg #[Value.int .i64 x_0, Value.int .i64 x_1, Value.int .i64 x_2_0, Value.int .i64 x_2_1, Value.int .u32 x_2_2, Value.int .u32 x_2_3, Value.int .u32 x_2_4_0_0, Value.int .i64 x_2_4_0_1, Value.int .i64 x_2_4_1_0, Value.int .i64 x_2_4_1_1, Value.int .i64 x_2_4_1_2, Value.int .u16 x_2_4_2])) h k = stA h b o [Value.int .i64 x_0, Value.int .i64 x_1, Value.int .i64 x_2_0, Value.int .i64 x_2_1, Value.int .u32 x_2_2, Value.int .u32 x_2_3, Value.int .u32 x_2_4_0_0, Value.int .i64 x_2_4_0_1, Value.int .i64 x_2_4_1_0, Value.int .i64 x_2_4_1_1, Value.int .i64 x_2_4_1_2, Value.int .u16 x_2_4_2] (k ()) := arun_store_eq size_55 rfl
theorem size_74 : (Try.prog.info? 74).map (·.size) = some 5 := by kernel_rfl
@[simp] theorem st_74 {h : Hp} {b o : Nat} {x_0_0 : Int} {x_0_1 : Int} {x_0_2 : Int} {x_1 : Int} {x_2 : Int} {k : Unit → Hp → Prop} : arun Try.prog (Instr.storeAt 74 (.pointer (some ⟨b, o, none⟩)) (Value.agg #[Value.int .i64 x_0_0, Value.int .i64 x_0_1, Value.int .i64 x_0_2, Value.int .u16 x_1, Value.int .i64 x_2])) h k = stA h b o [Value.int .i64 x_0_0, Value.int .i64 x_0_1, Value.int .i64 x_0_2, Value.int .u16 x_1, Value.int .i64 x_2] (k ()) := arun_store_eq size_74 rfl
theorem size_75 : (Try.prog.info? 75).map (·.size) = some 1 := by kernel_rfl
@[simp] theorem st_75 {h : Hp} {b o : Nat} {x : Option Addr} {k : Unit → Hp → Prop} : arun Try.prog (Instr.storeAt 75 (.pointer (some ⟨b, o, none⟩)) (Value.pointer x)) h k = stN h b o [Value.pointer x] (k ()) := arun_store_eq size_75 rfl
theorem size_99 : (Try.prog.info? 99).map (·.size) = some 1 := by kernel_rfl
@[simp] theorem st_99 {h : Hp} {b o : Nat} {xa : Option Addr} {xn xc : Nat} {k : Unit → Hp → Prop} : arun Try.prog (Instr.storeAt 99 (.pointer (some ⟨b, o, none⟩)) (Value.slice xa xn xc)) h k = stN h b o [Value.slice xa xn xc] (k ()) := arun_store_eq size_99 rfl
end Go.Proofs.Ytpeoholnlokdcaa

/- Numbers of prefixes. -/
namespace Go.Proofs.Ytpeoholnlokdcaa
open Go
set_option linter.unusedSimpArgs false

/-! ### Bits -/
def msk (n : Nat) : Nat := 2 ^ 32 - 2 ^ (32 - n)

def maskI (n : Int) : Int := IntKind.u32.wrap (4294967295 * 2 ^ (32 - max 0 (min n 32)).toNat)

theorem maskI_nat {n : Nat} (h : n ≤ 32) : maskI (n : Int) = (msk n : Nat) := by
  have : ∀ k : Fin 33, maskI ((k.1 : Nat) : Int) = (msk k.1 : Nat) := by decide
  exact this ⟨n, by omega⟩

theorem bits_and_u32 {a b : Nat} (ha : a < 2 ^ 32) (hb : b < 2 ^ 32) : bits_and .u32 (a : Int) (b : Int) = ((a &&& b : Nat) : Int) := by
  have h : (BitVec.ofInt 32 (a : Int) &&& BitVec.ofInt 32 (b : Int)).toNat = a &&& b := by
    simp [BitVec.ofInt_natCast, BitVec.toNat_and, Nat.mod_eq_of_lt ha, Nat.mod_eq_of_lt hb]
  show IntKind.u32.wrap ((BitVec.ofInt 32 (a : Int) &&& BitVec.ofInt 32 (b : Int)).toNat : Nat) = _
  rw [h, wrap_u32]
  · omega
  · have := Nat.and_le_left (n := a) (m := b); omega

theorem bits_xor_u32 {a b : Nat} (ha : a < 2 ^ 32) (hb : b < 2 ^ 32) : bits_xor .u32 (a : Int) (b : Int) = ((a ^^^ b : Nat) : Int) := by
  have h : (BitVec.ofInt 32 (a : Int) ^^^ BitVec.ofInt 32 (b : Int)).toNat = a ^^^ b := by
    simp [BitVec.ofInt_natCast, BitVec.toNat_xor, Nat.mod_eq_of_lt ha, Nat.mod_eq_of_lt hb]
  show IntKind.u32.wrap ((BitVec.ofInt 32 (a : Int) ^^^ BitVec.ofInt 32 (b : Int)).toNat : Nat) = _
  rw [h, wrap_u32]
  · omega
  · have := Nat.xor_lt_two_pow ha hb; omega

theorem bits_or_u32 {a b : Nat} (ha : a < 2 ^ 32) (hb : b < 2 ^ 32) : bits_or .u32 (a : Int) (b : Int) = ((a ||| b : Nat) : Int) := by
  have h : (BitVec.ofInt 32 (a : Int) ||| BitVec.ofInt 32 (b : Int)).toNat = a ||| b := by
    simp [BitVec.ofInt_natCast, BitVec.toNat_or, Nat.mod_eq_of_lt ha, Nat.mod_eq_of_lt hb]
  show IntKind.u32.wrap ((BitVec.ofInt 32 (a : Int) ||| BitVec.ofInt 32 (b : Int)).toNat : Nat) = _
  rw [h, wrap_u32]
  · omega
  · have := Nat.or_lt_two_pow ha hb; omega

theorem msk_lt (n : Nat) : msk n < 2 ^ 32 := by
  unfold msk
  have : 0 < 2 ^ (32 - n) := Nat.two_pow_pos _
  omega

theorem and_low (a k : Nat) : a &&& (2 ^ k - 1) = a % 2 ^ k := Nat.and_two_pow_sub_one_eq_mod a k

theorem msk_test {n i : Nat} (h : n ≤ 32) : (msk n).testBit i = (decide (32 - n ≤ i) && decide (i < 32)) := by
  have key : ∀ k : Fin 33, ∀ j : Fin 32, (msk k.1).testBit j.1 = (decide (32 - k.1 ≤ j.1) && decide (j.1 < 32)) := by decide
  rcases Nat.lt_or_ge i 32 with hi | hi
  · exact key ⟨n, by omega⟩ ⟨i, hi⟩
  · have h2 : (msk n).testBit i = false := Nat.testBit_lt_two_pow (Nat.lt_of_lt_of_le (msk_lt n) (Nat.pow_le_pow_right (by omega) hi))
    rw [h2]
    have : decide (i < 32) = false := by simp; omega
    rw [this, Bool.and_false]

theorem and_msk {a n : Nat} (ha : a < 2 ^ 32) (h : n ≤ 32) : a &&& msk n = a / 2 ^ (32 - n) * 2 ^ (32 - n) := by
  apply Nat.eq_of_testBit_eq
  intro i
  rw [Nat.testBit_and, msk_test h, Nat.testBit_mul_two_pow, Nat.testBit_div_two_pow]
  by_cases h1 : 32 - n ≤ i
  · rw [Nat.sub_add_cancel h1]
    by_cases h2 : i < 32
    · simp [h1, h2]
    · have : a.testBit i = false := Nat.testBit_lt_two_pow (Nat.lt_of_lt_of_le ha (Nat.pow_le_pow_right (by omega) (by omega)))
      simp [this]
  · simp [h1]

theorem bits_andNot_msk {a n : Nat} (ha : a < 2 ^ 32) (h : n ≤ 32) : bits_andNot .u32 (a : Int) (msk n : Nat) = ((a % 2 ^ (32 - n) : Nat) : Int) := by
  have e : (BitVec.ofInt 32 (a : Int) &&& ~~~(BitVec.ofInt 32 ((msk n : Nat) : Int))).toNat = a % 2 ^ (32 - n) := by
    have h1 : 2 ^ 32 - 1 - msk n = 2 ^ (32 - n) - 1 := by
      have : ∀ k : Fin 33, 2 ^ 32 - 1 - msk k.1 = 2 ^ (32 - k.1) - 1 := by decide
      exact this ⟨n, by omega⟩
    rw [BitVec.toNat_and, BitVec.toNat_not, BitVec.ofInt_natCast, BitVec.ofInt_natCast, BitVec.toNat_ofNat, BitVec.toNat_ofNat, Nat.mod_eq_of_lt ha, Nat.mod_eq_of_lt (msk_lt n), h1, and_low]
  show IntKind.u32.wrap ((BitVec.ofInt 32 (a : Int) &&& ~~~(BitVec.ofInt 32 ((msk n : Nat) : Int))).toNat : Nat) = _
  rw [e, wrap_u32]
  · omega
  · have := Nat.mod_le a (2 ^ (32 - n)); omega

/-- May, in plain words. -/
def mayB (a : Nat) (n : Int) : Bool := decide (0 ≤ n) && decide (n ≤ 32) && (a % 2 ^ (32 - n.toNat) == 0)

theorem cast_mod (a k : Nat) : ((a % 2 ^ k : Nat) : Int) = (a : Int) % 2 ^ k := by simp

theorem mayB_eq {a m : Nat} (h : m ≤ 32) : mayB a (m : Int) = decide ((a : Int) % 2 ^ (32 - m) = 0) := by
  rw [← cast_mod]
  have h0 : decide ((m : Int) ≤ 32) = true := by simp; omega
  unfold mayB
  rw [h0, Int.toNat_natCast]
  generalize a % 2 ^ (32 - m) = r
  rw [Bool.eq_iff_iff]
  simp

/-- Has, in plain words, of a prefix that may be. -/
def hasB (p : Nat × Nat) (x : Nat) : Bool := x / 2 ^ (32 - p.2) == p.1 / 2 ^ (32 - p.2)

theorem xor_zero {x y : Nat} : x ^^^ y = 0 ↔ x = y := by
  constructor
  · intro h
    apply Nat.eq_of_testBit_eq
    intro i
    have := congrArg (fun z => z.testBit i) h
    simp only [Nat.testBit_xor, Nat.zero_testBit] at this
    cases h1 : x.testBit i <;> cases h2 : y.testBit i <;> simp_all
  · rintro rfl; exact Nat.xor_self _

theorem xor_div (x y k : Nat) : (x ^^^ y) / 2 ^ k = x / 2 ^ k ^^^ y / 2 ^ k := by
  apply Nat.eq_of_testBit_eq
  intro i
  simp only [Nat.testBit_xor, Nat.testBit_div_two_pow]

theorem hasB_eq {a m x : Nat} (ha : a < 2 ^ 32) (hx : x < 2 ^ 32) (h : m ≤ 32) : hasB (a, m) x = decide ((((x ^^^ a) &&& msk m : Nat) : Int) = 0) := by
  rw [and_msk (Nat.xor_lt_two_pow hx ha) h, xor_div]
  unfold hasB
  rw [Bool.eq_iff_iff]
  simp only [beq_iff_eq, decide_eq_true_eq, Int.natCast_eq_zero, Nat.mul_eq_zero, xor_zero]
  have : 2 ^ (32 - m) ≠ 0 := Nat.ne_of_gt (Nat.two_pow_pos _)
  omega

theorem mayB_le {a : Nat} {n : Int} (h : mayB a n = true) : 0 ≤ n ∧ n ≤ 32 := by
  simp [mayB] at h; omega

theorem fdiv_pow (a k : Nat) : ((a : Nat) : Int).fdiv (2 ^ k) = ((a / 2 ^ k : Nat) : Int) := by
  rw [Int.fdiv_eq_ediv_of_nonneg _ (Int.le_of_lt (Int.pow_pos (by omega)))]
  simp

theorem cast_eq (q a : Nat) : decide (q = a) = decide ((q : Int) = (a : Int)) := by
  rw [Bool.eq_iff_iff]; simp only [decide_eq_true_eq]; omega

theorem msk_step {i : Nat} (h : i < 32) : msk (i + 1) = msk i + 2 ^ 31 / 2 ^ i ∧ msk (i + 1) < 2 ^ 32 ∧ 2 ^ 31 / 2 ^ i < 2 ^ 32 ∧ 2 ^ 31 / 2 ^ (i + 1) = 2 ^ 31 / 2 ^ i / 2 := by
  have key : ∀ k : Fin 32, msk (k.1 + 1) = msk k.1 + 2 ^ 31 / 2 ^ k.1 ∧ msk (k.1 + 1) < 2 ^ 32 ∧ 2 ^ 31 / 2 ^ k.1 < 2 ^ 32 ∧ 2 ^ 31 / 2 ^ (k.1 + 1) = 2 ^ 31 / 2 ^ k.1 / 2 := by decide
  exact key ⟨i, h⟩

end Go.Proofs.Ytpeoholnlokdcaa

/- prefix.Less. -/
namespace Go.Proofs.Ytpeoholnlokdcaa
open Go
set_option linter.unusedSimpArgs false

theorem less_spec {a b : Nat} {n m : Int} {h : Hp} {Q : Value → Hp → Prop} (hQ : Q (.bool (decide (a < b) || (decide (a = b) && decide (n < m)))) h) :
    Ok Try.prog F_prefix_Less #[.agg #[.int .u32 a, .int .i64 n], .agg #[.int .u32 b, .int .i64 m]] h Q := by
  refine prefix_Less_ok (by simp) ?_
  unfold prefix_Less_D
  simp (disch := omega) [prefix_Less_r0]
  intro b1 hb1 b2 hb2
  obtain ⟨n12, hb2'⟩ := upd_none hb2
  have l : Le h ((h.upd b1 (.cells #[.int .u32 a, .int .i64 n] 35)).upd b2 (.cells #[.int .u32 b, .int .i64 m] 35)) := (Le.new hb1).upd hb2
  by_cases e' : a = b
  · subst e'
    simp (disch := omega) [prefix_Less_r1, prefix_Less_r3, Ne.symm n12]
    refine .to h l ?_
    simpa using hQ
  · have e : ¬ (a : Int) = b := by omega
    simp (disch := omega) [prefix_Less_r1, prefix_Less_r2, e, Ne.symm n12]
    refine .to h l ?_
    simpa [e'] using hQ

end Go.Proofs.Ytpeoholnlokdcaa

/- Contracts of the shelf, laid at this program in plain words (printed by wip/kit/sp.sh). -/
namespace Go.Proofs.Ytpeoholnlokdcaa
open Go Go.Shelf Go.RowKit
set_option maxRecDepth 100000
def sortI_ren : Go.Shelf.Ren := ⟨fun | 125 => 60 | 128 => 72 | 129 => 73 | 189 => 56 | 215 => 91 | 216 => 80 | 257 => 63 | 294 => 74 | 295 => 75 | 296 => 76 | 297 => 77 | 298 => 78 | 299 => 79 | 300 => 81 | 301 => 82 | 328 => 88 | 329 => 84 | 330 => 85 | 331 => 89 | 332 => 90 | 343 => 93 | n => n, fun | 28 => 112 | 46 => 125 | 51 => 33 | 53 => 137 | 131 => 41 | 182 => 129 | 183 => 130 | 218 => 144 | 222 => 148 | 228 => 152 | 229 => 153 | n => n, fun  | n => n⟩
theorem sortI : Lays.n189 Try.prog sortI_ren where
  mixed := by kernel_rfl
  f125 := Try.func60.trans (congrArg some (by kernel_rfl))
  f128 := Try.func72.trans (congrArg some (by kernel_rfl))
  f129 := Try.func73.trans (congrArg some (by kernel_rfl))
  f189 := Try.func56.trans (congrArg some (by kernel_rfl))
  f215 := Try.func91.trans (congrArg some (by kernel_rfl))
  f216 := Try.func80.trans (congrArg some (by kernel_rfl))
  f257 := Try.func63.trans (congrArg some (by kernel_rfl))
  f294 := Try.func74.trans (congrArg some (by kernel_rfl))
  f295 := Try.func75.trans (congrArg some (by kernel_rfl))
  f296 := Try.func76.trans (congrArg some (by kernel_rfl))
  f297 := Try.func77.trans (congrArg some (by kernel_rfl))
  f298 := Try.func78.trans (congrArg some (by kernel_rfl))
  f299 := Try.func79.trans (congrArg some (by kernel_rfl))
  f300 := Try.func81.trans (congrArg some (by kernel_rfl))
  f301 := Try.func82.trans (congrArg some (by kernel_rfl))
  f328 := Try.func88.trans (congrArg some (by kernel_rfl))
  f329 := Try.func84.trans (congrArg some (by kernel_rfl))
  f330 := Try.func85.trans (congrArg some (by kernel_rfl))
  f331 := Try.func89.trans (congrArg some (by kernel_rfl))
  f332 := Try.func90.trans (congrArg some (by kernel_rfl))
  f343 := Try.func93.trans (congrArg some (by kernel_rfl))
  t0 := Try.underlying0
  a0 := Try.isAgg0
  z0 := Try.sizeOf0
  v0 := Try.zeroValue0
  t3 := Try.underlying3
  a3 := Try.isAgg3
  z3 := Try.sizeOf3
  v3 := Try.zeroValue3
  t4 := Try.underlying4
  a4 := Try.isAgg4
  z4 := Try.sizeOf4
  v4 := Try.zeroValue4
  t5 := Try.underlying5
  a5 := Try.isAgg5
  z5 := Try.sizeOf5
  v5 := Try.zeroValue5
  t9 := Try.underlying9
  a9 := Try.isAgg9
  z9 := Try.sizeOf9
  v9 := Try.zeroValue9
  t28 := Try.underlying112
  a28 := Try.isAgg112
  z28 := Try.sizeOf112
  v28 := Try.zeroValue112
  t46 := Try.underlying125
  a46 := Try.isAgg125
  z46 := Try.sizeOf125
  v46 := Try.zeroValue125
  t51 := Try.underlying33
  a51 := Try.isAgg33
  z51 := Try.sizeOf33
  v51 := Try.zeroValue33
  t53 := Try.underlying137
  a53 := Try.isAgg137
  z53 := Try.sizeOf137
  v53 := Try.zeroValue137
  t131 := Try.underlying41
  a131 := Try.isAgg41
  z131 := Try.sizeOf41
  v131 := Try.zeroValue41
  t182 := Try.underlying129
  a182 := Try.isAgg129
  z182 := Try.sizeOf129
  v182 := Try.zeroValue129
  t183 := Try.underlying130
  a183 := Try.isAgg130
  z183 := Try.sizeOf130
  v183 := Try.zeroValue130
  t218 := Try.underlying144
  a218 := Try.isAgg144
  z218 := Try.sizeOf144
  v218 := Try.zeroValue144
  t222 := Try.underlying148
  a222 := Try.isAgg148
  z222 := Try.sizeOf148
  v222 := Try.zeroValue148
  t228 := Try.underlying152
  a228 := Try.isAgg152
  z228 := Try.sizeOf152
  v228 := Try.zeroValue152
  t229 := Try.underlying153
  a229 := Try.isAgg153
  z229 := Try.sizeOf153
  v229 := Try.zeroValue153
def sortP_ren : Go.Shelf.Ren := ⟨fun | 6 => 51 | 14 => 59 | 15 => 60 | 20 => 64 | 21 => 65 | 22 => 66 | 23 => 67 | 24 => 68 | 25 => 69 | 26 => 70 | 27 => 71 | 28 => 72 | 29 => 73 | 46 => 83 | 47 => 84 | 48 => 85 | 49 => 86 | 50 => 87 | 57 => 92 | n => n, fun | 22 => 99 | 24 => 35 | 25 => 105 | 39 => 125 | 45 => 129 | 46 => 130 | 50 => 41 | 53 => 33 | 55 => 137 | 66 => 144 | 70 => 148 | 76 => 152 | 77 => 153 | n => n, fun  | n => n⟩
theorem sortP : SlLaysF0.n6 Try.prog sortP_ren where
  mixed := by kernel_rfl
  f6 := ⟨Try.f51.name, by decide, Try.func51.trans (congrArg some (by kernel_rfl))⟩
  f14 := ⟨Try.f59.name, by decide, Try.func59.trans (congrArg some (by kernel_rfl))⟩
  f15 := Try.func60.trans (congrArg some (by kernel_rfl))
  f20 := ⟨Try.f64.name, by decide, Try.func64.trans (congrArg some (by kernel_rfl))⟩
  f21 := ⟨Try.f65.name, by decide, Try.func65.trans (congrArg some (by kernel_rfl))⟩
  f22 := ⟨Try.f66.name, by decide, Try.func66.trans (congrArg some (by kernel_rfl))⟩
  f23 := ⟨Try.f67.name, by decide, Try.func67.trans (congrArg some (by kernel_rfl))⟩
  f24 := ⟨Try.f68.name, by decide, Try.func68.trans (congrArg some (by kernel_rfl))⟩
  f25 := ⟨Try.f69.name, by decide, Try.func69.trans (congrArg some (by kernel_rfl))⟩
  f26 := ⟨Try.f70.name, by decide, Try.func70.trans (congrArg some (by kernel_rfl))⟩
  f27 := ⟨Try.f71.name, by decide, Try.func71.trans (congrArg some (by kernel_rfl))⟩
  f28 := Try.func72.trans (congrArg some (by kernel_rfl))
  f29 := Try.func73.trans (congrArg some (by kernel_rfl))
  f46 := ⟨Try.f83.name, by decide, Try.func83.trans (congrArg some (by kernel_rfl))⟩
  f47 := Try.func84.trans (congrArg some (by kernel_rfl))
  f48 := Try.func85.trans (congrArg some (by kernel_rfl))
  f49 := ⟨Try.f86.name, by decide, Try.func86.trans (congrArg some (by kernel_rfl))⟩
  f50 := ⟨Try.f87.name, by decide, Try.func87.trans (congrArg some (by kernel_rfl))⟩
  f57 := ⟨Try.f92.name, by decide, Try.func92.trans (congrArg some (by kernel_rfl))⟩
  t0 := Try.underlying0
  a0 := Try.isAgg0
  z0 := Try.sizeOf0
  v0 := Try.zeroValue0
  t3 := Try.underlying3
  a3 := Try.isAgg3
  z3 := Try.sizeOf3
  v3 := Try.zeroValue3
  t4 := Try.underlying4
  a4 := Try.isAgg4
  z4 := Try.sizeOf4
  v4 := Try.zeroValue4
  t5 := Try.underlying5
  a5 := Try.isAgg5
  z5 := Try.sizeOf5
  v5 := Try.zeroValue5
  t9 := Try.underlying9
  a9 := Try.isAgg9
  z9 := Try.sizeOf9
  v9 := Try.zeroValue9
  t22 := Try.underlying99
  a22 := Try.isAgg99
  z22 := Try.sizeOf99
  v22 := Try.zeroValue99
  t25 := Try.underlying105
  a25 := Try.isAgg105
  z25 := Try.sizeOf105
  v25 := Try.zeroValue105
  t39 := Try.underlying125
  a39 := Try.isAgg125
  z39 := Try.sizeOf125
  v39 := Try.zeroValue125
  t45 := Try.underlying129
  a45 := Try.isAgg129
  z45 := Try.sizeOf129
  v45 := Try.zeroValue129
  t46 := Try.underlying130
  a46 := Try.isAgg130
  z46 := Try.sizeOf130
  v46 := Try.zeroValue130
  t50 := Try.underlying41
  a50 := Try.isAgg41
  z50 := Try.sizeOf41
  v50 := Try.zeroValue41
  t53 := Try.underlying33
  a53 := Try.isAgg33
  z53 := Try.sizeOf33
  v53 := Try.zeroValue33
  t55 := Try.underlying137
  a55 := Try.isAgg137
  z55 := Try.sizeOf137
  v55 := Try.zeroValue137
  t66 := Try.underlying144
  a66 := Try.isAgg144
  z66 := Try.sizeOf144
  v66 := Try.zeroValue144
  t70 := Try.underlying148
  a70 := Try.isAgg148
  z70 := Try.sizeOf148
  v70 := Try.zeroValue148
  t76 := Try.underlying152
  a76 := Try.isAgg152
  z76 := Try.sizeOf152
  v76 := Try.zeroValue152
  t77 := Try.underlying153
  a77 := Try.isAgg153
  z77 := Try.sizeOf153
  v77 := Try.zeroValue153
def bitsP_ren : Go.Shelf.Ren := ⟨fun | 125 => 60 | 128 => 72 | 129 => 73 | n => n, fun | 46 => 125 | 51 => 33 | 53 => 137 | n => n, fun  | n => n⟩
theorem bitsP : Lays.n125 Try.prog bitsP_ren where
  mixed := by kernel_rfl
  f125 := Try.func60.trans (congrArg some (by kernel_rfl))
  f128 := Try.func72.trans (congrArg some (by kernel_rfl))
  f129 := Try.func73.trans (congrArg some (by kernel_rfl))
  t3 := Try.underlying3
  a3 := Try.isAgg3
  z3 := Try.sizeOf3
  v3 := Try.zeroValue3
  t4 := Try.underlying4
  a4 := Try.isAgg4
  z4 := Try.sizeOf4
  v4 := Try.zeroValue4
  t5 := Try.underlying5
  a5 := Try.isAgg5
  z5 := Try.sizeOf5
  v5 := Try.zeroValue5
  t9 := Try.underlying9
  a9 := Try.isAgg9
  z9 := Try.sizeOf9
  v9 := Try.zeroValue9
  t46 := Try.underlying125
  a46 := Try.isAgg125
  z46 := Try.sizeOf125
  v46 := Try.zeroValue125
  t51 := Try.underlying33
  a51 := Try.isAgg33
  z51 := Try.sizeOf33
  v51 := Try.zeroValue33
  t53 := Try.underlying137
  a53 := Try.isAgg137
  z53 := Try.sizeOf137
  v53 := Try.zeroValue137
end Go.Proofs.Ytpeoholnlokdcaa

/- Bits of 16. -/
namespace Go.Proofs.Ytpeoholnlokdcaa
open Go
theorem bits_and_u16 {a b : Nat} (ha : a < 2 ^ 16) (hb : b < 2 ^ 16) : bits_and .u16 (a : Int) (b : Int) = ((a &&& b : Nat) : Int) := by
  have h : (BitVec.ofInt 16 (a : Int) &&& BitVec.ofInt 16 (b : Int)).toNat = a &&& b := by
    simp [BitVec.ofInt_natCast, BitVec.toNat_and, Nat.mod_eq_of_lt ha, Nat.mod_eq_of_lt hb]
  show IntKind.u16.wrap ((BitVec.ofInt 16 (a : Int) &&& BitVec.ofInt 16 (b : Int)).toNat : Nat) = _
  rw [h, wrap_u16]
  · omega
  · have := Nat.and_le_left (n := a) (m := b); omega
theorem bits_or_u16 {a b : Nat} (ha : a < 2 ^ 16) (hb : b < 2 ^ 16) : bits_or .u16 (a : Int) (b : Int) = ((a ||| b : Nat) : Int) := by
  have h : (BitVec.ofInt 16 (a : Int) ||| BitVec.ofInt 16 (b : Int)).toNat = a ||| b := by
    simp [BitVec.ofInt_natCast, BitVec.toNat_or, Nat.mod_eq_of_lt ha, Nat.mod_eq_of_lt hb]
  show IntKind.u16.wrap ((BitVec.ofInt 16 (a : Int) ||| BitVec.ofInt 16 (b : Int)).toNat : Nat) = _
  rw [h, wrap_u16]
  · omega
  · have := Nat.or_lt_two_pow ha hb; omega
end Go.Proofs.Ytpeoholnlokdcaa

/- tags.Has. -/
namespace Go.Proofs.Ytpeoholnlokdcaa
open Go
set_option linter.unusedSimpArgs false

/-- A set has a domain. -/
def hasT (t : Nat) (d : Int) : Bool := decide (0 ≤ d) && (decide (d < 16) && (t / 2 ^ d.toNat % 2 == 1))

theorem tmay_spec {d : Int} {h : Hp} {Q : Value → Hp → Prop} (hQ : Q (.bool (decide (0 ≤ d) && decide (d < 16))) h) : Ok Try.prog F_tags_may #[.int .i64 d] h Q := by
  refine tags_may_ok (by simp) ?_
  unfold tags_may_D
  by_cases h0 : 0 ≤ d
  · simp (disch := omega) [tags_may_r0, tags_may_r1, h0]
    exact .to _ (.refl _) (by simpa [h0] using hQ)
  · simp (disch := omega) [tags_may_r0, tags_may_r1, h0]
    exact .to _ (.refl _) (by simpa [h0] using hQ)

theorem thas_spec {t : Nat} {d : Int} {h : Hp} {Q : Value → Hp → Prop} (ht : t < 2 ^ 16) (hQ : Q (.bool (hasT t d)) h) : Ok Try.prog F_tags_Has #[.int .u16 (t : Nat), .int .i64 d] h Q := by
  refine tags_Has_ok (by simp) ?_
  unfold tags_Has_D
  simp (disch := omega) [tags_Has_r0, tags_Has_r1]
  refine tmay_spec ?_
  by_cases h0 : 0 ≤ d
  · by_cases h1 : d < 16
    · obtain ⟨m, rfl⟩ := Int.eq_ofNat_of_zero_le h0
      have hm : m < 16 := by omega
      have e1 : min m 16 = m := by omega
      have e2 : bits_and .u16 ((t : Int).fdiv (2 ^ m)) 1 = ((t / 2 ^ m % 2 : Nat) : Int) := by
        rw [fdiv_pow]
        have := bits_and_u16 (a := t / 2 ^ m) (b := 1) (Nat.lt_of_le_of_lt (Nat.div_le_self _ _) ht) (by omega)
        rw [Nat.and_one_is_mod] at this
        exact this
      have e3 : decide (((t / 2 ^ m % 2 : Nat) : Int) = 1) = hasT t (m : Int) := by
        unfold hasT
        rw [Bool.eq_iff_iff]
        simp only [decide_eq_true_eq, Bool.and_eq_true, beq_iff_eq, Int.toNat_natCast]
        omega
      generalize t / 2 ^ m % 2 = q at e2 e3
      simp (disch := omega) [h0, hm, h1, e1, e2]
      refine .to _ (.refl _) ?_
      rw [← e3] at hQ
      exact hQ
    · simp (disch := omega) [h0, h1]
      exact .to _ (.refl _) (by simpa [hasT, h0, h1] using hQ)
  · simp (disch := omega) [h0]
    exact .to _ (.refl _) (by simpa [hasT, h0] using hQ)
end Go.Proofs.Ytpeoholnlokdcaa

/- prefix.Mask, prefix.May. -/
namespace Go.Proofs.Ytpeoholnlokdcaa
open Go
set_option linter.unusedSimpArgs false

theorem mask_spec {n : Int} {h : Hp} {Q : Value → Hp → Prop} (hQ : Q (.int .u32 (maskI n)) h) : Ok Try.prog F_prefix_Mask #[.int .i64 n] h Q := by
  refine prefix_Mask_ok (by simp) ?_
  unfold prefix_Mask_D
  simp (disch := omega) [prefix_Mask_r0, prefix_Mask_r1, wrap_i64]
  exact .to h (.refl _) hQ

theorem may_spec {a : Nat} {n : Int} {h : Hp} {Q : Value → Hp → Prop} (ha : a < 2 ^ 32) (hQ : Q (.bool (mayB a n)) h) : Ok Try.prog F_prefix_May #[.agg #[.int .u32 a, .int .i64 n]] h Q := by
  refine prefix_May_ok (by simp) ?_
  unfold prefix_May_D
  simp (disch := omega) [prefix_May_r0]
  intro b hb
  by_cases h0 : 0 ≤ n
  · by_cases h1 : n ≤ 32
    · simp (disch := omega) [prefix_May_r1, h0, h1]
      refine mask_spec ?_
      obtain ⟨m, rfl⟩ := Int.eq_ofNat_of_zero_le h0
      rw [maskI_nat (by omega)]
      simp (disch := omega) [bits_andNot_msk]
      refine .to h (.new hb) ?_
      rw [mayB_eq (by omega)] at hQ
      exact hQ
    · simp (disch := omega) [prefix_May_r1, h0, h1]
      refine .to h (.new hb) ?_
      simpa [mayB, h0, h1] using hQ
  · simp (disch := omega) [prefix_May_r1, h0]
    refine .to h (.new hb) ?_
    simpa [mayB, h0] using hQ

end Go.Proofs.Ytpeoholnlokdcaa

/- Rules that keep simp out of what is done behind an operation that it can't work off: to be imported by texts that want it. -/
namespace Go.Proofs.Ytpeoholnlokdcaa
open Go

section
variable {P : Program} {h : Hp}
@[congr] theorem rdv_stop {o o' : Option Value} {k : Value → Prop} {r : Unit → Prop} (e : o = o') (_t : ∀ u : Unit, (True ∧ True) = r u) : rdv o k = rdv o' k := by rw [e]
@[congr] theorem rd_stop {s s' : Sem Value} {k : Value → Prop} {r : Unit → Prop} (e : s = s') (_t : ∀ u : Unit, (True ∧ True) = r u) : rd P s h k = rd P s' h k := by rw [e]
@[congr] theorem arun_stop {α : Type} {s s' : Sem α} {k : α → Hp → Prop} {r : Unit → Prop} (e : s = s') (_t : ∀ u : Unit, (True ∧ True) = r u) : arun P s h k = arun P s' h k := by rw [e]
@[congr] theorem Ok_stop {f : Nat} {a a' : Array Value} {k : Value → Hp → Prop} {r : Unit → Prop} (e : a = a') (_t : ∀ u : Unit, (True ∧ True) = r u) : Ok P f a h k = Ok P f a' h k := by rw [e]
@[congr] theorem callV_stop {v v' : Value} {a a' : Array Value} {k : Value → Hp → Prop} {r : Unit → Prop} (e0 : v = v') (e : a = a') (_t : ∀ u : Unit, (True ∧ True) = r u) : callV P v a h k = callV P v' a' h k := by rw [e0, e]
@[congr] theorem nck_stop {x x' : Value} {q : Prop} {r : Unit → Prop} (e : x = x') (_t : ∀ u : Unit, (True ∧ True) = r u) : nck x q = nck x' q := by rw [e]
@[congr] theorem gd_stop {c c' : Bool} {ex : Hp → (Value → Hp → Prop) → Prop} {k : Value → Hp → Prop} {r : Unit → Prop} (e : c = c') (_t : ∀ u : Unit, (True ∧ True) = r u) : gd c ex h k = gd c' ex h k := by rw [e]
@[congr] theorem stw_stop {c c' : Option Value} {f f' : Bool} {q : Prop} {r : Unit → Prop} (e : c = c') (e2 : f = f') (_t : ∀ u : Unit, (True ∧ True) = r u) : stw c f q = stw c' f' q := by rw [e, e2]
@[congr] theorem brv_stop {v v' : Value} {x y : Prop} {r : Unit → Prop} (e : v = v') (_t : ∀ u : Unit, (True ∧ True) = r u) : brv v x y = brv v' x y := by rw [e]
@[congr] theorem stA_stop {h h' : Hp} {b o : Nat} {l l' : List Value} {k : Hp → Prop} {r : Unit → Prop} (e0 : h = h') (e : l = l') (_t : ∀ u : Unit, (True ∧ True) = r u) : stA h b o l k = stA h' b o l' k := by rw [e0, e]
end
end Go.Proofs.Ytpeoholnlokdcaa

/- Whole numbers as float64: exact below 2 ^ 53; sums; back to whole numbers. -/
namespace Go.Proofs.Ytpeoholnlokdcaa
open Go Ieee
set_option linter.unusedVariables false

def fl (n : Nat) : Nat := double.nearest false n 0

theorem log2_shift {n : Nat} (hn : n ≠ 0) : ∀ k, (n * 2 ^ k).log2 = n.log2 + k
  | 0 => by simp
  | k + 1 => by
    have h := log2_shift hn k
    have hne : n * 2 ^ k ≠ 0 := Nat.mul_ne_zero hn (Nat.pos_iff_ne_zero.1 (Nat.two_pow_pos k))
    have : n * 2 ^ (k + 1) = 2 * (n * 2 ^ k) := by rw [Nat.pow_succ]; rw [Nat.mul_comm (2 ^ k) 2, Nat.mul_left_comm]
    rw [this, Nat.log2_two_mul hne, h]; omega

theorem cut_exact {way : Toward} {X d : Nat} (hX : 0 < X) : way.cut false (X * 2 ^ d) d = X := by
  unfold Toward.cut
  have hp : 0 < 2 ^ d := Nat.two_pow_pos d
  have hd : min d ((X * 2 ^ d).log2 + 2) = d := by
    have := log2_shift (n := X) (by omega) d
    omega
  simp only [hd, Nat.one_shiftLeft, Nat.mul_div_cancel _ hp, Nat.mul_mod_left]
  cases way <;> simp

/-- The significand and the place of a whole number's word. -/
theorem nearest_shift {n k : Nat} (h0 : n ≠ 0) (h : n < 2 ^ 53) (hk : k ≤ 2000) : double.nearest false (n * 2 ^ k) (-(k : Int)) = (n.log2 + 1022) * 2 ^ 52 + n * 2 ^ (52 - n.log2) := by
  have hL : n.log2 < 53 := (Nat.log2_lt h0).2 h
  unfold Format.nearest
  have hp : 0 < 2 ^ k := Nat.two_pow_pos k
  have hm : n * 2 ^ k ≠ 0 := Nat.mul_ne_zero h0 (by omega)
  rw [if_neg hm, log2_shift h0]
  have hlp : double.leastPlace = -1074 := by decide
  have hfb : double.fractionBits = 52 := rfl
  have hbin : double.binade = 2 ^ 52 := rfl
  have hinf : double.infRung = 2047 * 2 ^ 52 := by decide
  simp only [hlp, hfb, hbin, hinf]
  have hlast : max (-(k : Int) + ((n.log2 + k : Nat) : Int) - ((52 : Nat) : Int)) (-1074) = (n.log2 : Int) - 52 := by omega
  rw [hlast]
  have hXlt : n * 2 ^ (52 - n.log2) < 2 ^ 53 := by
    have h1 : n < 2 ^ (n.log2 + 1) := Nat.lt_log2_self
    have h2 : n * 2 ^ (52 - n.log2) < 2 ^ (n.log2 + 1) * 2 ^ (52 - n.log2) := Nat.mul_lt_mul_of_pos_right h1 (Nat.two_pow_pos _)
    rw [← Nat.pow_add, show n.log2 + 1 + (52 - n.log2) = 53 by omega] at h2
    exact h2
  have hXpos : 0 < n * 2 ^ (52 - n.log2) := Nat.mul_pos (by omega) (Nat.two_pow_pos _)
  have hcut : Toward.even.cut false ((n * 2 ^ k) <<< (-(k : Int) - ((n.log2 : Int) - 52)).toNat) ((n.log2 : Int) - 52 - -(k : Int)).toNat = n * 2 ^ (52 - n.log2) := by
    by_cases hks : k ≤ 52 - n.log2
    · have e1 : (-(k : Int) - ((n.log2 : Int) - 52)).toNat = 52 - n.log2 - k := by omega
      have e2 : ((n.log2 : Int) - 52 - -(k : Int)).toNat = 0 := by omega
      rw [e1, e2, Nat.shiftLeft_eq, Nat.mul_assoc, ← Nat.pow_add, show k + (52 - n.log2 - k) = 52 - n.log2 by omega]
      have := cut_exact (way := .even) (d := 0) hXpos
      simpa using this
    · have e1 : (-(k : Int) - ((n.log2 : Int) - 52)).toNat = 0 := by omega
      have e2 : ((n.log2 : Int) - 52 - -(k : Int)).toNat = k - (52 - n.log2) := by omega
      rw [e1, e2, Nat.shiftLeft_eq, Nat.pow_zero, Nat.mul_one]
      have e3 : n * 2 ^ k = n * 2 ^ (52 - n.log2) * 2 ^ (k - (52 - n.log2)) := by rw [Nat.mul_assoc, ← Nat.pow_add]; congr 2; omega
      rw [e3]
      exact cut_exact hXpos
  rw [hcut]
  have hr : ((n.log2 : Int) - 52 - -1074).toNat = n.log2 + 1022 := by omega
  rw [hr]
  have hle : (n.log2 + 1022) * 2 ^ 52 + n * 2 ^ (52 - n.log2) ≤ 2047 * 2 ^ 52 := by omega
  rw [Nat.min_eq_left hle]
  rfl

theorem fl_eq {n : Nat} (h0 : n ≠ 0) (h : n < 2 ^ 53) : fl n = (n.log2 + 1022) * 2 ^ 52 + n * 2 ^ (52 - n.log2) := by
  have := nearest_shift (k := 0) h0 h (by omega)
  simpa [fl] using this
theorem read_fl {n : Nat} (h : n < 2 ^ 53) : ∃ k : Nat, k ≤ 1074 ∧ double.read (fl n) = .number false (n * 2 ^ k) (-(k : Int)) := by
  by_cases h0 : n = 0
  · subst h0
    obtain ⟨k, hk⟩ : ∃ k : Nat, k = 1074 := ⟨_, rfl⟩
    refine ⟨k, by omega, ?_⟩
    rw [Nat.zero_mul, hk]
    decide
  · have hL : n.log2 < 53 := (Nat.log2_lt h0).2 h
    refine ⟨52 - n.log2, by omega, ?_⟩
    rw [fl_eq h0 h]
    have h1 : n < 2 ^ (n.log2 + 1) := Nat.lt_log2_self
    have h2 : n * 2 ^ (52 - n.log2) < 2 ^ 53 := by
      have h2 : n * 2 ^ (52 - n.log2) < 2 ^ (n.log2 + 1) * 2 ^ (52 - n.log2) := Nat.mul_lt_mul_of_pos_right h1 (Nat.two_pow_pos _)
      rw [← Nat.pow_add, show n.log2 + 1 + (52 - n.log2) = 53 by omega] at h2
      exact h2
    have h3 : 2 ^ 52 ≤ n * 2 ^ (52 - n.log2) := by
      have h4 : 2 ^ n.log2 ≤ n := Nat.log2_self_le h0
      have h5 : 2 ^ n.log2 * 2 ^ (52 - n.log2) ≤ n * 2 ^ (52 - n.log2) := Nat.mul_le_mul_right _ h4
      rw [← Nat.pow_add, show n.log2 + (52 - n.log2) = 52 by omega] at h5
      exact h5
    generalize n * 2 ^ (52 - n.log2) = X at *
    unfold Format.read
    have hsw : double.signWeight = 2 ^ 63 := by decide
    have hbin : double.binade = 2 ^ 52 := rfl
    have hinf : double.infRung = 2047 * 2 ^ 52 := by decide
    have hlp : double.leastPlace = -1074 := by decide
    simp only [hsw, hbin, hinf, hlp]
    have hmod : ((n.log2 + 1022) * 2 ^ 52 + X) % 2 ^ 63 = (n.log2 + 1022) * 2 ^ 52 + X := Nat.mod_eq_of_lt (by omega)
    have hdiv : ((n.log2 + 1022) * 2 ^ 52 + X) / 2 ^ 63 = 0 := Nat.div_eq_of_lt (by omega)
    rw [hmod, hdiv, if_neg (by omega), if_pos (by omega)]
    have e1 : ((n.log2 + 1022) * 2 ^ 52 + X) % 2 ^ 52 = X - 2 ^ 52 := by omega
    have e2 : ((n.log2 + 1022) * 2 ^ 52 + X) / 2 ^ 52 = n.log2 + 1023 := by omega
    rw [e1, e2]
    have e3 : 2 ^ 52 + (X - 2 ^ 52) = X := by omega
    have e4 : (-1074 : Int) + ((n.log2 + 1023 - 1 : Nat) : Int) = -((52 - n.log2 : Nat) : Int) := by omega
    rw [e3, e4]
    rfl
theorem toInt_fl {n : Nat} (h : n < 2 ^ 53) : (double.read (fl n)).toInt .zero = some (n : Int) := by
  obtain ⟨k, hk, e⟩ := read_fl h
  rw [e]
  unfold Datum.toInt Datum.integral
  have e1 : (-(k : Int)).toNat = 0 := by omega
  have e2 : (- -(k : Int)).toNat = k := by omega
  simp only [e1, e2, Nat.shiftLeft_zero]
  by_cases h0 : n = 0
  · subst h0
    have : Toward.zero.cut false (0 * 2 ^ k) k = 0 := by
      unfold Toward.cut; simp
    rw [this]; rfl
  · rw [cut_exact (by omega)]
    unfold signed; simp
theorem add_fl {a b : Nat} (h : a + b < 2 ^ 53) : double.add (fl a) (fl b) = some (fl (a + b)) := by
  obtain ⟨i, hi, ea⟩ := read_fl (n := a) (by omega)
  obtain ⟨j, hj, eb⟩ := read_fl (n := b) (by omega)
  unfold Format.add
  rw [ea, eb]
  unfold Datum.sum
  simp only
  have total : signed false (a * 2 ^ i) (-(i : Int) - min (-(i : Int)) (-(j : Int))).toNat + signed false (b * 2 ^ j) (-(j : Int) - min (-(i : Int)) (-(j : Int))).toNat = (((a + b) * 2 ^ max i j : Nat) : Int) := by
    unfold signed
    simp only [if_false, Bool.false_eq_true]
    rw [Nat.shiftLeft_eq, Nat.shiftLeft_eq, Nat.mul_assoc, Nat.mul_assoc, ← Nat.pow_add, ← Nat.pow_add]
    have e1 : i + (-(i : Int) - min (-(i : Int)) (-(j : Int))).toNat = max i j := by omega
    have e2 : j + (-(j : Int) - min (-(i : Int)) (-(j : Int))).toNat = max i j := by omega
    rw [e1, e2, Nat.add_mul]; omega
  have hbase : min (-(i : Int)) (-(j : Int)) = -((max i j : Nat) : Int) := by omega
  rw [total, hbase]
  generalize hk : max i j = k
  have hk2 : k ≤ 2000 := by omega
  rw [Option.map_some]
  congr 1
  unfold Format.write
  simp only [Int.natAbs_natCast]
  by_cases h0 : a + b = 0
  · have : ((((a + b) * 2 ^ k : Nat) : Int)) = 0 := by rw [h0]; simp
    rw [if_pos this]
    simp only [Bool.and_self]
    rw [h0]
    unfold fl Format.nearest; simp
  · have hne : ¬ (((((a + b) * 2 ^ k : Nat)) : Int) = 0) := by
      have := Nat.mul_ne_zero h0 (Nat.pos_iff_ne_zero.1 (Nat.two_pow_pos k))
      omega
    rw [if_neg hne]
    have hneg : decide ((((a + b) * 2 ^ k : Nat) : Int) < 0) = false := by
      rw [decide_eq_false_iff_not]; omega
    rw [hneg, nearest_shift h0 h hk2, fl_eq h0 h]
end Go.Proofs.Ytpeoholnlokdcaa

/- Paths and how good they are. -/
namespace Go.Proofs.Ytpeoholnlokdcaa
open Go
set_option linter.unusedSimpArgs false
set_option linter.unusedVariables false

structure Vec where
  b : Int
  d : Int
  h : Int
deriving DecidableEq
abbrev Vec.v (x : Vec) : Value := .agg #[.int .i64 x.b, .int .i64 x.d, .int .i64 x.h]
abbrev Vec.cells (x : Vec) : Array Value := #[.int .i64 x.b, .int .i64 x.d, .int .i64 x.h]
def Vec.enc (x : Vec) : List Value := [.int .i64 x.b, .int .i64 x.d, .int .i64 x.h]

def mayV (v : Vec) : Bool := decide (1 ≤ v.b) && (decide (v.b ≤ 10000000) && (decide (0 ≤ v.d) && (decide (v.d ≤ 16777216) && (decide (0 ≤ v.h) && decide (v.h ≤ 100)))))
def reachV (v : Vec) : Bool := mayV v && (decide (v.d < 16777216) && decide (v.h < 100))
def ofV (v : Vec) : Int := if reachV v then min (256 * (Int.tdiv 10000000 v.b + v.d)) 4294967294 else 4294967295
def betterV (a b : Vec) : Bool := decide (ofV a < ofV b) || (decide (ofV a = ofV b) && decide (a.h < b.h))
def withinI (n most : Int) : Int := max 0 (min n most)
def joinV (v w : Vec) : Vec := ⟨min v.b w.b, withinI (withinI v.d 16777216 + withinI w.d 16777216) 16777216, withinI (withinI v.h 100 + withinI w.h 100) 100⟩
theorem mayV_iff {v : Vec} : mayV v = true ↔ 1 ≤ v.b ∧ v.b ≤ 10000000 ∧ 0 ≤ v.d ∧ v.d ≤ 16777216 ∧ 0 ≤ v.h ∧ v.h ≤ 100 := by unfold mayV; simp
theorem reachV_iff {v : Vec} : reachV v = true ↔ mayV v = true ∧ v.d < 16777216 ∧ v.h < 100 := by unfold reachV; simp
theorem ofV_bounds {v : Vec} : 0 ≤ ofV v ∧ ofV v ≤ 4294967295 ∧ (reachV v = true → ofV v ≤ 4294967294) := by
  unfold ofV
  split
  · rename_i h
    obtain ⟨h1, h2, h3⟩ := reachV_iff.1 h
    obtain ⟨m1, m2, m3, m4, m5, m6⟩ := mayV_iff.1 h1
    have : 0 ≤ Int.tdiv 10000000 v.b := Int.tdiv_nonneg (by omega) (by omega)
    refine ⟨?_, ?_, fun _ => ?_⟩ <;> omega
  · rename_i h
    exact ⟨by omega, by omega, fun q => absurd q h⟩

section
variable {h : Hp} {Q : Value → Hp → Prop}
theorem withinM {n most : Int} (hQ : Q (.int .i64 (withinI n most)) h) : Ok Try.prog F_metric_within #[.int .i64 n, .int .i64 most] h Q := by
  refine metric_within_ok (by simp) ?_
  unfold metric_within_D
  simp (disch := omega) [metric_within_r0, metric_within_r1]
  exact .to _ (.refl _) hQ
theorem mayVM {v : Vec} (hQ : ∀ h', Le h h' → Q (.bool (mayV v)) h') : Ok Try.prog F_metric_May #[v.v] h Q := by
  refine metric_May_ok (by simp) ?_
  unfold metric_May_D
  simp (disch := omega) [metric_May_r0]
  intro b hb
  have f1 : (h.upd b (.cells v.cells 23)) b = some (.cells #[.int .i64 v.b, .int .i64 v.d, .int .i64 v.h] 23 (0, 0)) := upd_same
  have hQ' := hQ _ (.new (o := .cells v.cells 23) hb)
  show metric_May_r1 _ (h.upd b (.cells v.cells 23)) _
  generalize h.upd b (.cells v.cells 23) = h1 at *
  unfold mayV at hQ'
  by_cases c1 : 1 ≤ v.b
  · by_cases c2 : v.b ≤ 10000000
    · by_cases c3 : 0 ≤ v.d
      · by_cases c4 : v.d ≤ 16777216
        · by_cases c5 : 0 ≤ v.h
          · simp (disch := omega) [metric_May_r1, f1, c1, c2, c3, c4, c5]
            exact .to _ (.refl _) (by simpa [c1, c2, c3, c4, c5] using hQ')
          · simp (disch := omega) [metric_May_r1, f1, c1, c2, c3, c4, c5]
            exact .to _ (.refl _) (by simpa [c1, c2, c3, c4, c5] using hQ')
        · simp (disch := omega) [metric_May_r1, f1, c1, c2, c3, c4]
          exact .to _ (.refl _) (by simpa [c1, c2, c3, c4] using hQ')
      · simp (disch := omega) [metric_May_r1, f1, c1, c2, c3]
        exact .to _ (.refl _) (by simpa [c1, c2, c3] using hQ')
    · simp (disch := omega) [metric_May_r1, f1, c1, c2]
      exact .to _ (.refl _) (by simpa [c1, c2] using hQ')
  · simp (disch := omega) [metric_May_r1, f1, c1]
    exact .to _ (.refl _) (by simpa [c1] using hQ')
theorem reachVM {v : Vec} (hQ : ∀ h', Le h h' → Q (.bool (reachV v)) h') : Ok Try.prog F_metric_Reached #[v.v] h Q := by
  refine metric_Reached_ok (by simp) ?_
  unfold metric_Reached_D
  simp (disch := omega) [metric_Reached_r0]
  intro b hb
  have f1 : (h.upd b (.cells v.cells 23)) b = some (.cells #[.int .i64 v.b, .int .i64 v.d, .int .i64 v.h] 23 (0, 0)) := upd_same
  have l1 : Le h (h.upd b (.cells v.cells 23)) := .new hb
  show metric_Reached_r1 _ (h.upd b (.cells v.cells 23)) _
  generalize h.upd b (.cells v.cells 23) = h1 at *
  simp (disch := omega) [metric_Reached_r1, f1]
  refine mayVM (fun h2 l2 => ?_)
  have f2 := l2 _ _ f1
  have hQ' := hQ _ (l1.trans l2)
  unfold reachV at hQ'
  cases hm : mayV v with
  | false =>
    rw [hm] at hQ'
    simp (disch := omega)
    exact .to _ (.refl _) (by simpa using hQ')
  | true =>
    rw [hm] at hQ'
    by_cases c1 : v.d < 16777216
    · simp (disch := omega) [f2, c1]
      exact .to _ (.refl _) (by simpa [c1] using hQ')
    · simp (disch := omega) [f2, c1]
      exact .to _ (.refl _) (by simpa [c1] using hQ')
theorem ofVM {v : Vec} (hQ : ∀ h', Le h h' → Q (.int .i64 (ofV v)) h') : Ok Try.prog F_metric_Of #[v.v] h Q := by
  refine metric_Of_ok (by simp) ?_
  unfold metric_Of_D
  simp (disch := omega) [metric_Of_r0]
  intro b hb
  have f1 : (h.upd b (.cells v.cells 23)) b = some (.cells #[.int .i64 v.b, .int .i64 v.d, .int .i64 v.h] 23 (0, 0)) := upd_same
  have l1 : Le h (h.upd b (.cells v.cells 23)) := .new hb
  show metric_Of_r1 _ (h.upd b (.cells v.cells 23)) _
  generalize h.upd b (.cells v.cells 23) = h1 at *
  simp (disch := omega) [metric_Of_r1, f1]
  refine reachVM (fun h2 l2 => ?_)
  have f2 := l2 _ _ f1
  have hQ' := hQ _ (l1.trans l2)
  unfold ofV at hQ'
  cases hm : reachV v with
  | false =>
    rw [hm, if_neg (by simp)] at hQ'
    simp (disch := omega) [metric_Of_r2]
    exact .to _ (.refl _) hQ'
  | true =>
    rw [hm, if_pos rfl] at hQ'
    obtain ⟨h1', h2', h3'⟩ := reachV_iff.1 hm
    obtain ⟨m1, m2, m3, m4, m5, m6⟩ := mayV_iff.1 h1'
    have q0 : 0 ≤ Int.tdiv 10000000 v.b := Int.tdiv_nonneg (by omega) (by omega)
    have q1 : Int.tdiv 10000000 v.b ≤ 10000000 := Int.tdiv_le_self _ (by omega)
    have ne : ¬ v.b = 0 := by omega
    have w1 : IntKind.i64.wrap (Int.tdiv 10000000 v.b) = Int.tdiv 10000000 v.b := by rw [wrap_i64] <;> omega
    have w2 : IntKind.i64.wrap (Int.tdiv 10000000 v.b + v.d) = Int.tdiv 10000000 v.b + v.d := by rw [wrap_i64] <;> omega
    have w3 : IntKind.i64.wrap (256 * (Int.tdiv 10000000 v.b + v.d)) = 256 * (Int.tdiv 10000000 v.b + v.d) := by rw [wrap_i64] <;> omega
    simp (disch := omega) [metric_Of_r3, f2, ne, w1, w2, w3]
    exact .to _ (.refl _) hQ'
theorem betterVM {a b : Vec} (hQ : ∀ h', Le h h' → Q (.bool (betterV a b)) h') : Ok Try.prog F_metric_Better #[a.v, b.v] h Q := by
  refine metric_Better_ok (by simp) ?_
  unfold metric_Better_D
  simp (disch := omega) [metric_Better_r0]
  intro b2 hb2 b3 hb3
  obtain ⟨n32, hb3'⟩ := upd_none hb3
  have L1 : Le h ((h.upd b2 (.cells a.cells 23)).upd b3 (.cells b.cells 23)) := (Le.new hb2).trans (Le.new hb3)
  have f2 : ((h.upd b2 (.cells a.cells 23)).upd b3 (.cells b.cells 23)) b2 = some (.cells #[.int .i64 a.b, .int .i64 a.d, .int .i64 a.h] 23 (0, 0)) := by rw [upd_ne (Ne.symm n32), upd_same]
  have f3 : ((h.upd b2 (.cells a.cells 23)).upd b3 (.cells b.cells 23)) b3 = some (.cells #[.int .i64 b.b, .int .i64 b.d, .int .i64 b.h] 23 (0, 0)) := upd_same
  show metric_Better_r1 _ ((h.upd b2 (.cells a.cells 23)).upd b3 (.cells b.cells 23)) _
  generalize (h.upd b2 (.cells a.cells 23)).upd b3 (.cells b.cells 23) = h1 at *
  simp (disch := omega) [metric_Better_r1, f2, f3]
  refine ofVM (fun h2 l2 => ?_)
  have f32 := l2 _ _ f3
  simp (disch := omega) [f32]
  refine ofVM (fun h4 l4 => ?_)
  have f24 := l4 _ _ (l2 _ _ f2)
  have f34 := l4 _ _ f32
  have hQ' := hQ _ (L1.trans (l2.trans l4))
  unfold betterV at hQ'
  generalize ofV a = x at *
  generalize ofV b = y at *
  by_cases c1 : x < y
  · simp (disch := omega) [metric_Better_r2, c1]
    exact .to _ (.refl _) (by simpa [c1] using hQ')
  · by_cases c2 : x = y
    · simp (disch := omega) [metric_Better_r2, c1, eq_true c2, f24, f34]
      exact .to _ (.refl _) (by simpa [c1, c2] using hQ')
    · simp (disch := omega) [metric_Better_r2, c1, c2]
      exact .to _ (.refl _) (by simpa [c1, c2] using hQ')
end
end Go.Proofs.Ytpeoholnlokdcaa

/- A path with a link ahead of it. -/
namespace Go.Proofs.Ytpeoholnlokdcaa
open Go
set_option linter.unusedSimpArgs false
set_option linter.unusedVariables false

theorem fmt64 : FloatKind.format .f64 = Ieee.double := rfl
theorem cv_int_float {n : Nat} {h : Hp} : rrun Try.prog (convert 3 91 (.int .i64 (n : Nat))) h = some (.float .f64 (fl n)) := by
  have e : rrun Try.prog (convert 3 91 (.int .i64 (n : Nat))) h = some (.float .f64 (FloatKind.f64.nearest (n : Int))) := by kernel_rfl
  rw [e]
  unfold FloatKind.nearest FloatKind.encode Ieee.Format.write fl
  have h1 : decide ((n : Int) < 0) = false := by rw [decide_eq_false_iff_not]; omega
  rw [fmt64]
  simp only [h1, Int.natAbs_natCast]
theorem cv_float_int {n : Nat} {h : Hp} (hn : n < 2 ^ 53) : rrun Try.prog (convert 91 3 (.float .f64 (fl n))) h = some (.int .i64 (n : Nat)) := by
  have e : rrun Try.prog (convert 91 3 (.float .f64 (fl n))) h = rrun Try.prog (Conv.floatToInt .f64 (fl n) .i64) h := by kernel_rfl
  rw [e]
  unfold Conv.floatToInt
  have : (FloatKind.decode .f64 (fl n)).toInt .zero = some (n : Int) := toInt_fl hn
  rw [this]
  simp only
  rw [if_pos ⟨by show (-9223372036854775808 : Int) ≤ _; omega, by show _ ≤ (9223372036854775807 : Int); omega⟩]
  rfl
theorem rr_complex {ts : Array TypeId} {t : TypeId} {a b : Nat} {h : Hp} : rrun Try.prog (Builtin.complex_ ts t #[.float .f64 a, .float .f64 b]) h = some (.complex .f64 a b) := by rfl
theorem rr_real {ts : Array TypeId} {t : TypeId} {a b : Nat} {h : Hp} : rrun Try.prog (Builtin.real_ ts t #[.complex .f64 a b]) h = some (.float .f64 a) := by rfl
theorem rr_imag {ts : Array TypeId} {t : TypeId} {a b : Nat} {h : Hp} : rrun Try.prog (Builtin.imag_ ts t #[.complex .f64 a b]) h = some (.float .f64 b) := by rfl
theorem rr_fadd {a b : Nat} {h : Hp} (hs : a + b < 2 ^ 53) : rrun Try.prog (Op.Complex.arith .add .f64 (fl a) (fl b)) h = some (fl (a + b)) := by
  unfold Op.Complex.arith Op.floatArith
  simp only [rrun_bnd, rrun_pure, Option.bind_some, fmt64, add_fl hs]
theorem rr_cadd {t : TypeId} {x y : Operand} {a b c d : Nat} {h : Hp} (h1 : a + c < 2 ^ 53) (h2 : b + d < 2 ^ 53) : rrun Try.prog (bop .add t x y (.complex .f64 (fl a) (fl b)) (.complex .f64 (fl c) (fl d))) h = some (.complex .f64 (fl (a + c)) (fl (b + d))) := by
  unfold bop
  have e : binOp .add t (.complex .f64 (fl a) (fl b)) (.complex .f64 (fl c) (fl d)) = Op.complexOp .add .f64 (fl a) (fl b) (fl c) (fl d) := by simp [binOp]
  rw [rrun_bnd, e]
  have g : rrun Try.prog (eqGuard .add t x y (.complex .f64 (fl a) (fl b)) (.complex .f64 (fl c) (fl d))) h = some () := by rfl
  rw [g, Option.bind_some]
  unfold Op.complexOp
  simp only [rrun_bnd, rrun_pure, Option.bind_some, rr_fadd h1, rr_fadd h2]
end Go.Proofs.Ytpeoholnlokdcaa

/- metric.Join; ways ahead of ways. -/
namespace Go.Proofs.Ytpeoholnlokdcaa
open Go
set_option linter.unusedSimpArgs false
set_option linter.unusedVariables false

theorem withinI_nat {n most : Int} (hm : 0 ≤ most) : ∃ k : Nat, withinI n most = (k : Int) ∧ (k : Int) ≤ most := by
  unfold withinI
  exact ⟨(max 0 (min n most)).toNat, by omega, by omega⟩

section
variable {h : Hp} {Q : Value → Hp → Prop}
theorem lengthM {v : Vec} {d e : Nat} (hd : withinI v.d 16777216 = (d : Int)) (he : withinI v.h 100 = (e : Int)) (hQ : ∀ h', Le h h' → Q (.complex .f64 (fl d) (fl e)) h') : Ok Try.prog F_metric_length #[v.v] h Q := by
  refine metric_length_ok (by simp) ?_
  unfold metric_length_D
  simp (disch := omega) [metric_length_r0]
  intro b hb
  have f1 : (h.upd b (.cells v.cells 23)) b = some (.cells #[.int .i64 v.b, .int .i64 v.d, .int .i64 v.h] 23 (0, 0)) := upd_same
  have l1 : Le h (h.upd b (.cells v.cells 23)) := .new hb
  show metric_length_r1 _ (h.upd b (.cells v.cells 23)) _
  generalize h.upd b (.cells v.cells 23) = h1 at *
  simp (disch := omega) [metric_length_r1, f1]
  refine withinM ?_
  rw [hd]
  simp (disch := omega) [f1, cv_int_float]
  refine withinM ?_
  rw [he]
  simp (disch := omega) [f1, cv_int_float, rr_complex]
  exact .to _ (.refl _) (hQ _ l1)

set_option maxHeartbeats 1000000 in
theorem joinM {v w : Vec} (hQ : ∀ h', Le h h' → Q (joinV v w).v h') : Ok Try.prog F_metric_Join #[v.v, w.v] h Q := by
  refine metric_Join_ok (by simp) ?_
  unfold metric_Join_D
  simp (disch := omega) [metric_Join_r0]
  intro b2 hb2 b3 hb3 b4 hb4
  obtain ⟨n43, hb4'⟩ := upd_none hb4
  obtain ⟨n42, hb4''⟩ := upd_none hb4'
  obtain ⟨n32, hb3'⟩ := upd_none hb3
  have L1 : Le h (((h.upd b2 (.cells v.cells 23)).upd b3 (.cells w.cells 23)).upd b4 (.cells #[.int .i64 0, .int .i64 0, .int .i64 0] 23)) := ((Le.new hb2).trans (Le.new hb3)).trans (Le.new hb4)
  have f2 : (((h.upd b2 (.cells v.cells 23)).upd b3 (.cells w.cells 23)).upd b4 (.cells #[.int .i64 0, .int .i64 0, .int .i64 0] 23)) b2 = some (.cells #[.int .i64 v.b, .int .i64 v.d, .int .i64 v.h] 23 (0, 0)) := by rw [upd_ne (Ne.symm n42), upd_ne (Ne.symm n32), upd_same]
  have f3 : (((h.upd b2 (.cells v.cells 23)).upd b3 (.cells w.cells 23)).upd b4 (.cells #[.int .i64 0, .int .i64 0, .int .i64 0] 23)) b3 = some (.cells #[.int .i64 w.b, .int .i64 w.d, .int .i64 w.h] 23 (0, 0)) := by rw [upd_ne (Ne.symm n43), upd_same]
  have f4 : (((h.upd b2 (.cells v.cells 23)).upd b3 (.cells w.cells 23)).upd b4 (.cells #[.int .i64 0, .int .i64 0, .int .i64 0] 23)) b4 = some (.cells #[.int .i64 0, .int .i64 0, .int .i64 0] 23 (0, 0)) := upd_same
  show metric_Join_r1 _ (((h.upd b2 (.cells v.cells 23)).upd b3 (.cells w.cells 23)).upd b4 (.cells #[.int .i64 0, .int .i64 0, .int .i64 0] 23)) _
  generalize ((h.upd b2 (.cells v.cells 23)).upd b3 (.cells w.cells 23)).upd b4 (.cells #[.int .i64 0, .int .i64 0, .int .i64 0] 23) = h1 at *
  obtain ⟨d1, e1, m1⟩ := withinI_nat (n := v.d) (most := 16777216) (by omega)
  obtain ⟨d2, e2, m2⟩ := withinI_nat (n := w.d) (most := 16777216) (by omega)
  obtain ⟨k1, e3, m3⟩ := withinI_nat (n := v.h) (most := 100) (by omega)
  obtain ⟨k2, e4, m4⟩ := withinI_nat (n := w.h) (most := 100) (by omega)
  simp (disch := omega) [metric_Join_r1, f2, f3]
  refine lengthM e1 e3 (fun h2 l2 => ?_)
  have f32 := l2 _ _ f3
  simp (disch := omega) [f32]
  refine lengthM e2 e4 (fun h3 l3 => ?_)
  have f23 := l3 _ _ (l2 _ _ f2)
  have f33 := l3 _ _ f32
  have f43 := l3 _ _ (l2 _ _ f4)
  have L3 := L1.trans (l2.trans l3)
  have hb4h : h b4 = none := hb4''
  simp (disch := omega) [rr_cadd, metric_Join_r2, rr_real, rr_imag, cv_float_int, f23, f33]
  refine withinM ?_
  simp (disch := omega) [rr_imag, f23, f33]
  refine withinM ?_
  simp (disch := omega) [f23, f33, f43]
  have hJ : joinV v w = ⟨min v.b w.b, withinI ((d1 : Int) + (d2 : Int)) 16777216, withinI ((k1 : Int) + (k2 : Int)) 100⟩ := by unfold joinV; rw [e1, e2, e3, e4]
  have hq := hQ (h3.upd b4 (.cells (joinV v w).cells 23)) (fun y o e => by rw [upd_ne (by rintro rfl; rw [hb4h] at e; cases e)]; exact L3 _ _ e)
  rw [hJ] at hq
  exact .to _ (.refl _) hq
end
end Go.Proofs.Ytpeoholnlokdcaa

/- Maps with integer keys; a range over a map, whatever order is drawn. -/
namespace Go.Proofs.Ytpeoholnlokdcaa
open Go
set_option linter.unusedSimpArgs false
set_option linter.unusedVariables false

section
variable {P : Program} {h : Hp} {α β : Type} [DecidableEq α] {kenc : α → Value} {venc : β → Value}

theorem findNow_int {kd kd' : IntKind} {f : α → Int} (hf : ∀ x y, f x = f y → x = y) {a : α} : ∀ {es : List MapEntry} {m : List (α × β)} (i : Nat), Ents (fun x => .int kd (f x)) venc es m →
    Instr.findNow (.int kd') (.int kd (f a)) es i = some ((findM a m i).map fun x => (x.1, venc x.2)) := by
  intro es m i H
  induction H generalizing i with
  | nil => rfl
  | @cons e es k v m h1 h2 _ ih =>
    unfold Instr.findNow
    have hs : Instr.sameNow (.int kd') (.int kd (f a)) e.key = some (f a == f k) := by
      rw [h1]; simp [Instr.sameNow]
    rw [hs]
    by_cases hak : a = k
    · subst hak; simp [findM, h2]
    · have : (f a == f k) = false := by simp; exact fun e => hak (hf _ _ e)
      rw [this]
      simp only [findM, if_neg hak]
      exact ih _

theorem rr_findKey_int {kt : TypeId} {kd kd' : IntKind} {f : α → Int} (hf : ∀ x y, f x = f y → x = y) {a : α} (hu : P.underlying kt = some (.int kd')) {es : List MapEntry} {m : List (α × β)} (H : Ents (fun x => .int kd (f x)) venc es m) :
    rrun P (Instr.findKey kt (.int kd (f a)) es) h = some ((findM a m 0).map fun x => (x.1, venc x.2)) := by
  unfold Instr.findKey
  rw [rrun_bnd, rr_underlying, hu, Option.bind_some, findNow_int hf 0 H]
  rfl

/-! ### When entries came -/
def BornOk (es : List MapEntry) (clock : Nat) : Prop := (es.map (·.born)).Nodup ∧ ∀ e ∈ es, e.born < clock

def MapB (h : Hp) (r : Nat) (kenc : α → Value) (venc : β → Value) (m : List (α × β)) : Prop := ∃ es clock, h r = some (.map es clock) ∧ Ents kenc venc es.toList m ∧ BornOk es.toList clock

omit [DecidableEq α] in
theorem MapB.at {r : Nat} {m : List (α × β)} (M : MapB h r kenc venc m) : MapAt h r kenc venc m := by
  obtain ⟨es, clock, h1, h2, _⟩ := M; exact ⟨es, clock, h1, h2⟩

omit [DecidableEq α] in
theorem MapB.keep {h' : Hp} {r : Nat} {m : List (α × β)} (M : MapB h r kenc venc m) (e : h' r = h r) : MapB h' r kenc venc m := by
  obtain ⟨es, clock, h1, h2, h3⟩ := M; exact ⟨es, clock, by rw [e]; exact h1, h2, h3⟩

omit [DecidableEq α] in
theorem MapB.le {h' : Hp} {r : Nat} {m : List (α × β)} (M : MapB h r kenc venc m) (e : Le h h') : MapB h' r kenc venc m := by
  obtain ⟨es, clock, h1, h2, h3⟩ := M; exact ⟨es, clock, e _ _ h1, h2, h3⟩

omit [DecidableEq α] in
theorem MapB.alive {r : Nat} {m : List (α × β)} (M : MapB h r kenc venc m) : ∃ o, h r = some o := by
  obtain ⟨es, clock, h1, _⟩ := M; exact ⟨_, h1⟩

theorem BornOk.push {es : List MapEntry} {c : Nat} (B : BornOk es c) {k v : Value} : BornOk (es ++ [{ key := k, val := v, born := c }]) (c + 1) := by
  refine ⟨?_, fun e he => ?_⟩
  · rw [List.map_append, List.nodup_append]
    refine ⟨B.1, by simp, fun x hx y hy => ?_⟩
    obtain ⟨e, he, rfl⟩ := List.mem_map.1 hx
    simp at hy; subst hy
    exact Nat.ne_of_lt (B.2 e he)
  · rcases List.mem_append.1 he with q | q
    · exact Nat.lt_succ_of_lt (B.2 e q)
    · simp at q; subst q; exact Nat.lt_succ_self _

theorem map_modify_same {γ δ : Type} (g : γ → δ) (f : γ → γ) (hg : ∀ x, g (f x) = g x) : ∀ (l : List γ) (j : Nat), (l.modify j f).map g = l.map g
  | [], j => by simp
  | x :: xs, 0 => by simp [hg]
  | x :: xs, j + 1 => by simp [map_modify_same g f hg xs j]

theorem BornOk.modify {es : List MapEntry} {c j : Nat} (B : BornOk es c) {f : MapEntry → MapEntry} (hf : ∀ e, (f e).born = e.born) : BornOk (es.modify j f) c := by
  have e := map_modify_same (·.born) f hf es j
  refine ⟨by rw [e]; exact B.1, fun x hx => ?_⟩
  have : x.born ∈ (es.modify j f).map (·.born) := List.mem_map_of_mem hx
  rw [e] at this
  obtain ⟨y, hy, q⟩ := List.mem_map.1 this
  rw [← q]; exact B.2 y hy

theorem BornOk.sub {es es' : List MapEntry} {c : Nat} (B : BornOk es c) (s : List.Sublist es' es) : BornOk es' c :=
  ⟨List.Sublist.nodup (s.map _) B.1, fun e he => B.2 e (s.subset he)⟩

theorem arun_mapUpdateB {t kt et : TypeId} {r : Nat} {a : α} {v : β} {m : List (α × β)} {K : Unit → Hp → Prop} (hu : P.underlying t = some (.map kt et)) (M : MapB h r kenc venc m) (hck : ∀ e, rrun P (Instr.checkKey e 10000 kt (kenc a)) h = some ())
    (hfk : ∀ es : List MapEntry, Ents kenc venc es m → rrun P (Instr.findKey kt (kenc a) es) h = some ((findM a m 0).map fun x => (x.1, venc x.2))) (hsb : Instr.sameBits 10000 (kenc a) (kenc a) = true)
    (hK : ∀ es clock, MapB (h.upd r (.map es clock)) r kenc venc (setM a v m) → K () (h.upd r (.map es clock))) :
    arun P (Instr.mapUpdate t (.map (some r)) (kenc a) (venc v)) h K := by
  obtain ⟨es, clock, hr, hE, hB⟩ := M
  unfold Instr.mapUpdate
  rw [arun_bnd_rr (a := .map kt et) (by rw [rr_underlying, hu])]
  simp only []
  rw [arun_bnd_rr (a := .map es clock) (rr_getObj hr)]
  simp only []
  rw [arun_bnd_rr (a := ()) (hck _), arun_bnd_rr (hfk _ hE)]
  have set : ∀ o, K () (h.upd r o) → arun P (setObj r o) h K := fun o hk => ⟨⟨_, hr, rfl⟩, hk⟩
  have kk : ∀ es clock, Ents kenc venc es.toList (setM a v m) → BornOk es.toList clock → K () (h.upd r (.map es clock)) := fun es clock q1 q2 =>
    hK es clock ⟨es, clock, upd_same, q1, q2⟩
  cases hf : findM a m 0 with
  | none =>
    simp only [Option.map_none]
    refine set _ (kk _ _ ?_ ?_)
    · rw [Array.toList_push]; exact hE.push hf
    · rw [Array.toList_push]; exact hB.push
  | some x =>
    obtain ⟨j, v0⟩ := x
    simp only [Option.map_some]
    obtain ⟨e, he, hke, _⟩ := hE.get (i := j) (x := (a, v0)) (by have := (findM_some hf).2; simpa using this)
    have hes : es[j]? = some e := by simpa using he
    have hks : rrun P (Instr.keyThatStays (((es[j]?).map (·.key)).getD (kenc a)) (kenc a)) h = some (kenc a) := by
      rw [hes]
      unfold Instr.keyThatStays
      simp only [Option.map_some, Option.getD_some, hke, hsb, if_true]
      rfl
    rw [arun_bnd_rr hks]
    refine set _ (kk _ _ ?_ ?_)
    · rw [Array.toList_modify]; exact hE.modify hf
    · rw [Array.toList_modify]; exact hB.modify (fun _ => rfl)

theorem arun_mapDeleteB {t kt et R : TypeId} {ts : Array TypeId} {r : Nat} {a : α} {m : List (α × β)} {K : Value → Hp → Prop} (ht : ts[0]? = some t) (hu : P.underlying t = some (.map kt et)) (M : MapB h r kenc venc m)
    (hck : ∀ e, rrun P (Instr.checkKey e 10000 kt (kenc a)) h = some ())
    (hfk : ∀ es : List MapEntry, Ents kenc venc es m → rrun P (Instr.findKey kt (kenc a) es) h = some ((findM a m 0).map fun x => (x.1, venc x.2)))
    (hK : ∀ es clock, MapB (h.upd r (.map es clock)) r kenc venc (delM a m) → K (.tuple #[]) (h.upd r (.map es clock))) :
    arun P (Builtin.delete_ ts R #[.map (some r), kenc a]) h K := by
  obtain ⟨es, clock, hr, hE, hB⟩ := M
  have set : ∀ o, K (.tuple #[]) (h.upd r o) → arun P (setObj r o >>= fun _ => pure (Value.tuple #[])) h K := fun o hk => ⟨⟨_, hr, rfl⟩, hk⟩
  have kk : ∀ es clock, Ents kenc venc es.toList (delM a m) → BornOk es.toList clock → K (.tuple #[]) (h.upd r (.map es clock)) := fun es clock q1 q2 =>
    hK es clock ⟨es, clock, upd_same, q1, q2⟩
  unfold Builtin.delete_
  rw [ht]
  simp only [List.getElem?_toArray, List.getElem?_cons_zero, List.getElem?_cons_succ]
  rw [arun_bnd_rr (a := .map kt et) (by rw [rr_underlying, hu])]
  simp only [bind_assoc, pure_bind]
  rw [arun_bnd_rr (a := .map es clock) (rr_getObj hr)]
  simp only []
  rw [arun_bnd_rr (a := ()) (hck _), arun_bnd_rr (hfk _ hE)]
  cases hf : findM a m 0 with
  | none =>
    simp only [Option.map_none]
    have : delM a m = m := delM_none (by unfold getM; rw [hf]; rfl)
    exact set _ (kk _ _ (by rw [this]; exact hE) hB)
  | some x =>
    obtain ⟨j, v⟩ := x
    simp only [Option.map_some]
    refine set _ (kk _ _ ?_ ?_)
    · rw [Array.toList_eraseIdxIfInBounds]; exact hE.erase hf
    · rw [Array.toList_eraseIdxIfInBounds]; exact hB.sub (List.eraseIdx_sublist _ _)

omit [DecidableEq α] in
theorem arun_makeMapB {t : TypeId} {K : Value → Hp → Prop} (hK : ∀ b, h b = none → MapB (h.upd b (.map #[] 0)) b kenc venc [] → K (.map (some b)) (h.upd b (.map #[] 0))) : arun P (Instr.makeMap t none) h K :=
  fun b hb => hK b hb ⟨#[], 0, upd_same, .nil, by simp [BornOk]⟩

/-! ### A range over a map -/
def seenOf (es : Array MapEntry) (is : List Nat) : Array Nat := (is.map fun i => ((es[i]?).map (·.born)).getD 0).toArray

/-- An iterator that has handed out these places, in this order. -/
def IterAt (h : Hp) (it r : Nat) (kenc : α → Value) (venc : β → Value) (m : List (α × β)) (is : List Nat) : Prop :=
  ∃ es clock, h r = some (.map es clock) ∧ h it = some (.mapIter (some r) clock (seenOf es is) clock) ∧ Ents kenc venc es.toList m ∧ BornOk es.toList clock ∧ is.Nodup ∧ ∀ i ∈ is, i < m.length

omit [DecidableEq α] in
theorem IterAt.keep {h' : Hp} {it r : Nat} {m : List (α × β)} {is : List Nat} (I : IterAt h it r kenc venc m is) (e1 : h' r = h r) (e2 : h' it = h it) : IterAt h' it r kenc venc m is := by
  obtain ⟨es, clock, h1, h2, h3⟩ := I; exact ⟨es, clock, by rw [e1]; exact h1, by rw [e2]; exact h2, h3⟩

omit [DecidableEq α] in
theorem IterAt.le {h' : Hp} {it r : Nat} {m : List (α × β)} {is : List Nat} (I : IterAt h it r kenc venc m is) (l : Le h h') : IterAt h' it r kenc venc m is := by
  obtain ⟨es, clock, h1, h2, h3⟩ := I; exact ⟨es, clock, l _ _ h1, l _ _ h2, h3⟩

omit [DecidableEq α] in
theorem IterAt.map {it r : Nat} {m : List (α × β)} {is : List Nat} (I : IterAt h it r kenc venc m is) : MapB h r kenc venc m := by
  obtain ⟨es, clock, h1, h2, h3, h4, _⟩ := I; exact ⟨es, clock, h1, h3, h4⟩

omit [DecidableEq α] in
theorem IterAt.ne {it r : Nat} {m : List (α × β)} {is : List Nat} (I : IterAt h it r kenc venc m is) : it ≠ r := by
  obtain ⟨es, clock, h1, h2, _⟩ := I
  rintro rfl; rw [h1] at h2; cases h2

omit [DecidableEq α] in
theorem arun_range {t kt et : TypeId} {r : Nat} {m : List (α × β)} {K : Value → Hp → Prop} (hu : P.underlying t = some (.map kt et)) (M : MapB h r kenc venc m)
    (hK : ∀ b o, h b = none → IterAt (h.upd b o) b r kenc venc m [] → K (.pointer (some ⟨b, 0, none⟩)) (h.upd b o)) : arun P (Instr.range t (.map (some r))) h K := by
  obtain ⟨es, clock, hr, hE, hB⟩ := M
  unfold Instr.range
  rw [arun_bnd_rr (a := .map kt et) (by rw [rr_underlying, hu])]
  simp only [bind_assoc, pure_bind]
  rw [arun_bnd_rr (a := .map es clock) (rr_getObj hr)]
  simp only [pure_bind]
  intro b hb
  refine hK b _ hb ⟨es, clock, ?_, upd_same, hE, hB, by simp, by simp⟩
  rw [upd_ne (by rintro rfl; rw [hr] at hb; cases hb)]; exact hr

omit [DecidableEq α] in
theorem born_inj {es : Array MapEntry} {c : Nat} (B : BornOk es.toList c) {i j : Nat} {e e' : MapEntry} (hi : es[i]? = some e) (hj : es[j]? = some e') (q : e.born = e'.born) : i = j := by
  have h1 : (es.toList.map (·.born))[i]? = some e.born := by rw [List.getElem?_map]; simp [hi]
  have h2 : (es.toList.map (·.born))[j]? = some e.born := by rw [List.getElem?_map]; simp [hj, q]
  exact (List.getElem?_inj (List.getElem?_eq_some_iff.1 h1).1 B.1).1 (by rw [h1, h2])

omit [DecidableEq α] in
theorem mem_seen {es : Array MapEntry} {c : Nat} (B : BornOk es.toList c) {is : List Nat} (hl : ∀ i ∈ is, i < es.size) {i : Nat} {e : MapEntry} (hi : es[i]? = some e) : (seenOf es is).contains e.born = decide (i ∈ is) := by
  rw [Bool.eq_iff_iff, decide_eq_true_eq, Array.contains_iff_mem]
  unfold seenOf
  rw [List.mem_toArray, List.mem_map]
  constructor
  · rintro ⟨j, hj, q⟩
    have hj' : es[j]? = some (es[j]'(hl j hj)) := Array.getElem?_eq_getElem (hl j hj)
    rw [hj', Option.map_some, Option.getD_some] at q
    rw [← born_inj B hj' hi q]; exact hj
  · intro hm; exact ⟨i, hm, by rw [hi]; rfl⟩

theorem seenOf_push {es : Array MapEntry} {is : List Nat} {i : Nat} {e : MapEntry} (hi : es[i]? = some e) : (seenOf es is).push e.born = seenOf es (is ++ [i]) := by
  unfold seenOf; simp [hi]

omit [DecidableEq α] in
theorem arun_next {it r : Nat} {m : List (α × β)} {is : List Nat} {ty : TypeId} {K : Value → Hp → Prop} (I : IterAt h it r kenc venc m is) (hend : (∀ i, i < m.length → i ∈ is) → K (.tuple #[.bool false]) h)
    (hstep : ∀ i x o, m[i]? = some x → i ∉ is → IterAt (h.upd it o) it r kenc venc m (is ++ [i]) → K (.tuple #[.bool true, kenc x.1, venc x.2]) (h.upd it o)) :
    arun P (Instr.next (.pointer (some ⟨it, 0, none⟩)) false ty) h K := by
  have hne := I.ne
  obtain ⟨es, clock, hr, hi, hE, hB, hN, hl⟩ := I
  have hlen : es.size = m.length := by have := hE.length_eq; rwa [Array.length_toList] at this
  have hgi : rrun P (getObj it) h = some (.mapIter (some r) clock (seenOf es is) clock) := by unfold getObj; simp only [rrun, hi, isRow]
  unfold Instr.next
  simp only []
  rw [arun_bnd_rr hgi]
  simp only []
  rw [arun_bnd_rr (a := .map es clock) (rr_getObj hr)]
  simp only []
  have hall : (!(seenOf es is).isEmpty && !es.isEmpty && es.all (fun x => decide (x.born ≥ clock))) = false := by
    by_cases h0 : es.size = 0
    · have : es = #[] := Array.eq_empty_of_size_eq_zero h0
      subst this; simp
    · have : es.all (fun x => decide (x.born ≥ clock)) = false := by
        rw [Array.all_eq_false]
        refine ⟨0, by omega, ?_⟩
        have := hB.2 es[0] (by simp)
        simp; omega
      rw [this]; simp
  have hc0 : (!(seenOf es is).isEmpty && !es.isEmpty && es.all fun x => decide (x.born ≥ clock)) = false := hall
  rw [if_neg (by rw [hc0]; simp)]
  generalize hL : (es.filter fun e => !(seenOf es is).contains e.born) = L
  have hmemL : ∀ e ∈ L, e.born < clock := by
    intro e he; rw [← hL] at he; simp at he; exact hB.2 e (by simpa using he.1)
  have e1 : L.filter (fun x => decide (x.born < clock)) = L := Array.filter_eq_self.2 (fun x hx => by simpa using hmemL x hx)
  have e2 : L.filter (fun x => decide (x.born ≥ clock)) = #[] := by
    rw [Array.filter_eq_empty_iff]
    intro x hx
    have := hmemL x hx
    simp; omega
  simp only [e1, e2, Array.append_empty]
  by_cases h0 : L.size = 0
  · have hLe : L = #[] := Array.eq_empty_of_size_eq_zero h0
    subst hLe
    simp only [Array.isEmpty_empty, if_true, Array.map_empty, Array.append_empty]
    show arun P (.choose (.mapNext 1) _) h K
    unfold arun
    simp only [Question.forced, Nat.le_refl, decide_true, if_true]
    refine hend fun i hi => ?_
    have hi' : i < es.size := by omega
    have hei : es[i]? = some es[i] := Array.getElem?_eq_getElem hi'
    have := mem_seen hB (is := is) (fun j hj => by rw [hlen]; exact hl j hj) hei
    rw [Array.filter_eq_empty_iff] at hL
    have h2 := hL es[i] (by simp)
    rw [this] at h2
    simpa using h2
  · have hne' : L.isEmpty = false := by simp [Array.isEmpty, h0]
    have step : ∀ j, j < L.size → ∃ e, L[j]? = some e ∧ K (.tuple #[.bool true, e.key, e.val]) (h.upd it (.mapIter (some r) clock ((seenOf es is).push e.born) clock)) := by
      intro j hj
      refine ⟨L[j], Array.getElem?_eq_getElem hj, ?_⟩
      have hm : L[j] ∈ (es.filter fun e => !(seenOf es is).contains e.born) := by rw [hL]; exact Array.getElem_mem hj
      generalize L[j] = e at hm
      rw [Array.mem_filter] at hm
      obtain ⟨i, hi1, hi2⟩ := Array.mem_iff_getElem.1 hm.1
      have hei : es[i]? = some e := by rw [Array.getElem?_eq_getElem hi1, hi2]
      have hns : i ∉ is := by
        have h2 := hm.2
        rw [mem_seen hB (is := is) (fun j hj => by rw [hlen]; exact hl j hj) hei] at h2
        simpa using h2
      have hil : i < m.length := by omega
      obtain ⟨e', he', hk, hv⟩ := hE.get (i := i) (x := m[i]) (List.getElem?_eq_getElem hil)
      have : e' = e := by
        have : es[i]? = some e' := by simpa using he'
        rw [hei] at this; simpa using this.symm
      subst this
      rw [hk, hv]
      refine hstep i m[i] _ (List.getElem?_eq_getElem hil) hns ⟨es, clock, by rw [upd_ne hne.symm]; exact hr, by rw [upd_same, seenOf_push hei], hE, hB, ?_, ?_⟩
      · rw [List.nodup_append]; exact ⟨hN, by simp, fun x hx y hy => by simp at hy; subst hy; rintro rfl; exact hns hx⟩
      · intro j hj
        rcases List.mem_append.1 hj with q | q
        · exact hl j q
        · simp at q; subst q; exact hil
    simp only [hne', Bool.false_eq_true, if_false, Array.empty_append, Array.size_map]
    show arun P (.choose (.mapNext L.size) _) h K
    unfold arun
    have fin : ∀ j, j < L.size → arun P (match (L.map some)[j]? with
        | some (some e) => (do setObj it (.mapIter (some r) clock ((seenOf es is).push e.born) clock); pure (.tuple #[.bool true, e.key, e.val]))
        | some none => pure (.tuple #[.bool false])
        | none => stuck "Next: no such candidate") h K := by
      intro j hj
      obtain ⟨e, he, hk⟩ := step j hj
      rw [Array.getElem?_map, he, Option.map_some]
      exact ⟨⟨_, hi, rfl⟩, hk⟩
    by_cases hf : L.size ≤ 1
    · simp only [Question.forced, hf, decide_true, if_true]
      exact fin 0 (by omega)
    · simp only [Question.forced, hf, decide_false, Bool.false_eq_true, if_false]
      intro t
      exact fin _ (Nat.mod_lt _ (by omega))

omit [DecidableEq α] in
theorem arun_entry {it r : Nat} {m : List (α × β)} {is : List Nat} {i : Nat} {x : α × β} {K : Value → Hp → Prop} (I : IterAt h it r kenc venc m (is ++ [i])) (hx : m[i]? = some x) (hK : K (.tuple #[kenc x.1, venc x.2]) h) :
    arun P (Instr.entry (.pointer (some ⟨it, 0, none⟩))) h K := by
  obtain ⟨es, clock, hr, hi, hE, hB, hN, hl⟩ := I
  obtain ⟨e, he, hk, hv⟩ := hE.get hx
  have hei : es[i]? = some e := by simpa using he
  have hgi : rrun P (getObj it) h = some (.mapIter (some r) clock (seenOf es (is ++ [i])) clock) := by unfold getObj; simp only [rrun, hi, isRow]
  have hf : es.find? (·.born == e.born) = some e := by
    cases hq : es.find? (·.born == e.born) with
    | none =>
      rw [Array.find?_eq_none] at hq
      have := hq e (Array.mem_of_getElem? hei)
      simp at this
    | some e' =>
      have hb := Array.find?_some hq
      have hm := Array.mem_of_find?_eq_some hq
      obtain ⟨j, hj1, hj2⟩ := Array.mem_iff_getElem.1 hm
      have hej : es[j]? = some e' := by rw [Array.getElem?_eq_getElem hj1, hj2]
      have := born_inj hB hej hei (by simpa using hb)
      subst this
      rw [hej] at hei; exact hei
  unfold Instr.entry
  simp only []
  rw [arun_bnd_rr hgi]
  simp only []
  rw [← seenOf_push hei, Array.back?_push]
  simp only []
  rw [arun_bnd_rr (a := .map es clock) (rr_getObj hr)]
  simp only [bne_self_eq_false, Bool.false_eq_true, if_false, hf]
  rw [← hk, ← hv] at hK
  exact hK
end

/-! ### What has been visited -/
def vis {γ : Type} (m : List γ) (is : List Nat) : List γ := is.filterMap (m[·]?)

theorem vis_nil {γ : Type} (m : List γ) : vis m [] = [] := rfl
theorem vis_snoc {γ : Type} {m : List γ} {is : List Nat} {i : Nat} {x : γ} (h : m[i]? = some x) : vis m (is ++ [i]) = vis m is ++ [x] := by
  unfold vis; simp [h]

theorem vis_range {γ : Type} : ∀ (m : List γ), vis m (List.range m.length) = m
  | [] => rfl
  | x :: xs => by
    have := vis_range xs
    unfold vis at *
    rw [List.length_cons, List.range_succ_eq_map, List.filterMap_cons]
    simp only [List.getElem?_cons_zero, List.filterMap_map]
    congr 1

theorem vis_perm {γ : Type} {m : List γ} {is : List Nat} (hn : is.Nodup) (hl : ∀ i ∈ is, i < m.length) (ha : ∀ i, i < m.length → i ∈ is) : (vis m is).Perm m := by
  have h1 : is.Perm (List.range m.length) := (List.perm_ext_iff_of_nodup hn List.nodup_range).2 (fun i => by rw [List.mem_range]; exact ⟨hl i, ha i⟩)
  have h2 := h1.filterMap (m[·]?)
  have h3 := vis_range m
  unfold vis at *
  rw [h3] at h2; exact h2

theorem vis_sub {γ : Type} {m : List γ} {is : List Nat} : ∀ x ∈ vis m is, x ∈ m := by
  intro x hx
  unfold vis at hx
  obtain ⟨i, _, e⟩ := List.mem_filterMap.1 hx
  exact List.mem_of_getElem? e

theorem vis_length {γ : Type} {m : List γ} {is : List Nat} : (vis m is).length ≤ is.length := List.length_filterMap_le _ _

theorem IterAt.nodup {h : Hp} {α β : Type} {kenc : α → Value} {venc : β → Value} {it r : Nat} {m : List (α × β)} {is : List Nat} (I : IterAt h it r kenc venc m is) : is.Nodup ∧ ∀ i ∈ is, i < m.length := by
  obtain ⟨es, cl, _, _, _, _, h1, h2⟩ := I; exact ⟨h1, h2⟩

theorem nodup_bound {is : List Nat} {n : Nat} (hn : is.Nodup) (hl : ∀ i ∈ is, i < n) : is.length ≤ n := by
  have h1 := List.Nodup.length_le_of_subset hn (l₂ := List.range n) (fun i hi => List.mem_range.2 (hl i hi))
  simpa using h1

theorem IterAt.len {h : Hp} {α β : Type} {kenc : α → Value} {venc : β → Value} {it r : Nat} {m : List (α × β)} {is : List Nat} (I : IterAt h it r kenc venc m is) : is.length ≤ m.length := nodup_bound I.nodup.1 I.nodup.2
end Go.Proofs.Ytpeoholnlokdcaa

/- A range over a map out of which entries may be taken, or whose values may be set anew, on the way. -/
namespace Go.Proofs.Ytpeoholnlokdcaa
open Go
set_option linter.unusedSimpArgs false
set_option linter.unusedVariables false

section
variable {P : Program} {h : Hp} {α β : Type} [DecidableEq α] {kenc : α → Value} {venc : β → Value}

/-- What an iterator has seen, of the entries that are there, is what it has handed out. -/
def SeenOk (es : List MapEntry) (ks : List α) (seen : Array Nat) (V : List α) : Prop :=
  ∀ (i : Nat) (e : MapEntry) (k : α), es[i]? = some e → ks[i]? = some k → seen.contains e.born = decide (k ∈ V) ∧ (V.getLast? = some k → seen.back? = some e.born)

/-- An iterator that has handed out these keys, over a map that now holds these. -/
def IterS (h : Hp) (it r : Nat) (kenc : α → Value) (venc : β → Value) (m : List (α × β)) (V : List α) : Prop :=
  Uniq m ∧ ∃ (es : Array MapEntry) (clock : Nat) (seen : Array Nat), h r = some (.map es clock) ∧ h it = some (.mapIter (some r) clock seen clock) ∧ Ents kenc venc es.toList m ∧ BornOk es.toList clock ∧
    (∀ b ∈ seen, b < clock) ∧ SeenOk es.toList (m.map (·.1)) seen V

omit [DecidableEq α] in
theorem IterS.keep [DecidableEq α] {h' : Hp} {it r : Nat} {m : List (α × β)} {V : List α} (I : IterS h it r kenc venc m V) (e1 : h' r = h r) (e2 : h' it = h it) : IterS h' it r kenc venc m V := by
  obtain ⟨u, es, clock, seen, h1, h2, h3⟩ := I; exact ⟨u, es, clock, seen, by rw [e1]; exact h1, by rw [e2]; exact h2, h3⟩

theorem IterS.le {h' : Hp} {it r : Nat} {m : List (α × β)} {V : List α} (I : IterS h it r kenc venc m V) (l : Le h h') : IterS h' it r kenc venc m V := by
  obtain ⟨u, es, clock, seen, h1, h2, h3⟩ := I; exact ⟨u, es, clock, seen, l _ _ h1, l _ _ h2, h3⟩

theorem IterS.map {it r : Nat} {m : List (α × β)} {V : List α} (I : IterS h it r kenc venc m V) : MapB h r kenc venc m := by
  obtain ⟨u, es, clock, seen, h1, h2, h3, h4, _⟩ := I; exact ⟨es, clock, h1, h3, h4⟩

theorem IterS.ne {it r : Nat} {m : List (α × β)} {V : List α} (I : IterS h it r kenc venc m V) : it ≠ r := by
  obtain ⟨u, es, clock, seen, h1, h2, _⟩ := I
  rintro rfl; rw [h1] at h2; cases h2

theorem IterS.alive {it r : Nat} {m : List (α × β)} {V : List α} (I : IterS h it r kenc venc m V) : (∃ o, h r = some o) ∧ ∃ o, h it = some o := by
  obtain ⟨u, es, clock, seen, h1, h2, _⟩ := I; exact ⟨⟨_, h1⟩, ⟨_, h2⟩⟩

theorem arun_rangeS {t kt et : TypeId} {r : Nat} {m : List (α × β)} {K : Value → Hp → Prop} (hu : P.underlying t = some (.map kt et)) (M : MapB h r kenc venc m) (u : Uniq m)
    (hK : ∀ b o, h b = none → IterS (h.upd b o) b r kenc venc m [] → K (.pointer (some ⟨b, 0, none⟩)) (h.upd b o)) : arun P (Instr.range t (.map (some r))) h K := by
  obtain ⟨es, clock, hr, hE, hB⟩ := M
  unfold Instr.range
  rw [arun_bnd_rr (a := .map kt et) (by rw [rr_underlying, hu])]
  simp only [bind_assoc, pure_bind]
  rw [arun_bnd_rr (a := .map es clock) (rr_getObj hr)]
  simp only [pure_bind]
  intro b hb
  refine hK b _ hb ⟨u, es, clock, #[], ?_, upd_same, hE, hB, by simp, fun i e k he hk => by simp⟩
  rw [upd_ne (by rintro rfl; rw [hr] at hb; cases hb)]; exact hr

theorem arun_nextS {it r : Nat} {m : List (α × β)} {V : List α} {ty : TypeId} {K : Value → Hp → Prop} (I : IterS h it r kenc venc m V) (hend : (∀ x ∈ m, x.1 ∈ V) → K (.tuple #[.bool false]) h)
    (hstep : ∀ x o, x ∈ m → x.1 ∉ V → IterS (h.upd it o) it r kenc venc m (V ++ [x.1]) → K (.tuple #[.bool true, kenc x.1, venc x.2]) (h.upd it o)) :
    arun P (Instr.next (.pointer (some ⟨it, 0, none⟩)) false ty) h K := by
  have hne := I.ne
  obtain ⟨u, es, clock, seen, hr, hi, hE, hB, hL0, hS⟩ := I
  have hlen : es.size = m.length := by have := hE.length_eq; rwa [Array.length_toList] at this
  have hgi : rrun P (getObj it) h = some (.mapIter (some r) clock seen clock) := by unfold getObj; simp only [rrun, hi, isRow]
  unfold Instr.next
  simp only []
  rw [arun_bnd_rr hgi]
  simp only []
  rw [arun_bnd_rr (a := .map es clock) (rr_getObj hr)]
  simp only []
  have hc0 : (!seen.isEmpty && !es.isEmpty && es.all fun x => decide (x.born ≥ clock)) = false := by
    by_cases h0 : es.size = 0
    · have : es = #[] := Array.eq_empty_of_size_eq_zero h0
      subst this; simp
    · have : es.all (fun x => decide (x.born ≥ clock)) = false := by
        rw [Array.all_eq_false]
        refine ⟨0, by omega, ?_⟩
        have := hB.2 es[0] (by simp)
        simp; omega
      rw [this]; simp
  rw [if_neg (by rw [hc0]; simp)]
  generalize hL : (es.filter fun e => !seen.contains e.born) = L
  have hmemL : ∀ e ∈ L, e.born < clock := by
    intro e he; rw [← hL] at he; simp at he; exact hB.2 e (by simpa using he.1)
  have e1 : L.filter (fun x => decide (x.born < clock)) = L := Array.filter_eq_self.2 (fun x hx => by simpa using hmemL x hx)
  have e2 : L.filter (fun x => decide (x.born ≥ clock)) = #[] := by
    rw [Array.filter_eq_empty_iff]
    intro x hx
    have := hmemL x hx
    simp; omega
  simp only [e1, e2, Array.append_empty]
  by_cases h0 : L.size = 0
  · have hLe : L = #[] := Array.eq_empty_of_size_eq_zero h0
    subst hLe
    simp only [Array.isEmpty_empty, if_true, Array.map_empty, Array.append_empty]
    show arun P (.choose (.mapNext 1) _) h K
    unfold arun
    simp only [Question.forced, Nat.le_refl, decide_true, if_true]
    refine hend fun x hx => ?_
    obtain ⟨i, hi', rfl⟩ := List.mem_iff_getElem.1 hx
    have hi2 : i < es.size := by omega
    have hei : es.toList[i]? = some es[i] := by simp [Array.getElem?_eq_getElem hi2]
    have hk : (m.map (·.1))[i]? = some m[i].1 := by rw [List.getElem?_map, List.getElem?_eq_getElem hi']; rfl
    have := (hS i _ _ hei hk).1
    rw [Array.filter_eq_empty_iff] at hL
    have h2 := hL es[i] (by simp)
    rw [this] at h2
    simpa using h2
  · have hne' : L.isEmpty = false := by simp [Array.isEmpty, h0]
    have step : ∀ j, j < L.size → ∃ e, L[j]? = some e ∧ K (.tuple #[.bool true, e.key, e.val]) (h.upd it (.mapIter (some r) clock (seen.push e.born) clock)) := by
      intro j hj
      refine ⟨L[j], Array.getElem?_eq_getElem hj, ?_⟩
      have hm : L[j] ∈ (es.filter fun e => !seen.contains e.born) := by rw [hL]; exact Array.getElem_mem hj
      generalize L[j] = e at hm
      rw [Array.mem_filter] at hm
      obtain ⟨i, hi1, hi2⟩ := Array.mem_iff_getElem.1 hm.1
      have hei : es[i]? = some e := by rw [Array.getElem?_eq_getElem hi1, hi2]
      have hei' : es.toList[i]? = some e := by simpa using hei
      have hil : i < m.length := by omega
      obtain ⟨e', he', hk, hv⟩ := hE.get (i := i) (x := m[i]) (List.getElem?_eq_getElem hil)
      have : e' = e := by rw [hei'] at he'; simpa using he'.symm
      subst this
      have hki : (m.map (·.1))[i]? = some m[i].1 := by rw [List.getElem?_map, List.getElem?_eq_getElem hil]; rfl
      have hns : m[i].1 ∉ V := by
        have h2 := hm.2
        rw [(hS i _ _ hei' hki).1] at h2
        simpa using h2
      rw [hk, hv]
      refine hstep m[i] _ (List.getElem_mem hil) hns ⟨u, es, clock, _, by rw [upd_ne hne.symm]; exact hr, upd_same, hE, hB, ?_, ?_⟩
      · intro b hb
        rcases Array.mem_push.1 hb with q | q
        · exact hL0 b q
        · subst q; exact hB.2 e' (List.mem_of_getElem? hei')
      · intro i' e2 k2 h1 h2
        have hcon : (seen.push e'.born).contains e2.born = (seen.contains e2.born || decide (e2.born = e'.born)) := by
          rw [Bool.eq_iff_iff, Array.contains_iff_mem, Array.mem_push, Bool.or_eq_true, Array.contains_iff_mem, decide_eq_true_eq]
        have hsame : e2.born = e'.born ↔ k2 = m[i].1 := by
          constructor
          · intro q
            have := born_inj hB (by simpa using h1) hei q
            subst this
            rw [hki] at h2; simpa using h2.symm
          · intro q
            subst q
            have hnd : (m.map (·.1)).Nodup := u
            have hi3 : i' = i := (List.getElem?_inj (List.getElem?_eq_some_iff.1 h2).1 hnd).1 (by rw [h2, hki])
            subst hi3
            rw [hei'] at h1; simp at h1; rw [h1]
        refine ⟨?_, fun q => ?_⟩
        · rw [hcon, (hS i' e2 k2 h1 h2).1, Bool.eq_iff_iff]
          simp only [Bool.or_eq_true, decide_eq_true_eq, List.mem_append, List.mem_singleton, hsame]
        · simp at q
          rw [Array.back?_push, hsame.2 q.symm]
    simp only [hne', Bool.false_eq_true, if_false, Array.empty_append, Array.size_map]
    show arun P (.choose (.mapNext L.size) _) h K
    unfold arun
    have fin : ∀ j, j < L.size → arun P (match (L.map some)[j]? with
        | some (some e) => (do setObj it (.mapIter (some r) clock (seen.push e.born) clock); pure (.tuple #[.bool true, e.key, e.val]))
        | some none => pure (.tuple #[.bool false])
        | none => stuck "Next: no such candidate") h K := by
      intro j hj
      obtain ⟨e, he, hk⟩ := step j hj
      rw [Array.getElem?_map, he, Option.map_some]
      exact ⟨⟨_, hi, rfl⟩, hk⟩
    by_cases hf : L.size ≤ 1
    · simp only [Question.forced, hf, decide_true, if_true]
      exact fin 0 (by omega)
    · simp only [Question.forced, hf, decide_false, Bool.false_eq_true, if_false]
      intro t
      exact fin _ (Nat.mod_lt _ (by omega))

theorem arun_entryS {it r : Nat} {m : List (α × β)} {V : List α} {x : α × β} {K : Value → Hp → Prop} (I : IterS h it r kenc venc m (V ++ [x.1])) (hx : x ∈ m) (hK : K (.tuple #[kenc x.1, venc x.2]) h) :
    arun P (Instr.entry (.pointer (some ⟨it, 0, none⟩))) h K := by
  obtain ⟨u, es, clock, seen, hr, hi, hE, hB, hL0, hS⟩ := I
  obtain ⟨i, hil, hxi⟩ := List.mem_iff_getElem.1 hx
  have hxi' : m[i]? = some x := by rw [List.getElem?_eq_getElem hil, hxi]
  obtain ⟨e, he, hk, hv⟩ := hE.get hxi'
  have hei : es[i]? = some e := by simpa using he
  have hki : (m.map (·.1))[i]? = some x.1 := by rw [List.getElem?_map, hxi']; rfl
  have hback := (hS i e x.1 he hki).2 (by simp)
  have hgi : rrun P (getObj it) h = some (.mapIter (some r) clock seen clock) := by unfold getObj; simp only [rrun, hi, isRow]
  have hf : es.find? (·.born == e.born) = some e := by
    cases hq : es.find? (·.born == e.born) with
    | none =>
      rw [Array.find?_eq_none] at hq
      have := hq e (Array.mem_of_getElem? hei)
      simp at this
    | some e' =>
      have hb := Array.find?_some hq
      have hm := Array.mem_of_find?_eq_some hq
      obtain ⟨j, hj1, hj2⟩ := Array.mem_iff_getElem.1 hm
      have hej : es[j]? = some e' := by rw [Array.getElem?_eq_getElem hj1, hj2]
      have := born_inj hB hej hei (by simpa using hb)
      subst this
      rw [hej] at hei; exact hei
  unfold Instr.entry
  simp only []
  rw [arun_bnd_rr hgi]
  simp only []
  rw [hback]
  simp only []
  rw [arun_bnd_rr (a := .map es clock) (rr_getObj hr)]
  simp only [bne_self_eq_false, Bool.false_eq_true, if_false, hf]
  rw [← hk, ← hv] at hK
  exact hK

theorem delM_erase {a : α} {v : β} : ∀ {m : List (α × β)} {i j : Nat}, findM a m i = some (i + j, v) → delM a m = m.eraseIdx j
  | [], _, _, h => by cases h
  | x :: xs, i, j, h => by
    simp only [findM] at h
    split at h
    · rename_i e
      have : j = 0 := by simp only [Option.some.injEq, Prod.mk.injEq] at h; omega
      subst this
      simp only [delM, if_pos e, List.eraseIdx_zero, List.tail_cons]
    · rename_i hne
      have := (findM_some h).1
      obtain ⟨j', rfl⟩ : ∃ j', j = j' + 1 := ⟨j - 1, by omega⟩
      simp only [delM, if_neg hne, List.eraseIdx_cons_succ]
      rw [delM_erase (i := i + 1) (j := j') (by rw [h]; congr 2; omega)]

theorem SeenOk.erase {es : List MapEntry} {ks : List α} {seen : Array Nat} {V : List α} {j : Nat} (S : SeenOk es ks seen V) : SeenOk (es.eraseIdx j) (ks.eraseIdx j) seen V := by
  intro i e k h1 h2
  rw [List.getElem?_eraseIdx] at h1 h2
  by_cases hij : i < j
  · rw [if_pos hij] at h1 h2; exact S i e k h1 h2
  · rw [if_neg hij] at h1 h2; exact S (i + 1) e k h1 h2

theorem SeenOk.modify {es : List MapEntry} {ks : List α} {seen : Array Nat} {V : List α} {j : Nat} {f : MapEntry → MapEntry} (hf : ∀ e, (f e).born = e.born) (S : SeenOk es ks seen V) : SeenOk (es.modify j f) ks seen V := by
  intro i e k h1 h2
  rw [List.getElem?_modify] at h1
  cases he : es[i]? with
  | none => rw [he] at h1; cases h1
  | some e0 =>
    rw [he] at h1
    have hb : e.born = e0.born := by
      simp at h1; subst h1; split
      · exact hf _
      · rfl
    rw [hb]; exact S i e0 k he h2

theorem arun_mapDeleteS {t kt et R : TypeId} {ts : Array TypeId} {it r : Nat} {a : α} {m : List (α × β)} {V : List α} {K : Value → Hp → Prop} (ht : ts[0]? = some t) (hu : P.underlying t = some (.map kt et)) (I : IterS h it r kenc venc m V)
    (hck : ∀ e, rrun P (Instr.checkKey e 10000 kt (kenc a)) h = some ())
    (hfk : ∀ es : List MapEntry, Ents kenc venc es m → rrun P (Instr.findKey kt (kenc a) es) h = some ((findM a m 0).map fun x => (x.1, venc x.2)))
    (hK : ∀ o, IterS (h.upd r o) it r kenc venc (delM a m) V → K (.tuple #[]) (h.upd r o)) :
    arun P (Builtin.delete_ ts R #[.map (some r), kenc a]) h K := by
  have hne := I.ne
  obtain ⟨u, es, clock, seen, hr, hi, hE, hB, hL0, hS⟩ := I
  have set : ∀ o, K (.tuple #[]) (h.upd r o) → arun P (setObj r o >>= fun _ => pure (Value.tuple #[])) h K := fun o hk => ⟨⟨_, hr, rfl⟩, hk⟩
  have kk : ∀ es' : Array MapEntry, Ents kenc venc es'.toList (delM a m) → BornOk es'.toList clock → SeenOk es'.toList ((delM a m).map (·.1)) seen V → K (.tuple #[]) (h.upd r (.map es' clock)) := fun es' q1 q2 q3 =>
    hK _ ⟨u.del, es', clock, seen, upd_same, by rw [upd_ne hne]; exact hi, q1, q2, hL0, q3⟩
  unfold Builtin.delete_
  rw [ht]
  simp only [List.getElem?_toArray, List.getElem?_cons_zero, List.getElem?_cons_succ]
  rw [arun_bnd_rr (a := .map kt et) (by rw [rr_underlying, hu])]
  simp only [bind_assoc, pure_bind]
  rw [arun_bnd_rr (a := .map es clock) (rr_getObj hr)]
  simp only []
  rw [arun_bnd_rr (a := ()) (hck _), arun_bnd_rr (hfk _ hE)]
  cases hf : findM a m 0 with
  | none =>
    simp only [Option.map_none]
    have hd : delM a m = m := delM_none (by unfold getM; rw [hf]; rfl)
    exact set _ (kk _ (by rw [hd]; exact hE) hB (by rw [hd]; exact hS))
  | some x =>
    obtain ⟨j, v⟩ := x
    simp only [Option.map_some]
    refine set _ (kk _ ?_ ?_ ?_)
    · rw [Array.toList_eraseIdxIfInBounds]; exact hE.erase hf
    · rw [Array.toList_eraseIdxIfInBounds]; exact hB.sub (List.eraseIdx_sublist _ _)
    · rw [Array.toList_eraseIdxIfInBounds, delM_erase (i := 0) (j := j) (v := v) (by simpa using hf)]
      have : (m.eraseIdx j).map (·.1) = (m.map (·.1)).eraseIdx j := by
        refine List.ext_getElem? fun i => ?_
        rw [List.getElem?_map, List.getElem?_eraseIdx, List.getElem?_eraseIdx, List.getElem?_map, List.getElem?_map]
        split <;> rfl
      rw [this]
      exact hS.erase

/-- A value set anew, of a key that is there. -/
theorem arun_mapUpdateS {t kt et : TypeId} {it r : Nat} {a : α} {v : β} {m : List (α × β)} {V : List α} {K : Unit → Hp → Prop} (hu : P.underlying t = some (.map kt et)) (I : IterS h it r kenc venc m V) (hin : (getM m a).isSome = true)
    (hck : ∀ e, rrun P (Instr.checkKey e 10000 kt (kenc a)) h = some ())
    (hfk : ∀ es : List MapEntry, Ents kenc venc es m → rrun P (Instr.findKey kt (kenc a) es) h = some ((findM a m 0).map fun x => (x.1, venc x.2)))
    (hsb : Instr.sameBits 10000 (kenc a) (kenc a) = true)
    (hK : ∀ o, IterS (h.upd r o) it r kenc venc (setM a v m) V → K () (h.upd r o)) :
    arun P (Instr.mapUpdate t (.map (some r)) (kenc a) (venc v)) h K := by
  have hne := I.ne
  obtain ⟨u, es, clock, seen, hr, hi, hE, hB, hL0, hS⟩ := I
  have set : ∀ o, K () (h.upd r o) → arun P (setObj r o) h K := fun o hk => ⟨⟨_, hr, rfl⟩, hk⟩
  unfold Instr.mapUpdate
  rw [arun_bnd_rr (a := .map kt et) (by rw [rr_underlying, hu])]
  simp only [bind_assoc, pure_bind]
  rw [arun_bnd_rr (a := .map es clock) (rr_getObj hr)]
  simp only []
  rw [arun_bnd_rr (a := ()) (hck _), arun_bnd_rr (hfk _ hE)]
  cases hf : findM a m 0 with
  | none => unfold getM at hin; rw [hf] at hin; cases hin
  | some x =>
    obtain ⟨j, v0⟩ := x
    simp only [Option.map_some]
    obtain ⟨e, he, hke, _⟩ := hE.get (i := j) (x := (a, v0)) (by have := (findM_some hf).2; simpa using this)
    have hes : es[j]? = some e := by simpa using he
    have hks : rrun P (Instr.keyThatStays (((es[j]?).map (·.key)).getD (kenc a)) (kenc a)) h = some (kenc a) := by
      rw [hes]
      unfold Instr.keyThatStays
      simp only [Option.map_some, Option.getD_some, hke, hsb, if_true]
      rfl
    rw [arun_bnd_rr hks]
    refine set _ (hK _ ⟨u.set, _, clock, seen, upd_same, by rw [upd_ne hne]; exact hi, ?_, ?_, hL0, ?_⟩)
    · rw [Array.toList_modify]; exact hE.modify hf
    · rw [Array.toList_modify]; exact hB.modify (fun _ => rfl)
    · rw [Array.toList_modify]
      have hk : (setM a v m).map (·.1) = m.map (·.1) := by
        rw [setM_keys, if_pos]
        unfold getM at hin
        cases hg : getM m a with
        | none => unfold getM at hg; rw [hf] at hg; cases hg
        | some v => exact List.mem_map_of_mem (getM_mem hg)
      rw [hk]
      exact hS.modify (fun _ => rfl)
end
end Go.Proofs.Ytpeoholnlokdcaa

/- The frame of a call: what it need not know stays. -/
namespace Go.Proofs.Ytpeoholnlokdcaa
open Go

/-- A heap laid over what the smaller one did not know. -/
def Hp.over (h' h g : Hp) : Hp := fun b => match h b, g b with
  | none, some o => some o
  | _, _ => h' b

theorem over_view {h h' g : Hp} {w w' : World} (l : Le h g) (Vg : View g w) (V' : View h' w') (K : Keep h w h' w') : View (h'.over h g) w' ∧ Keep g w (h'.over h g) w' := by
  constructor
  · intro b o e
    unfold Hp.over at e
    split at e
    · rename_i o2 h1 h2
      cases e
      rw [K.old b (Vg.lt h2) h1]; exact Vg b o h2
    · exact V' b o e
  · refine ⟨K.os, K.tape, K.output, K.size, fun b hb hn => ?_, fun b hb hn => ?_, K.drawn⟩
    · refine K.old b hb ?_
      cases hh : h b with
      | none => rfl
      | some o => rw [l b o hh] at hn; cases hn
    · have h0 : h b = none := by
        cases hh : h b with
        | none => rfl
        | some o => rw [l b o hh] at hn; cases hn
      unfold Hp.over
      simp only [h0, hn]
      exact K.dom b hb h0

theorem Ok.frame {P : Program} {f : FuncId} {args : Array Value} {h g : Hp} {Q : Value → Hp → Prop} (a : Ok P f args h Q) (l : Le h g) : Ok P f args g fun v g' => ∃ h', Q v h' ∧ g' = h'.over h g ∧ ∀ b o, g b = some o → h b = none → h' b = none :=
  ⟨a.1, fun w V => (a.2 w (fun b o e => V b o (l b o e))).mono fun _ w' ⟨v, h', e, V', K, q⟩ => by
    obtain ⟨V2, K2⟩ := over_view l V V' K
    exact ⟨v, _, e, V2, K2, h', q, rfl, fun b o hg hn => K.dom b (V.lt hg) hn⟩⟩

theorem YOk.frame {P : Program} {y : Nat} {args : Array Value} {h g : Hp} {Q : Value → Hp → Prop} (a : YOk P y args h Q) (l : Le h g) : YOk P y args g fun v g' => ∃ h', Q v h' ∧ g' = h'.over h g ∧ ∀ b o, g b = some o → h b = none → h' b = none := fun w V => by
  obtain ⟨f, tmps, asg, bd, e, r⟩ := a w (fun b o e => V b o (l b o e))
  refine ⟨f, tmps, asg, bd, e, r.mono fun _ w' ⟨v, h', e, V', K, q⟩ => ?_⟩
  obtain ⟨V2, K2⟩ := over_view l V V' K
  exact ⟨v, _, e, V2, K2, h', q, rfl, fun b o hg hn => K.dom b (V.lt hg) hn⟩

theorem over_out {h' h g : Hp} {b : Nat} (hb : h b = none) {o : Obj} (hg : g b = some o) : (h'.over h g) b = some o := by unfold Hp.over; simp only [hb, hg]
theorem over_in {h' h g : Hp} {b : Nat} {o : Obj} (hb : h b = some o) : (h'.over h g) b = h' b := by unfold Hp.over; simp only [hb]
theorem over_new {h' h g : Hp} {b : Nat} (hg : g b = none) : (h'.over h g) b = h' b := by unfold Hp.over; simp only [hg]; split <;> simp_all

theorem rem_same {h : Hp} {l : Nat} : (h.rem l) l = none := by unfold Hp.rem; simp
theorem rem_ne {h : Hp} {l b : Nat} (n : b ≠ l) : (h.rem l) b = h b := by unfold Hp.rem; rw [if_neg n]
theorem rem_upd {h : Hp} {l : Nat} {o : Obj} (hl : h l = none) : (h.upd l o).rem l = h := by
  funext b
  by_cases e : b = l
  · subst e; rw [rem_same, hl]
  · rw [rem_ne e, upd_ne e]
theorem upd_rem {h : Hp} {l : Nat} {o : Obj} : (h.rem l).upd l o = h.upd l o := by
  funext b
  by_cases e : b = l
  · subst e; rw [upd_same, upd_same]
  · rw [upd_ne e, upd_ne e, rem_ne e]
theorem rem_le {h : Hp} {l : Nat} : Le (h.rem l) h := fun b o e => by unfold Hp.rem at e; split at e <;> first | cases e | exact e
end Go.Proofs.Ytpeoholnlokdcaa

/- maps.Keys and slices.Collect at a map's keys, whatever order is drawn (printed by wip/lib/keys.py). -/
namespace Go.Proofs.Ytpeoholnlokdcaa
open Go
set_option linter.unusedSimpArgs false
set_option linter.unusedVariables false

abbrev kencP (x : (Nat × Int)) : List Value := [.int .u32 (x.1 : Nat), .int .i64 x.2]
abbrev kvalP (x : (Nat × Int)) : Value := (.agg #[.int .u32 (x.1 : Nat), .int .i64 x.2])

section
variable {β : Type} {venc : β → Value}

def K1InvP (h : Hp) (l Bm it r : Nat) (m : List ((Nat × Int) × β)) (venc : β → Value) (I : List (Nat × Int) → Hp → Prop) (n : Nat) (env : Env) (G : Hp) : Prop :=
  ∃ V hI, V.length + n = m.length ∧ V.Nodup ∧ (∀ k ∈ V, k ∈ m.map (·.1)) ∧ I V hI ∧ Le hI G ∧ IterS G it r kvalP venc m V ∧ hI it = none ∧
    env 0 = .func (.yield l) #[] #[] ∧ env 1 = .pointer (some ⟨Bm, 0, none⟩) ∧ env 5 = .pointer (some ⟨it, 0, none⟩)

theorem nodup_leP {α : Type} [DecidableEq α] {V K : List α} (n : V.Nodup) (s : ∀ k ∈ V, k ∈ K) : V.length ≤ K.length := List.Nodup.length_le_of_subset n s

set_option maxRecDepth 20000 in
/-- func(yield) { for k := range m { if !yield(k) { return } } }: whatever the rounds keep between them, if they go on. -/
theorem keys1P {h : Hp} {l Bm r : Nat} {Q : Value → Hp → Prop} {m : List ((Nat × Int) × β)} {E : TypeId} {fr : Nat × Nat} (hB : h Bm = some (.cells #[.map (some r)] E fr)) (MB : MapB h r kvalP venc m) (u : Uniq m)
    (I : List (Nat × Int) → Hp → Prop) (I0 : I [] h) (hI : ∀ V g, I V g → g r = h r)
    (step : ∀ V x g k, I V g → x ∈ m → x.1 ∉ V → V.length < m.length → (∀ g', I (V ++ [x.1]) g' → k (.bool true) g') → YOk Try.prog l #[kvalP x.1] g k)
    (hQ : ∀ ks v g, I ks g → ks.Perm (m.map (·.1)) → Q v g) : Ok Try.prog F_maps_Keys_map_api_Prefix_dual_known_api_Prefix_dual_known_1 #[.func (.yield l) #[] #[], .pointer (some ⟨Bm, 0, none⟩)] h Q := by
  refine maps_Keys_map_api_Prefix_dual_known_api_Prefix_dual_known_1_ok (by simp) ?_
  unfold maps_Keys_map_api_Prefix_dual_known_api_Prefix_dual_known_1_D
  simp (disch := omega) [maps_Keys_map_api_Prefix_dual_known_api_Prefix_dual_known_1_r0, hB]
  refine arun_rangeS Try.underlying63 MB u (fun it o hit IS => ?_)
  simp (disch := omega)
  refine ⟨K1InvP h l Bm it r m venc I, ⟨m.length, [], h, by simp, .nil, by simp, I0, .new hit, IS, hit, by simp, by simp, by simp⟩, ?_⟩
  rintro n env G ⟨V, g, hn, nd, sub, IV, lg, IS, git, e0, e1, e5⟩
  unfold maps_Keys_map_api_Prefix_dual_known_api_Prefix_dual_known_1_L0
  simp (disch := omega) [maps_Keys_map_api_Prefix_dual_known_api_Prefix_dual_known_1_r1, e5]
  refine arun_nextS IS (fun hend => ?_) (fun x o hx hxV IS2 => ?_)
  · simp (disch := omega)
    have hp : V.Perm (m.map (·.1)) := (List.perm_ext_iff_of_nodup nd u).2 (fun k => ⟨sub k, fun hk => by obtain ⟨y, hy, rfl⟩ := List.mem_map.1 hk; exact hend y hy⟩)
    exact .to g lg (hQ V _ g IV hp)
  · simp (disch := omega) [maps_Keys_map_api_Prefix_dual_known_api_Prefix_dual_known_1_r2, e5]
    refine arun_entryS IS2 hx ?_
    simp (disch := omega)
    intro b3 hb3
    have L2 : Le g (G.upd it o) := lg.put git
    have L3 : Le (G.upd it o) ((G.upd it o).upd b3 (.cells (kencP x.1).toArray 35)) := .new hb3
    have f3 : ((G.upd it o).upd b3 (.cells (kencP x.1).toArray 35)) b3 = some (.cells (kencP x.1).toArray 35) := upd_same
    have IS3 := IS2.le L3
    have hit3 : ((G.upd it o).upd b3 (.cells (kencP x.1).toArray 35)) it = some o := L3 _ _ upd_same
    have L4 := L2.trans L3
    simp (disch := omega)
    show maps_Keys_map_api_Prefix_dual_known_api_Prefix_dual_known_1_r3 _ ((G.upd it o).upd b3 (.cells (kencP x.1).toArray 35)) _
    generalize (G.upd it o).upd b3 (.cells (kencP x.1).toArray 35) = G4 at *
    clear L3
    have hVl : V.length < m.length := by
      have hnd2 : (V ++ [x.1]).Nodup := List.nodup_append.2 ⟨nd, by simp, fun y hy z hz => by simp at hz; subst hz; rintro rfl; exact hxV hy⟩
      have := nodup_leP hnd2 (K := m.map (·.1)) (fun k hk => by
        rcases List.mem_append.1 hk with q | q
        · exact sub k q
        · simp at q; subst q; exact List.mem_map_of_mem hx)
      simp at this; omega
    simp (disch := omega) [maps_Keys_map_api_Prefix_dual_known_api_Prefix_dual_known_1_r3, e0, f3]
    refine ((step V x g (fun v g' => v = .bool true ∧ I (V ++ [x.1]) g') IV hx hxV hVl (fun g' h' => ⟨rfl, h'⟩)).frame L4).mono ?_
    rintro v G5 ⟨g5, ⟨rfl, I5⟩, rfl, dom⟩
    simp (disch := omega)
    have le5 : Le g5 (g5.over g G4) := fun b o' e => by
      cases hg : g b with
      | some o2 => rw [over_in hg]; exact e
      | none =>
        cases h4 : G4 b with
        | none => rw [over_new h4]; exact e
        | some o3 => rw [dom b o3 h4 hg] at e; cases e
    have e_it : (g5.over g G4) it = G4 it := (over_out git hit3).trans hit3.symm
    obtain ⟨mo, hmo⟩ := MB.alive
    have hgr : g r = some mo := (hI _ _ IV).trans hmo
    have e_r : (g5.over g G4) r = G4 r := by rw [over_in hgr, hI _ _ I5, hmo, L4 _ _ hgr]
    refine ⟨n - 1, by omega, V ++ [x.1], g5, by simp; omega, List.nodup_append.2 ⟨nd, by simp, fun y hy z hz => by simp at hz; subst hz; rintro rfl; exact hxV hy⟩, fun k hk => ?_, I5, le5, IS3.keep e_r e_it, dom it o hit3 git, by simp [e0], by simp [e1], by simp [e5]⟩
    rcases List.mem_append.1 hk with q | q
    · exact sub k q
    · simp at q; subst q; exact List.mem_map_of_mem hx

def CoIP (h : Hp) (b l : Nat) (rec : Obj) (V : List (Nat × Int)) (g : Hp) : Prop :=
  ∃ v, g b = some (.cells #[v] 99 (0, 0)) ∧ SlAt g 35 2 kencP v V ∧ g l = some rec ∧ Le h g ∧ (∀ x, blkOf v = some x → h x = none ∧ x ≠ b ∧ x ≠ l)

set_option maxRecDepth 20000 in
theorem collectP {h : Hp} {Bm r : Nat} {Q : Value → Hp → Prop} {m : List ((Nat × Int) × β)} {E : TypeId} {fr : Nat × Nat} (hB : h Bm = some (.cells #[.map (some r)] E fr)) (MB : MapB h r kvalP venc m) (u : Uniq m) (hl : m.length ≤ 1000000)
    (hQ : ∀ v ks h', Le h h' → SlAt h' 35 2 kencP v ks → ks.Perm (m.map (·.1)) → (∀ b, blkOf v = some b → h b = none) → Q v h') :
    Ok Try.prog F_slices_Collect_api_Prefix #[.func (.func F_maps_Keys_map_api_Prefix_dual_known_api_Prefix_dual_known_1) #[] #[.pointer (some ⟨Bm, 0, none⟩)]] h Q := by
  refine slices_Collect_api_Prefix_ok (by simp) ?_
  unfold slices_Collect_api_Prefix_D
  simp (disch := omega) [slices_Collect_api_Prefix_r0, slices_Collect_api_Prefix_r1]
  have end_ : ∀ v ks h', Le h h' → SlAt h' 35 2 kencP v ks → ks.Perm (m.map (·.1)) → (∀ b, blkOf v = some b → h b = none) → drp Q v h' := fun v ks h' a b c d => .to _ (.refl _) (hQ v ks h' a b c d)
  refine Ok.mono (Q := fun v h' => drp Q v h') ?_ (fun v h' q => by simp (disch := omega); exact q)
  refine slices_AppendSeq_api_Prefix_api_Prefix_ok (by simp) ?_
  unfold slices_AppendSeq_api_Prefix_api_Prefix_D
  simp (disch := omega) [slices_AppendSeq_api_Prefix_api_Prefix_r0]
  intro b hb
  simp (disch := omega) [slices_AppendSeq_api_Prefix_api_Prefix_r1]
  refine ⟨F_maps_Keys_map_api_Prefix_dual_known_api_Prefix_dual_known_1, #[], #[.pointer (some ⟨Bm, 0, none⟩)], by simp, fun l fn D hl2 hu => ?_⟩
  obtain ⟨nlb, hlh⟩ := upd_none hl2
  have L1 : Le h (h.upd b (.cells #[.slice none 0 0] 99)) := .new hb
  simp (disch := omega)
  have key : ∀ (env : Env), env 2 = .pointer (some ⟨b, 0, none⟩) → (∀ t, 13 ≤ t → env t = undef) →
      Ok Try.prog F_maps_Keys_map_api_Prefix_dual_known_api_Prefix_dual_known_1 #[.func (.yield l) #[] #[], .pointer (some ⟨Bm, 0, none⟩)] ((h.upd b (.cells #[.slice none 0 0] 99)).upd l (recOf 13 env #[7] slices_AppendSeq_api_Prefix_api_Prefix_F0_a slices_AppendSeq_api_Prefix_api_Prefix_F0_b .ready none fn D)) (fun _ h2 => ∃ v ks, h2 l = some (recOf 13 env #[7] slices_AppendSeq_api_Prefix_api_Prefix_F0_a slices_AppendSeq_api_Prefix_api_Prefix_F0_b .ready none fn D) ∧ Le h h2 ∧ h2 b = some (.cells #[v] 99 (0, 0)) ∧ SlAt h2 35 2 kencP v ks ∧ ks.Perm (m.map (·.1)) ∧ (∀ x, blkOf v = some x → h x = none ∧ x ≠ b ∧ x ≠ l)) := by
    intro env e2 hu
    generalize hR : recOf 13 env #[7] slices_AppendSeq_api_Prefix_api_Prefix_F0_a slices_AppendSeq_api_Prefix_api_Prefix_F0_b .ready none fn D = oR
    have L2 : Le h ((h.upd b (.cells #[.slice none 0 0] 99)).upd l oR) := L1.trans (.new hl2)
    have hb2 : ((h.upd b (.cells #[.slice none 0 0] 99)).upd l oR) b = some (.cells #[.slice none 0 0] 99 (0, 0)) := by rw [upd_ne (Ne.symm nlb), upd_same]
    have hl3 : ((h.upd b (.cells #[.slice none 0 0] 99)).upd l oR) l = some oR := upd_same
    generalize (h.upd b (.cells #[.slice none 0 0] 99)).upd l oR = h1 at *
    refine keys1P (L2 _ _ hB) (MB.le L2) u (CoIP h b l oR) ⟨_, hb2, .inl ⟨rfl, rfl⟩, hl3, L2, by simp [blkOf]⟩ ?_ ?_ ?_
    · rintro V g ⟨v, q1, q2, q3, q4, q5⟩
      obtain ⟨mo, hmo⟩ := MB.alive
      rw [q4 _ _ hmo, L2 _ _ hmo]
    · rintro V x g k ⟨v, q1, q2, q3, q4, q5⟩ hx hxV hVl hk
      subst hR
      refine slices_AppendSeq_api_Prefix_api_Prefix_F0_yok q3 hu ?_
      generalize hR : recOf 13 env #[7] slices_AppendSeq_api_Prefix_api_Prefix_F0_a slices_AppendSeq_api_Prefix_api_Prefix_F0_b .ready none fn D = oR at *
      generalize hB2 : recOf 13 env #[7] slices_AppendSeq_api_Prefix_api_Prefix_F0_a slices_AppendSeq_api_Prefix_api_Prefix_F0_b .busy none fn D = oB
      unfold rnd
      unfold slices_AppendSeq_api_Prefix_api_Prefix_F0_A
      simp (disch := omega) [slices_AppendSeq_api_Prefix_api_Prefix_r2]
      intro b5 hb5
      have nb5 : b5 ≠ l := by rintro rfl; rw [q3] at hb5; cases hb5
      have nbb5 : b5 ≠ b := by rintro rfl; rw [q1] at hb5; cases hb5
      simp (disch := omega)
      have La : ∀ y o, y ≠ l → g y = some o → ((g.upd b5 (.cells (kencP x.1).toArray 35)).upd l oB) y = some o := fun y o n e => by rw [upd_ne n, upd_ne (by rintro rfl; rw [hb5] at e; cases e)]; exact e
      have f5 : ((g.upd b5 (.cells (kencP x.1).toArray 35)).upd l oB) b5 = some (.cells (kencP x.1).toArray 35) := by rw [upd_ne nb5, upd_same]
      have fl : ((g.upd b5 (.cells (kencP x.1).toArray 35)).upd l oB) l = some oB := upd_same
      have nbl : b ≠ l := Ne.symm nlb
      have fb := La b _ nbl q1
      have S1 : SlAt ((g.upd b5 (.cells (kencP x.1).toArray 35)).upd l oB) 35 2 kencP v V := q2.keep (fun y o e e2 => La _ _ (q5 y e).2.2 e2)
      have Lh : Le h ((g.upd b5 (.cells (kencP x.1).toArray 35)).upd l oB) := fun y o e => La y o (by rintro rfl; rw [hlh] at e; cases e) (q4 _ _ e)
      refine ⟨by rw [if_neg nb5.symm]; exact q3, ?_⟩
      show slices_AppendSeq_api_Prefix_api_Prefix_F0_B _ _ ((g.upd b5 (.cells (kencP x.1).toArray 35)).upd l oB)
      generalize (g.upd b5 (.cells (kencP x.1).toArray 35)).upd l oB = g1 at *
      unfold slices_AppendSeq_api_Prefix_api_Prefix_F0_B
      simp (disch := omega) [slices_AppendSeq_api_Prefix_api_Prefix_r3, e2, fb, f5]
      refine snoc_api_Prefix S1 (y := x.1) rfl (by simp) (by omega) (fun b9 v' g' S' G hb9 => ?_)
      have ke : ∀ y o, g1 y = some o → blkOf v ≠ some y → g' y = some o := fun y o e n => G.keep y o e (fun q => n q.symm)
      have nvb : blkOf v ≠ some b := fun e => (q5 b e).2.1 rfl
      have nvl : blkOf v ≠ some l := fun e => (q5 l e).2.2 rfl
      have gb := ke b _ fb nvb
      have gl := ke l _ fl nvl
      obtain ⟨sp, sc, hv'⟩ := S'.shape'
      rw [List.length_append, List.length_singleton] at hv'
      simp (disch := omega) [gb, hv', e2]
      rw [← hv']
      have nv' : ∀ y, blkOf v' = some y → h y = none ∧ y ≠ b ∧ y ≠ l := fun y e => by
        rcases G.fresh with q | q
        · exact q5 y (by rw [← q]; exact e)
        · have := q y e
          exact ⟨none_of_le Lh this, (by rintro rfl; rw [fb] at this; cases this), (by rintro rfl; rw [fl] at this; cases this)⟩
      unfold rndK
      simp only [hR, hB2]
      refine ⟨by rw [upd_ne nbl.symm, gl], ?_⟩
      refine hk _ ⟨v', by rw [upd_ne nbl, upd_same], S'.keep (fun y o e e2 => by rw [upd_ne (nv' y e).2.2, upd_ne (nv' y e).2.1]; exact e2), upd_same, fun y o e => ?_, nv'⟩
      rw [upd_ne (by rintro rfl; rw [hlh] at e; cases e), upd_ne (by rintro rfl; rw [hb] at e; cases e)]
      exact ke y o (Lh _ _ e) (fun q => by rw [(q5 y q).1] at e; cases e)
    · rintro ks v g ⟨w, q1, q2, q3, q4, q5⟩ hp
      exact ⟨w, ks, q3, q4, q1, q2, hp, q5⟩
  refine (key _ ?_ ?_).mono ?_
  · simp
  · intro t ht; exact hu t ht
  · rintro _ h2 ⟨v, ks, hr, l2, hb2, S2, hp, nv⟩
    refine .inl ⟨hr, ?_⟩
    have hbr : (h2.rem l) b = some (.cells #[v] 99 (0, 0)) := by rw [rem_ne (Ne.symm nlb)]; exact hb2
    have S3 : SlAt (h2.rem l) 35 2 kencP v ks := S2.keep (fun y o e e2 => by rw [rem_ne (nv y e).2.2]; exact e2)
    have L3 : Le h (h2.rem l) := fun y o e => by rw [rem_ne (by rintro rfl; rw [hlh] at e; cases e)]; exact l2 _ _ e
    simp (disch := omega) [slices_AppendSeq_api_Prefix_api_Prefix_r4, hbr]
    exact .to _ (.refl _) (end_ v ks _ L3 S3 hp (fun y e => (nv y e).1))
end
end Go.Proofs.Ytpeoholnlokdcaa

/- slices.SortFunc at structs: the kit's contract, turned to partial heaps. -/
namespace Go.Proofs.Ytpeoholnlokdcaa
open Go
open Go.Sort (SWO PermIn SortedIn)
open Go.Shelf (Ren)
set_option linter.unusedSimpArgs false
set_option linter.unusedVariables false

/-- What a call from nowhere leaves: all that was, and more. -/
theorem Keep.grown {W w' : World} {h' : Hp} (K : Keep noHp W h' w') : ∃ q os', w' = Go.Sort.grow (W.drewN q) os' := by
  refine ⟨w'.drawn - W.drawn, w'.heap.extract W.heap.size w'.heap.size, ?_⟩
  obtain ⟨k1, k2, k3, k4, k5, _, k7⟩ := K
  unfold Go.Sort.grow World.drewN
  cases w' with
  | mk heap tape drawn os output =>
    simp only at k1 k2 k3 k4 k5 k7 ⊢
    subst k1 k2 k3
    congr 1
    · refine Array.ext_getElem? fun i => ?_
      rw [Array.getElem?_append]
      split
      · rename_i hi; exact k5 i hi rfl
      · rename_i hi
        rw [Array.getElem?_extract]
        split
        · congr 1; omega
        · rw [Array.getElem?_eq_none (by omega)]
    · omega

theorem sw_heap {α : Type} [Inhabited α] {enc : α → List Value} {k b n : Nat} {w : World} {d : Array α} {os : Array Obj} {i : Nat} (hi : i < w.heap.size) :
    (sortWorldK enc k w b 0 n d os).heap[i]? = if b = i then (w.heap[i]?).map (Go.Sort.onCells (Go.Sort.putCells id 0 (Go.Sort.flatK enc k d))) else w.heap[i]? := by
  unfold sortWorldK Go.Sort.grow Go.Sort.putRowK Go.Sort.putRow Go.Sort.mapBlock Go.Sort.ahead
  simp only []
  rw [Array.getElem?_append_left (by simpa using hi), Array.getElem?_modify]

theorem enc_flat {α : Type} [Inhabited α] {enc : α → List Value} {k : Nat} {c : Array Value} {d : Array α} (hk : ∀ x, (enc x).length = k) (hl : d.size * k ≤ c.size) : Enc (Go.Sort.putCells id 0 (Go.Sort.flatK enc k d) c) 0 k enc d.toList := by
  intro i x hx j hj
  have hi : i < d.size := by have := (List.getElem?_eq_some_iff.1 hx).1; simpa using this
  have hlt : i * k + j < d.size * k := by
    have : (i + 1) * k ≤ d.size * k := Nat.mul_le_mul_right _ hi
    rw [Nat.add_mul] at this; omega
  unfold Go.Sort.putCells
  rw [Array.getElem?_mapIdx, Nat.zero_add, Array.getElem?_eq_getElem (by omega), Option.map_some, if_pos ⟨by omega, by rw [Go.Sort.size_flatK]; omega⟩, Nat.sub_zero]
  rw [Go.Sort.get_flatK _ _ _ _ hlt]
  have e1 : (i * k + j) / k = i := (Go.Sort.blk_iff k i _ (by omega)).1 ⟨by omega, by omega⟩
  have e2 : (i * k + j) % k = j := by rw [Nat.mod_eq_sub_div_mul, e1]; omega
  rw [e1, e2]
  have hx' : d[i]! = x := by
    rw [getElem!_pos d i hi]
    have := (List.getElem?_eq_some_iff.1 hx).2
    simpa using this
  rw [hx']
  have hlj : j < (enc x).length := by rw [hk]; exact hj
  rw [List.getElem?_eq_getElem hlj, id, getElem!_pos _ j hlj]

theorem holds_of {α : Type} [Inhabited α] {enc : α → List Value} {k b E : Nat} {c : Array Value} {d : List α} {w : World} (hk : ∀ x, (enc x).length = k) (hb : w.heap[b]? = some (.cells c E (0, 0))) (hl : d.length * k ≤ c.size) (henc : Enc c 0 k enc d) :
    Go.Sort.HoldsK enc k w b 0 d.toArray := by
  intro t ht
  rw [Go.Sort.size_flatK] at ht
  have ht' : t < d.length * k := by simpa using ht
  have k0 : 0 < k := by rcases Nat.eq_zero_or_pos k with h | h
                        · subst h; simp at ht'
                        · exact h
  have hi : t / k < d.length := by rw [Nat.div_lt_iff_lt_mul k0]; exact ht'
  have hj : t % k < k := Nat.mod_lt _ k0
  have e : t / k * k + t % k = t := by rw [Nat.mul_comm]; exact Nat.div_add_mod t k
  constructor
  · rw [Go.Sort.get_flatK _ _ _ _ ht]
    have := henc (t / k) (d[t / k]'hi) (List.getElem?_eq_getElem hi) (t % k) hj
    have hlj : t % k < (enc (d[t / k]'hi)).length := by rw [hk]; exact hj
    rw [Nat.zero_add, e, List.getElem?_eq_getElem hlj] at this
    unfold World.cell?
    simp only [hb]
    rw [Nat.zero_add]
    simp only [Option.isSome_none, Bool.false_eq_true, if_false]
    rw [this]
    have e9 : (d.toArray)[t / k]! = d[t / k]'hi := by rw [getElem!_pos _ _ (by simpa using hi)]; simp
    rw [e9, id, getElem!_pos (enc (d[t / k]'hi)) _ hlj]
  · unfold World.frozen?
    simp only [hb]
    simp

theorem ok_sortFunc {P : Program} {ρ : Ren} {α : Type} [Inhabited α] (L : SlLaysF0.n6 P ρ) {k : Nat} (aE : ∀ w, (isAgg (ρ.t 24)).run P w = .ok true w) (zE : ∀ w, (Go.sizeOf (ρ.t 24)).run P w = .ok k w)
    {enc : α → List Value} (hk : ∀ x, (enc x).length = k) (h1 : ∀ x, ∀ v ∈ enc x, v.oneCell' = true) {cf : α → α → Int} (hO : SWO (ltOf cf)) {g : Nat} {cb : Array Value}
    (eg : ∀ args w, (callFunc g args).run P w = .ok (.enter g args) w)
    (hcmp : ∀ x y, Ok P g (#[.agg (enc x).toArray, .agg (enc y).toArray] ++ cb) noHp (fun v _ => v = .int .i64 (cf x y)))
    (f6 : ∃ fn c, P.funcs[ρ.f 6]? = some fn ∧ fn.body = some c)
    {E : Nat} {h : Hp} {b cap : Nat} {c : Array Value} {d : List α} (hb : h b = some (.cells c E (0, 0))) (hl : d.length * k ≤ c.size) (henc : Enc c 0 k enc d) (hsz : d.length < 4611686018427387904) {Q : Value → Hp → Prop}
    (hQ : ∀ (d' : List α) (c' : Array Value), d'.Perm d → List.Pairwise (fun x y => ltOf cf y x = false) d' → c'.size = c.size → Enc c' 0 k enc d' → Q (.tuple #[]) (h.upd b (.cells c' E (0, 0)))) :
    Ok P (ρ.f 6) #[.slice (some ⟨b, 0, none⟩) d.length cap, .func (.func g) #[] cb] h Q := by
  refine ⟨f6, fun w V => ?_⟩
  have hbw := V b _ hb
  have hblk : b < w.heap.size := (Array.getElem?_eq_some_iff.1 hbw).1
  have hC : CmpLays P g cb enc k cf b 0 d.toArray.size w := fun m os dk hs x y =>
    ((hcmp x y).2 _ (fun b o e => by cases e)).mono fun e w' ⟨v, h', he, _, K, hv⟩ => ⟨by rw [he, hv], K.grown⟩
  have hs := AnyQ.slices_SortFunc L k aE zE enc hk h1 cf hO g cb b 0 cap d.toArray w eg hC (holds_of hk hbw hl henc) hblk (by simpa using hsz)
  rw [show d.toArray.size = d.length by simp] at hs
  refine hs.mono ?_
  rintro e w' ⟨rfl, d', n, os, hp, hsr, rfl⟩
  obtain ⟨hp1, _, hp3⟩ := hp
  have hds : d'.size = d.length := by simpa using hp1
  have hperm : d'.toList.Perm d := by
    have e1 : d'.extract 0 d.length = d' := by rw [← hds]; exact Array.extract_size
    have e2 : d.toArray.extract 0 d.length = d.toArray := by
      have : d.length = d.toArray.size := by simp
      rw [this]; exact Array.extract_size
    rw [e1, e2] at hp3
    exact hp3
  have hpw : List.Pairwise (fun x y => ltOf cf y x = false) d'.toList := by
    rw [List.pairwise_iff_getElem]
    intro i j hi hj hij
    have hi' : i < d'.size := by simpa using hi
    have hj' : j < d'.size := by simpa using hj
    have := hsr i j (Nat.zero_le _) hij (by omega)
    rw [getElem!_pos d' i hi', getElem!_pos d' j hj'] at this
    simpa using this
  have hcs : (Go.Sort.putCells id 0 (Go.Sort.flatK enc k d') c).size = c.size := by unfold Go.Sort.putCells; simp
  refine ⟨_, h.upd b (.cells (Go.Sort.putCells id 0 (Go.Sort.flatK enc k d') c) E (0, 0)), rfl, ?_, ?_, hQ _ _ hperm hpw hcs (enc_flat hk (by rw [hds]; exact hl))⟩
  · intro x o hx
    unfold Hp.upd at hx
    split at hx
    · rename_i e; subst e; cases hx
      rw [sw_heap hblk, if_pos rfl, hbw]; rfl
    · rename_i ne
      have hw := V x o hx
      rw [sw_heap (Array.getElem?_eq_some_iff.1 hw).1, if_neg (fun e => ne e.symm)]; exact hw
  · refine ⟨rfl, rfl, rfl, ?_, fun i hi hn => ?_, fun i hi hn => ?_, ?_⟩
    · unfold sortWorldK Go.Sort.putRowK
      rw [Go.Sort.size_grow, Go.Sort.size_putRow]
      exact Nat.le_add_right _ _
    · rw [sw_heap hi, if_neg (by rintro rfl; rw [hb] at hn; cases hn)]
    · unfold Hp.upd; rw [if_neg (by rintro rfl; rw [hb] at hn; cases hn)]; exact hn
    · show w.drawn ≤ w.drawn + n; omega
end Go.Proofs.Ytpeoholnlokdcaa

/- The order of prefixes. -/
namespace Go.Proofs.Ytpeoholnlokdcaa
open Go Go.Sort
set_option linter.unusedSimpArgs false
set_option linter.unusedVariables false

abbrev PK := Nat × Int
def pltB (x y : PK) : Bool := decide (x.1 < y.1) || (decide (x.1 = y.1) && decide (x.2 < y.2))
def cmpP (x y : PK) : Int := if pltB x y then -1 else if x = y then 0 else 1
def plt (x y : PK) : Prop := x.1 < y.1 ∨ (x.1 = y.1 ∧ x.2 < y.2)
instance (x y : PK) : Decidable (plt x y) := by unfold plt; infer_instance
theorem pltB_iff {x y : PK} : pltB x y = true ↔ plt x y := by simp [pltB, plt]

theorem cmpP_lt {x y : PK} : cmpP x y < 0 ↔ plt x y := by
  rw [← pltB_iff]
  unfold cmpP
  by_cases h : pltB x y = true
  · simp [h]
  · rw [if_neg h]
    constructor
    · intro q; split at q <;> omega
    · intro q; exact absurd q h
theorem ltP (x y : PK) : ltOf cmpP x y = decide (plt x y) := by
  unfold ltOf
  rw [decide_eq_decide]
  exact cmpP_lt
theorem plt_trans {x y z : PK} (h1 : plt x y) (h2 : plt y z) : plt x z := by unfold plt at *; omega
theorem plt_ntrans {x y z : PK} (h1 : ¬ plt x y) (h2 : ¬ plt y z) : ¬ plt x z := by unfold plt at *; omega
theorem plt_tri {x y : PK} (h1 : ¬ plt x y) (h2 : ¬ plt y x) : x = y := by
  unfold plt at *
  exact Prod.ext (by omega) (by omega)
theorem plt_irr {x : PK} : ¬ plt x x := by unfold plt; omega
theorem plt_asym {x y : PK} (h : plt x y) : ¬ plt y x := by unfold plt at *; omega
theorem swoP : SWO (ltOf cmpP) where
  irrefl x := by rw [ltP]; simp [plt_irr]
  trans x y z h1 h2 := by rw [ltP, decide_eq_true_eq] at *; exact plt_trans h1 h2
  ntrans x y z h1 h2 := by rw [ltP, decide_eq_false_iff_not] at *; exact plt_ntrans h1 h2

/-- None comes ahead of an earlier one. -/
def SrtP (l : List PK) : Prop := l.Pairwise fun x y => ¬ plt y x
theorem srtP_unique {l l' : List PK} (s : SrtP l) (s' : SrtP l') (p : l.Perm l') : l = l' :=
  List.Perm.eq_of_pairwise (le := fun x y => ¬ plt y x) (fun a b _ _ h1 h2 => plt_tri h2 h1) s s' p
end Go.Proofs.Ytpeoholnlokdcaa

/- The order that DUAL sorts by. -/
namespace Go.Proofs.Ytpeoholnlokdcaa
open Go
set_option linter.unusedSimpArgs false
set_option linter.unusedVariables false

theorem order1_spec {x y : PK} {h : Hp} {Q : Value → Hp → Prop} (hQ : ∀ h', Le h h' → Q (.int .i64 (cmpP x y)) h') : Ok Try.prog F_dual_Dual_all_1_1 #[kvalP x, kvalP y] h Q := by
  refine dual_Dual_all_1_1_ok (by simp) ?_
  unfold dual_Dual_all_1_1_D
  simp (disch := omega) [dual_Dual_all_1_1_r0]
  intro b1 hb1 b2 hb2
  obtain ⟨n21, hb2'⟩ := upd_none hb2
  have L1 : Le h ((h.upd b1 (.cells #[.int .u32 (x.1 : Nat), .int .i64 x.2] 35)).upd b2 (.cells #[.int .u32 (y.1 : Nat), .int .i64 y.2] 35)) := (Le.new hb1).trans (Le.new hb2)
  have f1 : ((h.upd b1 (.cells #[.int .u32 (x.1 : Nat), .int .i64 x.2] 35)).upd b2 (.cells #[.int .u32 (y.1 : Nat), .int .i64 y.2] 35)) b1 = some (.cells #[.int .u32 (x.1 : Nat), .int .i64 x.2] 35) := by rw [upd_ne (Ne.symm n21), upd_same]
  have f2 : ((h.upd b1 (.cells #[.int .u32 (x.1 : Nat), .int .i64 x.2] 35)).upd b2 (.cells #[.int .u32 (y.1 : Nat), .int .i64 y.2] 35)) b2 = some (.cells #[.int .u32 (y.1 : Nat), .int .i64 y.2] 35) := upd_same
  generalize (h.upd b1 (.cells #[.int .u32 (x.1 : Nat), .int .i64 x.2] 35)).upd b2 (.cells #[.int .u32 (y.1 : Nat), .int .i64 y.2] 35) = g1 at *
  simp (disch := omega) [dual_Dual_all_1_1_r1, f1, f2]
  refine less_spec ?_
  have hQ' := hQ _ L1
  unfold cmpP at hQ'
  by_cases h1 : pltB x y = true
  · rw [if_pos h1] at hQ'
    unfold pltB at h1
    rw [h1]
    simp (disch := omega) [dual_Dual_all_1_1_r2]
    exact .to _ (.refl _) hQ'
  · rw [if_neg h1] at hQ'
    unfold pltB at h1
    rw [Bool.not_eq_true] at h1
    rw [h1]
    by_cases he : x = y
    · rw [if_pos he] at hQ'
      subst he
      simp (disch := omega) [dual_Dual_all_1_1_r3, dual_Dual_all_1_1_r4, f1, f2]
      exact .to _ (.refl _) hQ'
    · rw [if_neg he] at hQ'
      have hne : ¬ ((x.1 : Int) = (y.1 : Int) ∧ x.2 = y.2) := fun q => he (Prod.ext (by omega) q.2)
      by_cases h2 : x.1 = y.1
      · have h3 : ¬ x.2 = y.2 := fun q => he (Prod.ext h2 q)
        simp (disch := omega) [dual_Dual_all_1_1_r3, dual_Dual_all_1_1_r5, f1, f2, h2, h3]
        exact .to _ (.refl _) hQ'
      · have h2' : ¬ (x.1 : Int) = (y.1 : Int) := by omega
        simp (disch := omega) [dual_Dual_all_1_1_r3, dual_Dual_all_1_1_r5, f1, f2, h2, h2']
        exact .to _ (.refl _) hQ'
end Go.Proofs.Ytpeoholnlokdcaa

/- slices.SortFunc at these elements (printed by wip/lib/sort.py). -/
namespace Go.Proofs.Ytpeoholnlokdcaa
open Go Go.Shelf Go.RowKit Go.Lib Go.Sort
set_option linter.unusedSimpArgs false
set_option linter.unusedVariables false

theorem isAggP : ∀ w, (isAgg (sortP_ren.t 24)).run Try.prog w = .ok true w := by intro w; kernel_rfl
theorem sizeP : ∀ w, (Go.sizeOf (sortP_ren.t 24)).run Try.prog w = .ok 2 w := by intro w; kernel_rfl

theorem len_specP {n : Nat} {h : Hp} {Q : Value → Hp → Prop} (hn : n < 2 ^ 63) (hQ : ∀ k : Int, Q (.int .i64 k) h) : Ok Try.prog F_math_bits_Len #[.int .u64 (n : Nat)] h Q := by
  refine ⟨⟨Try.f60, math_bits_Len_code, Try.func60, by kernel_rfl⟩, fun w V => ?_⟩
  have := Any.bits_Len bitsP (n : Int) w (by omega) (by omega)
  refine Calls.mono (P := Try.prog) this ?_
  rintro e w' ⟨rfl, rfl⟩
  exact ⟨_, h, rfl, V, .refl _ _, hQ _⟩


theorem sort_nilP {Q : Value → Hp → Prop} {h : Hp} (hQ : Q (.tuple #[]) h) : Ok Try.prog F_slices_SortFunc_api_Prefix_api_Prefix #[.slice none 0 0, .func (.func F_dual_Dual_all_1_1) #[] #[]] h Q := by
  refine slices_SortFunc_api_Prefix_api_Prefix_ok (by simp) ?_
  unfold slices_SortFunc_api_Prefix_api_Prefix_D
  simp (disch := omega) [slices_SortFunc_api_Prefix_api_Prefix_r0, slices_SortFunc_api_Prefix_api_Prefix_r1]
  refine len_specP (n := 0) (by omega) (fun k => ?_)
  simp (disch := omega)
  refine slices_pdqsortCmpFunc_api_Prefix_ok (by simp) ?_
  unfold slices_pdqsortCmpFunc_api_Prefix_D
  simp (disch := omega) [slices_pdqsortCmpFunc_api_Prefix_r0, slices_pdqsortCmpFunc_api_Prefix_r1]
  refine ⟨fun _ env g => g = h ∧ env 0 = .slice none 0 0 ∧ env 1 = .int .i64 0 ∧ env 2 = .int .i64 0, ⟨0, rfl, by simp, by simp, by simp⟩, ?_⟩
  rintro _ env g ⟨rfl, e0, e1, e2⟩
  unfold slices_pdqsortCmpFunc_api_Prefix_L0
  simp (disch := omega) [slices_pdqsortCmpFunc_api_Prefix_r2, slices_pdqsortCmpFunc_api_Prefix_r3, slices_pdqsortCmpFunc_api_Prefix_r4, e0, e1, e2, wrap_i64]
  refine slices_insertionSortCmpFunc_api_Prefix_ok (by simp) ?_
  unfold slices_insertionSortCmpFunc_api_Prefix_D
  simp (disch := omega) [slices_insertionSortCmpFunc_api_Prefix_r0, wrap_i64]
  refine ⟨fun _ env g2 => g2 = g ∧ env 2 = .int .i64 0 ∧ env 8 = .int .i64 1, ⟨0, rfl, by simp, by simp⟩, ?_⟩
  rintro _ env2 g2 ⟨rfl, f2, f8⟩
  unfold slices_insertionSortCmpFunc_api_Prefix_L1
  simp (disch := omega) [slices_insertionSortCmpFunc_api_Prefix_r1, f2, f8]
  exact .to _ (.refl _) (.to _ (.refl _) (.to _ (.refl _) hQ))

theorem sort_specP {h : Hp} {v : Value} {d : List (Nat × Int)} {Q : Value → Hp → Prop} (S : SlAt h 35 2 kencP v d) (hsz : d.length < 4611686018427387904)
    (hQ : ∀ (d' : List (Nat × Int)) h', d'.Perm d → SrtP d' → (∀ x o, h x = some o → blkOf v ≠ some x → h' x = some o) → SlAt h' 35 2 kencP v d' → Q (.tuple #[]) h') :
    Ok Try.prog F_slices_SortFunc_api_Prefix_api_Prefix #[v, .func (.func F_dual_Dual_all_1_1) #[] #[]] h Q := by
  rcases S with ⟨rfl, rfl⟩ | ⟨b, cap, c, rfl, hb, h1, h2, h3⟩
  · exact sort_nilP (hQ [] h (.refl _) .nil (fun _ _ e _ => e) (.inl ⟨rfl, rfl⟩))
  · have hlc : d.length * 2 ≤ c.size := by omega
    refine ok_sortFunc sortP isAggP sizeP (enc := kencP) (fun _ => rfl) (fun x v hv => by simp [kencP] at hv; rcases hv with rfl | rfl <;> rfl) swoP (g := F_dual_Dual_all_1_1) (cb := #[])
      (enters_of Try.func42 (by kernel_rfl) rfl) (fun x y => order1_spec (fun _ _ => rfl)) ⟨_, slices_SortFunc_api_Prefix_api_Prefix_code, Try.func51, by kernel_rfl⟩ hb hlc h3 hsz (fun d' c' hp hs hc he => ?_)
    have hl := hp.length_eq
    refine hQ d' _ hp (hs.imp fun {x y} q => by rw [ltP] at q; simpa using q) (fun x o e n => ?_) (.inr ⟨b, cap, c', by rw [hl], upd_same, by omega, by omega, he⟩)
    rw [upd_ne (fun q => n (by subst q; rfl))]; exact e
end Go.Proofs.Ytpeoholnlokdcaa
