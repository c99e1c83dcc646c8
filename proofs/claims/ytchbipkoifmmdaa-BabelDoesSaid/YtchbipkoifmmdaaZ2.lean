/- Printed by wip/kit/gen.py out of the translation: what operations of these types come to. -/
import Derived.Test.YtchbipkoifmmdaaChecked
import Derived.Test.YtchbipkoifmmdaaZ1

set_option linter.unusedSimpArgs false
set_option linter.unusedVariables false

namespace Go.Proofs.Ytchbipkoifmmdaa
open Go

set_option maxRecDepth 100000

abbrev F_octroilaw17_BabelBest : Nat := 3
abbrev F_octroilaw17_BabelRaises : Nat := 4
abbrev F_octroilaw17_BabelTags : Nat := 5
abbrev F_octroilaw17_BabelGone : Nat := 6
abbrev F_octroilaw17_BabelLeast : Nat := 7
abbrev F_octroilaw17_BabelFeasible : Nat := 8
abbrev F_octroilaw17_BabelDoes : Nat := 9
abbrev F_octroilaw17_awake : Nat := 10
abbrev F_babel_New : Nat := 11
abbrev F_babel_Babel_Hear : Nat := 12
abbrev F_babel_Babel_All : Nat := 13
abbrev F_babel_Babel_Tell : Nat := 14
abbrev F_babel_Babel_Lose : Nat := 15
abbrev F_octroilaw17_call : Nat := 16
abbrev F_tags_Has : Nat := 17
abbrev F_babel_Babel_Len : Nat := 18
abbrev F_babel_Babel_Drop : Nat := 19
abbrev F_babel_Babel_Least : Nat := 20
abbrev F_num_Newer : Nat := 21
abbrev F_babel_Babel_Source : Nat := 22
abbrev F_octroiref17_New : Nat := 23
abbrev F_octroilaw17_does : Nat := 24
abbrev F_octroiref09_Same : Nat := 25
abbrev F_octroiref17_Babel_All : Nat := 26
abbrev F_octroiref17_Babel_Source : Nat := 27
abbrev F_octroiref17_Babel_Least : Nat := 28
abbrev F_octroiref06_Same : Nat := 29
abbrev F_octroiref17_Babel_Tell : Nat := 30
abbrev F_prefix_May : Nat := 31
abbrev F_babel_Babel_better : Nat := 32
abbrev F_babel_of : Nat := 33
abbrev F_babel_Babel_prefixes : Nat := 34
abbrev F_babel_Babel_way : Nat := 35
abbrev F_babel_Babel_Know : Nat := 36
abbrev F_babel_Babel_Own : Nat := 37
abbrev F_babel_Babel_Raise : Nat := 38
abbrev F_tags_may : Nat := 39
abbrev F_octroiref17_Babel_Own : Nat := 40
abbrev F_octroiref17_Babel_Drop : Nat := 41
abbrev F_octroiref17_Babel_Raise : Nat := 42
abbrev F_octroiref17_Babel_Hear : Nat := 43
abbrev F_octroiref17_Babel_Lose : Nat := 44
abbrev F_octroiref17_Babel_Know : Nat := 45
abbrev F_octroiref17_Babel_prefixes : Nat := 46
abbrev F_octroiref17_Babel_Way : Nat := 47
abbrev F_prefix_Mask : Nat := 48
abbrev F_babel_Babel_prefixes_1 : Nat := 49
abbrev F_babel_keys_api_Prefix_api_BabelTlv : Nat := 50
abbrev F_babel_keys_babel_from_babel_told : Nat := 51
abbrev F_babel_Babel_prefixes_2 : Nat := 52
abbrev F_slices_SortFunc_api_Prefix_api_Prefix : Nat := 53
abbrev F_babel_Babel_prefixes_3 : Nat := 54
abbrev F_prefix_Less : Nat := 55
abbrev F_slices_Compact_api_Prefix_api_Prefix : Nat := 56
abbrev F_metric_Cost : Nat := 57
abbrev F_octroiref02_May : Nat := 58
abbrev F_octroiref03_Has : Nat := 59
abbrev F_octroiref17_Babel_own : Nat := 60
abbrev F_octroiref17_Babel_better : Nat := 61
abbrev F_octroiref17_Babel_forget : Nat := 62
abbrev F_octroiref02_Less : Nat := 63
abbrev F_octroiref01_Add : Nat := 64
abbrev F_slices_pdqsortCmpFunc_api_Prefix : Nat := 65
abbrev F_math_bits_Len : Nat := 66
abbrev F_num_Add : Nat := 67
abbrev F_octroiref02_Mask : Nat := 68
abbrev F_octroiref03_is : Nat := 69
abbrev F_octroiref03_bit : Nat := 70
abbrev F_octroiref01_Newer : Nat := 71
abbrev F_slices_insertionSortCmpFunc_api_Prefix : Nat := 72
abbrev T_api_Prefix : Nat := 24
abbrev T_api_BabelTlv : Nat := 31
abbrev T_api_Errno : Nat := 32
abbrev T_api_Route : Nat := 38
abbrev T_octroilaw17_Op : Nat := 47
abbrev T_octroiref17_Babel : Nat := 67
abbrev T_babel_Babel : Nat := 74
abbrev T_babel_from : Nat := 77
abbrev T_babel_told : Nat := 79
abbrev T_babel_source : Nat := 83
abbrev T_babel_mark : Nat := 85
abbrev T_octroiref17_Least : Nat := 99
abbrev T_octroiref17_Own : Nat := 112
abbrev T_octroiref17_Told : Nat := 116
@[simp] theorem al_116 {h : Hp} {k : Value → Hp → Prop} : arun Try.prog (Instr.alloc 116 true (.tuple #[])) h k = nw h (.cells #[Value.int .u32 0, Value.int .i64 0, Value.int .i64 0, Value.int .i64 0, Value.int .i64 0, Value.int .u16 0, Value.int .i64 0, Value.int .i64 0, Value.int .u32 0, Value.int .i64 0, Value.int .u64 0, Value.int .u16 0, Value.int .i64 0] 116) fun b h => k (.pointer (some ⟨b, 0, none⟩)) h := arun_alloc (v := Value.agg #[Value.int .u32 0, Value.int .i64 0, Value.int .i64 0, Value.int .i64 0, Value.int .i64 0, Value.int .u16 0, Value.int .i64 0, Value.int .i64 0, Value.int .u32 0, Value.int .i64 0, Value.int .u64 0, Value.int .u16 0, Value.int .i64 0]) (by kernel_rfl)
@[simp] theorem al_24 {h : Hp} {k : Value → Hp → Prop} : arun Try.prog (Instr.alloc 24 true (.tuple #[])) h k = nw h (.cells #[Value.int .u32 0, Value.int .i64 0] 24) fun b h => k (.pointer (some ⟨b, 0, none⟩)) h := arun_alloc (v := Value.agg #[Value.int .u32 0, Value.int .i64 0]) (by kernel_rfl)
@[simp] theorem al_31 {h : Hp} {k : Value → Hp → Prop} : arun Try.prog (Instr.alloc 31 true (.tuple #[])) h k = nw h (.cells #[Value.int .i64 0, Value.int .u16 0, Value.int .i64 0, Value.int .i64 0, Value.int .u32 0, Value.int .i64 0, Value.int .u64 0, Value.int .u16 0, Value.int .i64 0] 31) fun b h => k (.pointer (some ⟨b, 0, none⟩)) h := arun_alloc (v := Value.agg #[Value.int .i64 0, Value.int .u16 0, Value.int .i64 0, Value.int .i64 0, Value.int .u32 0, Value.int .i64 0, Value.int .u64 0, Value.int .u16 0, Value.int .i64 0]) (by kernel_rfl)
@[simp] theorem al_77 {h : Hp} {k : Value → Hp → Prop} : arun Try.prog (Instr.alloc 77 true (.tuple #[])) h k = nw h (.cells #[Value.int .u32 0, Value.int .i64 0, Value.int .i64 0] 77) fun b h => k (.pointer (some ⟨b, 0, none⟩)) h := arun_alloc (v := Value.agg #[Value.int .u32 0, Value.int .i64 0, Value.int .i64 0]) (by kernel_rfl)
@[simp] theorem al_79 {h : Hp} {k : Value → Hp → Prop} : arun Try.prog (Instr.alloc 79 true (.tuple #[])) h k = nw h (.cells #[Value.int .i64 0, Value.int .i64 0, Value.int .u16 0, Value.int .i64 0, Value.int .i64 0, Value.int .u32 0, Value.int .i64 0, Value.int .u64 0, Value.int .u16 0, Value.int .i64 0] 79) fun b h => k (.pointer (some ⟨b, 0, none⟩)) h := arun_alloc (v := Value.agg #[Value.int .i64 0, Value.int .i64 0, Value.int .u16 0, Value.int .i64 0, Value.int .i64 0, Value.int .u32 0, Value.int .i64 0, Value.int .u64 0, Value.int .u16 0, Value.int .i64 0]) (by kernel_rfl)
@[simp] theorem al_83 {h : Hp} {k : Value → Hp → Prop} : arun Try.prog (Instr.alloc 83 true (.tuple #[])) h k = nw h (.cells #[Value.int .u32 0, Value.int .i64 0, Value.int .u64 0] 83) fun b h => k (.pointer (some ⟨b, 0, none⟩)) h := arun_alloc (v := Value.agg #[Value.int .u32 0, Value.int .i64 0, Value.int .u64 0]) (by kernel_rfl)
@[simp] theorem al_85 {h : Hp} {k : Value → Hp → Prop} : arun Try.prog (Instr.alloc 85 true (.tuple #[])) h k = nw h (.cells #[Value.int .u16 0, Value.int .i64 0] 85) fun b h => k (.pointer (some ⟨b, 0, none⟩)) h := arun_alloc (v := Value.agg #[Value.int .u16 0, Value.int .i64 0]) (by kernel_rfl)
theorem und_35 : Try.prog.underlying 35 = some (.slice 38) := by kernel_rfl
theorem size_38 : (Try.prog.info? 38).map (·.size) = some 7 := by kernel_rfl
theorem bytes_38 : (Try.prog.info? 38).map (·.bytes) = some 56 := by kernel_rfl
theorem zero_38 : (Try.prog.info? 38).bind (·.zero) = some (Value.agg #[Value.int .u32 0, Value.int .i64 0, Value.int .i64 0, Value.int .i64 0, Value.int .i64 0, Value.int .i64 0, Value.int .u16 0]) := by kernel_rfl
theorem push_api_Route {α : Type} {R b2 o2 c2 : Nat} {enc : α → List Value} {v : Value} {xs : List α} {y : α} {h : Hp} {k : Value → Hp → Prop} (S : SlAt h 38 7 enc v xs) (hy : ldN h b2 o2 7 = some (enc y)) (hyl : (enc y).length = 7) (hone : ∀ u ∈ enc y, oneCell u = true) (hbd : (2 * xs.length + 770) * 56 ≤ 2 ^ 48) (K : ∀ b c cap, (some b = blkOf v ∨ h b = none) → xs.length + 1 ≤ cap → cap * 7 ≤ c.size → Enc c 0 7 enc (xs ++ [y]) → k (.slice (some ⟨b, 0, none⟩) (xs.length + 1) cap) (h.upd b (.cells c 38 (0, 0)))) :
    arun Try.prog (Builtin.append_ #[35, 35] R #[v, .slice (some ⟨b2, o2, none⟩) 1 c2]) h k := arun_push und_35 und_35 size_38 bytes_38 zero_38 (by decide) rfl S hy hyl hone hbd K
theorem cat_api_Route {α : Type} {R : Nat} {enc : α → List Value} {v w : Value} {xs ys : List α} {h : Hp} {k : Value → Hp → Prop} (S : SlAt h 38 7 enc v xs) (R0 : Src h 7 enc w ys) (hbd : (2 * (xs.length + ys.length) + 770) * 56 ≤ 2 ^ 48) (K : ∀ v' h', SlAt h' 38 7 enc v' (xs ++ ys) → Grew h h' v v' → k v' h') :
    arun Try.prog (Builtin.append_ #[35, 35] R #[v, w]) h k := arun_cat und_35 und_35 size_38 bytes_38 zero_38 (by decide) rfl S R0 hbd K
theorem snoc_api_Route {α : Type} {R E3 : Nat} {enc : α → List Value} {v : Value} {xs : List α} {y : α} {h : Hp} {k : Nat → Value → Hp → Prop} (S : SlAt h 38 7 enc v xs) (hl : (enc y).length = 7) (ho : ∀ u ∈ enc y, oneCell u = true) (hbd : (2 * (xs.length + 1) + 770) * 56 ≤ 2 ^ 48) (K : ∀ b v' h', SlAt h' 38 7 enc v' (xs ++ [y]) → Grew h h' v v' → h b = none → k b v' h') :
    ∀ b, h b = none → arun Try.prog (Builtin.append_ #[35, 35] R #[v, .slice (some ⟨b, 0, none⟩) 1 1]) (h.upd b (.cells (enc y).toArray E3 (0, 0))) (k b) := arun_snoc und_35 und_35 size_38 bytes_38 zero_38 (by decide) rfl S hl ho hbd K
theorem und_40 : Try.prog.underlying 40 = some (.slice 31) := by kernel_rfl
theorem size_31 : (Try.prog.info? 31).map (·.size) = some 9 := by kernel_rfl
theorem bytes_31 : (Try.prog.info? 31).map (·.bytes) = some 72 := by kernel_rfl
theorem zero_31 : (Try.prog.info? 31).bind (·.zero) = some (Value.agg #[Value.int .i64 0, Value.int .u16 0, Value.int .i64 0, Value.int .i64 0, Value.int .u32 0, Value.int .i64 0, Value.int .u64 0, Value.int .u16 0, Value.int .i64 0]) := by kernel_rfl
theorem push_api_BabelTlv {α : Type} {R b2 o2 c2 : Nat} {enc : α → List Value} {v : Value} {xs : List α} {y : α} {h : Hp} {k : Value → Hp → Prop} (S : SlAt h 31 9 enc v xs) (hy : ldN h b2 o2 9 = some (enc y)) (hyl : (enc y).length = 9) (hone : ∀ u ∈ enc y, oneCell u = true) (hbd : (2 * xs.length + 770) * 72 ≤ 2 ^ 48) (K : ∀ b c cap, (some b = blkOf v ∨ h b = none) → xs.length + 1 ≤ cap → cap * 9 ≤ c.size → Enc c 0 9 enc (xs ++ [y]) → k (.slice (some ⟨b, 0, none⟩) (xs.length + 1) cap) (h.upd b (.cells c 31 (0, 0)))) :
    arun Try.prog (Builtin.append_ #[40, 40] R #[v, .slice (some ⟨b2, o2, none⟩) 1 c2]) h k := arun_push und_40 und_40 size_31 bytes_31 zero_31 (by decide) rfl S hy hyl hone hbd K
theorem cat_api_BabelTlv {α : Type} {R : Nat} {enc : α → List Value} {v w : Value} {xs ys : List α} {h : Hp} {k : Value → Hp → Prop} (S : SlAt h 31 9 enc v xs) (R0 : Src h 9 enc w ys) (hbd : (2 * (xs.length + ys.length) + 770) * 72 ≤ 2 ^ 48) (K : ∀ v' h', SlAt h' 31 9 enc v' (xs ++ ys) → Grew h h' v v' → k v' h') :
    arun Try.prog (Builtin.append_ #[40, 40] R #[v, w]) h k := arun_cat und_40 und_40 size_31 bytes_31 zero_31 (by decide) rfl S R0 hbd K
theorem snoc_api_BabelTlv {α : Type} {R E3 : Nat} {enc : α → List Value} {v : Value} {xs : List α} {y : α} {h : Hp} {k : Nat → Value → Hp → Prop} (S : SlAt h 31 9 enc v xs) (hl : (enc y).length = 9) (ho : ∀ u ∈ enc y, oneCell u = true) (hbd : (2 * (xs.length + 1) + 770) * 72 ≤ 2 ^ 48) (K : ∀ b v' h', SlAt h' 31 9 enc v' (xs ++ [y]) → Grew h h' v v' → h b = none → k b v' h') :
    ∀ b, h b = none → arun Try.prog (Builtin.append_ #[40, 40] R #[v, .slice (some ⟨b, 0, none⟩) 1 1]) (h.upd b (.cells (enc y).toArray E3 (0, 0))) (k b) := arun_snoc und_40 und_40 size_31 bytes_31 zero_31 (by decide) rfl S hl ho hbd K
theorem und_63 : Try.prog.underlying 63 = some (.slice 112) := by kernel_rfl
theorem size_112 : (Try.prog.info? 112).map (·.size) = some 4 := by kernel_rfl
theorem bytes_112 : (Try.prog.info? 112).map (·.bytes) = some 32 := by kernel_rfl
theorem zero_112 : (Try.prog.info? 112).bind (·.zero) = some (Value.agg #[Value.int .u32 0, Value.int .i64 0, Value.int .i64 0, Value.int .u16 0]) := by kernel_rfl
theorem push_octroiref17_Own {α : Type} {R b2 o2 c2 : Nat} {enc : α → List Value} {v : Value} {xs : List α} {y : α} {h : Hp} {k : Value → Hp → Prop} (S : SlAt h 112 4 enc v xs) (hy : ldN h b2 o2 4 = some (enc y)) (hyl : (enc y).length = 4) (hone : ∀ u ∈ enc y, oneCell u = true) (hbd : (2 * xs.length + 770) * 32 ≤ 2 ^ 48) (K : ∀ b c cap, (some b = blkOf v ∨ h b = none) → xs.length + 1 ≤ cap → cap * 4 ≤ c.size → Enc c 0 4 enc (xs ++ [y]) → k (.slice (some ⟨b, 0, none⟩) (xs.length + 1) cap) (h.upd b (.cells c 112 (0, 0)))) :
    arun Try.prog (Builtin.append_ #[63, 63] R #[v, .slice (some ⟨b2, o2, none⟩) 1 c2]) h k := arun_push und_63 und_63 size_112 bytes_112 zero_112 (by decide) rfl S hy hyl hone hbd K
theorem cat_octroiref17_Own {α : Type} {R : Nat} {enc : α → List Value} {v w : Value} {xs ys : List α} {h : Hp} {k : Value → Hp → Prop} (S : SlAt h 112 4 enc v xs) (R0 : Src h 4 enc w ys) (hbd : (2 * (xs.length + ys.length) + 770) * 32 ≤ 2 ^ 48) (K : ∀ v' h', SlAt h' 112 4 enc v' (xs ++ ys) → Grew h h' v v' → k v' h') :
    arun Try.prog (Builtin.append_ #[63, 63] R #[v, w]) h k := arun_cat und_63 und_63 size_112 bytes_112 zero_112 (by decide) rfl S R0 hbd K
theorem snoc_octroiref17_Own {α : Type} {R E3 : Nat} {enc : α → List Value} {v : Value} {xs : List α} {y : α} {h : Hp} {k : Nat → Value → Hp → Prop} (S : SlAt h 112 4 enc v xs) (hl : (enc y).length = 4) (ho : ∀ u ∈ enc y, oneCell u = true) (hbd : (2 * (xs.length + 1) + 770) * 32 ≤ 2 ^ 48) (K : ∀ b v' h', SlAt h' 112 4 enc v' (xs ++ [y]) → Grew h h' v v' → h b = none → k b v' h') :
    ∀ b, h b = none → arun Try.prog (Builtin.append_ #[63, 63] R #[v, .slice (some ⟨b, 0, none⟩) 1 1]) (h.upd b (.cells (enc y).toArray E3 (0, 0))) (k b) := arun_snoc und_63 und_63 size_112 bytes_112 zero_112 (by decide) rfl S hl ho hbd K
theorem und_64 : Try.prog.underlying 64 = some (.slice 116) := by kernel_rfl
theorem size_116 : (Try.prog.info? 116).map (·.size) = some 13 := by kernel_rfl
theorem bytes_116 : (Try.prog.info? 116).map (·.bytes) = some 104 := by kernel_rfl
theorem zero_116 : (Try.prog.info? 116).bind (·.zero) = some (Value.agg #[Value.int .u32 0, Value.int .i64 0, Value.int .i64 0, Value.int .i64 0, Value.int .i64 0, Value.int .u16 0, Value.int .i64 0, Value.int .i64 0, Value.int .u32 0, Value.int .i64 0, Value.int .u64 0, Value.int .u16 0, Value.int .i64 0]) := by kernel_rfl
theorem push_octroiref17_Told {α : Type} {R b2 o2 c2 : Nat} {enc : α → List Value} {v : Value} {xs : List α} {y : α} {h : Hp} {k : Value → Hp → Prop} (S : SlAt h 116 13 enc v xs) (hy : ldN h b2 o2 13 = some (enc y)) (hyl : (enc y).length = 13) (hone : ∀ u ∈ enc y, oneCell u = true) (hbd : (2 * xs.length + 770) * 104 ≤ 2 ^ 48) (K : ∀ b c cap, (some b = blkOf v ∨ h b = none) → xs.length + 1 ≤ cap → cap * 13 ≤ c.size → Enc c 0 13 enc (xs ++ [y]) → k (.slice (some ⟨b, 0, none⟩) (xs.length + 1) cap) (h.upd b (.cells c 116 (0, 0)))) :
    arun Try.prog (Builtin.append_ #[64, 64] R #[v, .slice (some ⟨b2, o2, none⟩) 1 c2]) h k := arun_push und_64 und_64 size_116 bytes_116 zero_116 (by decide) rfl S hy hyl hone hbd K
theorem cat_octroiref17_Told {α : Type} {R : Nat} {enc : α → List Value} {v w : Value} {xs ys : List α} {h : Hp} {k : Value → Hp → Prop} (S : SlAt h 116 13 enc v xs) (R0 : Src h 13 enc w ys) (hbd : (2 * (xs.length + ys.length) + 770) * 104 ≤ 2 ^ 48) (K : ∀ v' h', SlAt h' 116 13 enc v' (xs ++ ys) → Grew h h' v v' → k v' h') :
    arun Try.prog (Builtin.append_ #[64, 64] R #[v, w]) h k := arun_cat und_64 und_64 size_116 bytes_116 zero_116 (by decide) rfl S R0 hbd K
theorem snoc_octroiref17_Told {α : Type} {R E3 : Nat} {enc : α → List Value} {v : Value} {xs : List α} {y : α} {h : Hp} {k : Nat → Value → Hp → Prop} (S : SlAt h 116 13 enc v xs) (hl : (enc y).length = 13) (ho : ∀ u ∈ enc y, oneCell u = true) (hbd : (2 * (xs.length + 1) + 770) * 104 ≤ 2 ^ 48) (K : ∀ b v' h', SlAt h' 116 13 enc v' (xs ++ [y]) → Grew h h' v v' → h b = none → k b v' h') :
    ∀ b, h b = none → arun Try.prog (Builtin.append_ #[64, 64] R #[v, .slice (some ⟨b, 0, none⟩) 1 1]) (h.upd b (.cells (enc y).toArray E3 (0, 0))) (k b) := arun_snoc und_64 und_64 size_116 bytes_116 zero_116 (by decide) rfl S hl ho hbd K
theorem und_65 : Try.prog.underlying 65 = some (.slice 99) := by kernel_rfl
theorem size_99 : (Try.prog.info? 99).map (·.size) = some 5 := by kernel_rfl
theorem bytes_99 : (Try.prog.info? 99).map (·.bytes) = some 40 := by kernel_rfl
theorem zero_99 : (Try.prog.info? 99).bind (·.zero) = some (Value.agg #[Value.int .u32 0, Value.int .i64 0, Value.int .u64 0, Value.int .u16 0, Value.int .i64 0]) := by kernel_rfl
theorem push_octroiref17_Least {α : Type} {R b2 o2 c2 : Nat} {enc : α → List Value} {v : Value} {xs : List α} {y : α} {h : Hp} {k : Value → Hp → Prop} (S : SlAt h 99 5 enc v xs) (hy : ldN h b2 o2 5 = some (enc y)) (hyl : (enc y).length = 5) (hone : ∀ u ∈ enc y, oneCell u = true) (hbd : (2 * xs.length + 770) * 40 ≤ 2 ^ 48) (K : ∀ b c cap, (some b = blkOf v ∨ h b = none) → xs.length + 1 ≤ cap → cap * 5 ≤ c.size → Enc c 0 5 enc (xs ++ [y]) → k (.slice (some ⟨b, 0, none⟩) (xs.length + 1) cap) (h.upd b (.cells c 99 (0, 0)))) :
    arun Try.prog (Builtin.append_ #[65, 65] R #[v, .slice (some ⟨b2, o2, none⟩) 1 c2]) h k := arun_push und_65 und_65 size_99 bytes_99 zero_99 (by decide) rfl S hy hyl hone hbd K
theorem cat_octroiref17_Least {α : Type} {R : Nat} {enc : α → List Value} {v w : Value} {xs ys : List α} {h : Hp} {k : Value → Hp → Prop} (S : SlAt h 99 5 enc v xs) (R0 : Src h 5 enc w ys) (hbd : (2 * (xs.length + ys.length) + 770) * 40 ≤ 2 ^ 48) (K : ∀ v' h', SlAt h' 99 5 enc v' (xs ++ ys) → Grew h h' v v' → k v' h') :
    arun Try.prog (Builtin.append_ #[65, 65] R #[v, w]) h k := arun_cat und_65 und_65 size_99 bytes_99 zero_99 (by decide) rfl S R0 hbd K
theorem snoc_octroiref17_Least {α : Type} {R E3 : Nat} {enc : α → List Value} {v : Value} {xs : List α} {y : α} {h : Hp} {k : Nat → Value → Hp → Prop} (S : SlAt h 99 5 enc v xs) (hl : (enc y).length = 5) (ho : ∀ u ∈ enc y, oneCell u = true) (hbd : (2 * (xs.length + 1) + 770) * 40 ≤ 2 ^ 48) (K : ∀ b v' h', SlAt h' 99 5 enc v' (xs ++ [y]) → Grew h h' v v' → h b = none → k b v' h') :
    ∀ b, h b = none → arun Try.prog (Builtin.append_ #[65, 65] R #[v, .slice (some ⟨b, 0, none⟩) 1 1]) (h.upd b (.cells (enc y).toArray E3 (0, 0))) (k b) := arun_snoc und_65 und_65 size_99 bytes_99 zero_99 (by decide) rfl S hl ho hbd K
theorem und_88 : Try.prog.underlying 88 = some (.slice 24) := by kernel_rfl
theorem size_24 : (Try.prog.info? 24).map (·.size) = some 2 := by kernel_rfl
theorem bytes_24 : (Try.prog.info? 24).map (·.bytes) = some 16 := by kernel_rfl
theorem zero_24 : (Try.prog.info? 24).bind (·.zero) = some (Value.agg #[Value.int .u32 0, Value.int .i64 0]) := by kernel_rfl
theorem push_api_Prefix {α : Type} {R b2 o2 c2 : Nat} {enc : α → List Value} {v : Value} {xs : List α} {y : α} {h : Hp} {k : Value → Hp → Prop} (S : SlAt h 24 2 enc v xs) (hy : ldN h b2 o2 2 = some (enc y)) (hyl : (enc y).length = 2) (hone : ∀ u ∈ enc y, oneCell u = true) (hbd : (2 * xs.length + 770) * 16 ≤ 2 ^ 48) (K : ∀ b c cap, (some b = blkOf v ∨ h b = none) → xs.length + 1 ≤ cap → cap * 2 ≤ c.size → Enc c 0 2 enc (xs ++ [y]) → k (.slice (some ⟨b, 0, none⟩) (xs.length + 1) cap) (h.upd b (.cells c 24 (0, 0)))) :
    arun Try.prog (Builtin.append_ #[88, 88] R #[v, .slice (some ⟨b2, o2, none⟩) 1 c2]) h k := arun_push und_88 und_88 size_24 bytes_24 zero_24 (by decide) rfl S hy hyl hone hbd K
theorem cat_api_Prefix {α : Type} {R : Nat} {enc : α → List Value} {v w : Value} {xs ys : List α} {h : Hp} {k : Value → Hp → Prop} (S : SlAt h 24 2 enc v xs) (R0 : Src h 2 enc w ys) (hbd : (2 * (xs.length + ys.length) + 770) * 16 ≤ 2 ^ 48) (K : ∀ v' h', SlAt h' 24 2 enc v' (xs ++ ys) → Grew h h' v v' → k v' h') :
    arun Try.prog (Builtin.append_ #[88, 88] R #[v, w]) h k := arun_cat und_88 und_88 size_24 bytes_24 zero_24 (by decide) rfl S R0 hbd K
theorem snoc_api_Prefix {α : Type} {R E3 : Nat} {enc : α → List Value} {v : Value} {xs : List α} {y : α} {h : Hp} {k : Nat → Value → Hp → Prop} (S : SlAt h 24 2 enc v xs) (hl : (enc y).length = 2) (ho : ∀ u ∈ enc y, oneCell u = true) (hbd : (2 * (xs.length + 1) + 770) * 16 ≤ 2 ^ 48) (K : ∀ b v' h', SlAt h' 24 2 enc v' (xs ++ [y]) → Grew h h' v v' → h b = none → k b v' h') :
    ∀ b, h b = none → arun Try.prog (Builtin.append_ #[88, 88] R #[v, .slice (some ⟨b, 0, none⟩) 1 1]) (h.upd b (.cells (enc y).toArray E3 (0, 0))) (k b) := arun_snoc und_88 und_88 size_24 bytes_24 zero_24 (by decide) rfl S hl ho hbd K
@[simp] theorem bd_112_0_1_2 {h : Hp} {x0_0 : Int} {x0_1 : Int} {x1 : Int} {x2 : Int} : rrun Try.prog (Instr.build 112 #[(0, Value.agg #[Value.int .u32 x0_0, Value.int .i64 x0_1]), (1, Value.int .i64 x1), (2, Value.int .u16 x2)]) h = some (.agg #[Value.int .u32 x0_0, Value.int .i64 x0_1, Value.int .i64 x1, Value.int .u16 x2]) := by kernel_rfl
@[simp] theorem bd_116_0_1_2_3 {h : Hp} {x0_0 : Int} {x0_1 : Int} {x1 : Int} {x2 : Int} {x3_0 : Int} {x3_1 : Int} {x3_2 : Int} {x3_3 : Int} {x3_4_0 : Int} {x3_4_1 : Int} {x3_5 : Int} {x3_6 : Int} {x3_7 : Int} : rrun Try.prog (Instr.build 116 #[(0, Value.agg #[Value.int .u32 x0_0, Value.int .i64 x0_1]), (1, Value.int .i64 x1), (2, Value.int .i64 x2), (3, Value.agg #[Value.int .i64 x3_0, Value.int .u16 x3_1, Value.int .i64 x3_2, Value.int .i64 x3_3, Value.int .u32 x3_4_0, Value.int .i64 x3_4_1, Value.int .u64 x3_5, Value.int .u16 x3_6, Value.int .i64 x3_7])]) h = some (.agg #[Value.int .u32 x0_0, Value.int .i64 x0_1, Value.int .i64 x1, Value.int .i64 x2, Value.int .i64 x3_0, Value.int .u16 x3_1, Value.int .i64 x3_2, Value.int .i64 x3_3, Value.int .u32 x3_4_0, Value.int .i64 x3_4_1, Value.int .u64 x3_5, Value.int .u16 x3_6, Value.int .i64 x3_7]) := by kernel_rfl
@[simp] theorem bd_31_0_1_3_5 {h : Hp} {x0 : Int} {x1 : Int} {x3 : Int} {x5 : Int} : rrun Try.prog (Instr.build 31 #[(0, Value.int .i64 x0), (1, Value.int .u16 x1), (3, Value.int .i64 x3), (5, Value.int .u64 x5)]) h = some (.agg #[Value.int .i64 x0, Value.int .u16 x1, Value.int .i64 0, Value.int .i64 x3, Value.int .u32 0, Value.int .i64 0, Value.int .u64 x5, Value.int .u16 0, Value.int .i64 0]) := by kernel_rfl
@[simp] theorem bd_31_0_2_3_4_5_6 {h : Hp} {x0 : Int} {x2 : Int} {x3 : Int} {x4_0 : Int} {x4_1 : Int} {x5 : Int} {x6 : Int} : rrun Try.prog (Instr.build 31 #[(0, Value.int .i64 x0), (2, Value.int .i64 x2), (3, Value.int .i64 x3), (4, Value.agg #[Value.int .u32 x4_0, Value.int .i64 x4_1]), (5, Value.int .u64 x5), (6, Value.int .u16 x6)]) h = some (.agg #[Value.int .i64 x0, Value.int .u16 0, Value.int .i64 x2, Value.int .i64 x3, Value.int .u32 x4_0, Value.int .i64 x4_1, Value.int .u64 x5, Value.int .u16 x6, Value.int .i64 0]) := by kernel_rfl
@[simp] theorem bd_31_0_2_4 {h : Hp} {x0 : Int} {x2 : Int} {x4_0 : Int} {x4_1 : Int} : rrun Try.prog (Instr.build 31 #[(0, Value.int .i64 x0), (2, Value.int .i64 x2), (4, Value.agg #[Value.int .u32 x4_0, Value.int .i64 x4_1])]) h = some (.agg #[Value.int .i64 x0, Value.int .u16 0, Value.int .i64 x2, Value.int .i64 0, Value.int .u32 x4_0, Value.int .i64 x4_1, Value.int .u64 0, Value.int .u16 0, Value.int .i64 0]) := by kernel_rfl
@[simp] theorem bd_31_0_4_5_3 {h : Hp} {x0 : Int} {x4_0 : Int} {x4_1 : Int} {x5 : Int} {x3 : Int} : rrun Try.prog (Instr.build 31 #[(0, Value.int .i64 x0), (4, Value.agg #[Value.int .u32 x4_0, Value.int .i64 x4_1]), (5, Value.int .u64 x5), (3, Value.int .i64 x3)]) h = some (.agg #[Value.int .i64 x0, Value.int .u16 0, Value.int .i64 0, Value.int .i64 x3, Value.int .u32 x4_0, Value.int .i64 x4_1, Value.int .u64 x5, Value.int .u16 0, Value.int .i64 0]) := by kernel_rfl
@[simp] theorem bd_31_0_4_5_3_1 {h : Hp} {x0 : Int} {x4_0 : Int} {x4_1 : Int} {x5 : Int} {x3 : Int} {x1 : Int} : rrun Try.prog (Instr.build 31 #[(0, Value.int .i64 x0), (4, Value.agg #[Value.int .u32 x4_0, Value.int .i64 x4_1]), (5, Value.int .u64 x5), (3, Value.int .i64 x3), (1, Value.int .u16 x1)]) h = some (.agg #[Value.int .i64 x0, Value.int .u16 x1, Value.int .i64 0, Value.int .i64 x3, Value.int .u32 x4_0, Value.int .i64 x4_1, Value.int .u64 x5, Value.int .u16 0, Value.int .i64 0]) := by kernel_rfl
@[simp] theorem bd_38_0_1_2_3_4_5 {h : Hp} {x0_0 : Int} {x0_1 : Int} {x1 : Int} {x2 : Int} {x3 : Int} {x4 : Int} {x5 : Int} : rrun Try.prog (Instr.build 38 #[(0, Value.agg #[Value.int .u32 x0_0, Value.int .i64 x0_1]), (1, Value.int .i64 x1), (2, Value.int .i64 x2), (3, Value.int .i64 x3), (4, Value.int .i64 x4), (5, Value.int .u16 x5)]) h = some (.agg #[Value.int .u32 x0_0, Value.int .i64 x0_1, Value.int .i64 x1, Value.int .i64 x2, Value.int .i64 x3, Value.int .i64 x4, Value.int .u16 x5]) := by kernel_rfl
@[simp] theorem bd_67_0_1_2 {h : Hp} {x0 : Int} {x1 : Int} {x2 : Int} : rrun Try.prog (Instr.build 67 #[(0, Value.int .u64 x0), (1, Value.int .i64 x1), (2, Value.int .i64 x2)]) h = some (.agg #[Value.int .u64 x0, Value.int .i64 x1, Value.int .i64 x2, Value.int .u16 0, Value.slice none 0 0, Value.slice none 0 0, Value.slice none 0 0, Value.slice none 0 0]) := by kernel_rfl
@[simp] theorem bd_74_0_1_2_4_5_6_7 {h : Hp} {x0 : Int} {x1 : Int} {x2 : Int} {x4 : Option Nat} {x5 : Option Nat} {x6 : Option Nat} {x7 : Option Nat} : rrun Try.prog (Instr.build 74 #[(0, Value.int .u64 x0), (1, Value.int .i64 x1), (2, Value.int .i64 x2), (4, Value.map x4), (5, Value.map x5), (6, Value.map x6), (7, Value.map x7)]) h = some (.agg #[Value.int .u64 x0, Value.int .i64 x1, Value.int .i64 x2, Value.int .u16 0, Value.map x4, Value.map x5, Value.map x6, Value.map x7]) := by kernel_rfl
@[simp] theorem bd_77_0_1 {h : Hp} {x0_0 : Int} {x0_1 : Int} {x1 : Int} : rrun Try.prog (Instr.build 77 #[(0, Value.agg #[Value.int .u32 x0_0, Value.int .i64 x0_1]), (1, Value.int .i64 x1)]) h = some (.agg #[Value.int .u32 x0_0, Value.int .i64 x0_1, Value.int .i64 x1]) := by kernel_rfl
@[simp] theorem bd_79_0_1 {h : Hp} {x0 : Int} {x1_0 : Int} {x1_1 : Int} {x1_2 : Int} {x1_3 : Int} {x1_4_0 : Int} {x1_4_1 : Int} {x1_5 : Int} {x1_6 : Int} {x1_7 : Int} : rrun Try.prog (Instr.build 79 #[(0, Value.int .i64 x0), (1, Value.agg #[Value.int .i64 x1_0, Value.int .u16 x1_1, Value.int .i64 x1_2, Value.int .i64 x1_3, Value.int .u32 x1_4_0, Value.int .i64 x1_4_1, Value.int .u64 x1_5, Value.int .u16 x1_6, Value.int .i64 x1_7])]) h = some (.agg #[Value.int .i64 x0, Value.int .i64 x1_0, Value.int .u16 x1_1, Value.int .i64 x1_2, Value.int .i64 x1_3, Value.int .u32 x1_4_0, Value.int .i64 x1_4_1, Value.int .u64 x1_5, Value.int .u16 x1_6, Value.int .i64 x1_7]) := by kernel_rfl
@[simp] theorem bd_83_0_1 {h : Hp} {x0_0 : Int} {x0_1 : Int} {x1 : Int} : rrun Try.prog (Instr.build 83 #[(0, Value.agg #[Value.int .u32 x0_0, Value.int .i64 x0_1]), (1, Value.int .u64 x1)]) h = some (.agg #[Value.int .u32 x0_0, Value.int .i64 x0_1, Value.int .u64 x1]) := by kernel_rfl
@[simp] theorem bd_85_0_1 {h : Hp} {x0 : Int} {x1 : Int} : rrun Try.prog (Instr.build 85 #[(0, Value.int .u16 x0), (1, Value.int .i64 x1)]) h = some (.agg #[Value.int .u16 x0, Value.int .i64 x1]) := by kernel_rfl
@[simp] theorem bd_99_0_1_2_3 {h : Hp} {x0_0 : Int} {x0_1 : Int} {x1 : Int} {x2 : Int} {x3 : Int} : rrun Try.prog (Instr.build 99 #[(0, Value.agg #[Value.int .u32 x0_0, Value.int .i64 x0_1]), (1, Value.int .u64 x1), (2, Value.int .u16 x2), (3, Value.int .i64 x3)]) h = some (.agg #[Value.int .u32 x0_0, Value.int .i64 x0_1, Value.int .u64 x1, Value.int .u16 x2, Value.int .i64 x3]) := by kernel_rfl
@[simp] theorem bs_35_1_0 {h : Hp} {x0_0_0 : Int} {x0_0_1 : Int} {x0_1 : Int} {x0_2 : Int} {x0_3 : Int} {x0_4 : Int} {x0_5 : Int} {k : Value → Hp → Prop} : arun Try.prog (Instr.buildSlice 35 1 #[(0, Value.agg #[Value.int .u32 x0_0_0, Value.int .i64 x0_0_1, Value.int .i64 x0_1, Value.int .i64 x0_2, Value.int .i64 x0_3, Value.int .i64 x0_4, Value.int .u16 x0_5])]) h k = nw h (.cells #[Value.int .u32 x0_0_0, Value.int .i64 x0_0_1, Value.int .i64 x0_1, Value.int .i64 x0_2, Value.int .i64 x0_3, Value.int .i64 x0_4, Value.int .u16 x0_5] 38) fun b h => k (.slice (some ⟨b, 0, none⟩) 1 1) h := by kernel_rfl
@[simp] theorem bs_40_1_0 {h : Hp} {x0_0 : Int} {x0_1 : Int} {x0_2 : Int} {x0_3 : Int} {x0_4_0 : Int} {x0_4_1 : Int} {x0_5 : Int} {x0_6 : Int} {x0_7 : Int} {k : Value → Hp → Prop} : arun Try.prog (Instr.buildSlice 40 1 #[(0, Value.agg #[Value.int .i64 x0_0, Value.int .u16 x0_1, Value.int .i64 x0_2, Value.int .i64 x0_3, Value.int .u32 x0_4_0, Value.int .i64 x0_4_1, Value.int .u64 x0_5, Value.int .u16 x0_6, Value.int .i64 x0_7])]) h k = nw h (.cells #[Value.int .i64 x0_0, Value.int .u16 x0_1, Value.int .i64 x0_2, Value.int .i64 x0_3, Value.int .u32 x0_4_0, Value.int .i64 x0_4_1, Value.int .u64 x0_5, Value.int .u16 x0_6, Value.int .i64 x0_7] 31) fun b h => k (.slice (some ⟨b, 0, none⟩) 1 1) h := by kernel_rfl
@[simp] theorem bs_63_1_0 {h : Hp} {x0_0_0 : Int} {x0_0_1 : Int} {x0_1 : Int} {x0_2 : Int} {k : Value → Hp → Prop} : arun Try.prog (Instr.buildSlice 63 1 #[(0, Value.agg #[Value.int .u32 x0_0_0, Value.int .i64 x0_0_1, Value.int .i64 x0_1, Value.int .u16 x0_2])]) h k = nw h (.cells #[Value.int .u32 x0_0_0, Value.int .i64 x0_0_1, Value.int .i64 x0_1, Value.int .u16 x0_2] 112) fun b h => k (.slice (some ⟨b, 0, none⟩) 1 1) h := by kernel_rfl
@[simp] theorem bs_64_1_0 {h : Hp} {x0_0_0 : Int} {x0_0_1 : Int} {x0_1 : Int} {x0_2 : Int} {x0_3_0 : Int} {x0_3_1 : Int} {x0_3_2 : Int} {x0_3_3 : Int} {x0_3_4_0 : Int} {x0_3_4_1 : Int} {x0_3_5 : Int} {x0_3_6 : Int} {x0_3_7 : Int} {k : Value → Hp → Prop} : arun Try.prog (Instr.buildSlice 64 1 #[(0, Value.agg #[Value.int .u32 x0_0_0, Value.int .i64 x0_0_1, Value.int .i64 x0_1, Value.int .i64 x0_2, Value.int .i64 x0_3_0, Value.int .u16 x0_3_1, Value.int .i64 x0_3_2, Value.int .i64 x0_3_3, Value.int .u32 x0_3_4_0, Value.int .i64 x0_3_4_1, Value.int .u64 x0_3_5, Value.int .u16 x0_3_6, Value.int .i64 x0_3_7])]) h k = nw h (.cells #[Value.int .u32 x0_0_0, Value.int .i64 x0_0_1, Value.int .i64 x0_1, Value.int .i64 x0_2, Value.int .i64 x0_3_0, Value.int .u16 x0_3_1, Value.int .i64 x0_3_2, Value.int .i64 x0_3_3, Value.int .u32 x0_3_4_0, Value.int .i64 x0_3_4_1, Value.int .u64 x0_3_5, Value.int .u16 x0_3_6, Value.int .i64 x0_3_7] 116) fun b h => k (.slice (some ⟨b, 0, none⟩) 1 1) h := by kernel_rfl
@[simp] theorem bs_65_1_0 {h : Hp} {x0_0_0 : Int} {x0_0_1 : Int} {x0_1 : Int} {x0_2 : Int} {x0_3 : Int} {k : Value → Hp → Prop} : arun Try.prog (Instr.buildSlice 65 1 #[(0, Value.agg #[Value.int .u32 x0_0_0, Value.int .i64 x0_0_1, Value.int .u64 x0_1, Value.int .u16 x0_2, Value.int .i64 x0_3])]) h k = nw h (.cells #[Value.int .u32 x0_0_0, Value.int .i64 x0_0_1, Value.int .u64 x0_1, Value.int .u16 x0_2, Value.int .i64 x0_3] 99) fun b h => k (.slice (some ⟨b, 0, none⟩) 1 1) h := by kernel_rfl
@[simp] theorem bs_88_1_0 {h : Hp} {x0_0 : Int} {x0_1 : Int} {k : Value → Hp → Prop} : arun Try.prog (Instr.buildSlice 88 1 #[(0, Value.agg #[Value.int .u32 x0_0, Value.int .i64 x0_1])]) h k = nw h (.cells #[Value.int .u32 x0_0, Value.int .i64 x0_1] 24) fun b h => k (.slice (some ⟨b, 0, none⟩) 1 1) h := by kernel_rfl
@[simp] theorem cv_120_22 {h : Hp} {x : Int} : rrun Try.prog (convert 120 22 (.int .u64 x)) h = some (.int .u32 (IntKind.u32.wrap x)) := by kernel_rfl
@[simp] theorem cv_29_3 {h : Hp} {x : Int} : rrun Try.prog (convert 29 3 (.int .u16 x)) h = some (.int .i64 (IntKind.i64.wrap x)) := by kernel_rfl
@[simp] theorem cv_3_120 {h : Hp} {x : Int} : rrun Try.prog (convert 3 120 (.int .i64 x)) h = some (.int .u64 (IntKind.u64.wrap x)) := by kernel_rfl
theorem eql_24_raw {h : Hp} {x y : Operand} {p_0 : Int} {p_1 : Int} {q_0 : Int} {q_1 : Int} : rrun Try.prog (bop .eql 24 x y (Value.agg #[Value.int .u32 p_0, Value.int .i64 p_1]) (Value.agg #[Value.int .u32 q_0, Value.int .i64 q_1])) h = some (.bool ((decide (p_0 = q_0) && (decide (p_1 = q_1) && true)))) :=
  rr_eql_struct Try.underlying24 (by kernel_rfl) (by kernel_rfl) (rr_eqf_cons (a := Value.int .u32 p_0) (b := Value.int .u32 q_0) (by rfl) (by kernel_rfl) (by kernel_rfl) (by kernel_rfl) (rr_eqf_cons (a := Value.int .i64 p_1) (b := Value.int .i64 q_1) (by rfl) (by kernel_rfl) (by kernel_rfl) (by kernel_rfl) rr_eqf_nil))
@[simp] theorem eql_24 {h : Hp} {x y : Operand} {p_0 : Int} {p_1 : Int} {q_0 : Int} {q_1 : Int} : rrun Try.prog (bop .eql 24 x y (Value.agg #[Value.int .u32 p_0, Value.int .i64 p_1]) (Value.agg #[Value.int .u32 q_0, Value.int .i64 q_1])) h = some (.bool ((decide (p_0 = q_0) && (decide (p_1 = q_1))))) := by
  rw [eql_24_raw]; simp only [Bool.and_true]
@[simp] theorem eql_26_sn {h : Hp} {x y : Operand} {a : Addr} : rrun Try.prog (bop .eql 26 x y (.pointer (some a)) (.pointer none)) h = some (.bool false) := by kernel_rfl
@[simp] theorem eql_26_nn {h : Hp} {x y : Operand} {p : Option Addr} : rrun Try.prog (bop .eql 26 x y (.pointer none) (.pointer p)) h = some (.bool (p.isNone)) := by kernel_rfl
@[simp] theorem eql_4 {h : Hp} {x y : Operand} {a b : Bool} : rrun Try.prog (bop .eql 4 x y (.bool a) (.bool b)) h = some (.bool (decide (a = b))) := by kernel_rfl
theorem neq_24_raw {h : Hp} {x y : Operand} {p_0 : Int} {p_1 : Int} {q_0 : Int} {q_1 : Int} : rrun Try.prog (bop .neq 24 x y (Value.agg #[Value.int .u32 p_0, Value.int .i64 p_1]) (Value.agg #[Value.int .u32 q_0, Value.int .i64 q_1])) h = some (.bool (!(decide (p_0 = q_0) && (decide (p_1 = q_1) && true)))) :=
  rr_neq_struct Try.underlying24 (by kernel_rfl) (by kernel_rfl) (rr_eqf_cons (a := Value.int .u32 p_0) (b := Value.int .u32 q_0) (by rfl) (by kernel_rfl) (by kernel_rfl) (by kernel_rfl) (rr_eqf_cons (a := Value.int .i64 p_1) (b := Value.int .i64 q_1) (by rfl) (by kernel_rfl) (by kernel_rfl) (by kernel_rfl) rr_eqf_nil))
@[simp] theorem neq_24 {h : Hp} {x y : Operand} {p_0 : Int} {p_1 : Int} {q_0 : Int} {q_1 : Int} : rrun Try.prog (bop .neq 24 x y (Value.agg #[Value.int .u32 p_0, Value.int .i64 p_1]) (Value.agg #[Value.int .u32 q_0, Value.int .i64 q_1])) h = some (.bool (!(decide (p_0 = q_0) && (decide (p_1 = q_1))))) := by
  rw [neq_24_raw]; simp only [Bool.and_true]
@[simp] theorem neq_26_sn {h : Hp} {x y : Operand} {a : Addr} : rrun Try.prog (bop .neq 26 x y (.pointer (some a)) (.pointer none)) h = some (.bool true) := by kernel_rfl
@[simp] theorem neq_26_nn {h : Hp} {x y : Operand} {p : Option Addr} : rrun Try.prog (bop .neq 26 x y (.pointer none) (.pointer p)) h = some (.bool (!p.isNone)) := by kernel_rfl
theorem neq_31_raw {h : Hp} {x y : Operand} {p_0 : Int} {p_1 : Int} {p_2 : Int} {p_3 : Int} {p_4_0 : Int} {p_4_1 : Int} {p_5 : Int} {p_6 : Int} {p_7 : Int} {q_0 : Int} {q_1 : Int} {q_2 : Int} {q_3 : Int} {q_4_0 : Int} {q_4_1 : Int} {q_5 : Int} {q_6 : Int} {q_7 : Int} : rrun Try.prog (bop .neq 31 x y (Value.agg #[Value.int .i64 p_0, Value.int .u16 p_1, Value.int .i64 p_2, Value.int .i64 p_3, Value.int .u32 p_4_0, Value.int .i64 p_4_1, Value.int .u64 p_5, Value.int .u16 p_6, Value.int .i64 p_7]) (Value.agg #[Value.int .i64 q_0, Value.int .u16 q_1, Value.int .i64 q_2, Value.int .i64 q_3, Value.int .u32 q_4_0, Value.int .i64 q_4_1, Value.int .u64 q_5, Value.int .u16 q_6, Value.int .i64 q_7])) h = some (.bool (!(decide (p_0 = q_0) && (decide (p_1 = q_1) && (decide (p_2 = q_2) && (decide (p_3 = q_3) && ((decide (p_4_0 = q_4_0) && (decide (p_4_1 = q_4_1) && true)) && (decide (p_5 = q_5) && (decide (p_6 = q_6) && (decide (p_7 = q_7) && true)))))))))) :=
  rr_neq_struct Try.underlying31 (by kernel_rfl) (by kernel_rfl) (rr_eqf_cons (a := Value.int .i64 p_0) (b := Value.int .i64 q_0) (by rfl) (by kernel_rfl) (by kernel_rfl) (by kernel_rfl) (rr_eqf_cons (a := Value.int .u16 p_1) (b := Value.int .u16 q_1) (by rfl) (by kernel_rfl) (by kernel_rfl) (by kernel_rfl) (rr_eqf_cons (a := Value.int .i64 p_2) (b := Value.int .i64 q_2) (by rfl) (by kernel_rfl) (by kernel_rfl) (by kernel_rfl) (rr_eqf_cons (a := Value.int .i64 p_3) (b := Value.int .i64 q_3) (by rfl) (by kernel_rfl) (by kernel_rfl) (by kernel_rfl) (rr_eqf_cons (a := Value.agg #[Value.int .u32 p_4_0, Value.int .i64 p_4_1]) (b := Value.agg #[Value.int .u32 q_4_0, Value.int .i64 q_4_1]) (by rfl) (by kernel_rfl) (by kernel_rfl) ((rr_equalIn_struct Try.underlying24 (by kernel_rfl)).trans (rr_eqf_cons (a := Value.int .u32 p_4_0) (b := Value.int .u32 q_4_0) (by rfl) (by kernel_rfl) (by kernel_rfl) (by kernel_rfl) (rr_eqf_cons (a := Value.int .i64 p_4_1) (b := Value.int .i64 q_4_1) (by rfl) (by kernel_rfl) (by kernel_rfl) (by kernel_rfl) rr_eqf_nil))) (rr_eqf_cons (a := Value.int .u64 p_5) (b := Value.int .u64 q_5) (by rfl) (by kernel_rfl) (by kernel_rfl) (by kernel_rfl) (rr_eqf_cons (a := Value.int .u16 p_6) (b := Value.int .u16 q_6) (by rfl) (by kernel_rfl) (by kernel_rfl) (by kernel_rfl) (rr_eqf_cons (a := Value.int .i64 p_7) (b := Value.int .i64 q_7) (by rfl) (by kernel_rfl) (by kernel_rfl) (by kernel_rfl) rr_eqf_nil))))))))
@[simp] theorem neq_31 {h : Hp} {x y : Operand} {p_0 : Int} {p_1 : Int} {p_2 : Int} {p_3 : Int} {p_4_0 : Int} {p_4_1 : Int} {p_5 : Int} {p_6 : Int} {p_7 : Int} {q_0 : Int} {q_1 : Int} {q_2 : Int} {q_3 : Int} {q_4_0 : Int} {q_4_1 : Int} {q_5 : Int} {q_6 : Int} {q_7 : Int} : rrun Try.prog (bop .neq 31 x y (Value.agg #[Value.int .i64 p_0, Value.int .u16 p_1, Value.int .i64 p_2, Value.int .i64 p_3, Value.int .u32 p_4_0, Value.int .i64 p_4_1, Value.int .u64 p_5, Value.int .u16 p_6, Value.int .i64 p_7]) (Value.agg #[Value.int .i64 q_0, Value.int .u16 q_1, Value.int .i64 q_2, Value.int .i64 q_3, Value.int .u32 q_4_0, Value.int .i64 q_4_1, Value.int .u64 q_5, Value.int .u16 q_6, Value.int .i64 q_7])) h = some (.bool (!(decide (p_0 = q_0) && (decide (p_1 = q_1) && (decide (p_2 = q_2) && (decide (p_3 = q_3) && ((decide (p_4_0 = q_4_0) && (decide (p_4_1 = q_4_1))) && (decide (p_5 = q_5) && (decide (p_6 = q_6) && (decide (p_7 = q_7))))))))))) := by
  rw [neq_31_raw]; simp only [Bool.and_true]
theorem neq_38_raw {h : Hp} {x y : Operand} {p_0_0 : Int} {p_0_1 : Int} {p_1 : Int} {p_2 : Int} {p_3 : Int} {p_4 : Int} {p_5 : Int} {q_0_0 : Int} {q_0_1 : Int} {q_1 : Int} {q_2 : Int} {q_3 : Int} {q_4 : Int} {q_5 : Int} : rrun Try.prog (bop .neq 38 x y (Value.agg #[Value.int .u32 p_0_0, Value.int .i64 p_0_1, Value.int .i64 p_1, Value.int .i64 p_2, Value.int .i64 p_3, Value.int .i64 p_4, Value.int .u16 p_5]) (Value.agg #[Value.int .u32 q_0_0, Value.int .i64 q_0_1, Value.int .i64 q_1, Value.int .i64 q_2, Value.int .i64 q_3, Value.int .i64 q_4, Value.int .u16 q_5])) h = some (.bool (!((decide (p_0_0 = q_0_0) && (decide (p_0_1 = q_0_1) && true)) && (decide (p_1 = q_1) && (decide (p_2 = q_2) && (decide (p_3 = q_3) && (decide (p_4 = q_4) && (decide (p_5 = q_5) && true)))))))) :=
  rr_neq_struct Try.underlying38 (by kernel_rfl) (by kernel_rfl) (rr_eqf_cons (a := Value.agg #[Value.int .u32 p_0_0, Value.int .i64 p_0_1]) (b := Value.agg #[Value.int .u32 q_0_0, Value.int .i64 q_0_1]) (by rfl) (by kernel_rfl) (by kernel_rfl) ((rr_equalIn_struct Try.underlying24 (by kernel_rfl)).trans (rr_eqf_cons (a := Value.int .u32 p_0_0) (b := Value.int .u32 q_0_0) (by rfl) (by kernel_rfl) (by kernel_rfl) (by kernel_rfl) (rr_eqf_cons (a := Value.int .i64 p_0_1) (b := Value.int .i64 q_0_1) (by rfl) (by kernel_rfl) (by kernel_rfl) (by kernel_rfl) rr_eqf_nil))) (rr_eqf_cons (a := Value.int .i64 p_1) (b := Value.int .i64 q_1) (by rfl) (by kernel_rfl) (by kernel_rfl) (by kernel_rfl) (rr_eqf_cons (a := Value.int .i64 p_2) (b := Value.int .i64 q_2) (by rfl) (by kernel_rfl) (by kernel_rfl) (by kernel_rfl) (rr_eqf_cons (a := Value.int .i64 p_3) (b := Value.int .i64 q_3) (by rfl) (by kernel_rfl) (by kernel_rfl) (by kernel_rfl) (rr_eqf_cons (a := Value.int .i64 p_4) (b := Value.int .i64 q_4) (by rfl) (by kernel_rfl) (by kernel_rfl) (by kernel_rfl) (rr_eqf_cons (a := Value.int .u16 p_5) (b := Value.int .u16 q_5) (by rfl) (by kernel_rfl) (by kernel_rfl) (by kernel_rfl) rr_eqf_nil))))))
@[simp] theorem neq_38 {h : Hp} {x y : Operand} {p_0_0 : Int} {p_0_1 : Int} {p_1 : Int} {p_2 : Int} {p_3 : Int} {p_4 : Int} {p_5 : Int} {q_0_0 : Int} {q_0_1 : Int} {q_1 : Int} {q_2 : Int} {q_3 : Int} {q_4 : Int} {q_5 : Int} : rrun Try.prog (bop .neq 38 x y (Value.agg #[Value.int .u32 p_0_0, Value.int .i64 p_0_1, Value.int .i64 p_1, Value.int .i64 p_2, Value.int .i64 p_3, Value.int .i64 p_4, Value.int .u16 p_5]) (Value.agg #[Value.int .u32 q_0_0, Value.int .i64 q_0_1, Value.int .i64 q_1, Value.int .i64 q_2, Value.int .i64 q_3, Value.int .i64 q_4, Value.int .u16 q_5])) h = some (.bool (!((decide (p_0_0 = q_0_0) && (decide (p_0_1 = q_0_1))) && (decide (p_1 = q_1) && (decide (p_2 = q_2) && (decide (p_3 = q_3) && (decide (p_4 = q_4) && (decide (p_5 = q_5))))))))) := by
  rw [neq_38_raw]; simp only [Bool.and_true]
@[simp] theorem neq_4 {h : Hp} {x y : Operand} {a b : Bool} : rrun Try.prog (bop .neq 4 x y (.bool a) (.bool b)) h = some (.bool (!decide (a = b))) := by kernel_rfl
@[simp] theorem fa_112_0 {h : Hp} {b o : Nat} : rrun Try.prog (Instr.fieldAt 112 (.pointer (some ⟨b, o, none⟩)) 0) h = some (.pointer (some ⟨b, o, none⟩)) := by kernel_rfl
@[simp] theorem fa_112_1 {h : Hp} {b o : Nat} : rrun Try.prog (Instr.fieldAt 112 (.pointer (some ⟨b, o, none⟩)) 1) h = some (.pointer (some ⟨b, o + 2, none⟩)) := by kernel_rfl
@[simp] theorem fa_112_2 {h : Hp} {b o : Nat} : rrun Try.prog (Instr.fieldAt 112 (.pointer (some ⟨b, o, none⟩)) 2) h = some (.pointer (some ⟨b, o + 3, none⟩)) := by kernel_rfl
@[simp] theorem fa_116_0 {h : Hp} {b o : Nat} : rrun Try.prog (Instr.fieldAt 116 (.pointer (some ⟨b, o, none⟩)) 0) h = some (.pointer (some ⟨b, o, none⟩)) := by kernel_rfl
@[simp] theorem fa_116_1 {h : Hp} {b o : Nat} : rrun Try.prog (Instr.fieldAt 116 (.pointer (some ⟨b, o, none⟩)) 1) h = some (.pointer (some ⟨b, o + 2, none⟩)) := by kernel_rfl
@[simp] theorem fa_116_2 {h : Hp} {b o : Nat} : rrun Try.prog (Instr.fieldAt 116 (.pointer (some ⟨b, o, none⟩)) 2) h = some (.pointer (some ⟨b, o + 3, none⟩)) := by kernel_rfl
@[simp] theorem fa_116_3 {h : Hp} {b o : Nat} : rrun Try.prog (Instr.fieldAt 116 (.pointer (some ⟨b, o, none⟩)) 3) h = some (.pointer (some ⟨b, o + 4, none⟩)) := by kernel_rfl
@[simp] theorem fa_24_0 {h : Hp} {b o : Nat} : rrun Try.prog (Instr.fieldAt 24 (.pointer (some ⟨b, o, none⟩)) 0) h = some (.pointer (some ⟨b, o, none⟩)) := by kernel_rfl
@[simp] theorem fa_24_1 {h : Hp} {b o : Nat} : rrun Try.prog (Instr.fieldAt 24 (.pointer (some ⟨b, o, none⟩)) 1) h = some (.pointer (some ⟨b, o + 1, none⟩)) := by kernel_rfl
@[simp] theorem fa_31_0 {h : Hp} {b o : Nat} : rrun Try.prog (Instr.fieldAt 31 (.pointer (some ⟨b, o, none⟩)) 0) h = some (.pointer (some ⟨b, o, none⟩)) := by kernel_rfl
@[simp] theorem fa_31_1 {h : Hp} {b o : Nat} : rrun Try.prog (Instr.fieldAt 31 (.pointer (some ⟨b, o, none⟩)) 1) h = some (.pointer (some ⟨b, o + 1, none⟩)) := by kernel_rfl
@[simp] theorem fa_31_2 {h : Hp} {b o : Nat} : rrun Try.prog (Instr.fieldAt 31 (.pointer (some ⟨b, o, none⟩)) 2) h = some (.pointer (some ⟨b, o + 2, none⟩)) := by kernel_rfl
@[simp] theorem fa_31_3 {h : Hp} {b o : Nat} : rrun Try.prog (Instr.fieldAt 31 (.pointer (some ⟨b, o, none⟩)) 3) h = some (.pointer (some ⟨b, o + 3, none⟩)) := by kernel_rfl
@[simp] theorem fa_31_4 {h : Hp} {b o : Nat} : rrun Try.prog (Instr.fieldAt 31 (.pointer (some ⟨b, o, none⟩)) 4) h = some (.pointer (some ⟨b, o + 4, none⟩)) := by kernel_rfl
@[simp] theorem fa_31_5 {h : Hp} {b o : Nat} : rrun Try.prog (Instr.fieldAt 31 (.pointer (some ⟨b, o, none⟩)) 5) h = some (.pointer (some ⟨b, o + 6, none⟩)) := by kernel_rfl
@[simp] theorem fa_31_6 {h : Hp} {b o : Nat} : rrun Try.prog (Instr.fieldAt 31 (.pointer (some ⟨b, o, none⟩)) 6) h = some (.pointer (some ⟨b, o + 7, none⟩)) := by kernel_rfl
@[simp] theorem fa_31_7 {h : Hp} {b o : Nat} : rrun Try.prog (Instr.fieldAt 31 (.pointer (some ⟨b, o, none⟩)) 7) h = some (.pointer (some ⟨b, o + 8, none⟩)) := by kernel_rfl
@[simp] theorem fa_38_0 {h : Hp} {b o : Nat} : rrun Try.prog (Instr.fieldAt 38 (.pointer (some ⟨b, o, none⟩)) 0) h = some (.pointer (some ⟨b, o, none⟩)) := by kernel_rfl
@[simp] theorem fa_38_3 {h : Hp} {b o : Nat} : rrun Try.prog (Instr.fieldAt 38 (.pointer (some ⟨b, o, none⟩)) 3) h = some (.pointer (some ⟨b, o + 4, none⟩)) := by kernel_rfl
@[simp] theorem fa_38_4 {h : Hp} {b o : Nat} : rrun Try.prog (Instr.fieldAt 38 (.pointer (some ⟨b, o, none⟩)) 4) h = some (.pointer (some ⟨b, o + 5, none⟩)) := by kernel_rfl
@[simp] theorem fa_38_5 {h : Hp} {b o : Nat} : rrun Try.prog (Instr.fieldAt 38 (.pointer (some ⟨b, o, none⟩)) 5) h = some (.pointer (some ⟨b, o + 6, none⟩)) := by kernel_rfl
@[simp] theorem fa_47_0 {h : Hp} {b o : Nat} : rrun Try.prog (Instr.fieldAt 47 (.pointer (some ⟨b, o, none⟩)) 0) h = some (.pointer (some ⟨b, o, none⟩)) := by kernel_rfl
@[simp] theorem fa_47_1 {h : Hp} {b o : Nat} : rrun Try.prog (Instr.fieldAt 47 (.pointer (some ⟨b, o, none⟩)) 1) h = some (.pointer (some ⟨b, o + 1, none⟩)) := by kernel_rfl
@[simp] theorem fa_47_2 {h : Hp} {b o : Nat} : rrun Try.prog (Instr.fieldAt 47 (.pointer (some ⟨b, o, none⟩)) 2) h = some (.pointer (some ⟨b, o + 2, none⟩)) := by kernel_rfl
@[simp] theorem fa_47_3 {h : Hp} {b o : Nat} : rrun Try.prog (Instr.fieldAt 47 (.pointer (some ⟨b, o, none⟩)) 3) h = some (.pointer (some ⟨b, o + 3, none⟩)) := by kernel_rfl
@[simp] theorem fa_67_0 {h : Hp} {b o : Nat} : rrun Try.prog (Instr.fieldAt 67 (.pointer (some ⟨b, o, none⟩)) 0) h = some (.pointer (some ⟨b, o, none⟩)) := by kernel_rfl
@[simp] theorem fa_67_1 {h : Hp} {b o : Nat} : rrun Try.prog (Instr.fieldAt 67 (.pointer (some ⟨b, o, none⟩)) 1) h = some (.pointer (some ⟨b, o + 1, none⟩)) := by kernel_rfl
@[simp] theorem fa_67_2 {h : Hp} {b o : Nat} : rrun Try.prog (Instr.fieldAt 67 (.pointer (some ⟨b, o, none⟩)) 2) h = some (.pointer (some ⟨b, o + 2, none⟩)) := by kernel_rfl
@[simp] theorem fa_67_3 {h : Hp} {b o : Nat} : rrun Try.prog (Instr.fieldAt 67 (.pointer (some ⟨b, o, none⟩)) 3) h = some (.pointer (some ⟨b, o + 3, none⟩)) := by kernel_rfl
@[simp] theorem fa_67_4 {h : Hp} {b o : Nat} : rrun Try.prog (Instr.fieldAt 67 (.pointer (some ⟨b, o, none⟩)) 4) h = some (.pointer (some ⟨b, o + 4, none⟩)) := by kernel_rfl
@[simp] theorem fa_67_5 {h : Hp} {b o : Nat} : rrun Try.prog (Instr.fieldAt 67 (.pointer (some ⟨b, o, none⟩)) 5) h = some (.pointer (some ⟨b, o + 5, none⟩)) := by kernel_rfl
@[simp] theorem fa_67_6 {h : Hp} {b o : Nat} : rrun Try.prog (Instr.fieldAt 67 (.pointer (some ⟨b, o, none⟩)) 6) h = some (.pointer (some ⟨b, o + 6, none⟩)) := by kernel_rfl
@[simp] theorem fa_67_7 {h : Hp} {b o : Nat} : rrun Try.prog (Instr.fieldAt 67 (.pointer (some ⟨b, o, none⟩)) 7) h = some (.pointer (some ⟨b, o + 7, none⟩)) := by kernel_rfl
@[simp] theorem fa_74_0 {h : Hp} {b o : Nat} : rrun Try.prog (Instr.fieldAt 74 (.pointer (some ⟨b, o, none⟩)) 0) h = some (.pointer (some ⟨b, o, none⟩)) := by kernel_rfl
@[simp] theorem fa_74_1 {h : Hp} {b o : Nat} : rrun Try.prog (Instr.fieldAt 74 (.pointer (some ⟨b, o, none⟩)) 1) h = some (.pointer (some ⟨b, o + 1, none⟩)) := by kernel_rfl
@[simp] theorem fa_74_2 {h : Hp} {b o : Nat} : rrun Try.prog (Instr.fieldAt 74 (.pointer (some ⟨b, o, none⟩)) 2) h = some (.pointer (some ⟨b, o + 2, none⟩)) := by kernel_rfl
@[simp] theorem fa_74_3 {h : Hp} {b o : Nat} : rrun Try.prog (Instr.fieldAt 74 (.pointer (some ⟨b, o, none⟩)) 3) h = some (.pointer (some ⟨b, o + 3, none⟩)) := by kernel_rfl
@[simp] theorem fa_74_4 {h : Hp} {b o : Nat} : rrun Try.prog (Instr.fieldAt 74 (.pointer (some ⟨b, o, none⟩)) 4) h = some (.pointer (some ⟨b, o + 4, none⟩)) := by kernel_rfl
@[simp] theorem fa_74_5 {h : Hp} {b o : Nat} : rrun Try.prog (Instr.fieldAt 74 (.pointer (some ⟨b, o, none⟩)) 5) h = some (.pointer (some ⟨b, o + 5, none⟩)) := by kernel_rfl
@[simp] theorem fa_74_6 {h : Hp} {b o : Nat} : rrun Try.prog (Instr.fieldAt 74 (.pointer (some ⟨b, o, none⟩)) 6) h = some (.pointer (some ⟨b, o + 6, none⟩)) := by kernel_rfl
@[simp] theorem fa_74_7 {h : Hp} {b o : Nat} : rrun Try.prog (Instr.fieldAt 74 (.pointer (some ⟨b, o, none⟩)) 7) h = some (.pointer (some ⟨b, o + 7, none⟩)) := by kernel_rfl
@[simp] theorem fa_77_0 {h : Hp} {b o : Nat} : rrun Try.prog (Instr.fieldAt 77 (.pointer (some ⟨b, o, none⟩)) 0) h = some (.pointer (some ⟨b, o, none⟩)) := by kernel_rfl
@[simp] theorem fa_77_1 {h : Hp} {b o : Nat} : rrun Try.prog (Instr.fieldAt 77 (.pointer (some ⟨b, o, none⟩)) 1) h = some (.pointer (some ⟨b, o + 2, none⟩)) := by kernel_rfl
@[simp] theorem fa_79_0 {h : Hp} {b o : Nat} : rrun Try.prog (Instr.fieldAt 79 (.pointer (some ⟨b, o, none⟩)) 0) h = some (.pointer (some ⟨b, o, none⟩)) := by kernel_rfl
@[simp] theorem fa_79_1 {h : Hp} {b o : Nat} : rrun Try.prog (Instr.fieldAt 79 (.pointer (some ⟨b, o, none⟩)) 1) h = some (.pointer (some ⟨b, o + 1, none⟩)) := by kernel_rfl
@[simp] theorem fa_85_0 {h : Hp} {b o : Nat} : rrun Try.prog (Instr.fieldAt 85 (.pointer (some ⟨b, o, none⟩)) 0) h = some (.pointer (some ⟨b, o, none⟩)) := by kernel_rfl
@[simp] theorem fa_85_1 {h : Hp} {b o : Nat} : rrun Try.prog (Instr.fieldAt 85 (.pointer (some ⟨b, o, none⟩)) 1) h = some (.pointer (some ⟨b, o + 1, none⟩)) := by kernel_rfl
@[simp] theorem fa_99_0 {h : Hp} {b o : Nat} : rrun Try.prog (Instr.fieldAt 99 (.pointer (some ⟨b, o, none⟩)) 0) h = some (.pointer (some ⟨b, o, none⟩)) := by kernel_rfl
@[simp] theorem fa_99_1 {h : Hp} {b o : Nat} : rrun Try.prog (Instr.fieldAt 99 (.pointer (some ⟨b, o, none⟩)) 1) h = some (.pointer (some ⟨b, o + 2, none⟩)) := by kernel_rfl
@[simp] theorem fa_99_2 {h : Hp} {b o : Nat} : rrun Try.prog (Instr.fieldAt 99 (.pointer (some ⟨b, o, none⟩)) 2) h = some (.pointer (some ⟨b, o + 3, none⟩)) := by kernel_rfl
@[simp] theorem fa_99_3 {h : Hp} {b o : Nat} : rrun Try.prog (Instr.fieldAt 99 (.pointer (some ⟨b, o, none⟩)) 3) h = some (.pointer (some ⟨b, o + 4, none⟩)) := by kernel_rfl
@[simp] theorem ia_35 {h : Hp} {b o n c : Nat} {i : Int} (h0 : 0 ≤ i) (h1 : i < (n : Int)) : rrun Try.prog (Instr.indexAt 35 (.slice (some ⟨b, o, none⟩) n c) (.int .i64 i)) h = some (.pointer (some ⟨b, o + i.toNat * 7, none⟩)) := rr_indexAt_slice und_35 size_38 h0 h1
@[simp] theorem ia_40 {h : Hp} {b o n c : Nat} {i : Int} (h0 : 0 ≤ i) (h1 : i < (n : Int)) : rrun Try.prog (Instr.indexAt 40 (.slice (some ⟨b, o, none⟩) n c) (.int .i64 i)) h = some (.pointer (some ⟨b, o + i.toNat * 9, none⟩)) := rr_indexAt_slice und_40 size_31 h0 h1
theorem und_44 : Try.prog.underlying 44 = some (.slice 47) := by kernel_rfl
theorem size_47 : (Try.prog.info? 47).map (·.size) = some 12 := by kernel_rfl
@[simp] theorem ia_44 {h : Hp} {b o n c : Nat} {i : Int} (h0 : 0 ≤ i) (h1 : i < (n : Int)) : rrun Try.prog (Instr.indexAt 44 (.slice (some ⟨b, o, none⟩) n c) (.int .i64 i)) h = some (.pointer (some ⟨b, o + i.toNat * 12, none⟩)) := rr_indexAt_slice und_44 size_47 h0 h1
@[simp] theorem ia_63 {h : Hp} {b o n c : Nat} {i : Int} (h0 : 0 ≤ i) (h1 : i < (n : Int)) : rrun Try.prog (Instr.indexAt 63 (.slice (some ⟨b, o, none⟩) n c) (.int .i64 i)) h = some (.pointer (some ⟨b, o + i.toNat * 4, none⟩)) := rr_indexAt_slice und_63 size_112 h0 h1
@[simp] theorem ia_64 {h : Hp} {b o n c : Nat} {i : Int} (h0 : 0 ≤ i) (h1 : i < (n : Int)) : rrun Try.prog (Instr.indexAt 64 (.slice (some ⟨b, o, none⟩) n c) (.int .i64 i)) h = some (.pointer (some ⟨b, o + i.toNat * 13, none⟩)) := rr_indexAt_slice und_64 size_116 h0 h1
@[simp] theorem ia_65 {h : Hp} {b o n c : Nat} {i : Int} (h0 : 0 ≤ i) (h1 : i < (n : Int)) : rrun Try.prog (Instr.indexAt 65 (.slice (some ⟨b, o, none⟩) n c) (.int .i64 i)) h = some (.pointer (some ⟨b, o + i.toNat * 5, none⟩)) := rr_indexAt_slice und_65 size_99 h0 h1
@[simp] theorem ia_88 {h : Hp} {b o n c : Nat} {i : Int} (h0 : 0 ≤ i) (h1 : i < (n : Int)) : rrun Try.prog (Instr.indexAt 88 (.slice (some ⟨b, o, none⟩) n c) (.int .i64 i)) h = some (.pointer (some ⟨b, o + i.toNat * 2, none⟩)) := rr_indexAt_slice und_88 size_24 h0 h1
@[simp] theorem ld_116 {h : Hp} {b o : Nat} : rrun Try.prog (Instr.loadAt 116 (.pointer (some ⟨b, o, none⟩))) h = (ldN h b o 13).map fun l => .agg l.toArray := rr_load_agg (by kernel_rfl) (by kernel_rfl)
@[simp] theorem ld_22 {h : Hp} {a : Addr} : rrun Try.prog (Instr.loadAt 22 (.pointer (some a))) h = h.cell? a := rr_load_one (by kernel_rfl)
@[simp] theorem ld_24 {h : Hp} {b o : Nat} : rrun Try.prog (Instr.loadAt 24 (.pointer (some ⟨b, o, none⟩))) h = (ldN h b o 2).map fun l => .agg l.toArray := rr_load_agg (by kernel_rfl) (by kernel_rfl)
@[simp] theorem ld_28 {h : Hp} {a : Addr} : rrun Try.prog (Instr.loadAt 28 (.pointer (some a))) h = h.cell? a := rr_load_one (by kernel_rfl)
@[simp] theorem ld_29 {h : Hp} {a : Addr} : rrun Try.prog (Instr.loadAt 29 (.pointer (some a))) h = h.cell? a := rr_load_one (by kernel_rfl)
@[simp] theorem ld_3 {h : Hp} {a : Addr} : rrun Try.prog (Instr.loadAt 3 (.pointer (some a))) h = h.cell? a := rr_load_one (by kernel_rfl)
@[simp] theorem ld_31 {h : Hp} {b o : Nat} : rrun Try.prog (Instr.loadAt 31 (.pointer (some ⟨b, o, none⟩))) h = (ldN h b o 9).map fun l => .agg l.toArray := rr_load_agg (by kernel_rfl) (by kernel_rfl)
@[simp] theorem ld_38 {h : Hp} {b o : Nat} : rrun Try.prog (Instr.loadAt 38 (.pointer (some ⟨b, o, none⟩))) h = (ldN h b o 7).map fun l => .agg l.toArray := rr_load_agg (by kernel_rfl) (by kernel_rfl)
@[simp] theorem ld_40 {h : Hp} {a : Addr} : rrun Try.prog (Instr.loadAt 40 (.pointer (some a))) h = h.cell? a := rr_load_one (by kernel_rfl)
@[simp] theorem ld_47 {h : Hp} {b o : Nat} : rrun Try.prog (Instr.loadAt 47 (.pointer (some ⟨b, o, none⟩))) h = (ldN h b o 12).map fun l => .agg l.toArray := rr_load_agg (by kernel_rfl) (by kernel_rfl)
@[simp] theorem ld_63 {h : Hp} {a : Addr} : rrun Try.prog (Instr.loadAt 63 (.pointer (some a))) h = h.cell? a := rr_load_one (by kernel_rfl)
@[simp] theorem ld_64 {h : Hp} {a : Addr} : rrun Try.prog (Instr.loadAt 64 (.pointer (some a))) h = h.cell? a := rr_load_one (by kernel_rfl)
@[simp] theorem ld_65 {h : Hp} {a : Addr} : rrun Try.prog (Instr.loadAt 65 (.pointer (some a))) h = h.cell? a := rr_load_one (by kernel_rfl)
@[simp] theorem ld_70 {h : Hp} {a : Addr} : rrun Try.prog (Instr.loadAt 70 (.pointer (some a))) h = h.cell? a := rr_load_one (by kernel_rfl)
@[simp] theorem ld_71 {h : Hp} {a : Addr} : rrun Try.prog (Instr.loadAt 71 (.pointer (some a))) h = h.cell? a := rr_load_one (by kernel_rfl)
@[simp] theorem ld_72 {h : Hp} {a : Addr} : rrun Try.prog (Instr.loadAt 72 (.pointer (some a))) h = h.cell? a := rr_load_one (by kernel_rfl)
@[simp] theorem ld_77 {h : Hp} {b o : Nat} : rrun Try.prog (Instr.loadAt 77 (.pointer (some ⟨b, o, none⟩))) h = (ldN h b o 3).map fun l => .agg l.toArray := rr_load_agg (by kernel_rfl) (by kernel_rfl)
@[simp] theorem ld_83 {h : Hp} {b o : Nat} : rrun Try.prog (Instr.loadAt 83 (.pointer (some ⟨b, o, none⟩))) h = (ldN h b o 3).map fun l => .agg l.toArray := rr_load_agg (by kernel_rfl) (by kernel_rfl)
@[simp] theorem ld_85 {h : Hp} {b o : Nat} : rrun Try.prog (Instr.loadAt 85 (.pointer (some ⟨b, o, none⟩))) h = (ldN h b o 2).map fun l => .agg l.toArray := rr_load_agg (by kernel_rfl) (by kernel_rfl)
@[simp] theorem ln_35 {h : Hp} {a : Option Addr} {n c : Nat} : rrun Try.prog (Builtin.len_ #[35] 3 #[.slice a n c]) h = some (.int .i64 n) := by kernel_rfl
@[simp] theorem ln_40 {h : Hp} {a : Option Addr} {n c : Nat} : rrun Try.prog (Builtin.len_ #[40] 3 #[.slice a n c]) h = some (.int .i64 n) := by kernel_rfl
@[simp] theorem ln_44 {h : Hp} {a : Option Addr} {n c : Nat} : rrun Try.prog (Builtin.len_ #[44] 3 #[.slice a n c]) h = some (.int .i64 n) := by kernel_rfl
@[simp] theorem ln_63 {h : Hp} {a : Option Addr} {n c : Nat} : rrun Try.prog (Builtin.len_ #[63] 3 #[.slice a n c]) h = some (.int .i64 n) := by kernel_rfl
@[simp] theorem ln_64 {h : Hp} {a : Option Addr} {n c : Nat} : rrun Try.prog (Builtin.len_ #[64] 3 #[.slice a n c]) h = some (.int .i64 n) := by kernel_rfl
@[simp] theorem ln_65 {h : Hp} {a : Option Addr} {n c : Nat} : rrun Try.prog (Builtin.len_ #[65] 3 #[.slice a n c]) h = some (.int .i64 n) := by kernel_rfl
@[simp] theorem ln_70 {h : Hp} {r : Nat} {es : Array MapEntry} {cl : Nat} (hm : h r = some (.map es cl)) : rrun Try.prog (Builtin.len_ #[70] 3 #[.map (some r)]) h = some (.int .i64 es.size) := by
  have e : rrun Try.prog (Builtin.len_ #[70] 3 #[.map (some r)]) h = rrun Try.prog (Sem.getObj r fun o => match o with | .map es _ => .pure (.int .i64 es.size) | _ => stuck "len: map expected") h := by kernel_rfl
  rw [e]; simp only [rrun, hm, isRow]
@[simp] theorem ln_71 {h : Hp} {r : Nat} {es : Array MapEntry} {cl : Nat} (hm : h r = some (.map es cl)) : rrun Try.prog (Builtin.len_ #[71] 3 #[.map (some r)]) h = some (.int .i64 es.size) := by
  have e : rrun Try.prog (Builtin.len_ #[71] 3 #[.map (some r)]) h = rrun Try.prog (Sem.getObj r fun o => match o with | .map es _ => .pure (.int .i64 es.size) | _ => stuck "len: map expected") h := by kernel_rfl
  rw [e]; simp only [rrun, hm, isRow]
@[simp] theorem ln_88 {h : Hp} {a : Option Addr} {n c : Nat} : rrun Try.prog (Builtin.len_ #[88] 3 #[.slice a n c]) h = some (.int .i64 n) := by kernel_rfl
theorem ck_70 {h : Hp} {e : Bool} {p_0 : Int} {p_1 : Int} : rrun Try.prog (Instr.checkKey e 10000 24 (Value.agg #[Value.int .u32 p_0, Value.int .i64 p_1])) h = some () := by kernel_rfl
theorem sb_70 {p_0 : Int} {p_1 : Int} : Instr.sameBits 10000 (Value.agg #[Value.int .u32 p_0, Value.int .i64 p_1]) (Value.agg #[Value.int .u32 p_0, Value.int .i64 p_1]) = true := by simp [Instr.sameBits]
theorem keq_70 {h : Hp} {p_0 : Int} {p_1 : Int} {q_0 : Int} {q_1 : Int} : rrun Try.prog (Op.equal 24 (Value.agg #[Value.int .u32 p_0, Value.int .i64 p_1]) (Value.agg #[Value.int .u32 q_0, Value.int .i64 q_1])) h = some (decide (p_0 = q_0) && (decide (p_1 = q_1) && true)) := by
  rw [show Op.equal 24 (Value.agg #[Value.int .u32 p_0, Value.int .i64 p_1]) (Value.agg #[Value.int .u32 q_0, Value.int .i64 q_1]) = Op.equalIn (9999 + 1) 24 (Value.agg #[Value.int .u32 p_0, Value.int .i64 p_1]) (Value.agg #[Value.int .u32 q_0, Value.int .i64 q_1]) from rfl, rr_equalIn_struct Try.underlying24 (by kernel_rfl)]
  exact (rr_eqf_cons (a := Value.int .u32 p_0) (b := Value.int .u32 q_0) (by rfl) (by kernel_rfl) (by kernel_rfl) (by kernel_rfl) (rr_eqf_cons (a := Value.int .i64 p_1) (b := Value.int .i64 q_1) (by rfl) (by kernel_rfl) (by kernel_rfl) (by kernel_rfl) rr_eqf_nil))
theorem ck_71 {h : Hp} {e : Bool} {p_0_0 : Int} {p_0_1 : Int} {p_1 : Int} : rrun Try.prog (Instr.checkKey e 10000 77 (Value.agg #[Value.int .u32 p_0_0, Value.int .i64 p_0_1, Value.int .i64 p_1])) h = some () := by kernel_rfl
theorem sb_71 {p_0_0 : Int} {p_0_1 : Int} {p_1 : Int} : Instr.sameBits 10000 (Value.agg #[Value.int .u32 p_0_0, Value.int .i64 p_0_1, Value.int .i64 p_1]) (Value.agg #[Value.int .u32 p_0_0, Value.int .i64 p_0_1, Value.int .i64 p_1]) = true := by simp [Instr.sameBits]
theorem keq_71 {h : Hp} {p_0_0 : Int} {p_0_1 : Int} {p_1 : Int} {q_0_0 : Int} {q_0_1 : Int} {q_1 : Int} : rrun Try.prog (Op.equal 77 (Value.agg #[Value.int .u32 p_0_0, Value.int .i64 p_0_1, Value.int .i64 p_1]) (Value.agg #[Value.int .u32 q_0_0, Value.int .i64 q_0_1, Value.int .i64 q_1])) h = some ((decide (p_0_0 = q_0_0) && (decide (p_0_1 = q_0_1) && true)) && (decide (p_1 = q_1) && true)) := by
  rw [show Op.equal 77 (Value.agg #[Value.int .u32 p_0_0, Value.int .i64 p_0_1, Value.int .i64 p_1]) (Value.agg #[Value.int .u32 q_0_0, Value.int .i64 q_0_1, Value.int .i64 q_1]) = Op.equalIn (9999 + 1) 77 (Value.agg #[Value.int .u32 p_0_0, Value.int .i64 p_0_1, Value.int .i64 p_1]) (Value.agg #[Value.int .u32 q_0_0, Value.int .i64 q_0_1, Value.int .i64 q_1]) from rfl, rr_equalIn_struct Try.underlying77 (by kernel_rfl)]
  exact (rr_eqf_cons (a := Value.agg #[Value.int .u32 p_0_0, Value.int .i64 p_0_1]) (b := Value.agg #[Value.int .u32 q_0_0, Value.int .i64 q_0_1]) (by rfl) (by kernel_rfl) (by kernel_rfl) ((rr_equalIn_struct Try.underlying24 (by kernel_rfl)).trans (rr_eqf_cons (a := Value.int .u32 p_0_0) (b := Value.int .u32 q_0_0) (by rfl) (by kernel_rfl) (by kernel_rfl) (by kernel_rfl) (rr_eqf_cons (a := Value.int .i64 p_0_1) (b := Value.int .i64 q_0_1) (by rfl) (by kernel_rfl) (by kernel_rfl) (by kernel_rfl) rr_eqf_nil))) (rr_eqf_cons (a := Value.int .i64 p_1) (b := Value.int .i64 q_1) (by rfl) (by kernel_rfl) (by kernel_rfl) (by kernel_rfl) rr_eqf_nil))
theorem ck_72 {h : Hp} {e : Bool} {p_0_0 : Int} {p_0_1 : Int} {p_1 : Int} : rrun Try.prog (Instr.checkKey e 10000 83 (Value.agg #[Value.int .u32 p_0_0, Value.int .i64 p_0_1, Value.int .u64 p_1])) h = some () := by kernel_rfl
theorem sb_72 {p_0_0 : Int} {p_0_1 : Int} {p_1 : Int} : Instr.sameBits 10000 (Value.agg #[Value.int .u32 p_0_0, Value.int .i64 p_0_1, Value.int .u64 p_1]) (Value.agg #[Value.int .u32 p_0_0, Value.int .i64 p_0_1, Value.int .u64 p_1]) = true := by simp [Instr.sameBits]
theorem keq_72 {h : Hp} {p_0_0 : Int} {p_0_1 : Int} {p_1 : Int} {q_0_0 : Int} {q_0_1 : Int} {q_1 : Int} : rrun Try.prog (Op.equal 83 (Value.agg #[Value.int .u32 p_0_0, Value.int .i64 p_0_1, Value.int .u64 p_1]) (Value.agg #[Value.int .u32 q_0_0, Value.int .i64 q_0_1, Value.int .u64 q_1])) h = some ((decide (p_0_0 = q_0_0) && (decide (p_0_1 = q_0_1) && true)) && (decide (p_1 = q_1) && true)) := by
  rw [show Op.equal 83 (Value.agg #[Value.int .u32 p_0_0, Value.int .i64 p_0_1, Value.int .u64 p_1]) (Value.agg #[Value.int .u32 q_0_0, Value.int .i64 q_0_1, Value.int .u64 q_1]) = Op.equalIn (9999 + 1) 83 (Value.agg #[Value.int .u32 p_0_0, Value.int .i64 p_0_1, Value.int .u64 p_1]) (Value.agg #[Value.int .u32 q_0_0, Value.int .i64 q_0_1, Value.int .u64 q_1]) from rfl, rr_equalIn_struct Try.underlying83 (by kernel_rfl)]
  exact (rr_eqf_cons (a := Value.agg #[Value.int .u32 p_0_0, Value.int .i64 p_0_1]) (b := Value.agg #[Value.int .u32 q_0_0, Value.int .i64 q_0_1]) (by rfl) (by kernel_rfl) (by kernel_rfl) ((rr_equalIn_struct Try.underlying24 (by kernel_rfl)).trans (rr_eqf_cons (a := Value.int .u32 p_0_0) (b := Value.int .u32 q_0_0) (by rfl) (by kernel_rfl) (by kernel_rfl) (by kernel_rfl) (rr_eqf_cons (a := Value.int .i64 p_0_1) (b := Value.int .i64 q_0_1) (by rfl) (by kernel_rfl) (by kernel_rfl) (by kernel_rfl) rr_eqf_nil))) (rr_eqf_cons (a := Value.int .u64 p_1) (b := Value.int .u64 q_1) (by rfl) (by kernel_rfl) (by kernel_rfl) (by kernel_rfl) rr_eqf_nil))
@[simp] theorem st_112 {h : Hp} {b o : Nat} {x_0_0 : Int} {x_0_1 : Int} {x_1 : Int} {x_2 : Int} {k : Unit → Hp → Prop} : arun Try.prog (Instr.storeAt 112 (.pointer (some ⟨b, o, none⟩)) (Value.agg #[Value.int .u32 x_0_0, Value.int .i64 x_0_1, Value.int .i64 x_1, Value.int .u16 x_2])) h k = stN h b o [Value.int .u32 x_0_0, Value.int .i64 x_0_1, Value.int .i64 x_1, Value.int .u16 x_2] (k ()) := arun_store_eq size_112 rfl
@[simp] theorem st_116 {h : Hp} {b o : Nat} {x_0_0 : Int} {x_0_1 : Int} {x_1 : Int} {x_2 : Int} {x_3_0 : Int} {x_3_1 : Int} {x_3_2 : Int} {x_3_3 : Int} {x_3_4_0 : Int} {x_3_4_1 : Int} {x_3_5 : Int} {x_3_6 : Int} {x_3_7 : Int} {k : Unit → Hp → Prop} : arun Try.prog (Instr.storeAt 116 (.pointer (some ⟨b, o, none⟩)) (Value.agg #[Value.int .u32 x_0_0, Value.int .i64 x_0_1, Value.int .i64 x_1, Value.int .i64 x_2, Value.int .i64 x_3_0, Value.int .u16 x_3_1, Value.int .i64 x_3_2, Value.int .i64 x_3_3, Value.int .u32 x_3_4_0, Value.int .i64 x_3_4_1, Value.int .u64 x_3_5, Value.int .u16 x_3_6, Value.int .i64 x_3_7])) h k = stA h b o [Value.int .u32 x_0_0, Value.int .i64 x_0_1, Value.int .i64 x_1, Value.int .i64 x_2, Value.int .i64 x_3_0, Value.int .u16 x_3_1, Value.int .i64 x_3_2, Value.int .i64 x_3_3, Value.int .u32 x_3_4_0, Value.int .i64 x_3_4_1, Value.int .u64 x_3_5, Value.int .u16 x_3_6, Value.int .i64 x_3_7] (k ()) := arun_store_eq size_116 rfl
@[simp] theorem st_24 {h : Hp} {b o : Nat} {x_0 : Int} {x_1 : Int} {k : Unit → Hp → Prop} : arun Try.prog (Instr.storeAt 24 (.pointer (some ⟨b, o, none⟩)) (Value.agg #[Value.int .u32 x_0, Value.int .i64 x_1])) h k = stN h b o [Value.int .u32 x_0, Value.int .i64 x_1] (k ()) := arun_store_eq size_24 rfl
theorem size_28 : (Try.prog.info? 28).map (·.size) = some 1 := by kernel_rfl
@[simp] theorem st_28 {h : Hp} {b o : Nat} {x : Int} {k : Unit → Hp → Prop} : arun Try.prog (Instr.storeAt 28 (.pointer (some ⟨b, o, none⟩)) (Value.int .u64 x)) h k = stN h b o [Value.int .u64 x] (k ()) := arun_store_eq size_28 rfl
theorem size_29 : (Try.prog.info? 29).map (·.size) = some 1 := by kernel_rfl
@[simp] theorem st_29 {h : Hp} {b o : Nat} {x : Int} {k : Unit → Hp → Prop} : arun Try.prog (Instr.storeAt 29 (.pointer (some ⟨b, o, none⟩)) (Value.int .u16 x)) h k = stN h b o [Value.int .u16 x] (k ()) := arun_store_eq size_29 rfl
theorem size_3 : (Try.prog.info? 3).map (·.size) = some 1 := by kernel_rfl
@[simp] theorem st_3 {h : Hp} {b o : Nat} {x : Int} {k : Unit → Hp → Prop} : arun Try.prog (Instr.storeAt 3 (.pointer (some ⟨b, o, none⟩)) (Value.int .i64 x)) h k = stN h b o [Value.int .i64 x] (k ()) := arun_store_eq size_3 rfl
@[simp] theorem st_31 {h : Hp} {b o : Nat} {x_0 : Int} {x_1 : Int} {x_2 : Int} {x_3 : Int} {x_4_0 : Int} {x_4_1 : Int} {x_5 : Int} {x_6 : Int} {x_7 : Int} {k : Unit → Hp → Prop} : arun Try.prog (Instr.storeAt 31 (.pointer (some ⟨b, o, none⟩)) (Value.agg #[Value.int .i64 x_0, Value.int .u16 x_1, Value.int .i64 x_2, Value.int .i64 x_3, Value.int .u32 x_4_0, Value.int .i64 x_4_1, Value.int .u64 x_5, Value.int .u16 x_6, Value.int .i64 x_7])) h k = stA h b o [Value.int .i64 x_0, Value.int .u16 x_1, Value.int .i64 x_2, Value.int .i64 x_3, Value.int .u32 x_4_0, Value.int .i64 x_4_1, Value.int .u64 x_5, Value.int .u16 x_6, Value.int .i64 x_7] (k ()) := arun_store_eq size_31 rfl
theorem size_40 : (Try.prog.info? 40).map (·.size) = some 1 := by kernel_rfl
@[simp] theorem st_40 {h : Hp} {b o : Nat} {xa : Option Addr} {xn xc : Nat} {k : Unit → Hp → Prop} : arun Try.prog (Instr.storeAt 40 (.pointer (some ⟨b, o, none⟩)) (Value.slice xa xn xc)) h k = stN h b o [Value.slice xa xn xc] (k ()) := arun_store_eq size_40 rfl
theorem size_63 : (Try.prog.info? 63).map (·.size) = some 1 := by kernel_rfl
@[simp] theorem st_63 {h : Hp} {b o : Nat} {xa : Option Addr} {xn xc : Nat} {k : Unit → Hp → Prop} : arun Try.prog (Instr.storeAt 63 (.pointer (some ⟨b, o, none⟩)) (Value.slice xa xn xc)) h k = stN h b o [Value.slice xa xn xc] (k ()) := arun_store_eq size_63 rfl
theorem size_64 : (Try.prog.info? 64).map (·.size) = some 1 := by kernel_rfl
@[simp] theorem st_64 {h : Hp} {b o : Nat} {xa : Option Addr} {xn xc : Nat} {k : Unit → Hp → Prop} : arun Try.prog (Instr.storeAt 64 (.pointer (some ⟨b, o, none⟩)) (Value.slice xa xn xc)) h k = stN h b o [Value.slice xa xn xc] (k ()) := arun_store_eq size_64 rfl
theorem size_65 : (Try.prog.info? 65).map (·.size) = some 1 := by kernel_rfl
@[simp] theorem st_65 {h : Hp} {b o : Nat} {xa : Option Addr} {xn xc : Nat} {k : Unit → Hp → Prop} : arun Try.prog (Instr.storeAt 65 (.pointer (some ⟨b, o, none⟩)) (Value.slice xa xn xc)) h k = stN h b o [Value.slice xa xn xc] (k ()) := arun_store_eq size_65 rfl
theorem size_77 : (Try.prog.info? 77).map (·.size) = some 3 := by kernel_rfl
@[simp] theorem st_77 {h : Hp} {b o : Nat} {x_0_0 : Int} {x_0_1 : Int} {x_1 : Int} {k : Unit → Hp → Prop} : arun Try.prog (Instr.storeAt 77 (.pointer (some ⟨b, o, none⟩)) (Value.agg #[Value.int .u32 x_0_0, Value.int .i64 x_0_1, Value.int .i64 x_1])) h k = stN h b o [Value.int .u32 x_0_0, Value.int .i64 x_0_1, Value.int .i64 x_1] (k ()) := arun_store_eq size_77 rfl
theorem size_79 : (Try.prog.info? 79).map (·.size) = some 10 := by kernel_rfl
@[simp] theorem st_79 {h : Hp} {b o : Nat} {x_0 : Int} {x_1_0 : Int} {x_1_1 : Int} {x_1_2 : Int} {x_1_3 : Int} {x_1_4_0 : Int} {x_1_4_1 : Int} {x_1_5 : Int} {x_1_6 : Int} {x_1_7 : Int} {k : Unit → Hp → Prop} : arun Try.prog (Instr.storeAt 79 (.pointer (some ⟨b, o, none⟩)) (Value.agg #[Value.int .i64 x_0, Value.int .i64 x_1_0, Value.int .u16 x_1_1, Value.int .i64 x_1_2, Value.int .i64 x_1_3, Value.int .u32 x_1_4_0, Value.int .i64 x_1_4_1, Value.int .u64 x_1_5, Value.int .u16 x_1_6, Value.int .i64 x_1_7])) h k = stA h b o [Value.int .i64 x_0, Value.int .i64 x_1_0, Value.int .u16 x_1_1, Value.int .i64 x_1_2, Value.int .i64 x_1_3, Value.int .u32 x_1_4_0, Value.int .i64 x_1_4_1, Value.int .u64 x_1_5, Value.int .u16 x_1_6, Value.int .i64 x_1_7] (k ()) := arun_store_eq size_79 rfl
theorem size_83 : (Try.prog.info? 83).map (·.size) = some 3 := by kernel_rfl
@[simp] theorem st_83 {h : Hp} {b o : Nat} {x_0_0 : Int} {x_0_1 : Int} {x_1 : Int} {k : Unit → Hp → Prop} : arun Try.prog (Instr.storeAt 83 (.pointer (some ⟨b, o, none⟩)) (Value.agg #[Value.int .u32 x_0_0, Value.int .i64 x_0_1, Value.int .u64 x_1])) h k = stN h b o [Value.int .u32 x_0_0, Value.int .i64 x_0_1, Value.int .u64 x_1] (k ()) := arun_store_eq size_83 rfl
theorem size_85 : (Try.prog.info? 85).map (·.size) = some 2 := by kernel_rfl
@[simp] theorem st_85 {h : Hp} {b o : Nat} {x_0 : Int} {x_1 : Int} {k : Unit → Hp → Prop} : arun Try.prog (Instr.storeAt 85 (.pointer (some ⟨b, o, none⟩)) (Value.agg #[Value.int .u16 x_0, Value.int .i64 x_1])) h k = stN h b o [Value.int .u16 x_0, Value.int .i64 x_1] (k ()) := arun_store_eq size_85 rfl
end Go.Proofs.Ytchbipkoifmmdaa
