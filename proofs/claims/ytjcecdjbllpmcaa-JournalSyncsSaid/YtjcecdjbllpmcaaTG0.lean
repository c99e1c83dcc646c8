/- Printed by wip/kit/gen.py out of the translation: what operations of these types come to. -/
import Derived.Test.YtjcecdjbllpmcaaM9
import Derived.Test.YtjcecdjbllpmcaaChecked
namespace Go.Proofs.Ytjcecdjbllpmcaa
open Go

set_option maxRecDepth 100000

abbrev F_octroilaw12_JournalLast : Nat := 3
abbrev F_octroilaw12_JournalSyncs : Nat := 4
abbrev F_octroilaw12_awake : Nat := 9
abbrev F_journal_New : Nat := 10
abbrev F_journal_Journal_Put : Nat := 11
abbrev F_journal_Journal_Get : Nat := 12
abbrev F_journal_Journal_Bytes : Nat := 13
abbrev F_journal_Journal_Sync : Nat := 14
abbrev F_journal_Journal_Crash : Nat := 15
abbrev F_journal_Journal_Len : Nat := 16
abbrev F_journal_put : Nat := 27
abbrev F_slices_Clone_byte_byte : Nat := 28
abbrev F_journal_get : Nat := 29
abbrev F_slices_Concat_byte_byte : Nat := 34
abbrev F_num_Put32 : Nat := 35
abbrev F_num_Get32 : Nat := 36
abbrev F_slices_Grow_byte_byte : Nat := 43
abbrev F_num_put : Nat := 44
abbrev F_num_get : Nat := 45
abbrev T_api_Fact : Nat := 25
abbrev T_api_Errno : Nat := 29
abbrev T_octroiref12_Journal : Nat := 45
abbrev T_octroilaw12_Op : Nat := 47
abbrev T_journal_Journal : Nat := 52
abbrev T_journal_name : Nat := 55
@[simp] theorem al_25 {h : Hp} {k : Value → Hp → Prop} : arun Try.prog (Instr.alloc 25 true (.tuple #[])) h k = nw h (.cells #[Value.int .i64 0, Value.int .u32 0, Value.int .u32 0] 25) fun b h => k (.pointer (some ⟨b, 0, none⟩)) h := arun_alloc (v := Value.agg #[Value.int .i64 0, Value.int .u32 0, Value.int .u32 0]) (by kernel_rfl)
theorem und_34 : Try.prog.underlying 34 = some (.slice 5) := by kernel_rfl
theorem size_5 : (Try.prog.info? 5).map (·.size) = some 1 := by kernel_rfl
theorem bytes_5 : (Try.prog.info? 5).map (·.bytes) = some 1 := by kernel_rfl
theorem zero_5 : (Try.prog.info? 5).bind (·.zero) = some (Value.int .u8 0) := by kernel_rfl
theorem push_uint8 {α : Type} {R b2 o2 c2 : Nat} {enc : α → List Value} {v : Value} {xs : List α} {y : α} {h : Hp} {k : Value → Hp → Prop} (S : SlAt h 5 1 enc v xs) (hy : ldN h b2 o2 1 = some (enc y)) (hyl : (enc y).length = 1) (hone : ∀ u ∈ enc y, oneCell u = true) (hbd : (2 * xs.length + 770) * 1 ≤ 2 ^ 48) (K : ∀ b c cap, (some b = blkOf v ∨ h b = none) → xs.length + 1 ≤ cap → cap * 1 ≤ c.size → Enc c 0 1 enc (xs ++ [y]) → k (.slice (some ⟨b, 0, none⟩) (xs.length + 1) cap) (h.upd b (.cells c 5 (0, 0)))) :
    arun Try.prog (Builtin.append_ #[34, 34] R #[v, .slice (some ⟨b2, o2, none⟩) 1 c2]) h k := arun_push und_34 und_34 size_5 bytes_5 zero_5 (by decide) rfl S hy hyl hone hbd K
@[simp] theorem bd_25_0_1_2 {h : Hp} {x0 : Int} {x1 : Int} {x2 : Int} : rrun Try.prog (Instr.build 25 #[(0, Value.int .i64 x0), (1, Value.int .u32 x1), (2, Value.int .u32 x2)]) h = some (.agg #[Value.int .i64 x0, Value.int .u32 x1, Value.int .u32 x2]) := by kernel_rfl
@[simp] theorem bd_25_0 {h : Hp} {x0 : Int} : rrun Try.prog (Instr.build 25 #[(0, Value.int .i64 x0)]) h = some (.agg #[Value.int .i64 x0, Value.int .u32 0, Value.int .u32 0]) := by kernel_rfl
@[simp] theorem bd_52_0_3 {h : Hp} {x0 : Int} {x3 : Option Nat} : rrun Try.prog (Instr.build 52 #[(0, Value.int .i64 x0), (3, Value.map x3)]) h = some (.agg #[Value.int .i64 x0, Value.int .i64 0, Value.slice none 0 0, Value.map x3]) := by kernel_rfl
@[simp] theorem bd_55_0_1 {h : Hp} {x0 : Int} {x1 : Int} : rrun Try.prog (Instr.build 55 #[(0, Value.int .i64 x0), (1, Value.int .u32 x1)]) h = some (.agg #[Value.int .i64 x0, Value.int .u32 x1]) := by kernel_rfl
@[simp] theorem bs_34_0_ {h : Hp}  {k : Value → Hp → Prop} : arun Try.prog (Instr.buildSlice 34 0 #[]) h k = nw h (.cells #[] 5) fun b h => k (.slice (some ⟨b, 0, none⟩) 0 0) h := by kernel_rfl
@[simp] theorem bs_34_4_0_1_2_3 {h : Hp} {x0 : Int} {x1 : Int} {x2 : Int} {x3 : Int} {k : Value → Hp → Prop} : arun Try.prog (Instr.buildSlice 34 4 #[(0, Value.int .u8 x0), (1, Value.int .u8 x1), (2, Value.int .u8 x2), (3, Value.int .u8 x3)]) h k = nw h (.cells #[Value.int .u8 x0, Value.int .u8 x1, Value.int .u8 x2, Value.int .u8 x3] 5) fun b h => k (.slice (some ⟨b, 0, none⟩) 4 4) h := by kernel_rfl
@[simp] theorem bs_74_3_0_1_2 {h : Hp} {x0a : Option Addr} {x0n x0c : Nat} {x1a : Option Addr} {x1n x1c : Nat} {x2a : Option Addr} {x2n x2c : Nat} {k : Value → Hp → Prop} : arun Try.prog (Instr.buildSlice 74 3 #[(0, Value.slice x0a x0n x0c), (1, Value.slice x1a x1n x1c), (2, Value.slice x2a x2n x2c)]) h k = nw h (.cells #[Value.slice x0a x0n x0c, Value.slice x1a x1n x1c, Value.slice x2a x2n x2c] 34) fun b h => k (.slice (some ⟨b, 0, none⟩) 3 3) h := by kernel_rfl
@[simp] theorem cv_23_5 {h : Hp} {x : Int} : rrun Try.prog (convert 23 5 (.int .u32 x)) h = some (.int .u8 (IntKind.u8.wrap x)) := by kernel_rfl
@[simp] theorem cv_3_5 {h : Hp} {x : Int} : rrun Try.prog (convert 3 5 (.int .i64 x)) h = some (.int .u8 (IntKind.u8.wrap x)) := by kernel_rfl
@[simp] theorem cv_5_23 {h : Hp} {x : Int} : rrun Try.prog (convert 5 23 (.int .u8 x)) h = some (.int .u32 (IntKind.u32.wrap x)) := by kernel_rfl
@[simp] theorem cv_5_3 {h : Hp} {x : Int} : rrun Try.prog (convert 5 3 (.int .u8 x)) h = some (.int .i64 (IntKind.i64.wrap x)) := by kernel_rfl
@[simp] theorem eql_27_sn {h : Hp} {x y : Operand} {a : Addr} : rrun Try.prog (bop .eql 27 x y (.pointer (some a)) (.pointer none)) h = some (.bool false) := by kernel_rfl
@[simp] theorem eql_27_nn {h : Hp} {x y : Operand} {p : Option Addr} : rrun Try.prog (bop .eql 27 x y (.pointer none) (.pointer p)) h = some (.bool (p.isNone)) := by kernel_rfl
@[simp] theorem eql_34_sn {h : Hp} {x y : Operand} {a : Addr} {n c n' c' : Nat} : rrun Try.prog (bop .eql 34 x y (.slice (some a) n c) (.slice none n' c')) h = some (.bool false) := by kernel_rfl
@[simp] theorem eql_34_nn {h : Hp} {x y : Operand} {p : Option Addr} {n c n' c' : Nat} : rrun Try.prog (bop .eql 34 x y (.slice none n' c') (.slice p n c)) h = some (.bool (p.isNone)) := by kernel_rfl
@[simp] theorem eql_4 {h : Hp} {x y : Operand} {a b : Bool} : rrun Try.prog (bop .eql 4 x y (.bool a) (.bool b)) h = some (.bool (decide (a = b))) := by kernel_rfl
@[simp] theorem neq_27_sn {h : Hp} {x y : Operand} {a : Addr} : rrun Try.prog (bop .neq 27 x y (.pointer (some a)) (.pointer none)) h = some (.bool true) := by kernel_rfl
@[simp] theorem neq_27_nn {h : Hp} {x y : Operand} {p : Option Addr} : rrun Try.prog (bop .neq 27 x y (.pointer none) (.pointer p)) h = some (.bool (!p.isNone)) := by kernel_rfl
@[simp] theorem fa_25_0 {h : Hp} {b o : Nat} : rrun Try.prog (Instr.fieldAt 25 (.pointer (some ⟨b, o, none⟩)) 0) h = some (.pointer (some ⟨b, o, none⟩)) := by kernel_rfl
@[simp] theorem fa_25_1 {h : Hp} {b o : Nat} : rrun Try.prog (Instr.fieldAt 25 (.pointer (some ⟨b, o, none⟩)) 1) h = some (.pointer (some ⟨b, o + 1, none⟩)) := by kernel_rfl
@[simp] theorem fa_25_2 {h : Hp} {b o : Nat} : rrun Try.prog (Instr.fieldAt 25 (.pointer (some ⟨b, o, none⟩)) 2) h = some (.pointer (some ⟨b, o + 2, none⟩)) := by kernel_rfl
@[simp] theorem fa_52_0 {h : Hp} {b o : Nat} : rrun Try.prog (Instr.fieldAt 52 (.pointer (some ⟨b, o, none⟩)) 0) h = some (.pointer (some ⟨b, o, none⟩)) := by kernel_rfl
@[simp] theorem fa_52_1 {h : Hp} {b o : Nat} : rrun Try.prog (Instr.fieldAt 52 (.pointer (some ⟨b, o, none⟩)) 1) h = some (.pointer (some ⟨b, o + 1, none⟩)) := by kernel_rfl
@[simp] theorem fa_52_2 {h : Hp} {b o : Nat} : rrun Try.prog (Instr.fieldAt 52 (.pointer (some ⟨b, o, none⟩)) 2) h = some (.pointer (some ⟨b, o + 2, none⟩)) := by kernel_rfl
@[simp] theorem fa_52_3 {h : Hp} {b o : Nat} : rrun Try.prog (Instr.fieldAt 52 (.pointer (some ⟨b, o, none⟩)) 3) h = some (.pointer (some ⟨b, o + 3, none⟩)) := by kernel_rfl
theorem und_22 : Try.prog.underlying 22 = some (.slice 25) := by kernel_rfl
theorem size_25 : (Try.prog.info? 25).map (·.size) = some 3 := by kernel_rfl
@[simp] theorem ia_22 {h : Hp} {b o n c : Nat} {i : Int} (h0 : 0 ≤ i) (h1 : i < (n : Int)) : rrun Try.prog (Instr.indexAt 22 (.slice (some ⟨b, o, none⟩) n c) (.int .i64 i)) h = some (.pointer (some ⟨b, o + i.toNat * 3, none⟩)) := rr_indexAt_slice und_22 size_25 h0 h1
@[simp] theorem ia_34 {h : Hp} {b o n c : Nat} {i : Int} (h0 : 0 ≤ i) (h1 : i < (n : Int)) : rrun Try.prog (Instr.indexAt 34 (.slice (some ⟨b, o, none⟩) n c) (.int .i64 i)) h = some (.pointer (some ⟨b, o + i.toNat * 1, none⟩)) := rr_indexAt_slice und_34 size_5 h0 h1
theorem und_74 : Try.prog.underlying 74 = some (.slice 34) := by kernel_rfl
theorem size_34 : (Try.prog.info? 34).map (·.size) = some 1 := by kernel_rfl
@[simp] theorem ia_74 {h : Hp} {b o n c : Nat} {i : Int} (h0 : 0 ≤ i) (h1 : i < (n : Int)) : rrun Try.prog (Instr.indexAt 74 (.slice (some ⟨b, o, none⟩) n c) (.int .i64 i)) h = some (.pointer (some ⟨b, o + i.toNat * 1, none⟩)) := rr_indexAt_slice und_74 size_34 h0 h1
@[simp] theorem ld_23 {h : Hp} {a : Addr} : rrun Try.prog (Instr.loadAt 23 (.pointer (some a))) h = h.cell? a := rr_load_one (by kernel_rfl)
@[simp] theorem ld_25 {h : Hp} {b o : Nat} : rrun Try.prog (Instr.loadAt 25 (.pointer (some ⟨b, o, none⟩))) h = (ldN h b o 3).map fun l => .agg l.toArray := rr_load_agg (by kernel_rfl) (by kernel_rfl)
@[simp] theorem ld_3 {h : Hp} {a : Addr} : rrun Try.prog (Instr.loadAt 3 (.pointer (some a))) h = h.cell? a := rr_load_one (by kernel_rfl)
@[simp] theorem ld_34 {h : Hp} {a : Addr} : rrun Try.prog (Instr.loadAt 34 (.pointer (some a))) h = h.cell? a := rr_load_one (by kernel_rfl)
@[simp] theorem ld_5 {h : Hp} {a : Addr} : rrun Try.prog (Instr.loadAt 5 (.pointer (some a))) h = h.cell? a := rr_load_one (by kernel_rfl)
@[simp] theorem ld_50 {h : Hp} {a : Addr} : rrun Try.prog (Instr.loadAt 50 (.pointer (some a))) h = h.cell? a := rr_load_one (by kernel_rfl)
@[simp] theorem ln_22 {h : Hp} {a : Option Addr} {n c : Nat} : rrun Try.prog (Builtin.len_ #[22] 3 #[.slice a n c]) h = some (.int .i64 n) := by kernel_rfl
@[simp] theorem ln_34 {h : Hp} {a : Option Addr} {n c : Nat} : rrun Try.prog (Builtin.len_ #[34] 3 #[.slice a n c]) h = some (.int .i64 n) := by kernel_rfl
@[simp] theorem ln_74 {h : Hp} {a : Option Addr} {n c : Nat} : rrun Try.prog (Builtin.len_ #[74] 3 #[.slice a n c]) h = some (.int .i64 n) := by kernel_rfl
@[simp] theorem mi_9 {h : Hp} {x : Value} : rrun Try.prog (Instr.makeInterface 9 x) h = some (.iface 9 x) := by kernel_rfl
theorem size_23 : (Try.prog.info? 23).map (·.size) = some 1 := by kernel_rfl
@[simp] theorem st_23 {h : Hp} {b o : Nat} {x : Int} {k : Unit → Hp → Prop} : arun Try.prog (Instr.storeAt 23 (.pointer (some ⟨b, o, none⟩)) (Value.int .u32 x)) h k = stN h b o [Value.int .u32 x] (k ()) := arun_store_eq size_23 rfl
@[simp] theorem st_25 {h : Hp} {b o : Nat} {x_0 : Int} {x_1 : Int} {x_2 : Int} {k : Unit → Hp → Prop} : arun Try.prog (Instr.storeAt 25 (.pointer (some ⟨b, o, none⟩)) (Value.agg #[Value.int .i64 x_0, Value.int .u32 x_1, Value.int .u32 x_2])) h k = stN h b o [Value.int .i64 x_0, Value.int .u32 x_1, Value.int .u32 x_2] (k ()) := arun_store_eq size_25 rfl
theorem size_3 : (Try.prog.info? 3).map (·.size) = some 1 := by kernel_rfl
@[simp] theorem st_3 {h : Hp} {b o : Nat} {x : Int} {k : Unit → Hp → Prop} : arun Try.prog (Instr.storeAt 3 (.pointer (some ⟨b, o, none⟩)) (Value.int .i64 x)) h k = stN h b o [Value.int .i64 x] (k ()) := arun_store_eq size_3 rfl
@[simp] theorem st_34 {h : Hp} {b o : Nat} {xa : Option Addr} {xn xc : Nat} {k : Unit → Hp → Prop} : arun Try.prog (Instr.storeAt 34 (.pointer (some ⟨b, o, none⟩)) (Value.slice xa xn xc)) h k = stN h b o [Value.slice xa xn xc] (k ()) := arun_store_eq size_34 rfl
@[simp] theorem st_5 {h : Hp} {b o : Nat} {x : Int} {k : Unit → Hp → Prop} : arun Try.prog (Instr.storeAt 5 (.pointer (some ⟨b, o, none⟩)) (Value.int .u8 x)) h k = stN h b o [Value.int .u8 x] (k ()) := arun_store_eq size_5 rfl
theorem size_50 : (Try.prog.info? 50).map (·.size) = some 1 := by kernel_rfl
@[simp] theorem st_50 {h : Hp} {b o : Nat} {x : Option Nat} {k : Unit → Hp → Prop} : arun Try.prog (Instr.storeAt 50 (.pointer (some ⟨b, o, none⟩)) (Value.map x)) h k = stN h b o [Value.map x] (k ()) := arun_store_eq size_50 rfl
end Go.Proofs.Ytjcecdjbllpmcaa
