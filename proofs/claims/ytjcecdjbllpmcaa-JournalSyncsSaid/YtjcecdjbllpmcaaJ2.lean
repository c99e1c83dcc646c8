/- Bytes: Grow from nothing, Concat of slices of bytes. -/
import Derived.Test.YtjcecdjbllpmcaaM14
import Derived.Test.YtjcecdjbllpmcaaJ1
namespace Go.Proofs.Ytjcecdjbllpmcaa
open Go
set_option linter.unusedSimpArgs false


theorem be_ok (L : List Nat) : ∀ y ∈ L, (be y).length = 1 ∧ ∀ u ∈ be y, oneCell u = true := fun y _ => ⟨rfl, by simp [be, oneCell]⟩

theorem cat_bytes {h : Hp} {v w : Value} {xs ys : List Nat} {k : Value → Hp → Prop} (S : SlAt h 5 1 be v xs) (R0 : Src h 1 be w ys) (hbd : xs.length + ys.length ≤ 1000000)
    (K : ∀ v' h', SlAt h' 5 1 be v' (xs ++ ys) → Grew h h' v v' → k v' h') : arun Try.prog (Builtin.append_ #[34, 34] 34 #[v, w]) h k :=
  arun_cat und_34 und_34 size_5 bytes_5 zero_5 (by decide) rfl S R0 (by omega) K

theorem SlAt.src {h : Hp} {v : Value} {xs : List Nat} (S : SlAt h 5 1 be v xs) : Src h 1 be v xs := by
  refine ⟨be_ok xs, ?_⟩
  rcases S with ⟨rfl, rfl⟩ | ⟨b, cap, c, rfl, hb, h1, h2, h3⟩
  · exact .inl ⟨_, _, rfl, rfl⟩
  · exact .inr ⟨b, 0, cap, c, 5, (0, 0), rfl, hb, by simp only [Nat.mul_one] at *; omega, h3⟩

theorem sl_to_34 {h : Hp} {len cap : Nat} {a : Addr} {i : Int} (h0 : 0 ≤ i) (h1 : i ≤ (cap : Int)) : rrun Try.prog (Instr.sliceAt 34 (.slice (some a) len cap) none (some (.int .i64 i)) none) h = some (.slice (some a) i.toNat cap) := rr_slice_to und_34 size_5 h0 h1

@[simp] theorem sl_nil_34 {h : Hp} : rrun Try.prog (Instr.sliceAt 34 (.slice none 0 0) none (some (.int .i64 0)) none) h = some (.slice none 0 0) := by kernel_rfl

@[simp] theorem cp_34 {h : Hp} {a : Option Addr} {n c : Nat} : rrun Try.prog (Builtin.cap_ #[34] 3 #[.slice a n c]) h = some (.int .i64 (c : Nat)) := by kernel_rfl

theorem ext_34 {h : Hp} {n : Nat} {K : Value → Hp → Prop} (hn : 0 < n) (hb : n ≤ 1000000)
    (hK : ∀ b cap c, h b = none → n ≤ cap → c.size = cap → K (.slice (some ⟨b, 0, none⟩) n cap) (h.upd b (.cells c 5))) :
    arun Try.prog (Builtin.append_ #[34, 3] 34 #[.slice none 0 0, .int .i64 (n : Int)]) h K :=
  arun_extend_nil und_34 (k := .i64) (by kernel_rfl) size_5 bytes_5 zero_5 (by decide) (by decide) rfl hn (by omega) (fun b cap c h1 h2 h3 => hK b cap c h1 h2 (by simpa using h3))

set_option maxRecDepth 20000 in
theorem grow_spec {h : Hp} {n : Nat} {Q : Value → Hp → Prop} (hb : n ≤ 1000000)
    (hQ : ∀ v h', SlAt h' 5 1 be v [] → (∀ y o, h y = some o → h' y = some o) → (∀ b, blkOf v = some b → h b = none) → Q v h') :
    Ok Try.prog F_slices_Grow_byte_byte #[.slice none 0 0, .int .i64 (n : Int)] h Q := by
  refine slices_Grow_byte_byte_ok (by simp) ?_
  unfold slices_Grow_byte_byte_D
  by_cases h0 : n = 0
  · subst h0
    simp (disch := omega) [slices_Grow_byte_byte_r0, slices_Grow_byte_byte_r1, slices_Grow_byte_byte_r3, slices_Grow_byte_byte_r4, slices_Grow_byte_byte_r6, wrap_i64]
    exact .to _ (.refl _) (hQ _ _ (.inl ⟨rfl, rfl⟩) (fun _ _ h => h) (by simp [blkOf]))
  · have h1 : 0 < n := by omega
    have h2 : ¬ (n : Int) < 0 := by omega
    simp (disch := omega) [slices_Grow_byte_byte_r0, slices_Grow_byte_byte_r1, slices_Grow_byte_byte_r3, slices_Grow_byte_byte_r4, slices_Grow_byte_byte_r5, h1, h2, wrap_i64]
    refine ext_34 h1 hb (fun b cap c hb hc hs => ?_)
    simp (disch := omega) [sl_to_34, slices_Grow_byte_byte_r6]
    refine .to _ (.refl _) (hQ _ _ (.inr ⟨b, cap, c, rfl, by simp, by simp, by omega, fun i x hx => by simp at hx⟩) (fun y o hy => ?_) (fun b' hb' => by cases hb'; exact hb))
    have := ne_new hy hb
    simp [this, hy]
end Go.Proofs.Ytjcecdjbllpmcaa
