/- Strings out of bytes, and their comparison. -/
import Derived.Test.YtmbhlbohbpepaaaM13
namespace Go.Proofs.Ytmbhlbohbpepaaa
open Go
set_option linter.unusedSimpArgs false

def be (x : Nat) : List Value := [.int .u8 (x : Nat)]
def mkB (xs : List Nat) : ByteArray := xs.foldl (fun r n => r.push (UInt8.ofNat n)) ByteArray.empty

section
variable {P : Program} {h : Hp}

@[simp] theorem rr_eql_str {t : TypeId} {x y : Operand} {a b : ByteArray} : rrun P (bop .eql t x y (.string a) (.string b)) h = some (.bool (a.toList == b.toList)) := rfl
@[simp] theorem rr_neq_str {t : TypeId} {x y : Operand} {a b : ByteArray} : rrun P (bop .neq t x y (.string a) (.string b)) h = some (.bool (!(a.toList == b.toList))) := rfl

theorem rr_forIn_bytes (f : Value → ByteArray → Sem (ForInStep ByteArray)) (hf : ∀ (n : Nat) (r : ByteArray), rrun P (f (.int .u8 (n : Nat)) r) h = some (.yield (r.push (UInt8.ofNat n)))) :
    ∀ (ns : List Nat) (s : ByteArray), rrun P (forIn (ns.map fun n => Value.int .u8 (n : Nat)) s f) h = some (ns.foldl (fun r n => r.push (UInt8.ofNat n)) s) := by
  intro ns
  induction ns with
  | nil => intro s; simp [rrun_pure]
  | cons n ns ih =>
    intro s
    simp only [List.map_cons, List.forIn_cons, rrun_bnd, hf, Option.bind_some, List.foldl_cons]
    exact ih _

theorem rr_bytesToString {b o len cap : Nat} {xs : List Nat} (hl : ldN h b o len = some (xs.map fun n => Value.int .u8 (n : Nat))) : rrun P (Conv.bytesToString (.slice (some ⟨b, o, none⟩) len cap)) h = some (.string (mkB xs)) := by
  unfold Conv.bytesToString
  simp only [rrun_bnd]
  rw [rr_loadCells, hl]
  simp only [Option.map_some, Option.bind_some, List.forIn_toArray, rrun_bnd]
  rw [rr_forIn_bytes _ (by intro n r; simp [rrun_pure])]
  simp [rrun_pure, mkB]

theorem rr_convert_bytes {src dst e : TypeId} {v : Value} {E : TypeId} {xs : List Nat} (hs : P.underlying src = some (.slice e)) (he : P.underlying e = some (.int .u8)) (hd : P.underlying dst = some .string) (S : SlAt h E 1 be v xs) :
    rrun P (convert src dst v) h = some (.string (mkB xs)) := by
  have key : ∀ a l c, rrun P (convert src dst (.slice a l c)) h = rrun P (Conv.bytesToString (.slice a l c)) h := by
    intro a l c
    unfold convert
    simp only [rrun_bnd, rr_underlying, hs, hd, he, Option.bind_some]
  rcases S with ⟨rfl, rfl⟩ | ⟨b, cap, c, rfl, hb, h1, h2, h3⟩
  · rw [key]; rfl
  · rw [key]
    refine rr_bytesToString ?_
    rw [ldN_of hb _ _ (by omega)]
    congr 1
    refine List.ext_getElem? fun i => ?_
    rw [List.getElem?_take, List.getElem?_map, Nat.mul_one] at *
    split
    · rename_i hi
      obtain ⟨x, hx⟩ : ∃ x, xs[i]? = some x := ⟨_, List.getElem?_eq_getElem hi⟩
      have := h3 i x hx 0 (by omega)
      rw [hx]
      simpa [be] using this
    · rename_i hi
      rw [List.getElem?_eq_none (by omega)]; rfl

theorem arun_convert_bytes {src dst e : TypeId} {v : Value} {E : TypeId} {xs : List Nat} {K : Value → Hp → Prop} (hs : P.underlying src = some (.slice e)) (he : P.underlying e = some (.int .u8)) (hd : P.underlying dst = some .string) (S : SlAt h E 1 be v xs)
    (hK : K (.string (mkB xs)) h) : arun P (convert src dst v) h K := arun_of_rrun _ (rr_convert_bytes hs he hd S) hK
end
end Go.Proofs.Ytmbhlbohbpepaaa
