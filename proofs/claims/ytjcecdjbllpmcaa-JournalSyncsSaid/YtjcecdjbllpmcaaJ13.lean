/- What the arguments of these laws read: their flat parts. -/
import Derived.Test.YtjcecdjbllpmcaaJ12
namespace Go.Proofs.Ytjcecdjbllpmcaa
open Go

def fcKs : List Lk := [.int .i64, .int .u32, .int .u32]

theorem dec_fc {H : Type} {enc : TypeId × Value → H} {w : World} {base : Nat} {spare : Nat → Bool} {held : Bool} (cs : List Value) (h : okLs enc Try.prog w base spare held fcKs cs) : ∃ x : F3, cs = fc x ∧ fGood x := by
  obtain ⟨k, _, rfl, w1, h⟩ := okLs_int h
  obtain ⟨a, _, rfl, w2, h⟩ := okLs_int h
  obtain ⟨n, _, rfl, w3, h⟩ := okLs_int h
  obtain rfl := okLs_nil h
  obtain ⟨a', rfl, ha⟩ := u32_wf w2
  obtain ⟨n', rfl, hn⟩ := u32_wf w3
  exact ⟨⟨k, a', n'⟩, rfl, ⟨ha, hn⟩⟩
end Go.Proofs.Ytjcecdjbllpmcaa
