/- What the arguments of these laws read: their flat parts. -/
import Derived.Test.YtmbhlbohbpepaaaP2
import Derived.Test.YtmbhlbohbpepaaaR2
namespace Go.Proofs.Ytmbhlbohbpepaaa
open Go

def rtKs : List Lk := [.int .u32, .int .i64, .int .i64, .int .i64, .int .i64, .int .i64, .int .u16]

theorem dec_rt {H : Type} {enc : TypeId × Value → H} {w : World} {base : Nat} {spare : Nat → Bool} {held : Bool} (cs : List Value) (h : okLs enc Try.prog w base spare held rtKs cs) : ∃ x : Rt, cs = x.enc ∧ x.Good := by
  obtain ⟨a, _, rfl, w1, h⟩ := okLs_int h
  obtain ⟨l, _, rfl, w2, h⟩ := okLs_int h
  obtain ⟨d, _, rfl, w3, h⟩ := okLs_int h
  obtain ⟨ds, _, rfl, w4, h⟩ := okLs_int h
  obtain ⟨m, _, rfl, w5, h⟩ := okLs_int h
  obtain ⟨nx, _, rfl, w6, h⟩ := okLs_int h
  obtain ⟨tg, _, rfl, w7, h⟩ := okLs_int h
  obtain rfl := okLs_nil h
  obtain ⟨a', rfl, ha⟩ := u32_wf w1
  obtain ⟨t', rfl, ht⟩ := u16_wf w7
  exact ⟨⟨a', l, d, ds, m, nx, t'⟩, rfl, ⟨ha, ht⟩⟩
end Go.Proofs.Ytmbhlbohbpepaaa
