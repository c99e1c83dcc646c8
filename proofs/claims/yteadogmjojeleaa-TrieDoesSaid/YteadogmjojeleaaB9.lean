/- What the arguments of these laws read: their flat parts. -/
import Derived.Test.YteadogmjojeleaaB2
namespace Go.Proofs.Yteadogmjojeleaa
open Go

def opKs : List Lk := [.int .i64, .int .u32, .int .i64, .int .i64, .int .u32]

theorem dec_op {H : Type} {enc : TypeId × Value → H} {w : World} {base : Nat} {spare : Nat → Bool} {held : Bool} (cs : List Value) (h : okLs enc Try.prog w base spare held opKs cs) : ∃ x : OpR, cs = x.enc ∧ x.Good := by
  obtain ⟨k, _, rfl, w1, h⟩ := okLs_int h
  obtain ⟨a, _, rfl, w2, h⟩ := okLs_int h
  obtain ⟨n, _, rfl, w3, h⟩ := okLs_int h
  obtain ⟨m, _, rfl, w4, h⟩ := okLs_int h
  obtain ⟨d, _, rfl, w5, h⟩ := okLs_int h
  obtain rfl := okLs_nil h
  obtain ⟨a', rfl, ha⟩ := u32_wf w2
  obtain ⟨d', rfl, hd⟩ := u32_wf w5
  exact ⟨⟨k, a', n, m, d'⟩, rfl, ⟨ha, hd⟩⟩

structure PfR where
  a : Nat
  n : Int
def PfR.enc (x : PfR) : List Value := [.int .u32 x.a, .int .i64 x.n]
def pfKs : List Lk := [.int .u32, .int .i64]

theorem dec_pf {H : Type} {enc : TypeId × Value → H} {w : World} {base : Nat} {spare : Nat → Bool} {held : Bool} (cs : List Value) (h : okLs enc Try.prog w base spare held pfKs cs) : ∃ x : PfR, cs = x.enc ∧ x.a < 2 ^ 32 := by
  obtain ⟨a, _, rfl, w2, h⟩ := okLs_int h
  obtain ⟨n, _, rfl, w3, h⟩ := okLs_int h
  obtain rfl := okLs_nil h
  obtain ⟨a', rfl, ha⟩ := u32_wf w2
  exact ⟨⟨a', n⟩, rfl, ha⟩
end Go.Proofs.Yteadogmjojeleaa
