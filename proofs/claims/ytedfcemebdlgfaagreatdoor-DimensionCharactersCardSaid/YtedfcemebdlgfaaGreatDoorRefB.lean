/- Walks of the reference: Mod, two, Power, Factor. -/
import Derived.Test.YtedfcemebdlgfaaGreatDoorRefA
namespace Go.Proofs.YtedfcemebdlgfaaGreatDoor
open Go.RowKit HP

/-- a step of repeated squaring -/
theorem pow_step {m out x : Int} {n : Nat} {A : Int} (h : Cong m (out * x ^ n) A) :
    Cong m ((if n % 2 = 1 then out * x % m else out) * (x * x % m) ^ (n / 2)) A := by
  refine Cong.trans ?_ h
  have h1 : Cong m ((x * x % m) ^ (n / 2)) ((x * x) ^ (n / 2)) := (Cong.emod m _).pow _
  split
  · next hn =>
    have e : out * x ^ n = out * x * (x * x) ^ (n / 2) := by
      have : n = n / 2 + n / 2 + 1 := by omega
      conv => lhs; rw [this]
      rw [Int.pow_succ, Int.pow_add, Int.mul_pow]; grind
    rw [e]
    exact (Cong.emod m _).mul h1
  · next hn =>
    have e : out * x ^ n = out * (x * x) ^ (n / 2) := by
      have : n = n / 2 + n / 2 := by omega
      conv => lhs; rw [this]
      rw [Int.pow_add, Int.mul_pow]
    rw [e]
    exact (Cong.refl _ _).mul h1

end Go.Proofs.YtedfcemebdlgfaaGreatDoor
