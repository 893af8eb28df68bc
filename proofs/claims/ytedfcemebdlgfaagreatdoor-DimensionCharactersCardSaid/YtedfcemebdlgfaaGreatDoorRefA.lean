/- Walks of the reference: Gcd, Mod. -/
import Derived.Test.YtedfcemebdlgfaaGreatDoorAriG
namespace Go.Proofs.YtedfcemebdlgfaaGreatDoor
open Go.RowKit HP

theorem u64_abs {a : Int} (h1 : -9223372036854775808 ≤ a) (h2 : a < 0) : IntKind.u64.wrap (-IntKind.u64.wrap a) = (a.natAbs : Int) := by
  rw [u64_neg h1 h2]; omega
theorem gcdW_nat (a b : Int) : gcdW a b = if Nat.gcd a.natAbs b.natAbs = 9223372036854775808 then 0 else (Nat.gcd a.natAbs b.natAbs : Int) := rfl

end Go.Proofs.YtedfcemebdlgfaaGreatDoor
