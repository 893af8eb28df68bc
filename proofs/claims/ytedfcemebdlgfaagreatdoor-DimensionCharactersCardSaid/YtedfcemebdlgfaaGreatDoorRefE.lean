/- The walk of the reference's Fundamental. -/
import Derived.Test.YtedfcemebdlgfaaGreatDoorRefD
import Derived.Test.YtedfcemebdlgfaaGreatDoorNumA
namespace Go.Proofs.YtedfcemebdlgfaaGreatDoor
open Go.RowKit HP

theorem ret3 {k1 k2 k3 : IntKind} {a b c a' b' c' : Int} (h1 : a = a') (h2 : b = b') (h3 : c = c') :
    Ending.returned (.tuple #[.int k1 a, .int k2 b, .int k3 c]) = .returned (.tuple #[.int k1 a', .int k2 b', .int k3 c']) := by rw [h1, h2, h3]

end Go.Proofs.YtedfcemebdlgfaaGreatDoor
