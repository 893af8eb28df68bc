/- Walks: Inverse, of the program and of the reference. -/
import Derived.Test.YteamlpflgfmieaaDoorRefB
import Derived.Test.YteamlpflgfmieaaDoorNumA
namespace Go.Proofs.YteamlpflgfmieaaDoor
open Go.RowKit HP

theorem ret2 {k1 k2 : IntKind} {a b a' b' : Int} (h1 : a = a') (h2 : b = b') :
    Ending.returned (.tuple #[.int k1 a, .int k2 b]) = .returned (.tuple #[.int k1 a', .int k2 b']) := by rw [h1, h2]

end Go.Proofs.YteamlpflgfmieaaDoor
