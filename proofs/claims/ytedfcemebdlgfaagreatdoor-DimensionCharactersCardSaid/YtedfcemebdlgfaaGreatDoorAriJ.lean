/- Walks: trial division, in arith and in the reference. -/
import Derived.Test.YtedfcemebdlgfaaGreatDoorAriB
import Derived.Test.YtedfcemebdlgfaaGreatDoorNumA
namespace Go.Proofs.YtedfcemebdlgfaaGreatDoor
open Go.RowKit HP

end Go.Proofs.YtedfcemebdlgfaaGreatDoor
