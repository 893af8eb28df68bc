/- Own texts joined: TsD, TsE. -/
import Derived.Test.YtjijdabbhfefjaaGreatDoorPkTrF
/- The kernel's reckoning: traces are integers, levels 66 to 82. -/
namespace Go.Proofs.YtjijdabbhfefjaaGreatDoor
open HP
theorem tot_chkD : pairR 66 83 totB = true := by decide +kernel
end Go.Proofs.YtjijdabbhfefjaaGreatDoor

/- The kernel's reckoning: traces are integers, levels 83 to 95. -/
namespace Go.Proofs.YtjijdabbhfefjaaGreatDoor
open HP
theorem tot_chkE : pairR 83 96 totB = true := by decide +kernel
end Go.Proofs.YtjijdabbhfefjaaGreatDoor

