/- Own texts joined: TsA, TsB, TsC. -/
import Derived.Test.YtjijdabbhfefjaaGreatDoorPkTrF
/- The kernel's reckoning: traces are integers, levels 1 to 23. -/
namespace Go.Proofs.YtjijdabbhfefjaaGreatDoor
open HP
theorem tot_chkA : pairR 1 24 totB = true := by decide +kernel
end Go.Proofs.YtjijdabbhfefjaaGreatDoor

/- The kernel's reckoning: traces are integers, levels 24 to 45. -/
namespace Go.Proofs.YtjijdabbhfefjaaGreatDoor
open HP
theorem tot_chkB : pairR 24 46 totB = true := by decide +kernel
end Go.Proofs.YtjijdabbhfefjaaGreatDoor

/- The kernel's reckoning: traces are integers, levels 46 to 65. -/
namespace Go.Proofs.YtjijdabbhfefjaaGreatDoor
open HP
theorem tot_chkC : pairR 46 66 totB = true := by decide +kernel
end Go.Proofs.YtjijdabbhfefjaaGreatDoor

