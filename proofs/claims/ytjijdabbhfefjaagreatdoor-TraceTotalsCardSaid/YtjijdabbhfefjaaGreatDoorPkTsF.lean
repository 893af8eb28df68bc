/- Own texts joined: TsF, TsG. -/
import Derived.Test.YtjijdabbhfefjaaGreatDoorPkTrF
/- The kernel's reckoning: traces are integers, levels 96 to 109. -/
namespace Go.Proofs.YtjijdabbhfefjaaGreatDoor
open HP
theorem tot_chkF : pairR 96 110 totB = true := by decide +kernel
end Go.Proofs.YtjijdabbhfefjaaGreatDoor

/- The kernel's reckoning: traces are integers, levels 110 to 120. -/
namespace Go.Proofs.YtjijdabbhfefjaaGreatDoor
open HP
theorem tot_chkG : pairR 110 121 totB = true := by decide +kernel
end Go.Proofs.YtjijdabbhfefjaaGreatDoor

