/- Own texts joined: TsH, TsI, TsJ. -/
import Derived.Test.YtjijdabbhfefjaaGreatDoorPkTrF
/- The kernel's reckoning: squares of traces, levels 1 to 55. -/
namespace Go.Proofs.YtjijdabbhfefjaaGreatDoor
open HP
theorem bnd_chkH : pairR 1 56 bndB = true := by decide +kernel
end Go.Proofs.YtjijdabbhfefjaaGreatDoor

/- The kernel's reckoning: squares of traces, levels 56 to 92. -/
namespace Go.Proofs.YtjijdabbhfefjaaGreatDoor
open HP
theorem bnd_chkI : pairR 56 93 bndB = true := by decide +kernel
end Go.Proofs.YtjijdabbhfefjaaGreatDoor

/- The kernel's reckoning: squares of traces, levels 93 to 120. -/
namespace Go.Proofs.YtjijdabbhfefjaaGreatDoor
open HP
theorem bnd_chkJ : pairR 93 121 bndB = true := by decide +kernel
end Go.Proofs.YtjijdabbhfefjaaGreatDoor

