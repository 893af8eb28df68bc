/- Walks of arith's Kronecker symbol: the table of trailing zeros, reduced, jacobi, Kronecker. -/
import Derived.Test.YthfnbpnplbbibaaAriA
import Derived.Lib.TrailingZeros
import Derived.Laws.Bits64b
namespace Go.Proofs.Ythfnbpnplbbibaa
open Go.RowKit HP

/-- what the programs ask of the world: nothing (this seat has no table) -/
def TabW (_ : World) : Prop := True
theorem TabW.drewN {w : World} (h : TabW w) (n : Nat) : TabW (w.drewN n) := h

end Go.Proofs.Ythfnbpnplbbibaa
