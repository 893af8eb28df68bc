/- The walk of arith.Divisors. -/
import Derived.Test.YtedfcemebdlgfaaDoorAriO
import Derived.Test.YtedfcemebdlgfaaDoorNumA
import Derived.Test.YtedfcemebdlgfaaDoorRefB
import Derived.Test.YtedfcemebdlgfaaDoorRefC
import Derived.Test.YtedfcemebdlgfaaDoorAriK
import Derived.Test.YtedfcemebdlgfaaDoorRefI
import Derived.Shelf.Small.Bits
import Derived.Shelf.Strconv.Itoa0
import Derived.Shelf.Sort.Plain
import Derived.Test.YtedfcemebdlgfaaDoorProg
import Derived.Sort.OwnSortedInts
namespace Go.Proofs.YtedfcemebdlgfaaDoor
open Go.RowKit HP

theorem addr_add (g k : Nat) : (⟨g, 0, none⟩ : Addr).add k = ⟨g, k, none⟩ := by
  simp only [Addr.add]
  split
  · next h => simp_all
  · simp
end Go.Proofs.YtedfcemebdlgfaaDoor
