/- Walks: trial division, in arith and in the reference. -/
import Derived.Test.YteamlpflgfmieaaDoorAriB
import Derived.Test.YteamlpflgfmieaaDoorNumA
namespace Go.Proofs.YteamlpflgfmieaaDoor
open Go.RowKit HP

end Go.Proofs.YteamlpflgfmieaaDoor
