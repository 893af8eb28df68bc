/- Walks: trial division, in arith and in the reference. -/
import Derived.Test.YtagigjppbabpkaaDoorAriB
import Derived.Test.YtagigjppbabpkaaDoorNumA
namespace Go.Proofs.YtagigjppbabpkaaDoor
open Go.RowKit HP

end Go.Proofs.YtagigjppbabpkaaDoor
