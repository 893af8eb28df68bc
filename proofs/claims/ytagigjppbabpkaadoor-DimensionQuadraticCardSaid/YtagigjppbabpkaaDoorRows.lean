/-
  NARROWER THAN 'FOR EVERY INPUT', by the rows' own cells (each row's printed sentence says how): DirichletGenerators: laid · DirichletChecks: laid · DirichletQuadratic: laid · DirichletValues: laid · DirichletMultiplies: laid · DirichletExtends: laid · DirichletPrimitive: laid · DirichletAll: laid · DirichletProducts: laid · DirichletOrthogonal: laid · DimensionQuadratic: laid.
  DERIVED. THE GIVEN ROWS OF THIS SEAT. 11 by the template 'for every input the law returns true; each argument reads behind the call as it read before'; 0 by the template 'total and deterministic' (their statements: YtagigjppbabpkaaDoorTotals.lean).
  GIVEN WITH THE SEED: the statements are not yours to turn. If you find one false, say at which input.
  Laid BY PROGRAM, IN A SANDBOX (cutbox-rows.mjs): the forced cells as the released guide's own fill.sh prints them over the translation 6cdf463419769f00… (all of the seat's roots in one cut). By AI agents, Wed Nov 11 2026. No macro, syntax, notation, axiom, sorry.
-/
import Derived.Test.YtagigjppbabpkaaDoorChecked
import GoSem.Claim
import GoSem.ClaimJoined
import GoSem.ClaimMapViews
import Derived.JoinedTies
import Derived.KernelRfl
namespace Go.Proofs.YtagigjppbabpkaaDoor
/- THE CELL 'sum', in the pinned program and in every row, IS THE sha256 OF THE DUMP (.gsa) THAT YtagigjppbabpkaaDoorProg.lean LOADS. Nothing in Lean hashes anything: it is a label: what it is worth is what the hold of that sum in a sandbox is worth. -/
noncomputable def Tryd.pinned : Pinned := { name := "ytagigjppbabpkaadoor", sum := "6cdf463419769f00c5b305713790954a06321b27c58122a87af06afee8b594b2", checked := Tryd.checked }
namespace Rows
def none {H : Type} : Left H := { results := [], args := [] }

/- WHAT THE LISTED PACKAGE-LEVEL VARIABLES READ AS WHEN THE CALL BEGINS. Each datum BY PROGRAM (the guide's laid-datum.mjs) off the statement by which the dump's own 'gosem.cut.vars' lays the variable. In a bare row this is a premise. The card (YtagigjppbabpkaaDoorCards.lean) ties it to the program's text. -/
def laid_math_bits_deBruijn64tab {H : Type} : DataW H := .agg [.lit (.int .u8 0), .lit (.int .u8 1), .lit (.int .u8 56), .lit (.int .u8 2), .lit (.int .u8 57), .lit (.int .u8 49), .lit (.int .u8 28), .lit (.int .u8 3), .lit (.int .u8 61), .lit (.int .u8 58), .lit (.int .u8 42), .lit (.int .u8 50), .lit (.int .u8 38), .lit (.int .u8 29), .lit (.int .u8 17), .lit (.int .u8 4), .lit (.int .u8 62), .lit (.int .u8 47), .lit (.int .u8 59), .lit (.int .u8 36), .lit (.int .u8 45), .lit (.int .u8 43), .lit (.int .u8 51), .lit (.int .u8 22), .lit (.int .u8 53), .lit (.int .u8 39), .lit (.int .u8 33), .lit (.int .u8 30), .lit (.int .u8 24), .lit (.int .u8 18), .lit (.int .u8 12), .lit (.int .u8 5), .lit (.int .u8 63), .lit (.int .u8 55), .lit (.int .u8 48), .lit (.int .u8 27), .lit (.int .u8 60), .lit (.int .u8 41), .lit (.int .u8 37), .lit (.int .u8 16), .lit (.int .u8 46), .lit (.int .u8 35), .lit (.int .u8 44), .lit (.int .u8 21), .lit (.int .u8 52), .lit (.int .u8 32), .lit (.int .u8 23), .lit (.int .u8 11), .lit (.int .u8 54), .lit (.int .u8 26), .lit (.int .u8 40), .lit (.int .u8 15), .lit (.int .u8 34), .lit (.int .u8 20), .lit (.int .u8 31), .lit (.int .u8 10), .lit (.int .u8 25), .lit (.int .u8 14), .lit (.int .u8 19), .lit (.int .u8 9), .lit (.int .u8 13), .lit (.int .u8 8), .lit (.int .u8 7), .lit (.int .u8 6)]

/-- 'halfplanelaw28.DirichletGenerators': WHATEVER THE INPUT: true; the input reads as it did. -/
def dirichletGeneratorsSpec : ChangeSpec := { name := "dirichletGenerators", fn := fun _ => fun
  | [d] => { results := [.lit (.bool true)], args := [d] }
  | _ => none }
def dirichletGeneratorsRow : OpenClaim := { program := "ytagigjppbabpkaadoor", sum := "6cdf463419769f00c5b305713790954a06321b27c58122a87af06afee8b594b2", func := "halfplane/halfplanelaw28.DirichletGenerators", spec := "dirichletGenerators", unfollowed := true, recurses := true, named := ["math/bits.deBruijn64tab"], apart := false, laid := [("math/bits.deBruijn64tab", laid_math_bits_deBruijn64tab)] }
def DirichletGeneratorsSaid : Prop := dirichletGeneratorsRow.holds Tryd.pinned (OpenSpec.ofChange dirichletGeneratorsSpec)

/-- ITS FALSE NEIGHBOUR: 'it returns false'. Refute it at one input. -/
def dirichletGeneratorsWrong : ChangeSpec := { name := "dirichletGenerators", fn := fun _ => fun
  | [d] => { results := [.lit (.bool false)], args := [d] }
  | _ => none }
def DirichletGeneratorsWrongFalsely : Prop := dirichletGeneratorsRow.holds Tryd.pinned (OpenSpec.ofChange dirichletGeneratorsWrong)

/-- 'halfplanelaw28.DirichletChecks': WHATEVER THE INPUT: true; the input reads as it did. -/
def dirichletChecksSpec : ChangeSpec := { name := "dirichletChecks", fn := fun _ => fun
  | [d] => { results := [.lit (.bool true)], args := [d] }
  | _ => none }
def dirichletChecksRow : OpenClaim := { program := "ytagigjppbabpkaadoor", sum := "6cdf463419769f00c5b305713790954a06321b27c58122a87af06afee8b594b2", func := "halfplane/halfplanelaw28.DirichletChecks", spec := "dirichletChecks", unfollowed := true, recurses := true, named := ["math/bits.deBruijn64tab"], apart := false, laid := [("math/bits.deBruijn64tab", laid_math_bits_deBruijn64tab)] }
def DirichletChecksSaid : Prop := dirichletChecksRow.holds Tryd.pinned (OpenSpec.ofChange dirichletChecksSpec)

/-- ITS FALSE NEIGHBOUR: 'it returns false'. Refute it at one input. -/
def dirichletChecksWrong : ChangeSpec := { name := "dirichletChecks", fn := fun _ => fun
  | [d] => { results := [.lit (.bool false)], args := [d] }
  | _ => none }
def DirichletChecksWrongFalsely : Prop := dirichletChecksRow.holds Tryd.pinned (OpenSpec.ofChange dirichletChecksWrong)

/-- 'halfplanelaw28.DirichletQuadratic': WHATEVER THE INPUT: true; the input reads as it did. -/
def dirichletQuadraticSpec : ChangeSpec := { name := "dirichletQuadratic", fn := fun _ => fun
  | [d] => { results := [.lit (.bool true)], args := [d] }
  | _ => none }
def dirichletQuadraticRow : OpenClaim := { program := "ytagigjppbabpkaadoor", sum := "6cdf463419769f00c5b305713790954a06321b27c58122a87af06afee8b594b2", func := "halfplane/halfplanelaw28.DirichletQuadratic", spec := "dirichletQuadratic", unfollowed := true, recurses := true, named := ["math/bits.deBruijn64tab"], apart := false, laid := [("math/bits.deBruijn64tab", laid_math_bits_deBruijn64tab)] }
def DirichletQuadraticSaid : Prop := dirichletQuadraticRow.holds Tryd.pinned (OpenSpec.ofChange dirichletQuadraticSpec)

/-- ITS FALSE NEIGHBOUR: 'it returns false'. Refute it at one input. -/
def dirichletQuadraticWrong : ChangeSpec := { name := "dirichletQuadratic", fn := fun _ => fun
  | [d] => { results := [.lit (.bool false)], args := [d] }
  | _ => none }
def DirichletQuadraticWrongFalsely : Prop := dirichletQuadraticRow.holds Tryd.pinned (OpenSpec.ofChange dirichletQuadraticWrong)

/-- 'halfplanelaw28.DirichletValues': WHATEVER THE INPUT: true; the input reads as it did. -/
def dirichletValuesSpec : ChangeSpec := { name := "dirichletValues", fn := fun _ => fun
  | [d1, d2] => { results := [.lit (.bool true)], args := [d1, d2] }
  | _ => none }
def dirichletValuesRow : OpenClaim := { program := "ytagigjppbabpkaadoor", sum := "6cdf463419769f00c5b305713790954a06321b27c58122a87af06afee8b594b2", func := "halfplane/halfplanelaw28.DirichletValues", spec := "dirichletValues", unfollowed := true, recurses := true, named := ["math/bits.deBruijn64tab"], apart := false, laid := [("math/bits.deBruijn64tab", laid_math_bits_deBruijn64tab)] }
def DirichletValuesSaid : Prop := dirichletValuesRow.holds Tryd.pinned (OpenSpec.ofChange dirichletValuesSpec)

/-- ITS FALSE NEIGHBOUR: 'it returns false'. Refute it at one input. -/
def dirichletValuesWrong : ChangeSpec := { name := "dirichletValues", fn := fun _ => fun
  | [d1, d2] => { results := [.lit (.bool false)], args := [d1, d2] }
  | _ => none }
def DirichletValuesWrongFalsely : Prop := dirichletValuesRow.holds Tryd.pinned (OpenSpec.ofChange dirichletValuesWrong)

/-- 'halfplanelaw28.DirichletMultiplies': WHATEVER THE INPUT: true; the input reads as it did. -/
def dirichletMultipliesSpec : ChangeSpec := { name := "dirichletMultiplies", fn := fun _ => fun
  | [d1, d2, d3] => { results := [.lit (.bool true)], args := [d1, d2, d3] }
  | _ => none }
def dirichletMultipliesRow : OpenClaim := { program := "ytagigjppbabpkaadoor", sum := "6cdf463419769f00c5b305713790954a06321b27c58122a87af06afee8b594b2", func := "halfplane/halfplanelaw28.DirichletMultiplies", spec := "dirichletMultiplies", unfollowed := true, recurses := true, named := ["math/bits.deBruijn64tab"], apart := false, laid := [("math/bits.deBruijn64tab", laid_math_bits_deBruijn64tab)] }
def DirichletMultipliesSaid : Prop := dirichletMultipliesRow.holds Tryd.pinned (OpenSpec.ofChange dirichletMultipliesSpec)

/-- ITS FALSE NEIGHBOUR: 'it returns false'. Refute it at one input. -/
def dirichletMultipliesWrong : ChangeSpec := { name := "dirichletMultiplies", fn := fun _ => fun
  | [d1, d2, d3] => { results := [.lit (.bool false)], args := [d1, d2, d3] }
  | _ => none }
def DirichletMultipliesWrongFalsely : Prop := dirichletMultipliesRow.holds Tryd.pinned (OpenSpec.ofChange dirichletMultipliesWrong)

/-- 'halfplanelaw28.DirichletExtends': WHATEVER THE INPUT: true; the input reads as it did. -/
def dirichletExtendsSpec : ChangeSpec := { name := "dirichletExtends", fn := fun _ => fun
  | [d1, d2, d3] => { results := [.lit (.bool true)], args := [d1, d2, d3] }
  | _ => none }
def dirichletExtendsRow : OpenClaim := { program := "ytagigjppbabpkaadoor", sum := "6cdf463419769f00c5b305713790954a06321b27c58122a87af06afee8b594b2", func := "halfplane/halfplanelaw28.DirichletExtends", spec := "dirichletExtends", unfollowed := true, recurses := true, named := ["math/bits.deBruijn64tab"], apart := false, laid := [("math/bits.deBruijn64tab", laid_math_bits_deBruijn64tab)] }
def DirichletExtendsSaid : Prop := dirichletExtendsRow.holds Tryd.pinned (OpenSpec.ofChange dirichletExtendsSpec)

/-- ITS FALSE NEIGHBOUR: 'it returns false'. Refute it at one input. -/
def dirichletExtendsWrong : ChangeSpec := { name := "dirichletExtends", fn := fun _ => fun
  | [d1, d2, d3] => { results := [.lit (.bool false)], args := [d1, d2, d3] }
  | _ => none }
def DirichletExtendsWrongFalsely : Prop := dirichletExtendsRow.holds Tryd.pinned (OpenSpec.ofChange dirichletExtendsWrong)

/-- 'halfplanelaw28.DirichletPrimitive': WHATEVER THE INPUT: true; the input reads as it did. -/
def dirichletPrimitiveSpec : ChangeSpec := { name := "dirichletPrimitive", fn := fun _ => fun
  | [d] => { results := [.lit (.bool true)], args := [d] }
  | _ => none }
def dirichletPrimitiveRow : OpenClaim := { program := "ytagigjppbabpkaadoor", sum := "6cdf463419769f00c5b305713790954a06321b27c58122a87af06afee8b594b2", func := "halfplane/halfplanelaw28.DirichletPrimitive", spec := "dirichletPrimitive", unfollowed := true, recurses := true, named := ["math/bits.deBruijn64tab"], apart := false, laid := [("math/bits.deBruijn64tab", laid_math_bits_deBruijn64tab)] }
def DirichletPrimitiveSaid : Prop := dirichletPrimitiveRow.holds Tryd.pinned (OpenSpec.ofChange dirichletPrimitiveSpec)

/-- ITS FALSE NEIGHBOUR: 'it returns false'. Refute it at one input. -/
def dirichletPrimitiveWrong : ChangeSpec := { name := "dirichletPrimitive", fn := fun _ => fun
  | [d] => { results := [.lit (.bool false)], args := [d] }
  | _ => none }
def DirichletPrimitiveWrongFalsely : Prop := dirichletPrimitiveRow.holds Tryd.pinned (OpenSpec.ofChange dirichletPrimitiveWrong)

/-- 'halfplanelaw28.DirichletAll': WHATEVER THE INPUT: true; the input reads as it did. -/
def dirichletAllSpec : ChangeSpec := { name := "dirichletAll", fn := fun _ => fun
  | [d] => { results := [.lit (.bool true)], args := [d] }
  | _ => none }
def dirichletAllRow : OpenClaim := { program := "ytagigjppbabpkaadoor", sum := "6cdf463419769f00c5b305713790954a06321b27c58122a87af06afee8b594b2", func := "halfplane/halfplanelaw28.DirichletAll", spec := "dirichletAll", unfollowed := true, recurses := true, named := ["math/bits.deBruijn64tab"], apart := false, laid := [("math/bits.deBruijn64tab", laid_math_bits_deBruijn64tab)] }
def DirichletAllSaid : Prop := dirichletAllRow.holds Tryd.pinned (OpenSpec.ofChange dirichletAllSpec)

/-- ITS FALSE NEIGHBOUR: 'it returns false'. Refute it at one input. -/
def dirichletAllWrong : ChangeSpec := { name := "dirichletAll", fn := fun _ => fun
  | [d] => { results := [.lit (.bool false)], args := [d] }
  | _ => none }
def DirichletAllWrongFalsely : Prop := dirichletAllRow.holds Tryd.pinned (OpenSpec.ofChange dirichletAllWrong)

/-- 'halfplanelaw28.DirichletProducts': WHATEVER THE INPUT: true; the input reads as it did. -/
def dirichletProductsSpec : ChangeSpec := { name := "dirichletProducts", fn := fun _ => fun
  | [d1, d2] => { results := [.lit (.bool true)], args := [d1, d2] }
  | _ => none }
def dirichletProductsRow : OpenClaim := { program := "ytagigjppbabpkaadoor", sum := "6cdf463419769f00c5b305713790954a06321b27c58122a87af06afee8b594b2", func := "halfplane/halfplanelaw28.DirichletProducts", spec := "dirichletProducts", unfollowed := true, recurses := true, named := ["math/bits.deBruijn64tab"], apart := false, laid := [("math/bits.deBruijn64tab", laid_math_bits_deBruijn64tab)] }
def DirichletProductsSaid : Prop := dirichletProductsRow.holds Tryd.pinned (OpenSpec.ofChange dirichletProductsSpec)

/-- ITS FALSE NEIGHBOUR: 'it returns false'. Refute it at one input. -/
def dirichletProductsWrong : ChangeSpec := { name := "dirichletProducts", fn := fun _ => fun
  | [d1, d2] => { results := [.lit (.bool false)], args := [d1, d2] }
  | _ => none }
def DirichletProductsWrongFalsely : Prop := dirichletProductsRow.holds Tryd.pinned (OpenSpec.ofChange dirichletProductsWrong)

/-- 'halfplanelaw28.DirichletOrthogonal': WHATEVER THE INPUT: true; the input reads as it did. -/
def dirichletOrthogonalSpec : ChangeSpec := { name := "dirichletOrthogonal", fn := fun _ => fun
  | [d1, d2] => { results := [.lit (.bool true)], args := [d1, d2] }
  | _ => none }
def dirichletOrthogonalRow : OpenClaim := { program := "ytagigjppbabpkaadoor", sum := "6cdf463419769f00c5b305713790954a06321b27c58122a87af06afee8b594b2", func := "halfplane/halfplanelaw28.DirichletOrthogonal", spec := "dirichletOrthogonal", unfollowed := true, recurses := true, named := ["math/bits.deBruijn64tab"], apart := false, laid := [("math/bits.deBruijn64tab", laid_math_bits_deBruijn64tab)] }
def DirichletOrthogonalSaid : Prop := dirichletOrthogonalRow.holds Tryd.pinned (OpenSpec.ofChange dirichletOrthogonalSpec)

/-- ITS FALSE NEIGHBOUR: 'it returns false'. Refute it at one input. -/
def dirichletOrthogonalWrong : ChangeSpec := { name := "dirichletOrthogonal", fn := fun _ => fun
  | [d1, d2] => { results := [.lit (.bool false)], args := [d1, d2] }
  | _ => none }
def DirichletOrthogonalWrongFalsely : Prop := dirichletOrthogonalRow.holds Tryd.pinned (OpenSpec.ofChange dirichletOrthogonalWrong)

/-- 'halfplanelaw31.DimensionQuadratic': WHATEVER THE INPUT: true; the input reads as it did. -/
def dimensionQuadraticSpec : ChangeSpec := { name := "dimensionQuadratic", fn := fun _ => fun
  | [d] => { results := [.lit (.bool true)], args := [d] }
  | _ => none }
def dimensionQuadraticRow : OpenClaim := { program := "ytagigjppbabpkaadoor", sum := "6cdf463419769f00c5b305713790954a06321b27c58122a87af06afee8b594b2", func := "halfplane/halfplanelaw31.DimensionQuadratic", spec := "dimensionQuadratic", unfollowed := true, recurses := true, named := ["math/bits.deBruijn64tab"], apart := false, laid := [("math/bits.deBruijn64tab", laid_math_bits_deBruijn64tab)] }
def DimensionQuadraticSaid : Prop := dimensionQuadraticRow.holds Tryd.pinned (OpenSpec.ofChange dimensionQuadraticSpec)

/-- ITS FALSE NEIGHBOUR: 'it returns false'. Refute it at one input. -/
def dimensionQuadraticWrong : ChangeSpec := { name := "dimensionQuadratic", fn := fun _ => fun
  | [d] => { results := [.lit (.bool false)], args := [d] }
  | _ => none }
def DimensionQuadraticWrongFalsely : Prop := dimensionQuadraticRow.holds Tryd.pinned (OpenSpec.ofChange dimensionQuadraticWrong)

/- THE SECOND FORM. 'bulk': how many values and letters a reading holds, each counted each time it is reached (what is shared counts as often as it is met; a slice's spare places count too). A statement '..UptoSaid' is the law's where the arguments, and the package variables that the reading takes, are together of bulk at most 1048576: NARROWER than '..Said'. Prove '..Said' where nothing that the law and all that it calls make is longer than what came in: it says more and counts as full. Else prove '..UptoSaid'. A law counts once. -/
mutual
def uptoBulk {H : Type} : DataW H → Nat
  | .lit (.string bytes) => bytes.length + 1
  | .lit _ => 1
  | .nil => 1
  | .ptr d => uptoBulk d + 1
  | .slice elems spare => uptoBulkAll elems + uptoBulkAll spare + 1
  | .agg parts => uptoBulkAll parts + 1
  | .iface _ d => uptoBulk d + 1
  | .map entries => uptoBulkEntries entries + 1
  | .held _ => 1
def uptoBulkAll {H : Type} : List (DataW H) → Nat
  | [] => 0
  | d :: r => uptoBulk d + uptoBulkAll r
def uptoBulkEntries {H : Type} : List (Lit × DataW H) → Nat
  | [] => 0
  | x :: r => uptoBulkEntry x + uptoBulkEntries r
def uptoBulkEntry {H : Type} : Lit × DataW H → Nat
  | (.string bytes, d) => bytes.length + uptoBulk d + 1
  | (_, d) => uptoBulk d + 1
 end
def uptoSmall : (H : Type) → List (DataW H) → Bool := fun _ ds => decide (uptoBulkAll ds ≤ 1048576)
def OpenSpec.upto (s : _root_.Go.ChangeSpec) : _root_.Go.OpenSpec := { _root_.Go.OpenSpec.ofChange s with cond := some uptoSmall }

/-- 'halfplanelaw28.DirichletGenerators', WHERE WHAT IT READS IS OF BULK AT MOST 1048576: true; the input reads as it did. -/
def dirichletGeneratorsUptoRow : OpenClaim := { program := "ytagigjppbabpkaadoor", sum := "6cdf463419769f00c5b305713790954a06321b27c58122a87af06afee8b594b2", func := "halfplane/halfplanelaw28.DirichletGenerators", spec := "dirichletGenerators", unfollowed := true, recurses := true, named := ["math/bits.deBruijn64tab"], apart := false, laid := [("math/bits.deBruijn64tab", laid_math_bits_deBruijn64tab)], narrowed := true }
def DirichletGeneratorsUptoSaid : Prop := dirichletGeneratorsUptoRow.holds Tryd.pinned (OpenSpec.upto dirichletGeneratorsSpec)

/-- 'halfplanelaw28.DirichletChecks', WHERE WHAT IT READS IS OF BULK AT MOST 1048576: true; the input reads as it did. -/
def dirichletChecksUptoRow : OpenClaim := { program := "ytagigjppbabpkaadoor", sum := "6cdf463419769f00c5b305713790954a06321b27c58122a87af06afee8b594b2", func := "halfplane/halfplanelaw28.DirichletChecks", spec := "dirichletChecks", unfollowed := true, recurses := true, named := ["math/bits.deBruijn64tab"], apart := false, laid := [("math/bits.deBruijn64tab", laid_math_bits_deBruijn64tab)], narrowed := true }
def DirichletChecksUptoSaid : Prop := dirichletChecksUptoRow.holds Tryd.pinned (OpenSpec.upto dirichletChecksSpec)

/-- 'halfplanelaw28.DirichletQuadratic', WHERE WHAT IT READS IS OF BULK AT MOST 1048576: true; the input reads as it did. -/
def dirichletQuadraticUptoRow : OpenClaim := { program := "ytagigjppbabpkaadoor", sum := "6cdf463419769f00c5b305713790954a06321b27c58122a87af06afee8b594b2", func := "halfplane/halfplanelaw28.DirichletQuadratic", spec := "dirichletQuadratic", unfollowed := true, recurses := true, named := ["math/bits.deBruijn64tab"], apart := false, laid := [("math/bits.deBruijn64tab", laid_math_bits_deBruijn64tab)], narrowed := true }
def DirichletQuadraticUptoSaid : Prop := dirichletQuadraticUptoRow.holds Tryd.pinned (OpenSpec.upto dirichletQuadraticSpec)

/-- 'halfplanelaw28.DirichletValues', WHERE WHAT IT READS IS OF BULK AT MOST 1048576: true; the input reads as it did. -/
def dirichletValuesUptoRow : OpenClaim := { program := "ytagigjppbabpkaadoor", sum := "6cdf463419769f00c5b305713790954a06321b27c58122a87af06afee8b594b2", func := "halfplane/halfplanelaw28.DirichletValues", spec := "dirichletValues", unfollowed := true, recurses := true, named := ["math/bits.deBruijn64tab"], apart := false, laid := [("math/bits.deBruijn64tab", laid_math_bits_deBruijn64tab)], narrowed := true }
def DirichletValuesUptoSaid : Prop := dirichletValuesUptoRow.holds Tryd.pinned (OpenSpec.upto dirichletValuesSpec)

/-- 'halfplanelaw28.DirichletMultiplies', WHERE WHAT IT READS IS OF BULK AT MOST 1048576: true; the input reads as it did. -/
def dirichletMultipliesUptoRow : OpenClaim := { program := "ytagigjppbabpkaadoor", sum := "6cdf463419769f00c5b305713790954a06321b27c58122a87af06afee8b594b2", func := "halfplane/halfplanelaw28.DirichletMultiplies", spec := "dirichletMultiplies", unfollowed := true, recurses := true, named := ["math/bits.deBruijn64tab"], apart := false, laid := [("math/bits.deBruijn64tab", laid_math_bits_deBruijn64tab)], narrowed := true }
def DirichletMultipliesUptoSaid : Prop := dirichletMultipliesUptoRow.holds Tryd.pinned (OpenSpec.upto dirichletMultipliesSpec)

/-- 'halfplanelaw28.DirichletExtends', WHERE WHAT IT READS IS OF BULK AT MOST 1048576: true; the input reads as it did. -/
def dirichletExtendsUptoRow : OpenClaim := { program := "ytagigjppbabpkaadoor", sum := "6cdf463419769f00c5b305713790954a06321b27c58122a87af06afee8b594b2", func := "halfplane/halfplanelaw28.DirichletExtends", spec := "dirichletExtends", unfollowed := true, recurses := true, named := ["math/bits.deBruijn64tab"], apart := false, laid := [("math/bits.deBruijn64tab", laid_math_bits_deBruijn64tab)], narrowed := true }
def DirichletExtendsUptoSaid : Prop := dirichletExtendsUptoRow.holds Tryd.pinned (OpenSpec.upto dirichletExtendsSpec)

/-- 'halfplanelaw28.DirichletPrimitive', WHERE WHAT IT READS IS OF BULK AT MOST 1048576: true; the input reads as it did. -/
def dirichletPrimitiveUptoRow : OpenClaim := { program := "ytagigjppbabpkaadoor", sum := "6cdf463419769f00c5b305713790954a06321b27c58122a87af06afee8b594b2", func := "halfplane/halfplanelaw28.DirichletPrimitive", spec := "dirichletPrimitive", unfollowed := true, recurses := true, named := ["math/bits.deBruijn64tab"], apart := false, laid := [("math/bits.deBruijn64tab", laid_math_bits_deBruijn64tab)], narrowed := true }
def DirichletPrimitiveUptoSaid : Prop := dirichletPrimitiveUptoRow.holds Tryd.pinned (OpenSpec.upto dirichletPrimitiveSpec)

/-- 'halfplanelaw28.DirichletAll', WHERE WHAT IT READS IS OF BULK AT MOST 1048576: true; the input reads as it did. -/
def dirichletAllUptoRow : OpenClaim := { program := "ytagigjppbabpkaadoor", sum := "6cdf463419769f00c5b305713790954a06321b27c58122a87af06afee8b594b2", func := "halfplane/halfplanelaw28.DirichletAll", spec := "dirichletAll", unfollowed := true, recurses := true, named := ["math/bits.deBruijn64tab"], apart := false, laid := [("math/bits.deBruijn64tab", laid_math_bits_deBruijn64tab)], narrowed := true }
def DirichletAllUptoSaid : Prop := dirichletAllUptoRow.holds Tryd.pinned (OpenSpec.upto dirichletAllSpec)

/-- 'halfplanelaw28.DirichletProducts', WHERE WHAT IT READS IS OF BULK AT MOST 1048576: true; the input reads as it did. -/
def dirichletProductsUptoRow : OpenClaim := { program := "ytagigjppbabpkaadoor", sum := "6cdf463419769f00c5b305713790954a06321b27c58122a87af06afee8b594b2", func := "halfplane/halfplanelaw28.DirichletProducts", spec := "dirichletProducts", unfollowed := true, recurses := true, named := ["math/bits.deBruijn64tab"], apart := false, laid := [("math/bits.deBruijn64tab", laid_math_bits_deBruijn64tab)], narrowed := true }
def DirichletProductsUptoSaid : Prop := dirichletProductsUptoRow.holds Tryd.pinned (OpenSpec.upto dirichletProductsSpec)

/-- 'halfplanelaw28.DirichletOrthogonal', WHERE WHAT IT READS IS OF BULK AT MOST 1048576: true; the input reads as it did. -/
def dirichletOrthogonalUptoRow : OpenClaim := { program := "ytagigjppbabpkaadoor", sum := "6cdf463419769f00c5b305713790954a06321b27c58122a87af06afee8b594b2", func := "halfplane/halfplanelaw28.DirichletOrthogonal", spec := "dirichletOrthogonal", unfollowed := true, recurses := true, named := ["math/bits.deBruijn64tab"], apart := false, laid := [("math/bits.deBruijn64tab", laid_math_bits_deBruijn64tab)], narrowed := true }
def DirichletOrthogonalUptoSaid : Prop := dirichletOrthogonalUptoRow.holds Tryd.pinned (OpenSpec.upto dirichletOrthogonalSpec)

/-- 'halfplanelaw31.DimensionQuadratic', WHERE WHAT IT READS IS OF BULK AT MOST 1048576: true; the input reads as it did. -/
def dimensionQuadraticUptoRow : OpenClaim := { program := "ytagigjppbabpkaadoor", sum := "6cdf463419769f00c5b305713790954a06321b27c58122a87af06afee8b594b2", func := "halfplane/halfplanelaw31.DimensionQuadratic", spec := "dimensionQuadratic", unfollowed := true, recurses := true, named := ["math/bits.deBruijn64tab"], apart := false, laid := [("math/bits.deBruijn64tab", laid_math_bits_deBruijn64tab)], narrowed := true }
def DimensionQuadraticUptoSaid : Prop := dimensionQuadraticUptoRow.holds Tryd.pinned (OpenSpec.upto dimensionQuadraticSpec)

end Rows
end Go.Proofs.YtagigjppbabpkaaDoor
