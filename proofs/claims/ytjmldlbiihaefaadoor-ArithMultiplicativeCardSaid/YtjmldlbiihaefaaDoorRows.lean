/-
  NARROWER THAN 'FOR EVERY INPUT', by the rows' own cells (each row's printed sentence says how): ArithKronecker: laid · ArithReciprocity: laid · ArithPeriod: laid · ArithCrt: laid · ArithGcds: laid · ArithDiscriminants: laid · ArithPrimes: laid · ArithResidues: laid · ArithRoots: laid · ArithFactors: laid · ArithFunctions: laid · ArithMultiplicative: laid.
  DERIVED. THE GIVEN ROWS OF THIS SEAT. 12 by the template 'for every input the law returns true; each argument reads behind the call as it read before'; 0 by the template 'total and deterministic' (their statements: YtjmldlbiihaefaaDoorTotals.lean).
  GIVEN WITH THE SEED: the statements are not yours to turn. If you find one false, say at which input.
  Laid BY PROGRAM, IN A SANDBOX (cutbox-rows.mjs): the forced cells as the released guide's own fill.sh prints them over the translation e0f96e3ede18a1a0… (all of the seat's roots in one cut). By AI agents, Wed Nov 11 2026. No macro, syntax, notation, axiom, sorry.
-/
import Derived.Test.YtjmldlbiihaefaaDoorChecked
import GoSem.Claim
import GoSem.ClaimJoined
import GoSem.ClaimMapViews
import Derived.JoinedTies
import Derived.KernelRfl
namespace Go.Proofs.YtjmldlbiihaefaaDoor
/- THE CELL 'sum', in the pinned program and in every row, IS THE sha256 OF THE DUMP (.gsa) THAT YtjmldlbiihaefaaDoorProg.lean LOADS. Nothing in Lean hashes anything: it is a label: what it is worth is what the hold of that sum in a sandbox is worth. -/
noncomputable def Tryd.pinned : Pinned := { name := "ytjmldlbiihaefaadoor", sum := "e0f96e3ede18a1a01b186719ca9b31327bba918ce4cd4f547a76dd716884148d", checked := Tryd.checked }
namespace Rows
def none {H : Type} : Left H := { results := [], args := [] }

/- WHAT THE LISTED PACKAGE-LEVEL VARIABLES READ AS WHEN THE CALL BEGINS. Each datum BY PROGRAM (the guide's laid-datum.mjs) off the statement by which the dump's own 'gosem.cut.vars' lays the variable. In a bare row this is a premise. The card (YtjmldlbiihaefaaDoorCards.lean) ties it to the program's text. -/
def laid_math_bits_deBruijn64tab {H : Type} : DataW H := .agg [.lit (.int .u8 0), .lit (.int .u8 1), .lit (.int .u8 56), .lit (.int .u8 2), .lit (.int .u8 57), .lit (.int .u8 49), .lit (.int .u8 28), .lit (.int .u8 3), .lit (.int .u8 61), .lit (.int .u8 58), .lit (.int .u8 42), .lit (.int .u8 50), .lit (.int .u8 38), .lit (.int .u8 29), .lit (.int .u8 17), .lit (.int .u8 4), .lit (.int .u8 62), .lit (.int .u8 47), .lit (.int .u8 59), .lit (.int .u8 36), .lit (.int .u8 45), .lit (.int .u8 43), .lit (.int .u8 51), .lit (.int .u8 22), .lit (.int .u8 53), .lit (.int .u8 39), .lit (.int .u8 33), .lit (.int .u8 30), .lit (.int .u8 24), .lit (.int .u8 18), .lit (.int .u8 12), .lit (.int .u8 5), .lit (.int .u8 63), .lit (.int .u8 55), .lit (.int .u8 48), .lit (.int .u8 27), .lit (.int .u8 60), .lit (.int .u8 41), .lit (.int .u8 37), .lit (.int .u8 16), .lit (.int .u8 46), .lit (.int .u8 35), .lit (.int .u8 44), .lit (.int .u8 21), .lit (.int .u8 52), .lit (.int .u8 32), .lit (.int .u8 23), .lit (.int .u8 11), .lit (.int .u8 54), .lit (.int .u8 26), .lit (.int .u8 40), .lit (.int .u8 15), .lit (.int .u8 34), .lit (.int .u8 20), .lit (.int .u8 31), .lit (.int .u8 10), .lit (.int .u8 25), .lit (.int .u8 14), .lit (.int .u8 19), .lit (.int .u8 9), .lit (.int .u8 13), .lit (.int .u8 8), .lit (.int .u8 7), .lit (.int .u8 6)]

/-- 'halfplanelaw03.ArithKronecker': WHATEVER THE INPUT: true; the input reads as it did. -/
def arithKroneckerSpec : ChangeSpec := { name := "arithKronecker", fn := fun _ => fun
  | [d1, d2] => { results := [.lit (.bool true)], args := [d1, d2] }
  | _ => none }
def arithKroneckerRow : OpenClaim := { program := "ytjmldlbiihaefaadoor", sum := "e0f96e3ede18a1a01b186719ca9b31327bba918ce4cd4f547a76dd716884148d", func := "halfplane/halfplanelaw03.ArithKronecker", spec := "arithKronecker", unfollowed := true, recurses := true, named := ["math/bits.deBruijn64tab"], apart := false, laid := [("math/bits.deBruijn64tab", laid_math_bits_deBruijn64tab)] }
def ArithKroneckerSaid : Prop := arithKroneckerRow.holds Tryd.pinned (OpenSpec.ofChange arithKroneckerSpec)

/-- ITS FALSE NEIGHBOUR: 'it returns false'. Refute it at one input. -/
def arithKroneckerWrong : ChangeSpec := { name := "arithKronecker", fn := fun _ => fun
  | [d1, d2] => { results := [.lit (.bool false)], args := [d1, d2] }
  | _ => none }
def ArithKroneckerWrongFalsely : Prop := arithKroneckerRow.holds Tryd.pinned (OpenSpec.ofChange arithKroneckerWrong)

/-- 'halfplanelaw03.ArithReciprocity': WHATEVER THE INPUT: true; the input reads as it did. -/
def arithReciprocitySpec : ChangeSpec := { name := "arithReciprocity", fn := fun _ => fun
  | [d1, d2, d3] => { results := [.lit (.bool true)], args := [d1, d2, d3] }
  | _ => none }
def arithReciprocityRow : OpenClaim := { program := "ytjmldlbiihaefaadoor", sum := "e0f96e3ede18a1a01b186719ca9b31327bba918ce4cd4f547a76dd716884148d", func := "halfplane/halfplanelaw03.ArithReciprocity", spec := "arithReciprocity", unfollowed := true, recurses := true, named := ["math/bits.deBruijn64tab"], apart := false, laid := [("math/bits.deBruijn64tab", laid_math_bits_deBruijn64tab)] }
def ArithReciprocitySaid : Prop := arithReciprocityRow.holds Tryd.pinned (OpenSpec.ofChange arithReciprocitySpec)

/-- ITS FALSE NEIGHBOUR: 'it returns false'. Refute it at one input. -/
def arithReciprocityWrong : ChangeSpec := { name := "arithReciprocity", fn := fun _ => fun
  | [d1, d2, d3] => { results := [.lit (.bool false)], args := [d1, d2, d3] }
  | _ => none }
def ArithReciprocityWrongFalsely : Prop := arithReciprocityRow.holds Tryd.pinned (OpenSpec.ofChange arithReciprocityWrong)

/-- 'halfplanelaw03.ArithPeriod': WHATEVER THE INPUT: true; the input reads as it did. -/
def arithPeriodSpec : ChangeSpec := { name := "arithPeriod", fn := fun _ => fun
  | [d1, d2, d3] => { results := [.lit (.bool true)], args := [d1, d2, d3] }
  | _ => none }
def arithPeriodRow : OpenClaim := { program := "ytjmldlbiihaefaadoor", sum := "e0f96e3ede18a1a01b186719ca9b31327bba918ce4cd4f547a76dd716884148d", func := "halfplane/halfplanelaw03.ArithPeriod", spec := "arithPeriod", unfollowed := true, recurses := true, named := ["math/bits.deBruijn64tab"], apart := false, laid := [("math/bits.deBruijn64tab", laid_math_bits_deBruijn64tab)] }
def ArithPeriodSaid : Prop := arithPeriodRow.holds Tryd.pinned (OpenSpec.ofChange arithPeriodSpec)

/-- ITS FALSE NEIGHBOUR: 'it returns false'. Refute it at one input. -/
def arithPeriodWrong : ChangeSpec := { name := "arithPeriod", fn := fun _ => fun
  | [d1, d2, d3] => { results := [.lit (.bool false)], args := [d1, d2, d3] }
  | _ => none }
def ArithPeriodWrongFalsely : Prop := arithPeriodRow.holds Tryd.pinned (OpenSpec.ofChange arithPeriodWrong)

/-- 'halfplanelaw03.ArithCrt': WHATEVER THE INPUT: true; the input reads as it did. -/
def arithCrtSpec : ChangeSpec := { name := "arithCrt", fn := fun _ => fun
  | [d] => { results := [.lit (.bool true)], args := [d] }
  | _ => none }
def arithCrtRow : OpenClaim := { program := "ytjmldlbiihaefaadoor", sum := "e0f96e3ede18a1a01b186719ca9b31327bba918ce4cd4f547a76dd716884148d", func := "halfplane/halfplanelaw03.ArithCrt", spec := "arithCrt", unfollowed := true, recurses := true, named := ["math/bits.deBruijn64tab"], apart := false, laid := [("math/bits.deBruijn64tab", laid_math_bits_deBruijn64tab)] }
def ArithCrtSaid : Prop := arithCrtRow.holds Tryd.pinned (OpenSpec.ofChange arithCrtSpec)

/-- ITS FALSE NEIGHBOUR: 'it returns false'. Refute it at one input. -/
def arithCrtWrong : ChangeSpec := { name := "arithCrt", fn := fun _ => fun
  | [d] => { results := [.lit (.bool false)], args := [d] }
  | _ => none }
def ArithCrtWrongFalsely : Prop := arithCrtRow.holds Tryd.pinned (OpenSpec.ofChange arithCrtWrong)

/-- 'halfplanelaw03.ArithGcds': WHATEVER THE INPUT: true; the input reads as it did. -/
def arithGcdsSpec : ChangeSpec := { name := "arithGcds", fn := fun _ => fun
  | [d1, d2] => { results := [.lit (.bool true)], args := [d1, d2] }
  | _ => none }
def arithGcdsRow : OpenClaim := { program := "ytjmldlbiihaefaadoor", sum := "e0f96e3ede18a1a01b186719ca9b31327bba918ce4cd4f547a76dd716884148d", func := "halfplane/halfplanelaw03.ArithGcds", spec := "arithGcds", unfollowed := true, recurses := true, named := ["math/bits.deBruijn64tab"], apart := false, laid := [("math/bits.deBruijn64tab", laid_math_bits_deBruijn64tab)] }
def ArithGcdsSaid : Prop := arithGcdsRow.holds Tryd.pinned (OpenSpec.ofChange arithGcdsSpec)

/-- ITS FALSE NEIGHBOUR: 'it returns false'. Refute it at one input. -/
def arithGcdsWrong : ChangeSpec := { name := "arithGcds", fn := fun _ => fun
  | [d1, d2] => { results := [.lit (.bool false)], args := [d1, d2] }
  | _ => none }
def ArithGcdsWrongFalsely : Prop := arithGcdsRow.holds Tryd.pinned (OpenSpec.ofChange arithGcdsWrong)

/-- 'halfplanelaw03.ArithDiscriminants': WHATEVER THE INPUT: true; the input reads as it did. -/
def arithDiscriminantsSpec : ChangeSpec := { name := "arithDiscriminants", fn := fun _ => fun
  | [d] => { results := [.lit (.bool true)], args := [d] }
  | _ => none }
def arithDiscriminantsRow : OpenClaim := { program := "ytjmldlbiihaefaadoor", sum := "e0f96e3ede18a1a01b186719ca9b31327bba918ce4cd4f547a76dd716884148d", func := "halfplane/halfplanelaw03.ArithDiscriminants", spec := "arithDiscriminants", unfollowed := true, recurses := true, named := ["math/bits.deBruijn64tab"], apart := false, laid := [("math/bits.deBruijn64tab", laid_math_bits_deBruijn64tab)] }
def ArithDiscriminantsSaid : Prop := arithDiscriminantsRow.holds Tryd.pinned (OpenSpec.ofChange arithDiscriminantsSpec)

/-- ITS FALSE NEIGHBOUR: 'it returns false'. Refute it at one input. -/
def arithDiscriminantsWrong : ChangeSpec := { name := "arithDiscriminants", fn := fun _ => fun
  | [d] => { results := [.lit (.bool false)], args := [d] }
  | _ => none }
def ArithDiscriminantsWrongFalsely : Prop := arithDiscriminantsRow.holds Tryd.pinned (OpenSpec.ofChange arithDiscriminantsWrong)

/-- 'halfplanelaw03.ArithPrimes': WHATEVER THE INPUT: true; the input reads as it did. -/
def arithPrimesSpec : ChangeSpec := { name := "arithPrimes", fn := fun _ => fun
  | [d1, d2] => { results := [.lit (.bool true)], args := [d1, d2] }
  | _ => none }
def arithPrimesRow : OpenClaim := { program := "ytjmldlbiihaefaadoor", sum := "e0f96e3ede18a1a01b186719ca9b31327bba918ce4cd4f547a76dd716884148d", func := "halfplane/halfplanelaw03.ArithPrimes", spec := "arithPrimes", unfollowed := true, recurses := true, named := ["math/bits.deBruijn64tab"], apart := false, laid := [("math/bits.deBruijn64tab", laid_math_bits_deBruijn64tab)] }
def ArithPrimesSaid : Prop := arithPrimesRow.holds Tryd.pinned (OpenSpec.ofChange arithPrimesSpec)

/-- ITS FALSE NEIGHBOUR: 'it returns false'. Refute it at one input. -/
def arithPrimesWrong : ChangeSpec := { name := "arithPrimes", fn := fun _ => fun
  | [d1, d2] => { results := [.lit (.bool false)], args := [d1, d2] }
  | _ => none }
def ArithPrimesWrongFalsely : Prop := arithPrimesRow.holds Tryd.pinned (OpenSpec.ofChange arithPrimesWrong)

/-- 'halfplanelaw03.ArithResidues': WHATEVER THE INPUT: true; the input reads as it did. -/
def arithResiduesSpec : ChangeSpec := { name := "arithResidues", fn := fun _ => fun
  | [d1, d2, d3] => { results := [.lit (.bool true)], args := [d1, d2, d3] }
  | _ => none }
def arithResiduesRow : OpenClaim := { program := "ytjmldlbiihaefaadoor", sum := "e0f96e3ede18a1a01b186719ca9b31327bba918ce4cd4f547a76dd716884148d", func := "halfplane/halfplanelaw03.ArithResidues", spec := "arithResidues", unfollowed := true, recurses := true, named := ["math/bits.deBruijn64tab"], apart := false, laid := [("math/bits.deBruijn64tab", laid_math_bits_deBruijn64tab)] }
def ArithResiduesSaid : Prop := arithResiduesRow.holds Tryd.pinned (OpenSpec.ofChange arithResiduesSpec)

/-- ITS FALSE NEIGHBOUR: 'it returns false'. Refute it at one input. -/
def arithResiduesWrong : ChangeSpec := { name := "arithResidues", fn := fun _ => fun
  | [d1, d2, d3] => { results := [.lit (.bool false)], args := [d1, d2, d3] }
  | _ => none }
def ArithResiduesWrongFalsely : Prop := arithResiduesRow.holds Tryd.pinned (OpenSpec.ofChange arithResiduesWrong)

/-- 'halfplanelaw03.ArithRoots': WHATEVER THE INPUT: true; the input reads as it did. -/
def arithRootsSpec : ChangeSpec := { name := "arithRoots", fn := fun _ => fun
  | [d1, d2] => { results := [.lit (.bool true)], args := [d1, d2] }
  | _ => none }
def arithRootsRow : OpenClaim := { program := "ytjmldlbiihaefaadoor", sum := "e0f96e3ede18a1a01b186719ca9b31327bba918ce4cd4f547a76dd716884148d", func := "halfplane/halfplanelaw03.ArithRoots", spec := "arithRoots", unfollowed := true, recurses := true, named := ["math/bits.deBruijn64tab"], apart := false, laid := [("math/bits.deBruijn64tab", laid_math_bits_deBruijn64tab)] }
def ArithRootsSaid : Prop := arithRootsRow.holds Tryd.pinned (OpenSpec.ofChange arithRootsSpec)

/-- ITS FALSE NEIGHBOUR: 'it returns false'. Refute it at one input. -/
def arithRootsWrong : ChangeSpec := { name := "arithRoots", fn := fun _ => fun
  | [d1, d2] => { results := [.lit (.bool false)], args := [d1, d2] }
  | _ => none }
def ArithRootsWrongFalsely : Prop := arithRootsRow.holds Tryd.pinned (OpenSpec.ofChange arithRootsWrong)

/-- 'halfplanelaw03.ArithFactors': WHATEVER THE INPUT: true; the input reads as it did. -/
def arithFactorsSpec : ChangeSpec := { name := "arithFactors", fn := fun _ => fun
  | [d] => { results := [.lit (.bool true)], args := [d] }
  | _ => none }
def arithFactorsRow : OpenClaim := { program := "ytjmldlbiihaefaadoor", sum := "e0f96e3ede18a1a01b186719ca9b31327bba918ce4cd4f547a76dd716884148d", func := "halfplane/halfplanelaw03.ArithFactors", spec := "arithFactors", unfollowed := true, recurses := true, named := ["math/bits.deBruijn64tab"], apart := false, laid := [("math/bits.deBruijn64tab", laid_math_bits_deBruijn64tab)] }
def ArithFactorsSaid : Prop := arithFactorsRow.holds Tryd.pinned (OpenSpec.ofChange arithFactorsSpec)

/-- ITS FALSE NEIGHBOUR: 'it returns false'. Refute it at one input. -/
def arithFactorsWrong : ChangeSpec := { name := "arithFactors", fn := fun _ => fun
  | [d] => { results := [.lit (.bool false)], args := [d] }
  | _ => none }
def ArithFactorsWrongFalsely : Prop := arithFactorsRow.holds Tryd.pinned (OpenSpec.ofChange arithFactorsWrong)

/-- 'halfplanelaw03.ArithFunctions': WHATEVER THE INPUT: true; the input reads as it did. -/
def arithFunctionsSpec : ChangeSpec := { name := "arithFunctions", fn := fun _ => fun
  | [d1, d2] => { results := [.lit (.bool true)], args := [d1, d2] }
  | _ => none }
def arithFunctionsRow : OpenClaim := { program := "ytjmldlbiihaefaadoor", sum := "e0f96e3ede18a1a01b186719ca9b31327bba918ce4cd4f547a76dd716884148d", func := "halfplane/halfplanelaw03.ArithFunctions", spec := "arithFunctions", unfollowed := true, recurses := true, named := ["math/bits.deBruijn64tab"], apart := false, laid := [("math/bits.deBruijn64tab", laid_math_bits_deBruijn64tab)] }
def ArithFunctionsSaid : Prop := arithFunctionsRow.holds Tryd.pinned (OpenSpec.ofChange arithFunctionsSpec)

/-- ITS FALSE NEIGHBOUR: 'it returns false'. Refute it at one input. -/
def arithFunctionsWrong : ChangeSpec := { name := "arithFunctions", fn := fun _ => fun
  | [d1, d2] => { results := [.lit (.bool false)], args := [d1, d2] }
  | _ => none }
def ArithFunctionsWrongFalsely : Prop := arithFunctionsRow.holds Tryd.pinned (OpenSpec.ofChange arithFunctionsWrong)

/-- 'halfplanelaw03.ArithMultiplicative': WHATEVER THE INPUT: true; the input reads as it did. -/
def arithMultiplicativeSpec : ChangeSpec := { name := "arithMultiplicative", fn := fun _ => fun
  | [d1, d2] => { results := [.lit (.bool true)], args := [d1, d2] }
  | _ => none }
def arithMultiplicativeRow : OpenClaim := { program := "ytjmldlbiihaefaadoor", sum := "e0f96e3ede18a1a01b186719ca9b31327bba918ce4cd4f547a76dd716884148d", func := "halfplane/halfplanelaw03.ArithMultiplicative", spec := "arithMultiplicative", unfollowed := true, recurses := true, named := ["math/bits.deBruijn64tab"], apart := false, laid := [("math/bits.deBruijn64tab", laid_math_bits_deBruijn64tab)] }
def ArithMultiplicativeSaid : Prop := arithMultiplicativeRow.holds Tryd.pinned (OpenSpec.ofChange arithMultiplicativeSpec)

/-- ITS FALSE NEIGHBOUR: 'it returns false'. Refute it at one input. -/
def arithMultiplicativeWrong : ChangeSpec := { name := "arithMultiplicative", fn := fun _ => fun
  | [d1, d2] => { results := [.lit (.bool false)], args := [d1, d2] }
  | _ => none }
def ArithMultiplicativeWrongFalsely : Prop := arithMultiplicativeRow.holds Tryd.pinned (OpenSpec.ofChange arithMultiplicativeWrong)

/- THE SECOND FORM. 'bulk': how many values and letters a reading holds, each counted each time it is reached (what is shared counts as often as it is met; a slice's spare places count too). A statement '..UptoSaid' is the law's where the arguments, and the package variables that the reading takes, are together of bulk at most 1048576: NARROWER than '..Said'. Prove '..Said' where nothing that the law and all that it calls make is longer than what came in: it says more and counts as full. Else prove '..UptoSaid'. A law counts once. -/
mutual
def uptoBulk {H : Type} : DataW H → Nat
  | .lit (.string bytes) => bytes.length + 1
  | .lit _ => 1
  | .nil => 1
  | .ptr d => uptoBulk d + 1
  | .slice elems spare => uptoBulkAll elems + uptoBulkAll spare + 1
  | .agg parts => uptoBulkAll parts + 1
  | .iface _ d => uptoBulk d + 1
  | .map entries => uptoBulkEntries entries + 1
  | .held _ => 1
def uptoBulkAll {H : Type} : List (DataW H) → Nat
  | [] => 0
  | d :: r => uptoBulk d + uptoBulkAll r
def uptoBulkEntries {H : Type} : List (Lit × DataW H) → Nat
  | [] => 0
  | x :: r => uptoBulkEntry x + uptoBulkEntries r
def uptoBulkEntry {H : Type} : Lit × DataW H → Nat
  | (.string bytes, d) => bytes.length + uptoBulk d + 1
  | (_, d) => uptoBulk d + 1
 end
def uptoSmall : (H : Type) → List (DataW H) → Bool := fun _ ds => decide (uptoBulkAll ds ≤ 1048576)
def OpenSpec.upto (s : _root_.Go.ChangeSpec) : _root_.Go.OpenSpec := { _root_.Go.OpenSpec.ofChange s with cond := some uptoSmall }

/-- 'halfplanelaw03.ArithKronecker', WHERE WHAT IT READS IS OF BULK AT MOST 1048576: true; the input reads as it did. -/
def arithKroneckerUptoRow : OpenClaim := { program := "ytjmldlbiihaefaadoor", sum := "e0f96e3ede18a1a01b186719ca9b31327bba918ce4cd4f547a76dd716884148d", func := "halfplane/halfplanelaw03.ArithKronecker", spec := "arithKronecker", unfollowed := true, recurses := true, named := ["math/bits.deBruijn64tab"], apart := false, laid := [("math/bits.deBruijn64tab", laid_math_bits_deBruijn64tab)], narrowed := true }
def ArithKroneckerUptoSaid : Prop := arithKroneckerUptoRow.holds Tryd.pinned (OpenSpec.upto arithKroneckerSpec)

/-- 'halfplanelaw03.ArithReciprocity', WHERE WHAT IT READS IS OF BULK AT MOST 1048576: true; the input reads as it did. -/
def arithReciprocityUptoRow : OpenClaim := { program := "ytjmldlbiihaefaadoor", sum := "e0f96e3ede18a1a01b186719ca9b31327bba918ce4cd4f547a76dd716884148d", func := "halfplane/halfplanelaw03.ArithReciprocity", spec := "arithReciprocity", unfollowed := true, recurses := true, named := ["math/bits.deBruijn64tab"], apart := false, laid := [("math/bits.deBruijn64tab", laid_math_bits_deBruijn64tab)], narrowed := true }
def ArithReciprocityUptoSaid : Prop := arithReciprocityUptoRow.holds Tryd.pinned (OpenSpec.upto arithReciprocitySpec)

/-- 'halfplanelaw03.ArithPeriod', WHERE WHAT IT READS IS OF BULK AT MOST 1048576: true; the input reads as it did. -/
def arithPeriodUptoRow : OpenClaim := { program := "ytjmldlbiihaefaadoor", sum := "e0f96e3ede18a1a01b186719ca9b31327bba918ce4cd4f547a76dd716884148d", func := "halfplane/halfplanelaw03.ArithPeriod", spec := "arithPeriod", unfollowed := true, recurses := true, named := ["math/bits.deBruijn64tab"], apart := false, laid := [("math/bits.deBruijn64tab", laid_math_bits_deBruijn64tab)], narrowed := true }
def ArithPeriodUptoSaid : Prop := arithPeriodUptoRow.holds Tryd.pinned (OpenSpec.upto arithPeriodSpec)

/-- 'halfplanelaw03.ArithCrt', WHERE WHAT IT READS IS OF BULK AT MOST 1048576: true; the input reads as it did. -/
def arithCrtUptoRow : OpenClaim := { program := "ytjmldlbiihaefaadoor", sum := "e0f96e3ede18a1a01b186719ca9b31327bba918ce4cd4f547a76dd716884148d", func := "halfplane/halfplanelaw03.ArithCrt", spec := "arithCrt", unfollowed := true, recurses := true, named := ["math/bits.deBruijn64tab"], apart := false, laid := [("math/bits.deBruijn64tab", laid_math_bits_deBruijn64tab)], narrowed := true }
def ArithCrtUptoSaid : Prop := arithCrtUptoRow.holds Tryd.pinned (OpenSpec.upto arithCrtSpec)

/-- 'halfplanelaw03.ArithGcds', WHERE WHAT IT READS IS OF BULK AT MOST 1048576: true; the input reads as it did. -/
def arithGcdsUptoRow : OpenClaim := { program := "ytjmldlbiihaefaadoor", sum := "e0f96e3ede18a1a01b186719ca9b31327bba918ce4cd4f547a76dd716884148d", func := "halfplane/halfplanelaw03.ArithGcds", spec := "arithGcds", unfollowed := true, recurses := true, named := ["math/bits.deBruijn64tab"], apart := false, laid := [("math/bits.deBruijn64tab", laid_math_bits_deBruijn64tab)], narrowed := true }
def ArithGcdsUptoSaid : Prop := arithGcdsUptoRow.holds Tryd.pinned (OpenSpec.upto arithGcdsSpec)

/-- 'halfplanelaw03.ArithDiscriminants', WHERE WHAT IT READS IS OF BULK AT MOST 1048576: true; the input reads as it did. -/
def arithDiscriminantsUptoRow : OpenClaim := { program := "ytjmldlbiihaefaadoor", sum := "e0f96e3ede18a1a01b186719ca9b31327bba918ce4cd4f547a76dd716884148d", func := "halfplane/halfplanelaw03.ArithDiscriminants", spec := "arithDiscriminants", unfollowed := true, recurses := true, named := ["math/bits.deBruijn64tab"], apart := false, laid := [("math/bits.deBruijn64tab", laid_math_bits_deBruijn64tab)], narrowed := true }
def ArithDiscriminantsUptoSaid : Prop := arithDiscriminantsUptoRow.holds Tryd.pinned (OpenSpec.upto arithDiscriminantsSpec)

/-- 'halfplanelaw03.ArithPrimes', WHERE WHAT IT READS IS OF BULK AT MOST 1048576: true; the input reads as it did. -/
def arithPrimesUptoRow : OpenClaim := { program := "ytjmldlbiihaefaadoor", sum := "e0f96e3ede18a1a01b186719ca9b31327bba918ce4cd4f547a76dd716884148d", func := "halfplane/halfplanelaw03.ArithPrimes", spec := "arithPrimes", unfollowed := true, recurses := true, named := ["math/bits.deBruijn64tab"], apart := false, laid := [("math/bits.deBruijn64tab", laid_math_bits_deBruijn64tab)], narrowed := true }
def ArithPrimesUptoSaid : Prop := arithPrimesUptoRow.holds Tryd.pinned (OpenSpec.upto arithPrimesSpec)

/-- 'halfplanelaw03.ArithResidues', WHERE WHAT IT READS IS OF BULK AT MOST 1048576: true; the input reads as it did. -/
def arithResiduesUptoRow : OpenClaim := { program := "ytjmldlbiihaefaadoor", sum := "e0f96e3ede18a1a01b186719ca9b31327bba918ce4cd4f547a76dd716884148d", func := "halfplane/halfplanelaw03.ArithResidues", spec := "arithResidues", unfollowed := true, recurses := true, named := ["math/bits.deBruijn64tab"], apart := false, laid := [("math/bits.deBruijn64tab", laid_math_bits_deBruijn64tab)], narrowed := true }
def ArithResiduesUptoSaid : Prop := arithResiduesUptoRow.holds Tryd.pinned (OpenSpec.upto arithResiduesSpec)

/-- 'halfplanelaw03.ArithRoots', WHERE WHAT IT READS IS OF BULK AT MOST 1048576: true; the input reads as it did. -/
def arithRootsUptoRow : OpenClaim := { program := "ytjmldlbiihaefaadoor", sum := "e0f96e3ede18a1a01b186719ca9b31327bba918ce4cd4f547a76dd716884148d", func := "halfplane/halfplanelaw03.ArithRoots", spec := "arithRoots", unfollowed := true, recurses := true, named := ["math/bits.deBruijn64tab"], apart := false, laid := [("math/bits.deBruijn64tab", laid_math_bits_deBruijn64tab)], narrowed := true }
def ArithRootsUptoSaid : Prop := arithRootsUptoRow.holds Tryd.pinned (OpenSpec.upto arithRootsSpec)

/-- 'halfplanelaw03.ArithFactors', WHERE WHAT IT READS IS OF BULK AT MOST 1048576: true; the input reads as it did. -/
def arithFactorsUptoRow : OpenClaim := { program := "ytjmldlbiihaefaadoor", sum := "e0f96e3ede18a1a01b186719ca9b31327bba918ce4cd4f547a76dd716884148d", func := "halfplane/halfplanelaw03.ArithFactors", spec := "arithFactors", unfollowed := true, recurses := true, named := ["math/bits.deBruijn64tab"], apart := false, laid := [("math/bits.deBruijn64tab", laid_math_bits_deBruijn64tab)], narrowed := true }
def ArithFactorsUptoSaid : Prop := arithFactorsUptoRow.holds Tryd.pinned (OpenSpec.upto arithFactorsSpec)

/-- 'halfplanelaw03.ArithFunctions', WHERE WHAT IT READS IS OF BULK AT MOST 1048576: true; the input reads as it did. -/
def arithFunctionsUptoRow : OpenClaim := { program := "ytjmldlbiihaefaadoor", sum := "e0f96e3ede18a1a01b186719ca9b31327bba918ce4cd4f547a76dd716884148d", func := "halfplane/halfplanelaw03.ArithFunctions", spec := "arithFunctions", unfollowed := true, recurses := true, named := ["math/bits.deBruijn64tab"], apart := false, laid := [("math/bits.deBruijn64tab", laid_math_bits_deBruijn64tab)], narrowed := true }
def ArithFunctionsUptoSaid : Prop := arithFunctionsUptoRow.holds Tryd.pinned (OpenSpec.upto arithFunctionsSpec)

/-- 'halfplanelaw03.ArithMultiplicative', WHERE WHAT IT READS IS OF BULK AT MOST 1048576: true; the input reads as it did. -/
def arithMultiplicativeUptoRow : OpenClaim := { program := "ytjmldlbiihaefaadoor", sum := "e0f96e3ede18a1a01b186719ca9b31327bba918ce4cd4f547a76dd716884148d", func := "halfplane/halfplanelaw03.ArithMultiplicative", spec := "arithMultiplicative", unfollowed := true, recurses := true, named := ["math/bits.deBruijn64tab"], apart := false, laid := [("math/bits.deBruijn64tab", laid_math_bits_deBruijn64tab)], narrowed := true }
def ArithMultiplicativeUptoSaid : Prop := arithMultiplicativeUptoRow.holds Tryd.pinned (OpenSpec.upto arithMultiplicativeSpec)

end Rows
end Go.Proofs.YtjmldlbiihaefaaDoor
