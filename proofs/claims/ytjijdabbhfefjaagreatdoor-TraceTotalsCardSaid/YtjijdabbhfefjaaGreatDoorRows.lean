/-
  NARROWER THAN 'FOR EVERY INPUT', by the rows' own cells (each row's printed sentence says how): TraceTerms: laid · TraceTotals: laid · TraceLevelOne: laid · TraceFixed: laid · TraceDimension: laid · TraceMultiplies: laid · TraceSquares: laid · TraceBounds: laid.
  DERIVED. THE GIVEN ROWS OF THIS SEAT. 8 by the template 'for every input the law returns true; each argument reads behind the call as it read before'; 0 by the template 'total and deterministic' (their statements: YtjijdabbhfefjaaGreatDoorTotals.lean).
  GIVEN WITH THE SEED: the statements are not yours to turn. If you find one false, say at which input.
  Laid BY PROGRAM, IN A SANDBOX (cutbox-rows.mjs): the forced cells as the released guide's own fill.sh prints them over the translation 2faed553ee78726f… (all of the seat's roots in one cut). By AI agents, Wed Nov 11 2026. No macro, syntax, notation, axiom, sorry.
-/
import Derived.Test.YtjijdabbhfefjaaGreatDoorChecked
import GoSem.Claim
import GoSem.ClaimJoined
import GoSem.ClaimMapViews
import Derived.JoinedTies
import Derived.KernelRfl
namespace Go.Proofs.YtjijdabbhfefjaaGreatDoor
/- THE CELL 'sum', in the pinned program and in every row, IS THE sha256 OF THE DUMP (.gsa) THAT YtjijdabbhfefjaaGreatDoorProg.lean LOADS. Nothing in Lean hashes anything: it is a label: what it is worth is what the hold of that sum in a sandbox is worth. -/
noncomputable def Tryz.pinned : Pinned := { name := "ytjijdabbhfefjaagreatdoor", sum := "2faed553ee78726fa0207b90d29c19fdaf9057baa0c5e7cb10365be8ce22ec14", checked := Tryz.checked }
namespace Rows
def none {H : Type} : Left H := { results := [], args := [] }

/- WHAT THE LISTED PACKAGE-LEVEL VARIABLES READ AS WHEN THE CALL BEGINS. Each datum BY PROGRAM (the guide's laid-datum.mjs) off the statement by which the dump's own 'gosem.cut.vars' lays the variable. In a bare row this is a premise. The card (YtjijdabbhfefjaaGreatDoorCards.lean) ties it to the program's text. -/
def laid_math_bits_deBruijn64tab {H : Type} : DataW H := .agg [.lit (.int .u8 0), .lit (.int .u8 1), .lit (.int .u8 56), .lit (.int .u8 2), .lit (.int .u8 57), .lit (.int .u8 49), .lit (.int .u8 28), .lit (.int .u8 3), .lit (.int .u8 61), .lit (.int .u8 58), .lit (.int .u8 42), .lit (.int .u8 50), .lit (.int .u8 38), .lit (.int .u8 29), .lit (.int .u8 17), .lit (.int .u8 4), .lit (.int .u8 62), .lit (.int .u8 47), .lit (.int .u8 59), .lit (.int .u8 36), .lit (.int .u8 45), .lit (.int .u8 43), .lit (.int .u8 51), .lit (.int .u8 22), .lit (.int .u8 53), .lit (.int .u8 39), .lit (.int .u8 33), .lit (.int .u8 30), .lit (.int .u8 24), .lit (.int .u8 18), .lit (.int .u8 12), .lit (.int .u8 5), .lit (.int .u8 63), .lit (.int .u8 55), .lit (.int .u8 48), .lit (.int .u8 27), .lit (.int .u8 60), .lit (.int .u8 41), .lit (.int .u8 37), .lit (.int .u8 16), .lit (.int .u8 46), .lit (.int .u8 35), .lit (.int .u8 44), .lit (.int .u8 21), .lit (.int .u8 52), .lit (.int .u8 32), .lit (.int .u8 23), .lit (.int .u8 11), .lit (.int .u8 54), .lit (.int .u8 26), .lit (.int .u8 40), .lit (.int .u8 15), .lit (.int .u8 34), .lit (.int .u8 20), .lit (.int .u8 31), .lit (.int .u8 10), .lit (.int .u8 25), .lit (.int .u8 14), .lit (.int .u8 19), .lit (.int .u8 9), .lit (.int .u8 13), .lit (.int .u8 8), .lit (.int .u8 7), .lit (.int .u8 6)]

/-- 'halfplanelaw32.TraceTerms': WHATEVER THE INPUT: true; the input reads as it did. -/
def traceTermsSpec : ChangeSpec := { name := "traceTerms", fn := fun _ => fun
  | [d1, d2] => { results := [.lit (.bool true)], args := [d1, d2] }
  | _ => none }
def traceTermsRow : OpenClaim := { program := "ytjijdabbhfefjaagreatdoor", sum := "2faed553ee78726fa0207b90d29c19fdaf9057baa0c5e7cb10365be8ce22ec14", func := "halfplane/halfplanelaw32.TraceTerms", spec := "traceTerms", unfollowed := true, recurses := true, named := ["math/bits.deBruijn64tab", "math/bits.overflowError"], apart := false, laid := [("math/bits.deBruijn64tab", laid_math_bits_deBruijn64tab)] }
def TraceTermsSaid : Prop := traceTermsRow.holds Tryz.pinned (OpenSpec.ofChange traceTermsSpec)

/-- ITS FALSE NEIGHBOUR: 'it returns false'. Refute it at one input. -/
def traceTermsWrong : ChangeSpec := { name := "traceTerms", fn := fun _ => fun
  | [d1, d2] => { results := [.lit (.bool false)], args := [d1, d2] }
  | _ => none }
def TraceTermsWrongFalsely : Prop := traceTermsRow.holds Tryz.pinned (OpenSpec.ofChange traceTermsWrong)

/-- 'halfplanelaw32.TraceTotals': WHATEVER THE INPUT: true; the input reads as it did. -/
def traceTotalsSpec : ChangeSpec := { name := "traceTotals", fn := fun _ => fun
  | [d1, d2] => { results := [.lit (.bool true)], args := [d1, d2] }
  | _ => none }
def traceTotalsRow : OpenClaim := { program := "ytjijdabbhfefjaagreatdoor", sum := "2faed553ee78726fa0207b90d29c19fdaf9057baa0c5e7cb10365be8ce22ec14", func := "halfplane/halfplanelaw32.TraceTotals", spec := "traceTotals", unfollowed := true, recurses := true, named := ["math/bits.deBruijn64tab", "math/bits.overflowError"], apart := false, laid := [("math/bits.deBruijn64tab", laid_math_bits_deBruijn64tab)] }
def TraceTotalsSaid : Prop := traceTotalsRow.holds Tryz.pinned (OpenSpec.ofChange traceTotalsSpec)

/-- ITS FALSE NEIGHBOUR: 'it returns false'. Refute it at one input. -/
def traceTotalsWrong : ChangeSpec := { name := "traceTotals", fn := fun _ => fun
  | [d1, d2] => { results := [.lit (.bool false)], args := [d1, d2] }
  | _ => none }
def TraceTotalsWrongFalsely : Prop := traceTotalsRow.holds Tryz.pinned (OpenSpec.ofChange traceTotalsWrong)

/-- 'halfplanelaw32.TraceLevelOne': WHATEVER THE INPUT: true; the input reads as it did. -/
def traceLevelOneSpec : ChangeSpec := { name := "traceLevelOne", fn := fun _ => fun
  | [d1, d2] => { results := [.lit (.bool true)], args := [d1, d2] }
  | _ => none }
def traceLevelOneRow : OpenClaim := { program := "ytjijdabbhfefjaagreatdoor", sum := "2faed553ee78726fa0207b90d29c19fdaf9057baa0c5e7cb10365be8ce22ec14", func := "halfplane/halfplanelaw32.TraceLevelOne", spec := "traceLevelOne", unfollowed := true, recurses := true, named := ["math/bits.deBruijn64tab", "math/bits.overflowError"], apart := false, laid := [("math/bits.deBruijn64tab", laid_math_bits_deBruijn64tab)] }
def TraceLevelOneSaid : Prop := traceLevelOneRow.holds Tryz.pinned (OpenSpec.ofChange traceLevelOneSpec)

/-- ITS FALSE NEIGHBOUR: 'it returns false'. Refute it at one input. -/
def traceLevelOneWrong : ChangeSpec := { name := "traceLevelOne", fn := fun _ => fun
  | [d1, d2] => { results := [.lit (.bool false)], args := [d1, d2] }
  | _ => none }
def TraceLevelOneWrongFalsely : Prop := traceLevelOneRow.holds Tryz.pinned (OpenSpec.ofChange traceLevelOneWrong)

/-- 'halfplanelaw32.TraceFixed': WHATEVER THE INPUT: true; the input reads as it did. -/
def traceFixedSpec : ChangeSpec := { name := "traceFixed", fn := fun _ => fun
  | [d] => { results := [.lit (.bool true)], args := [d] }
  | _ => none }
def traceFixedRow : OpenClaim := { program := "ytjijdabbhfefjaagreatdoor", sum := "2faed553ee78726fa0207b90d29c19fdaf9057baa0c5e7cb10365be8ce22ec14", func := "halfplane/halfplanelaw32.TraceFixed", spec := "traceFixed", unfollowed := true, recurses := true, named := ["math/bits.deBruijn64tab", "math/bits.overflowError"], apart := false, laid := [("math/bits.deBruijn64tab", laid_math_bits_deBruijn64tab)] }
def TraceFixedSaid : Prop := traceFixedRow.holds Tryz.pinned (OpenSpec.ofChange traceFixedSpec)

/-- ITS FALSE NEIGHBOUR: 'it returns false'. Refute it at one input. -/
def traceFixedWrong : ChangeSpec := { name := "traceFixed", fn := fun _ => fun
  | [d] => { results := [.lit (.bool false)], args := [d] }
  | _ => none }
def TraceFixedWrongFalsely : Prop := traceFixedRow.holds Tryz.pinned (OpenSpec.ofChange traceFixedWrong)

/-- 'halfplanelaw32.TraceDimension': WHATEVER THE INPUT: true; the input reads as it did. -/
def traceDimensionSpec : ChangeSpec := { name := "traceDimension", fn := fun _ => fun
  | [d] => { results := [.lit (.bool true)], args := [d] }
  | _ => none }
def traceDimensionRow : OpenClaim := { program := "ytjijdabbhfefjaagreatdoor", sum := "2faed553ee78726fa0207b90d29c19fdaf9057baa0c5e7cb10365be8ce22ec14", func := "halfplane/halfplanelaw32.TraceDimension", spec := "traceDimension", unfollowed := true, recurses := true, named := ["math/bits.deBruijn64tab", "math/bits.overflowError"], apart := false, laid := [("math/bits.deBruijn64tab", laid_math_bits_deBruijn64tab)] }
def TraceDimensionSaid : Prop := traceDimensionRow.holds Tryz.pinned (OpenSpec.ofChange traceDimensionSpec)

/-- ITS FALSE NEIGHBOUR: 'it returns false'. Refute it at one input. -/
def traceDimensionWrong : ChangeSpec := { name := "traceDimension", fn := fun _ => fun
  | [d] => { results := [.lit (.bool false)], args := [d] }
  | _ => none }
def TraceDimensionWrongFalsely : Prop := traceDimensionRow.holds Tryz.pinned (OpenSpec.ofChange traceDimensionWrong)

/-- 'halfplanelaw32.TraceMultiplies': WHATEVER THE INPUT: true; the input reads as it did. -/
def traceMultipliesSpec : ChangeSpec := { name := "traceMultiplies", fn := fun _ => fun
  | [d1, d2, d3] => { results := [.lit (.bool true)], args := [d1, d2, d3] }
  | _ => none }
def traceMultipliesRow : OpenClaim := { program := "ytjijdabbhfefjaagreatdoor", sum := "2faed553ee78726fa0207b90d29c19fdaf9057baa0c5e7cb10365be8ce22ec14", func := "halfplane/halfplanelaw32.TraceMultiplies", spec := "traceMultiplies", unfollowed := true, recurses := true, named := ["math/bits.deBruijn64tab", "math/bits.overflowError"], apart := false, laid := [("math/bits.deBruijn64tab", laid_math_bits_deBruijn64tab)] }
def TraceMultipliesSaid : Prop := traceMultipliesRow.holds Tryz.pinned (OpenSpec.ofChange traceMultipliesSpec)

/-- ITS FALSE NEIGHBOUR: 'it returns false'. Refute it at one input. -/
def traceMultipliesWrong : ChangeSpec := { name := "traceMultiplies", fn := fun _ => fun
  | [d1, d2, d3] => { results := [.lit (.bool false)], args := [d1, d2, d3] }
  | _ => none }
def TraceMultipliesWrongFalsely : Prop := traceMultipliesRow.holds Tryz.pinned (OpenSpec.ofChange traceMultipliesWrong)

/-- 'halfplanelaw32.TraceSquares': WHATEVER THE INPUT: true; the input reads as it did. -/
def traceSquaresSpec : ChangeSpec := { name := "traceSquares", fn := fun _ => fun
  | [d1, d2] => { results := [.lit (.bool true)], args := [d1, d2] }
  | _ => none }
def traceSquaresRow : OpenClaim := { program := "ytjijdabbhfefjaagreatdoor", sum := "2faed553ee78726fa0207b90d29c19fdaf9057baa0c5e7cb10365be8ce22ec14", func := "halfplane/halfplanelaw32.TraceSquares", spec := "traceSquares", unfollowed := true, recurses := true, named := ["math/bits.deBruijn64tab", "math/bits.overflowError"], apart := false, laid := [("math/bits.deBruijn64tab", laid_math_bits_deBruijn64tab)] }
def TraceSquaresSaid : Prop := traceSquaresRow.holds Tryz.pinned (OpenSpec.ofChange traceSquaresSpec)

/-- ITS FALSE NEIGHBOUR: 'it returns false'. Refute it at one input. -/
def traceSquaresWrong : ChangeSpec := { name := "traceSquares", fn := fun _ => fun
  | [d1, d2] => { results := [.lit (.bool false)], args := [d1, d2] }
  | _ => none }
def TraceSquaresWrongFalsely : Prop := traceSquaresRow.holds Tryz.pinned (OpenSpec.ofChange traceSquaresWrong)

/-- 'halfplanelaw32.TraceBounds': WHATEVER THE INPUT: true; the input reads as it did. -/
def traceBoundsSpec : ChangeSpec := { name := "traceBounds", fn := fun _ => fun
  | [d1, d2] => { results := [.lit (.bool true)], args := [d1, d2] }
  | _ => none }
def traceBoundsRow : OpenClaim := { program := "ytjijdabbhfefjaagreatdoor", sum := "2faed553ee78726fa0207b90d29c19fdaf9057baa0c5e7cb10365be8ce22ec14", func := "halfplane/halfplanelaw32.TraceBounds", spec := "traceBounds", unfollowed := true, recurses := true, named := ["math/bits.deBruijn64tab", "math/bits.overflowError"], apart := false, laid := [("math/bits.deBruijn64tab", laid_math_bits_deBruijn64tab)] }
def TraceBoundsSaid : Prop := traceBoundsRow.holds Tryz.pinned (OpenSpec.ofChange traceBoundsSpec)

/-- ITS FALSE NEIGHBOUR: 'it returns false'. Refute it at one input. -/
def traceBoundsWrong : ChangeSpec := { name := "traceBounds", fn := fun _ => fun
  | [d1, d2] => { results := [.lit (.bool false)], args := [d1, d2] }
  | _ => none }
def TraceBoundsWrongFalsely : Prop := traceBoundsRow.holds Tryz.pinned (OpenSpec.ofChange traceBoundsWrong)

/- THE SECOND FORM. 'bulk': how many values and letters a reading holds, each counted each time it is reached (what is shared counts as often as it is met; a slice's spare places count too). A statement '..UptoSaid' is the law's where the arguments, and the package variables that the reading takes, are together of bulk at most 1048576: NARROWER than '..Said'. Prove '..Said' where nothing that the law and all that it calls make is longer than what came in: it says more and counts as full. Else prove '..UptoSaid'. A law counts once. -/
mutual
def uptoBulk {H : Type} : DataW H → Nat
  | .lit (.string bytes) => bytes.length + 1
  | .lit _ => 1
  | .nil => 1
  | .ptr d => uptoBulk d + 1
  | .slice elems spare => uptoBulkAll elems + uptoBulkAll spare + 1
  | .agg parts => uptoBulkAll parts + 1
  | .iface _ d => uptoBulk d + 1
  | .map entries => uptoBulkEntries entries + 1
  | .held _ => 1
def uptoBulkAll {H : Type} : List (DataW H) → Nat
  | [] => 0
  | d :: r => uptoBulk d + uptoBulkAll r
def uptoBulkEntries {H : Type} : List (Lit × DataW H) → Nat
  | [] => 0
  | x :: r => uptoBulkEntry x + uptoBulkEntries r
def uptoBulkEntry {H : Type} : Lit × DataW H → Nat
  | (.string bytes, d) => bytes.length + uptoBulk d + 1
  | (_, d) => uptoBulk d + 1
 end
def uptoSmall : (H : Type) → List (DataW H) → Bool := fun _ ds => decide (uptoBulkAll ds ≤ 1048576)
def OpenSpec.upto (s : _root_.Go.ChangeSpec) : _root_.Go.OpenSpec := { _root_.Go.OpenSpec.ofChange s with cond := some uptoSmall }

/-- 'halfplanelaw32.TraceTerms', WHERE WHAT IT READS IS OF BULK AT MOST 1048576: true; the input reads as it did. -/
def traceTermsUptoRow : OpenClaim := { program := "ytjijdabbhfefjaagreatdoor", sum := "2faed553ee78726fa0207b90d29c19fdaf9057baa0c5e7cb10365be8ce22ec14", func := "halfplane/halfplanelaw32.TraceTerms", spec := "traceTerms", unfollowed := true, recurses := true, named := ["math/bits.deBruijn64tab", "math/bits.overflowError"], apart := false, laid := [("math/bits.deBruijn64tab", laid_math_bits_deBruijn64tab)], narrowed := true }
def TraceTermsUptoSaid : Prop := traceTermsUptoRow.holds Tryz.pinned (OpenSpec.upto traceTermsSpec)

/-- 'halfplanelaw32.TraceTotals', WHERE WHAT IT READS IS OF BULK AT MOST 1048576: true; the input reads as it did. -/
def traceTotalsUptoRow : OpenClaim := { program := "ytjijdabbhfefjaagreatdoor", sum := "2faed553ee78726fa0207b90d29c19fdaf9057baa0c5e7cb10365be8ce22ec14", func := "halfplane/halfplanelaw32.TraceTotals", spec := "traceTotals", unfollowed := true, recurses := true, named := ["math/bits.deBruijn64tab", "math/bits.overflowError"], apart := false, laid := [("math/bits.deBruijn64tab", laid_math_bits_deBruijn64tab)], narrowed := true }
def TraceTotalsUptoSaid : Prop := traceTotalsUptoRow.holds Tryz.pinned (OpenSpec.upto traceTotalsSpec)

/-- 'halfplanelaw32.TraceLevelOne', WHERE WHAT IT READS IS OF BULK AT MOST 1048576: true; the input reads as it did. -/
def traceLevelOneUptoRow : OpenClaim := { program := "ytjijdabbhfefjaagreatdoor", sum := "2faed553ee78726fa0207b90d29c19fdaf9057baa0c5e7cb10365be8ce22ec14", func := "halfplane/halfplanelaw32.TraceLevelOne", spec := "traceLevelOne", unfollowed := true, recurses := true, named := ["math/bits.deBruijn64tab", "math/bits.overflowError"], apart := false, laid := [("math/bits.deBruijn64tab", laid_math_bits_deBruijn64tab)], narrowed := true }
def TraceLevelOneUptoSaid : Prop := traceLevelOneUptoRow.holds Tryz.pinned (OpenSpec.upto traceLevelOneSpec)

/-- 'halfplanelaw32.TraceFixed', WHERE WHAT IT READS IS OF BULK AT MOST 1048576: true; the input reads as it did. -/
def traceFixedUptoRow : OpenClaim := { program := "ytjijdabbhfefjaagreatdoor", sum := "2faed553ee78726fa0207b90d29c19fdaf9057baa0c5e7cb10365be8ce22ec14", func := "halfplane/halfplanelaw32.TraceFixed", spec := "traceFixed", unfollowed := true, recurses := true, named := ["math/bits.deBruijn64tab", "math/bits.overflowError"], apart := false, laid := [("math/bits.deBruijn64tab", laid_math_bits_deBruijn64tab)], narrowed := true }
def TraceFixedUptoSaid : Prop := traceFixedUptoRow.holds Tryz.pinned (OpenSpec.upto traceFixedSpec)

/-- 'halfplanelaw32.TraceDimension', WHERE WHAT IT READS IS OF BULK AT MOST 1048576: true; the input reads as it did. -/
def traceDimensionUptoRow : OpenClaim := { program := "ytjijdabbhfefjaagreatdoor", sum := "2faed553ee78726fa0207b90d29c19fdaf9057baa0c5e7cb10365be8ce22ec14", func := "halfplane/halfplanelaw32.TraceDimension", spec := "traceDimension", unfollowed := true, recurses := true, named := ["math/bits.deBruijn64tab", "math/bits.overflowError"], apart := false, laid := [("math/bits.deBruijn64tab", laid_math_bits_deBruijn64tab)], narrowed := true }
def TraceDimensionUptoSaid : Prop := traceDimensionUptoRow.holds Tryz.pinned (OpenSpec.upto traceDimensionSpec)

/-- 'halfplanelaw32.TraceMultiplies', WHERE WHAT IT READS IS OF BULK AT MOST 1048576: true; the input reads as it did. -/
def traceMultipliesUptoRow : OpenClaim := { program := "ytjijdabbhfefjaagreatdoor", sum := "2faed553ee78726fa0207b90d29c19fdaf9057baa0c5e7cb10365be8ce22ec14", func := "halfplane/halfplanelaw32.TraceMultiplies", spec := "traceMultiplies", unfollowed := true, recurses := true, named := ["math/bits.deBruijn64tab", "math/bits.overflowError"], apart := false, laid := [("math/bits.deBruijn64tab", laid_math_bits_deBruijn64tab)], narrowed := true }
def TraceMultipliesUptoSaid : Prop := traceMultipliesUptoRow.holds Tryz.pinned (OpenSpec.upto traceMultipliesSpec)

/-- 'halfplanelaw32.TraceSquares', WHERE WHAT IT READS IS OF BULK AT MOST 1048576: true; the input reads as it did. -/
def traceSquaresUptoRow : OpenClaim := { program := "ytjijdabbhfefjaagreatdoor", sum := "2faed553ee78726fa0207b90d29c19fdaf9057baa0c5e7cb10365be8ce22ec14", func := "halfplane/halfplanelaw32.TraceSquares", spec := "traceSquares", unfollowed := true, recurses := true, named := ["math/bits.deBruijn64tab", "math/bits.overflowError"], apart := false, laid := [("math/bits.deBruijn64tab", laid_math_bits_deBruijn64tab)], narrowed := true }
def TraceSquaresUptoSaid : Prop := traceSquaresUptoRow.holds Tryz.pinned (OpenSpec.upto traceSquaresSpec)

/-- 'halfplanelaw32.TraceBounds', WHERE WHAT IT READS IS OF BULK AT MOST 1048576: true; the input reads as it did. -/
def traceBoundsUptoRow : OpenClaim := { program := "ytjijdabbhfefjaagreatdoor", sum := "2faed553ee78726fa0207b90d29c19fdaf9057baa0c5e7cb10365be8ce22ec14", func := "halfplane/halfplanelaw32.TraceBounds", spec := "traceBounds", unfollowed := true, recurses := true, named := ["math/bits.deBruijn64tab", "math/bits.overflowError"], apart := false, laid := [("math/bits.deBruijn64tab", laid_math_bits_deBruijn64tab)], narrowed := true }
def TraceBoundsUptoSaid : Prop := traceBoundsUptoRow.holds Tryz.pinned (OpenSpec.upto traceBoundsSpec)

end Rows
end Go.Proofs.YtjijdabbhfefjaaGreatDoor
