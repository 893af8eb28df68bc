/-
  NARROWER THAN 'FOR EVERY INPUT', by the rows' own cells (each row's printed sentence says how): DimensionChecks: laid · DimensionOld: laid · DimensionFormulas: laid · DimensionLevelOne: laid · DimensionSpaces: laid · DimensionGenus: laid · DimensionSignature: laid.
  DERIVED. THE GIVEN ROWS OF THIS SEAT. 7 by the template 'for every input the law returns true; each argument reads behind the call as it read before'; 0 by the template 'total and deterministic' (their statements: YteamlpflgfmieaaDoorTotals.lean).
  GIVEN WITH THE SEED: the statements are not yours to turn. If you find one false, say at which input.
  Laid BY PROGRAM, IN A SANDBOX (cutbox-rows.mjs): the forced cells as the released guide's own fill.sh prints them over the translation 1ec3d2a1f06c872d… (all of the seat's roots in one cut). By AI agents, Wed Nov 11 2026. No macro, syntax, notation, axiom, sorry.
-/
import Derived.Test.YteamlpflgfmieaaDoorChecked
import GoSem.Claim
import GoSem.ClaimJoined
import GoSem.ClaimMapViews
import Derived.JoinedTies
import Derived.KernelRfl
namespace Go.Proofs.YteamlpflgfmieaaDoor
/- THE CELL 'sum', in the pinned program and in every row, IS THE sha256 OF THE DUMP (.gsa) THAT YteamlpflgfmieaaDoorProg.lean LOADS. Nothing in Lean hashes anything: it is a label: what it is worth is what the hold of that sum in a sandbox is worth. -/
noncomputable def Tryd.pinned : Pinned := { name := "yteamlpflgfmieaadoor", sum := "1ec3d2a1f06c872d49bb92fd6206bb895453c7abe744d2de07963a55d22c6ad0", checked := Tryd.checked }
namespace Rows
def none {H : Type} : Left H := { results := [], args := [] }

/- WHAT THE LISTED PACKAGE-LEVEL VARIABLES READ AS WHEN THE CALL BEGINS. Each datum BY PROGRAM (the guide's laid-datum.mjs) off the statement by which the dump's own 'gosem.cut.vars' lays the variable. In a bare row this is a premise. The card (YteamlpflgfmieaaDoorCards.lean) ties it to the program's text. -/
def laid_math_bits_deBruijn64tab {H : Type} : DataW H := .agg [.lit (.int .u8 0), .lit (.int .u8 1), .lit (.int .u8 56), .lit (.int .u8 2), .lit (.int .u8 57), .lit (.int .u8 49), .lit (.int .u8 28), .lit (.int .u8 3), .lit (.int .u8 61), .lit (.int .u8 58), .lit (.int .u8 42), .lit (.int .u8 50), .lit (.int .u8 38), .lit (.int .u8 29), .lit (.int .u8 17), .lit (.int .u8 4), .lit (.int .u8 62), .lit (.int .u8 47), .lit (.int .u8 59), .lit (.int .u8 36), .lit (.int .u8 45), .lit (.int .u8 43), .lit (.int .u8 51), .lit (.int .u8 22), .lit (.int .u8 53), .lit (.int .u8 39), .lit (.int .u8 33), .lit (.int .u8 30), .lit (.int .u8 24), .lit (.int .u8 18), .lit (.int .u8 12), .lit (.int .u8 5), .lit (.int .u8 63), .lit (.int .u8 55), .lit (.int .u8 48), .lit (.int .u8 27), .lit (.int .u8 60), .lit (.int .u8 41), .lit (.int .u8 37), .lit (.int .u8 16), .lit (.int .u8 46), .lit (.int .u8 35), .lit (.int .u8 44), .lit (.int .u8 21), .lit (.int .u8 52), .lit (.int .u8 32), .lit (.int .u8 23), .lit (.int .u8 11), .lit (.int .u8 54), .lit (.int .u8 26), .lit (.int .u8 40), .lit (.int .u8 15), .lit (.int .u8 34), .lit (.int .u8 20), .lit (.int .u8 31), .lit (.int .u8 10), .lit (.int .u8 25), .lit (.int .u8 14), .lit (.int .u8 19), .lit (.int .u8 9), .lit (.int .u8 13), .lit (.int .u8 8), .lit (.int .u8 7), .lit (.int .u8 6)]

/-- 'halfplanelaw31.DimensionChecks': WHATEVER THE INPUT: true; the input reads as it did. -/
def dimensionChecksSpec : ChangeSpec := { name := "dimensionChecks", fn := fun _ => fun
  | [d] => { results := [.lit (.bool true)], args := [d] }
  | _ => none }
def dimensionChecksRow : OpenClaim := { program := "yteamlpflgfmieaadoor", sum := "1ec3d2a1f06c872d49bb92fd6206bb895453c7abe744d2de07963a55d22c6ad0", func := "halfplane/halfplanelaw31.DimensionChecks", spec := "dimensionChecks", unfollowed := true, recurses := true, named := ["math/bits.deBruijn64tab"], apart := false, laid := [("math/bits.deBruijn64tab", laid_math_bits_deBruijn64tab)] }
def DimensionChecksSaid : Prop := dimensionChecksRow.holds Tryd.pinned (OpenSpec.ofChange dimensionChecksSpec)

/-- ITS FALSE NEIGHBOUR: 'it returns false'. Refute it at one input. -/
def dimensionChecksWrong : ChangeSpec := { name := "dimensionChecks", fn := fun _ => fun
  | [d] => { results := [.lit (.bool false)], args := [d] }
  | _ => none }
def DimensionChecksWrongFalsely : Prop := dimensionChecksRow.holds Tryd.pinned (OpenSpec.ofChange dimensionChecksWrong)

/-- 'halfplanelaw31.DimensionOld': WHATEVER THE INPUT: true; the input reads as it did. -/
def dimensionOldSpec : ChangeSpec := { name := "dimensionOld", fn := fun _ => fun
  | [d] => { results := [.lit (.bool true)], args := [d] }
  | _ => none }
def dimensionOldRow : OpenClaim := { program := "yteamlpflgfmieaadoor", sum := "1ec3d2a1f06c872d49bb92fd6206bb895453c7abe744d2de07963a55d22c6ad0", func := "halfplane/halfplanelaw31.DimensionOld", spec := "dimensionOld", unfollowed := true, recurses := true, named := ["math/bits.deBruijn64tab"], apart := false, laid := [("math/bits.deBruijn64tab", laid_math_bits_deBruijn64tab)] }
def DimensionOldSaid : Prop := dimensionOldRow.holds Tryd.pinned (OpenSpec.ofChange dimensionOldSpec)

/-- ITS FALSE NEIGHBOUR: 'it returns false'. Refute it at one input. -/
def dimensionOldWrong : ChangeSpec := { name := "dimensionOld", fn := fun _ => fun
  | [d] => { results := [.lit (.bool false)], args := [d] }
  | _ => none }
def DimensionOldWrongFalsely : Prop := dimensionOldRow.holds Tryd.pinned (OpenSpec.ofChange dimensionOldWrong)

/-- 'halfplanelaw31.DimensionFormulas': WHATEVER THE INPUT: true; the input reads as it did. -/
def dimensionFormulasSpec : ChangeSpec := { name := "dimensionFormulas", fn := fun _ => fun
  | [d1, d2] => { results := [.lit (.bool true)], args := [d1, d2] }
  | _ => none }
def dimensionFormulasRow : OpenClaim := { program := "yteamlpflgfmieaadoor", sum := "1ec3d2a1f06c872d49bb92fd6206bb895453c7abe744d2de07963a55d22c6ad0", func := "halfplane/halfplanelaw31.DimensionFormulas", spec := "dimensionFormulas", unfollowed := true, recurses := true, named := ["math/bits.deBruijn64tab"], apart := false, laid := [("math/bits.deBruijn64tab", laid_math_bits_deBruijn64tab)] }
def DimensionFormulasSaid : Prop := dimensionFormulasRow.holds Tryd.pinned (OpenSpec.ofChange dimensionFormulasSpec)

/-- ITS FALSE NEIGHBOUR: 'it returns false'. Refute it at one input. -/
def dimensionFormulasWrong : ChangeSpec := { name := "dimensionFormulas", fn := fun _ => fun
  | [d1, d2] => { results := [.lit (.bool false)], args := [d1, d2] }
  | _ => none }
def DimensionFormulasWrongFalsely : Prop := dimensionFormulasRow.holds Tryd.pinned (OpenSpec.ofChange dimensionFormulasWrong)

/-- 'halfplanelaw31.DimensionLevelOne': WHATEVER THE INPUT: true; the input reads as it did. -/
def dimensionLevelOneSpec : ChangeSpec := { name := "dimensionLevelOne", fn := fun _ => fun
  | [d] => { results := [.lit (.bool true)], args := [d] }
  | _ => none }
def dimensionLevelOneRow : OpenClaim := { program := "yteamlpflgfmieaadoor", sum := "1ec3d2a1f06c872d49bb92fd6206bb895453c7abe744d2de07963a55d22c6ad0", func := "halfplane/halfplanelaw31.DimensionLevelOne", spec := "dimensionLevelOne", unfollowed := true, recurses := true, named := ["math/bits.deBruijn64tab"], apart := false, laid := [("math/bits.deBruijn64tab", laid_math_bits_deBruijn64tab)] }
def DimensionLevelOneSaid : Prop := dimensionLevelOneRow.holds Tryd.pinned (OpenSpec.ofChange dimensionLevelOneSpec)

/-- ITS FALSE NEIGHBOUR: 'it returns false'. Refute it at one input. -/
def dimensionLevelOneWrong : ChangeSpec := { name := "dimensionLevelOne", fn := fun _ => fun
  | [d] => { results := [.lit (.bool false)], args := [d] }
  | _ => none }
def DimensionLevelOneWrongFalsely : Prop := dimensionLevelOneRow.holds Tryd.pinned (OpenSpec.ofChange dimensionLevelOneWrong)

/-- 'halfplanelaw31.DimensionSpaces': WHATEVER THE INPUT: true; the input reads as it did. -/
def dimensionSpacesSpec : ChangeSpec := { name := "dimensionSpaces", fn := fun _ => fun
  | [d] => { results := [.lit (.bool true)], args := [d] }
  | _ => none }
def dimensionSpacesRow : OpenClaim := { program := "yteamlpflgfmieaadoor", sum := "1ec3d2a1f06c872d49bb92fd6206bb895453c7abe744d2de07963a55d22c6ad0", func := "halfplane/halfplanelaw31.DimensionSpaces", spec := "dimensionSpaces", unfollowed := true, recurses := true, named := ["math/bits.deBruijn64tab"], apart := false, laid := [("math/bits.deBruijn64tab", laid_math_bits_deBruijn64tab)] }
def DimensionSpacesSaid : Prop := dimensionSpacesRow.holds Tryd.pinned (OpenSpec.ofChange dimensionSpacesSpec)

/-- ITS FALSE NEIGHBOUR: 'it returns false'. Refute it at one input. -/
def dimensionSpacesWrong : ChangeSpec := { name := "dimensionSpaces", fn := fun _ => fun
  | [d] => { results := [.lit (.bool false)], args := [d] }
  | _ => none }
def DimensionSpacesWrongFalsely : Prop := dimensionSpacesRow.holds Tryd.pinned (OpenSpec.ofChange dimensionSpacesWrong)

/-- 'halfplanelaw31.DimensionGenus': WHATEVER THE INPUT: true; the input reads as it did. -/
def dimensionGenusSpec : ChangeSpec := { name := "dimensionGenus", fn := fun _ => fun
  | [d] => { results := [.lit (.bool true)], args := [d] }
  | _ => none }
def dimensionGenusRow : OpenClaim := { program := "yteamlpflgfmieaadoor", sum := "1ec3d2a1f06c872d49bb92fd6206bb895453c7abe744d2de07963a55d22c6ad0", func := "halfplane/halfplanelaw31.DimensionGenus", spec := "dimensionGenus", unfollowed := true, recurses := true, named := ["math/bits.deBruijn64tab"], apart := false, laid := [("math/bits.deBruijn64tab", laid_math_bits_deBruijn64tab)] }
def DimensionGenusSaid : Prop := dimensionGenusRow.holds Tryd.pinned (OpenSpec.ofChange dimensionGenusSpec)

/-- ITS FALSE NEIGHBOUR: 'it returns false'. Refute it at one input. -/
def dimensionGenusWrong : ChangeSpec := { name := "dimensionGenus", fn := fun _ => fun
  | [d] => { results := [.lit (.bool false)], args := [d] }
  | _ => none }
def DimensionGenusWrongFalsely : Prop := dimensionGenusRow.holds Tryd.pinned (OpenSpec.ofChange dimensionGenusWrong)

/-- 'halfplanelaw31.DimensionSignature': WHATEVER THE INPUT: true; the input reads as it did. -/
def dimensionSignatureSpec : ChangeSpec := { name := "dimensionSignature", fn := fun _ => fun
  | [d1, d2] => { results := [.lit (.bool true)], args := [d1, d2] }
  | _ => none }
def dimensionSignatureRow : OpenClaim := { program := "yteamlpflgfmieaadoor", sum := "1ec3d2a1f06c872d49bb92fd6206bb895453c7abe744d2de07963a55d22c6ad0", func := "halfplane/halfplanelaw31.DimensionSignature", spec := "dimensionSignature", unfollowed := true, recurses := true, named := ["math/bits.deBruijn64tab"], apart := false, laid := [("math/bits.deBruijn64tab", laid_math_bits_deBruijn64tab)] }
def DimensionSignatureSaid : Prop := dimensionSignatureRow.holds Tryd.pinned (OpenSpec.ofChange dimensionSignatureSpec)

/-- ITS FALSE NEIGHBOUR: 'it returns false'. Refute it at one input. -/
def dimensionSignatureWrong : ChangeSpec := { name := "dimensionSignature", fn := fun _ => fun
  | [d1, d2] => { results := [.lit (.bool false)], args := [d1, d2] }
  | _ => none }
def DimensionSignatureWrongFalsely : Prop := dimensionSignatureRow.holds Tryd.pinned (OpenSpec.ofChange dimensionSignatureWrong)

/- THE SECOND FORM. 'bulk': how many values and letters a reading holds, each counted each time it is reached (what is shared counts as often as it is met; a slice's spare places count too). A statement '..UptoSaid' is the law's where the arguments, and the package variables that the reading takes, are together of bulk at most 1048576: NARROWER than '..Said'. Prove '..Said' where nothing that the law and all that it calls make is longer than what came in: it says more and counts as full. Else prove '..UptoSaid'. A law counts once. -/
mutual
def uptoBulk {H : Type} : DataW H → Nat
  | .lit (.string bytes) => bytes.length + 1
  | .lit _ => 1
  | .nil => 1
  | .ptr d => uptoBulk d + 1
  | .slice elems spare => uptoBulkAll elems + uptoBulkAll spare + 1
  | .agg parts => uptoBulkAll parts + 1
  | .iface _ d => uptoBulk d + 1
  | .map entries => uptoBulkEntries entries + 1
  | .held _ => 1
def uptoBulkAll {H : Type} : List (DataW H) → Nat
  | [] => 0
  | d :: r => uptoBulk d + uptoBulkAll r
def uptoBulkEntries {H : Type} : List (Lit × DataW H) → Nat
  | [] => 0
  | x :: r => uptoBulkEntry x + uptoBulkEntries r
def uptoBulkEntry {H : Type} : Lit × DataW H → Nat
  | (.string bytes, d) => bytes.length + uptoBulk d + 1
  | (_, d) => uptoBulk d + 1
 end
def uptoSmall : (H : Type) → List (DataW H) → Bool := fun _ ds => decide (uptoBulkAll ds ≤ 1048576)
def OpenSpec.upto (s : _root_.Go.ChangeSpec) : _root_.Go.OpenSpec := { _root_.Go.OpenSpec.ofChange s with cond := some uptoSmall }

/-- 'halfplanelaw31.DimensionChecks', WHERE WHAT IT READS IS OF BULK AT MOST 1048576: true; the input reads as it did. -/
def dimensionChecksUptoRow : OpenClaim := { program := "yteamlpflgfmieaadoor", sum := "1ec3d2a1f06c872d49bb92fd6206bb895453c7abe744d2de07963a55d22c6ad0", func := "halfplane/halfplanelaw31.DimensionChecks", spec := "dimensionChecks", unfollowed := true, recurses := true, named := ["math/bits.deBruijn64tab"], apart := false, laid := [("math/bits.deBruijn64tab", laid_math_bits_deBruijn64tab)], narrowed := true }
def DimensionChecksUptoSaid : Prop := dimensionChecksUptoRow.holds Tryd.pinned (OpenSpec.upto dimensionChecksSpec)

/-- 'halfplanelaw31.DimensionOld', WHERE WHAT IT READS IS OF BULK AT MOST 1048576: true; the input reads as it did. -/
def dimensionOldUptoRow : OpenClaim := { program := "yteamlpflgfmieaadoor", sum := "1ec3d2a1f06c872d49bb92fd6206bb895453c7abe744d2de07963a55d22c6ad0", func := "halfplane/halfplanelaw31.DimensionOld", spec := "dimensionOld", unfollowed := true, recurses := true, named := ["math/bits.deBruijn64tab"], apart := false, laid := [("math/bits.deBruijn64tab", laid_math_bits_deBruijn64tab)], narrowed := true }
def DimensionOldUptoSaid : Prop := dimensionOldUptoRow.holds Tryd.pinned (OpenSpec.upto dimensionOldSpec)

/-- 'halfplanelaw31.DimensionFormulas', WHERE WHAT IT READS IS OF BULK AT MOST 1048576: true; the input reads as it did. -/
def dimensionFormulasUptoRow : OpenClaim := { program := "yteamlpflgfmieaadoor", sum := "1ec3d2a1f06c872d49bb92fd6206bb895453c7abe744d2de07963a55d22c6ad0", func := "halfplane/halfplanelaw31.DimensionFormulas", spec := "dimensionFormulas", unfollowed := true, recurses := true, named := ["math/bits.deBruijn64tab"], apart := false, laid := [("math/bits.deBruijn64tab", laid_math_bits_deBruijn64tab)], narrowed := true }
def DimensionFormulasUptoSaid : Prop := dimensionFormulasUptoRow.holds Tryd.pinned (OpenSpec.upto dimensionFormulasSpec)

/-- 'halfplanelaw31.DimensionLevelOne', WHERE WHAT IT READS IS OF BULK AT MOST 1048576: true; the input reads as it did. -/
def dimensionLevelOneUptoRow : OpenClaim := { program := "yteamlpflgfmieaadoor", sum := "1ec3d2a1f06c872d49bb92fd6206bb895453c7abe744d2de07963a55d22c6ad0", func := "halfplane/halfplanelaw31.DimensionLevelOne", spec := "dimensionLevelOne", unfollowed := true, recurses := true, named := ["math/bits.deBruijn64tab"], apart := false, laid := [("math/bits.deBruijn64tab", laid_math_bits_deBruijn64tab)], narrowed := true }
def DimensionLevelOneUptoSaid : Prop := dimensionLevelOneUptoRow.holds Tryd.pinned (OpenSpec.upto dimensionLevelOneSpec)

/-- 'halfplanelaw31.DimensionSpaces', WHERE WHAT IT READS IS OF BULK AT MOST 1048576: true; the input reads as it did. -/
def dimensionSpacesUptoRow : OpenClaim := { program := "yteamlpflgfmieaadoor", sum := "1ec3d2a1f06c872d49bb92fd6206bb895453c7abe744d2de07963a55d22c6ad0", func := "halfplane/halfplanelaw31.DimensionSpaces", spec := "dimensionSpaces", unfollowed := true, recurses := true, named := ["math/bits.deBruijn64tab"], apart := false, laid := [("math/bits.deBruijn64tab", laid_math_bits_deBruijn64tab)], narrowed := true }
def DimensionSpacesUptoSaid : Prop := dimensionSpacesUptoRow.holds Tryd.pinned (OpenSpec.upto dimensionSpacesSpec)

/-- 'halfplanelaw31.DimensionGenus', WHERE WHAT IT READS IS OF BULK AT MOST 1048576: true; the input reads as it did. -/
def dimensionGenusUptoRow : OpenClaim := { program := "yteamlpflgfmieaadoor", sum := "1ec3d2a1f06c872d49bb92fd6206bb895453c7abe744d2de07963a55d22c6ad0", func := "halfplane/halfplanelaw31.DimensionGenus", spec := "dimensionGenus", unfollowed := true, recurses := true, named := ["math/bits.deBruijn64tab"], apart := false, laid := [("math/bits.deBruijn64tab", laid_math_bits_deBruijn64tab)], narrowed := true }
def DimensionGenusUptoSaid : Prop := dimensionGenusUptoRow.holds Tryd.pinned (OpenSpec.upto dimensionGenusSpec)

/-- 'halfplanelaw31.DimensionSignature', WHERE WHAT IT READS IS OF BULK AT MOST 1048576: true; the input reads as it did. -/
def dimensionSignatureUptoRow : OpenClaim := { program := "yteamlpflgfmieaadoor", sum := "1ec3d2a1f06c872d49bb92fd6206bb895453c7abe744d2de07963a55d22c6ad0", func := "halfplane/halfplanelaw31.DimensionSignature", spec := "dimensionSignature", unfollowed := true, recurses := true, named := ["math/bits.deBruijn64tab"], apart := false, laid := [("math/bits.deBruijn64tab", laid_math_bits_deBruijn64tab)], narrowed := true }
def DimensionSignatureUptoSaid : Prop := dimensionSignatureUptoRow.holds Tryd.pinned (OpenSpec.upto dimensionSignatureSpec)

end Rows
end Go.Proofs.YteamlpflgfmieaaDoor
