/-
  NARROWER THAN 'FOR EVERY INPUT', by the rows' own cells (each row's printed sentence says how): ManinNumbers: laid · ManinCounts: laid · ManinScales: laid · ManinStars: laid · ManinApplies: laid · ManinActs: laid · ManinTurns: laid · ManinMirrors: laid · ManinRelates: laid.
  DERIVED. THE GIVEN ROWS OF THIS SEAT. 9 by the template 'for every input the law returns true; each argument reads behind the call as it read before'; 0 by the template 'total and deterministic' (their statements: YtedfcemebdlgfaaDoorTotals.lean).
  GIVEN WITH THE SEED: the statements are not yours to turn. If you find one false, say at which input.
  Laid BY PROGRAM, IN A SANDBOX (cutbox-rows.mjs): the forced cells as the released guide's own fill.sh prints them over the translation d53912825ab83fe1… (all of the seat's roots in one cut). By AI agents, Wed Nov 11 2026. No macro, syntax, notation, axiom, sorry.
-/
import Derived.Test.YtedfcemebdlgfaaDoorChecked
import GoSem.Claim
import GoSem.ClaimJoined
import GoSem.ClaimMapViews
import Derived.JoinedTies
import Derived.KernelRfl
namespace Go.Proofs.YtedfcemebdlgfaaDoor
/- THE CELL 'sum', in the pinned program and in every row, IS THE sha256 OF THE DUMP (.gsa) THAT YtedfcemebdlgfaaDoorProg.lean LOADS. Nothing in Lean hashes anything: it is a label: what it is worth is what the hold of that sum in a sandbox is worth. -/
noncomputable def Tryd.pinned : Pinned := { name := "ytedfcemebdlgfaadoor", sum := "d53912825ab83fe14529797f6caffe3c002556a98cfdbbfe1cf74888c2ebb7b0", checked := Tryd.checked }
namespace Rows
def none {H : Type} : Left H := { results := [], args := [] }

/- WHAT THE LISTED PACKAGE-LEVEL VARIABLES READ AS WHEN THE CALL BEGINS. Each datum BY PROGRAM (the guide's laid-datum.mjs) off the statement by which the dump's own 'gosem.cut.vars' lays the variable. In a bare row this is a premise. The card (YtedfcemebdlgfaaDoorCards.lean) ties it to the program's text. -/
def laid_math_bits_deBruijn64tab {H : Type} : DataW H := .agg [.lit (.int .u8 0), .lit (.int .u8 1), .lit (.int .u8 56), .lit (.int .u8 2), .lit (.int .u8 57), .lit (.int .u8 49), .lit (.int .u8 28), .lit (.int .u8 3), .lit (.int .u8 61), .lit (.int .u8 58), .lit (.int .u8 42), .lit (.int .u8 50), .lit (.int .u8 38), .lit (.int .u8 29), .lit (.int .u8 17), .lit (.int .u8 4), .lit (.int .u8 62), .lit (.int .u8 47), .lit (.int .u8 59), .lit (.int .u8 36), .lit (.int .u8 45), .lit (.int .u8 43), .lit (.int .u8 51), .lit (.int .u8 22), .lit (.int .u8 53), .lit (.int .u8 39), .lit (.int .u8 33), .lit (.int .u8 30), .lit (.int .u8 24), .lit (.int .u8 18), .lit (.int .u8 12), .lit (.int .u8 5), .lit (.int .u8 63), .lit (.int .u8 55), .lit (.int .u8 48), .lit (.int .u8 27), .lit (.int .u8 60), .lit (.int .u8 41), .lit (.int .u8 37), .lit (.int .u8 16), .lit (.int .u8 46), .lit (.int .u8 35), .lit (.int .u8 44), .lit (.int .u8 21), .lit (.int .u8 52), .lit (.int .u8 32), .lit (.int .u8 23), .lit (.int .u8 11), .lit (.int .u8 54), .lit (.int .u8 26), .lit (.int .u8 40), .lit (.int .u8 15), .lit (.int .u8 34), .lit (.int .u8 20), .lit (.int .u8 31), .lit (.int .u8 10), .lit (.int .u8 25), .lit (.int .u8 14), .lit (.int .u8 19), .lit (.int .u8 9), .lit (.int .u8 13), .lit (.int .u8 8), .lit (.int .u8 7), .lit (.int .u8 6)]

/-- 'halfplanelaw40.ManinNumbers': WHATEVER THE INPUT: true; the input reads as it did. -/
def maninNumbersSpec : ChangeSpec := { name := "maninNumbers", fn := fun _ => fun
  | [d1, d2] => { results := [.lit (.bool true)], args := [d1, d2] }
  | _ => none }
def maninNumbersRow : OpenClaim := { program := "ytedfcemebdlgfaadoor", sum := "d53912825ab83fe14529797f6caffe3c002556a98cfdbbfe1cf74888c2ebb7b0", func := "halfplane/halfplanelaw40.ManinNumbers", spec := "maninNumbers", unfollowed := true, recurses := true, named := ["math/bits.deBruijn64tab"], apart := false, laid := [("math/bits.deBruijn64tab", laid_math_bits_deBruijn64tab)] }
def ManinNumbersSaid : Prop := maninNumbersRow.holds Tryd.pinned (OpenSpec.ofChange maninNumbersSpec)

/-- ITS FALSE NEIGHBOUR: 'it returns false'. Refute it at one input. -/
def maninNumbersWrong : ChangeSpec := { name := "maninNumbers", fn := fun _ => fun
  | [d1, d2] => { results := [.lit (.bool false)], args := [d1, d2] }
  | _ => none }
def ManinNumbersWrongFalsely : Prop := maninNumbersRow.holds Tryd.pinned (OpenSpec.ofChange maninNumbersWrong)

/-- 'halfplanelaw40.ManinCounts': WHATEVER THE INPUT: true; the input reads as it did. -/
def maninCountsSpec : ChangeSpec := { name := "maninCounts", fn := fun _ => fun
  | [d1, d2] => { results := [.lit (.bool true)], args := [d1, d2] }
  | _ => none }
def maninCountsRow : OpenClaim := { program := "ytedfcemebdlgfaadoor", sum := "d53912825ab83fe14529797f6caffe3c002556a98cfdbbfe1cf74888c2ebb7b0", func := "halfplane/halfplanelaw40.ManinCounts", spec := "maninCounts", unfollowed := true, recurses := true, named := ["math/bits.deBruijn64tab"], apart := false, laid := [("math/bits.deBruijn64tab", laid_math_bits_deBruijn64tab)] }
def ManinCountsSaid : Prop := maninCountsRow.holds Tryd.pinned (OpenSpec.ofChange maninCountsSpec)

/-- ITS FALSE NEIGHBOUR: 'it returns false'. Refute it at one input. -/
def maninCountsWrong : ChangeSpec := { name := "maninCounts", fn := fun _ => fun
  | [d1, d2] => { results := [.lit (.bool false)], args := [d1, d2] }
  | _ => none }
def ManinCountsWrongFalsely : Prop := maninCountsRow.holds Tryd.pinned (OpenSpec.ofChange maninCountsWrong)

/-- 'halfplanelaw40.ManinScales': WHATEVER THE INPUT: true; the input reads as it did. -/
def maninScalesSpec : ChangeSpec := { name := "maninScales", fn := fun _ => fun
  | [d1, d2, d3] => { results := [.lit (.bool true)], args := [d1, d2, d3] }
  | _ => none }
def maninScalesRow : OpenClaim := { program := "ytedfcemebdlgfaadoor", sum := "d53912825ab83fe14529797f6caffe3c002556a98cfdbbfe1cf74888c2ebb7b0", func := "halfplane/halfplanelaw40.ManinScales", spec := "maninScales", unfollowed := true, recurses := true, named := ["math/bits.deBruijn64tab"], apart := false, laid := [("math/bits.deBruijn64tab", laid_math_bits_deBruijn64tab)] }
def ManinScalesSaid : Prop := maninScalesRow.holds Tryd.pinned (OpenSpec.ofChange maninScalesSpec)

/-- ITS FALSE NEIGHBOUR: 'it returns false'. Refute it at one input. -/
def maninScalesWrong : ChangeSpec := { name := "maninScales", fn := fun _ => fun
  | [d1, d2, d3] => { results := [.lit (.bool false)], args := [d1, d2, d3] }
  | _ => none }
def ManinScalesWrongFalsely : Prop := maninScalesRow.holds Tryd.pinned (OpenSpec.ofChange maninScalesWrong)

/-- 'halfplanelaw40.ManinStars': WHATEVER THE INPUT: true; the input reads as it did. -/
def maninStarsSpec : ChangeSpec := { name := "maninStars", fn := fun _ => fun
  | [d1, d2] => { results := [.lit (.bool true)], args := [d1, d2] }
  | _ => none }
def maninStarsRow : OpenClaim := { program := "ytedfcemebdlgfaadoor", sum := "d53912825ab83fe14529797f6caffe3c002556a98cfdbbfe1cf74888c2ebb7b0", func := "halfplane/halfplanelaw40.ManinStars", spec := "maninStars", unfollowed := true, recurses := true, named := ["math/bits.deBruijn64tab"], apart := false, laid := [("math/bits.deBruijn64tab", laid_math_bits_deBruijn64tab)] }
def ManinStarsSaid : Prop := maninStarsRow.holds Tryd.pinned (OpenSpec.ofChange maninStarsSpec)

/-- ITS FALSE NEIGHBOUR: 'it returns false'. Refute it at one input. -/
def maninStarsWrong : ChangeSpec := { name := "maninStars", fn := fun _ => fun
  | [d1, d2] => { results := [.lit (.bool false)], args := [d1, d2] }
  | _ => none }
def ManinStarsWrongFalsely : Prop := maninStarsRow.holds Tryd.pinned (OpenSpec.ofChange maninStarsWrong)

/-- 'halfplanelaw40.ManinApplies': WHATEVER THE INPUT: true; the input reads as it did. -/
def maninAppliesSpec : ChangeSpec := { name := "maninApplies", fn := fun _ => fun
  | [d1, d2, d3] => { results := [.lit (.bool true)], args := [d1, d2, d3] }
  | _ => none }
def maninAppliesRow : OpenClaim := { program := "ytedfcemebdlgfaadoor", sum := "d53912825ab83fe14529797f6caffe3c002556a98cfdbbfe1cf74888c2ebb7b0", func := "halfplane/halfplanelaw40.ManinApplies", spec := "maninApplies", unfollowed := true, recurses := true, named := ["math/bits.deBruijn64tab"], apart := false, laid := [("math/bits.deBruijn64tab", laid_math_bits_deBruijn64tab)] }
def ManinAppliesSaid : Prop := maninAppliesRow.holds Tryd.pinned (OpenSpec.ofChange maninAppliesSpec)

/-- ITS FALSE NEIGHBOUR: 'it returns false'. Refute it at one input. -/
def maninAppliesWrong : ChangeSpec := { name := "maninApplies", fn := fun _ => fun
  | [d1, d2, d3] => { results := [.lit (.bool false)], args := [d1, d2, d3] }
  | _ => none }
def ManinAppliesWrongFalsely : Prop := maninAppliesRow.holds Tryd.pinned (OpenSpec.ofChange maninAppliesWrong)

/-- 'halfplanelaw40.ManinActs': WHATEVER THE INPUT: true; the input reads as it did. -/
def maninActsSpec : ChangeSpec := { name := "maninActs", fn := fun _ => fun
  | [d1, d2, d3] => { results := [.lit (.bool true)], args := [d1, d2, d3] }
  | _ => none }
def maninActsRow : OpenClaim := { program := "ytedfcemebdlgfaadoor", sum := "d53912825ab83fe14529797f6caffe3c002556a98cfdbbfe1cf74888c2ebb7b0", func := "halfplane/halfplanelaw40.ManinActs", spec := "maninActs", unfollowed := true, recurses := true, named := ["math/bits.deBruijn64tab"], apart := false, laid := [("math/bits.deBruijn64tab", laid_math_bits_deBruijn64tab)] }
def ManinActsSaid : Prop := maninActsRow.holds Tryd.pinned (OpenSpec.ofChange maninActsSpec)

/-- ITS FALSE NEIGHBOUR: 'it returns false'. Refute it at one input. -/
def maninActsWrong : ChangeSpec := { name := "maninActs", fn := fun _ => fun
  | [d1, d2, d3] => { results := [.lit (.bool false)], args := [d1, d2, d3] }
  | _ => none }
def ManinActsWrongFalsely : Prop := maninActsRow.holds Tryd.pinned (OpenSpec.ofChange maninActsWrong)

/-- 'halfplanelaw40.ManinTurns': WHATEVER THE INPUT: true; the input reads as it did. -/
def maninTurnsSpec : ChangeSpec := { name := "maninTurns", fn := fun _ => fun
  | [d1, d2] => { results := [.lit (.bool true)], args := [d1, d2] }
  | _ => none }
def maninTurnsRow : OpenClaim := { program := "ytedfcemebdlgfaadoor", sum := "d53912825ab83fe14529797f6caffe3c002556a98cfdbbfe1cf74888c2ebb7b0", func := "halfplane/halfplanelaw40.ManinTurns", spec := "maninTurns", unfollowed := true, recurses := true, named := ["math/bits.deBruijn64tab"], apart := false, laid := [("math/bits.deBruijn64tab", laid_math_bits_deBruijn64tab)] }
def ManinTurnsSaid : Prop := maninTurnsRow.holds Tryd.pinned (OpenSpec.ofChange maninTurnsSpec)

/-- ITS FALSE NEIGHBOUR: 'it returns false'. Refute it at one input. -/
def maninTurnsWrong : ChangeSpec := { name := "maninTurns", fn := fun _ => fun
  | [d1, d2] => { results := [.lit (.bool false)], args := [d1, d2] }
  | _ => none }
def ManinTurnsWrongFalsely : Prop := maninTurnsRow.holds Tryd.pinned (OpenSpec.ofChange maninTurnsWrong)

/-- 'halfplanelaw40.ManinMirrors': WHATEVER THE INPUT: true; the input reads as it did. -/
def maninMirrorsSpec : ChangeSpec := { name := "maninMirrors", fn := fun _ => fun
  | [d1, d2, d3] => { results := [.lit (.bool true)], args := [d1, d2, d3] }
  | _ => none }
def maninMirrorsRow : OpenClaim := { program := "ytedfcemebdlgfaadoor", sum := "d53912825ab83fe14529797f6caffe3c002556a98cfdbbfe1cf74888c2ebb7b0", func := "halfplane/halfplanelaw40.ManinMirrors", spec := "maninMirrors", unfollowed := true, recurses := true, named := ["math/bits.deBruijn64tab"], apart := false, laid := [("math/bits.deBruijn64tab", laid_math_bits_deBruijn64tab)] }
def ManinMirrorsSaid : Prop := maninMirrorsRow.holds Tryd.pinned (OpenSpec.ofChange maninMirrorsSpec)

/-- ITS FALSE NEIGHBOUR: 'it returns false'. Refute it at one input. -/
def maninMirrorsWrong : ChangeSpec := { name := "maninMirrors", fn := fun _ => fun
  | [d1, d2, d3] => { results := [.lit (.bool false)], args := [d1, d2, d3] }
  | _ => none }
def ManinMirrorsWrongFalsely : Prop := maninMirrorsRow.holds Tryd.pinned (OpenSpec.ofChange maninMirrorsWrong)

/-- 'halfplanelaw40.ManinRelates': WHATEVER THE INPUT: true; the input reads as it did. -/
def maninRelatesSpec : ChangeSpec := { name := "maninRelates", fn := fun _ => fun
  | [d] => { results := [.lit (.bool true)], args := [d] }
  | _ => none }
def maninRelatesRow : OpenClaim := { program := "ytedfcemebdlgfaadoor", sum := "d53912825ab83fe14529797f6caffe3c002556a98cfdbbfe1cf74888c2ebb7b0", func := "halfplane/halfplanelaw40.ManinRelates", spec := "maninRelates", unfollowed := true, recurses := true, named := ["math/bits.deBruijn64tab"], apart := false, laid := [("math/bits.deBruijn64tab", laid_math_bits_deBruijn64tab)] }
def ManinRelatesSaid : Prop := maninRelatesRow.holds Tryd.pinned (OpenSpec.ofChange maninRelatesSpec)

/-- ITS FALSE NEIGHBOUR: 'it returns false'. Refute it at one input. -/
def maninRelatesWrong : ChangeSpec := { name := "maninRelates", fn := fun _ => fun
  | [d] => { results := [.lit (.bool false)], args := [d] }
  | _ => none }
def ManinRelatesWrongFalsely : Prop := maninRelatesRow.holds Tryd.pinned (OpenSpec.ofChange maninRelatesWrong)

/- THE SECOND FORM. 'bulk': how many values and letters a reading holds, each counted each time it is reached (what is shared counts as often as it is met; a slice's spare places count too). A statement '..UptoSaid' is the law's where the arguments, and the package variables that the reading takes, are together of bulk at most 1048576: NARROWER than '..Said'. Prove '..Said' where nothing that the law and all that it calls make is longer than what came in: it says more and counts as full. Else prove '..UptoSaid'. A law counts once. -/
mutual
def uptoBulk {H : Type} : DataW H → Nat
  | .lit (.string bytes) => bytes.length + 1
  | .lit _ => 1
  | .nil => 1
  | .ptr d => uptoBulk d + 1
  | .slice elems spare => uptoBulkAll elems + uptoBulkAll spare + 1
  | .agg parts => uptoBulkAll parts + 1
  | .iface _ d => uptoBulk d + 1
  | .map entries => uptoBulkEntries entries + 1
  | .held _ => 1
def uptoBulkAll {H : Type} : List (DataW H) → Nat
  | [] => 0
  | d :: r => uptoBulk d + uptoBulkAll r
def uptoBulkEntries {H : Type} : List (Lit × DataW H) → Nat
  | [] => 0
  | x :: r => uptoBulkEntry x + uptoBulkEntries r
def uptoBulkEntry {H : Type} : Lit × DataW H → Nat
  | (.string bytes, d) => bytes.length + uptoBulk d + 1
  | (_, d) => uptoBulk d + 1
 end
def uptoSmall : (H : Type) → List (DataW H) → Bool := fun _ ds => decide (uptoBulkAll ds ≤ 1048576)
def OpenSpec.upto (s : _root_.Go.ChangeSpec) : _root_.Go.OpenSpec := { _root_.Go.OpenSpec.ofChange s with cond := some uptoSmall }

/-- 'halfplanelaw40.ManinNumbers', WHERE WHAT IT READS IS OF BULK AT MOST 1048576: true; the input reads as it did. -/
def maninNumbersUptoRow : OpenClaim := { program := "ytedfcemebdlgfaadoor", sum := "d53912825ab83fe14529797f6caffe3c002556a98cfdbbfe1cf74888c2ebb7b0", func := "halfplane/halfplanelaw40.ManinNumbers", spec := "maninNumbers", unfollowed := true, recurses := true, named := ["math/bits.deBruijn64tab"], apart := false, laid := [("math/bits.deBruijn64tab", laid_math_bits_deBruijn64tab)], narrowed := true }
def ManinNumbersUptoSaid : Prop := maninNumbersUptoRow.holds Tryd.pinned (OpenSpec.upto maninNumbersSpec)

/-- 'halfplanelaw40.ManinCounts', WHERE WHAT IT READS IS OF BULK AT MOST 1048576: true; the input reads as it did. -/
def maninCountsUptoRow : OpenClaim := { program := "ytedfcemebdlgfaadoor", sum := "d53912825ab83fe14529797f6caffe3c002556a98cfdbbfe1cf74888c2ebb7b0", func := "halfplane/halfplanelaw40.ManinCounts", spec := "maninCounts", unfollowed := true, recurses := true, named := ["math/bits.deBruijn64tab"], apart := false, laid := [("math/bits.deBruijn64tab", laid_math_bits_deBruijn64tab)], narrowed := true }
def ManinCountsUptoSaid : Prop := maninCountsUptoRow.holds Tryd.pinned (OpenSpec.upto maninCountsSpec)

/-- 'halfplanelaw40.ManinScales', WHERE WHAT IT READS IS OF BULK AT MOST 1048576: true; the input reads as it did. -/
def maninScalesUptoRow : OpenClaim := { program := "ytedfcemebdlgfaadoor", sum := "d53912825ab83fe14529797f6caffe3c002556a98cfdbbfe1cf74888c2ebb7b0", func := "halfplane/halfplanelaw40.ManinScales", spec := "maninScales", unfollowed := true, recurses := true, named := ["math/bits.deBruijn64tab"], apart := false, laid := [("math/bits.deBruijn64tab", laid_math_bits_deBruijn64tab)], narrowed := true }
def ManinScalesUptoSaid : Prop := maninScalesUptoRow.holds Tryd.pinned (OpenSpec.upto maninScalesSpec)

/-- 'halfplanelaw40.ManinStars', WHERE WHAT IT READS IS OF BULK AT MOST 1048576: true; the input reads as it did. -/
def maninStarsUptoRow : OpenClaim := { program := "ytedfcemebdlgfaadoor", sum := "d53912825ab83fe14529797f6caffe3c002556a98cfdbbfe1cf74888c2ebb7b0", func := "halfplane/halfplanelaw40.ManinStars", spec := "maninStars", unfollowed := true, recurses := true, named := ["math/bits.deBruijn64tab"], apart := false, laid := [("math/bits.deBruijn64tab", laid_math_bits_deBruijn64tab)], narrowed := true }
def ManinStarsUptoSaid : Prop := maninStarsUptoRow.holds Tryd.pinned (OpenSpec.upto maninStarsSpec)

/-- 'halfplanelaw40.ManinApplies', WHERE WHAT IT READS IS OF BULK AT MOST 1048576: true; the input reads as it did. -/
def maninAppliesUptoRow : OpenClaim := { program := "ytedfcemebdlgfaadoor", sum := "d53912825ab83fe14529797f6caffe3c002556a98cfdbbfe1cf74888c2ebb7b0", func := "halfplane/halfplanelaw40.ManinApplies", spec := "maninApplies", unfollowed := true, recurses := true, named := ["math/bits.deBruijn64tab"], apart := false, laid := [("math/bits.deBruijn64tab", laid_math_bits_deBruijn64tab)], narrowed := true }
def ManinAppliesUptoSaid : Prop := maninAppliesUptoRow.holds Tryd.pinned (OpenSpec.upto maninAppliesSpec)

/-- 'halfplanelaw40.ManinActs', WHERE WHAT IT READS IS OF BULK AT MOST 1048576: true; the input reads as it did. -/
def maninActsUptoRow : OpenClaim := { program := "ytedfcemebdlgfaadoor", sum := "d53912825ab83fe14529797f6caffe3c002556a98cfdbbfe1cf74888c2ebb7b0", func := "halfplane/halfplanelaw40.ManinActs", spec := "maninActs", unfollowed := true, recurses := true, named := ["math/bits.deBruijn64tab"], apart := false, laid := [("math/bits.deBruijn64tab", laid_math_bits_deBruijn64tab)], narrowed := true }
def ManinActsUptoSaid : Prop := maninActsUptoRow.holds Tryd.pinned (OpenSpec.upto maninActsSpec)

/-- 'halfplanelaw40.ManinTurns', WHERE WHAT IT READS IS OF BULK AT MOST 1048576: true; the input reads as it did. -/
def maninTurnsUptoRow : OpenClaim := { program := "ytedfcemebdlgfaadoor", sum := "d53912825ab83fe14529797f6caffe3c002556a98cfdbbfe1cf74888c2ebb7b0", func := "halfplane/halfplanelaw40.ManinTurns", spec := "maninTurns", unfollowed := true, recurses := true, named := ["math/bits.deBruijn64tab"], apart := false, laid := [("math/bits.deBruijn64tab", laid_math_bits_deBruijn64tab)], narrowed := true }
def ManinTurnsUptoSaid : Prop := maninTurnsUptoRow.holds Tryd.pinned (OpenSpec.upto maninTurnsSpec)

/-- 'halfplanelaw40.ManinMirrors', WHERE WHAT IT READS IS OF BULK AT MOST 1048576: true; the input reads as it did. -/
def maninMirrorsUptoRow : OpenClaim := { program := "ytedfcemebdlgfaadoor", sum := "d53912825ab83fe14529797f6caffe3c002556a98cfdbbfe1cf74888c2ebb7b0", func := "halfplane/halfplanelaw40.ManinMirrors", spec := "maninMirrors", unfollowed := true, recurses := true, named := ["math/bits.deBruijn64tab"], apart := false, laid := [("math/bits.deBruijn64tab", laid_math_bits_deBruijn64tab)], narrowed := true }
def ManinMirrorsUptoSaid : Prop := maninMirrorsUptoRow.holds Tryd.pinned (OpenSpec.upto maninMirrorsSpec)

/-- 'halfplanelaw40.ManinRelates', WHERE WHAT IT READS IS OF BULK AT MOST 1048576: true; the input reads as it did. -/
def maninRelatesUptoRow : OpenClaim := { program := "ytedfcemebdlgfaadoor", sum := "d53912825ab83fe14529797f6caffe3c002556a98cfdbbfe1cf74888c2ebb7b0", func := "halfplane/halfplanelaw40.ManinRelates", spec := "maninRelates", unfollowed := true, recurses := true, named := ["math/bits.deBruijn64tab"], apart := false, laid := [("math/bits.deBruijn64tab", laid_math_bits_deBruijn64tab)], narrowed := true }
def ManinRelatesUptoSaid : Prop := maninRelatesUptoRow.holds Tryd.pinned (OpenSpec.upto maninRelatesSpec)

end Rows
end Go.Proofs.YtedfcemebdlgfaaDoor
