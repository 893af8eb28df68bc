/-
  No cell of these rows narrows 'for every input' (looked for: loops, veiled, ifaces, maps, wideKeys, modest, calm, conditions, laid).
  DERIVED. THE GIVEN ROWS OF THIS SEAT. 9 by the template 'for every input the law returns true; each argument reads behind the call as it read before'; 0 by the template 'total and deterministic' (their statements: YthfnbpnplbbibaaTotals.lean).
  GIVEN WITH THE SEED: the statements are not yours to turn. If you find one false, say at which input.
  Laid BY PROGRAM, IN A SANDBOX (cutbox-rows.mjs): the forced cells as the released guide's own fill.sh prints them over the translation 01765b22c5228a75… (all of the seat's roots in one cut). By AI agents, Wed Nov 11 2026. No macro, syntax, notation, axiom, sorry.
-/
import Derived.Test.YthfnbpnplbbibaaChecked
import GoSem.Claim
import GoSem.ClaimJoined
import GoSem.ClaimMapViews
import Derived.JoinedTies
import Derived.KernelRfl
namespace Go.Proofs.Ythfnbpnplbbibaa
/- THE CELL 'sum', in the pinned program and in every row, IS THE sha256 OF THE DUMP (.gsa) THAT YthfnbpnplbbibaaProg.lean LOADS. Nothing in Lean hashes anything: it is a label: what it is worth is what the hold of that sum in a sandbox is worth. -/
noncomputable def Try.pinned : Pinned := { name := "ythfnbpnplbbibaa", sum := "01765b22c5228a751e5bc5d0008cf483f03b2847f0760be1abc6beddac214106", checked := Try.checked }
namespace Rows
def none {H : Type} : Left H := { results := [], args := [] }

/-- 'halfplanelaw20.DedekindSums': WHATEVER THE INPUT: true; the input reads as it did. -/
def dedekindSumsSpec : ChangeSpec := { name := "dedekindSums", fn := fun _ => fun
  | [d1, d2] => { results := [.lit (.bool true)], args := [d1, d2] }
  | _ => none }
def dedekindSumsRow : OpenClaim := { program := "ythfnbpnplbbibaa", sum := "01765b22c5228a751e5bc5d0008cf483f03b2847f0760be1abc6beddac214106", func := "halfplane/halfplanelaw20.DedekindSums", spec := "dedekindSums", unfollowed := true, recurses := true, named := ["math/bits.overflowError"], apart := false }
def DedekindSumsSaid : Prop := dedekindSumsRow.holds Try.pinned (OpenSpec.ofChange dedekindSumsSpec)

/-- ITS FALSE NEIGHBOUR: 'it returns false'. Refute it at one input. -/
def dedekindSumsWrong : ChangeSpec := { name := "dedekindSums", fn := fun _ => fun
  | [d1, d2] => { results := [.lit (.bool false)], args := [d1, d2] }
  | _ => none }
def DedekindSumsWrongFalsely : Prop := dedekindSumsRow.holds Try.pinned (OpenSpec.ofChange dedekindSumsWrong)

/-- 'halfplanelaw20.DedekindPeriods': WHATEVER THE INPUT: true; the input reads as it did. -/
def dedekindPeriodsSpec : ChangeSpec := { name := "dedekindPeriods", fn := fun _ => fun
  | [d1, d2, d3] => { results := [.lit (.bool true)], args := [d1, d2, d3] }
  | _ => none }
def dedekindPeriodsRow : OpenClaim := { program := "ythfnbpnplbbibaa", sum := "01765b22c5228a751e5bc5d0008cf483f03b2847f0760be1abc6beddac214106", func := "halfplane/halfplanelaw20.DedekindPeriods", spec := "dedekindPeriods", unfollowed := true, recurses := true, named := ["math/bits.overflowError"], apart := false }
def DedekindPeriodsSaid : Prop := dedekindPeriodsRow.holds Try.pinned (OpenSpec.ofChange dedekindPeriodsSpec)

/-- ITS FALSE NEIGHBOUR: 'it returns false'. Refute it at one input. -/
def dedekindPeriodsWrong : ChangeSpec := { name := "dedekindPeriods", fn := fun _ => fun
  | [d1, d2, d3] => { results := [.lit (.bool false)], args := [d1, d2, d3] }
  | _ => none }
def DedekindPeriodsWrongFalsely : Prop := dedekindPeriodsRow.holds Try.pinned (OpenSpec.ofChange dedekindPeriodsWrong)

/-- 'halfplanelaw20.DedekindIntegral': WHATEVER THE INPUT: true; the input reads as it did. -/
def dedekindIntegralSpec : ChangeSpec := { name := "dedekindIntegral", fn := fun _ => fun
  | [d1, d2] => { results := [.lit (.bool true)], args := [d1, d2] }
  | _ => none }
def dedekindIntegralRow : OpenClaim := { program := "ythfnbpnplbbibaa", sum := "01765b22c5228a751e5bc5d0008cf483f03b2847f0760be1abc6beddac214106", func := "halfplane/halfplanelaw20.DedekindIntegral", spec := "dedekindIntegral", unfollowed := true, recurses := true, named := ["math/bits.overflowError"], apart := false }
def DedekindIntegralSaid : Prop := dedekindIntegralRow.holds Try.pinned (OpenSpec.ofChange dedekindIntegralSpec)

/-- ITS FALSE NEIGHBOUR: 'it returns false'. Refute it at one input. -/
def dedekindIntegralWrong : ChangeSpec := { name := "dedekindIntegral", fn := fun _ => fun
  | [d1, d2] => { results := [.lit (.bool false)], args := [d1, d2] }
  | _ => none }
def DedekindIntegralWrongFalsely : Prop := dedekindIntegralRow.holds Try.pinned (OpenSpec.ofChange dedekindIntegralWrong)

/-- 'halfplanelaw20.DedekindReciprocity': WHATEVER THE INPUT: true; the input reads as it did. -/
def dedekindReciprocitySpec : ChangeSpec := { name := "dedekindReciprocity", fn := fun _ => fun
  | [d1, d2] => { results := [.lit (.bool true)], args := [d1, d2] }
  | _ => none }
def dedekindReciprocityRow : OpenClaim := { program := "ythfnbpnplbbibaa", sum := "01765b22c5228a751e5bc5d0008cf483f03b2847f0760be1abc6beddac214106", func := "halfplane/halfplanelaw20.DedekindReciprocity", spec := "dedekindReciprocity", unfollowed := true, recurses := true, named := ["math/bits.overflowError"], apart := false }
def DedekindReciprocitySaid : Prop := dedekindReciprocityRow.holds Try.pinned (OpenSpec.ofChange dedekindReciprocitySpec)

/-- ITS FALSE NEIGHBOUR: 'it returns false'. Refute it at one input. -/
def dedekindReciprocityWrong : ChangeSpec := { name := "dedekindReciprocity", fn := fun _ => fun
  | [d1, d2] => { results := [.lit (.bool false)], args := [d1, d2] }
  | _ => none }
def DedekindReciprocityWrongFalsely : Prop := dedekindReciprocityRow.holds Try.pinned (OpenSpec.ofChange dedekindReciprocityWrong)

/-- 'halfplanelaw20.DedekindPhi': WHATEVER THE INPUT: true; the input reads as it did. -/
def dedekindPhiSpec : ChangeSpec := { name := "dedekindPhi", fn := fun _ => fun
  | [d] => { results := [.lit (.bool true)], args := [d] }
  | _ => none }
def dedekindPhiRow : OpenClaim := { program := "ythfnbpnplbbibaa", sum := "01765b22c5228a751e5bc5d0008cf483f03b2847f0760be1abc6beddac214106", func := "halfplane/halfplanelaw20.DedekindPhi", spec := "dedekindPhi", unfollowed := true, recurses := true, named := ["math/bits.overflowError"], apart := false }
def DedekindPhiSaid : Prop := dedekindPhiRow.holds Try.pinned (OpenSpec.ofChange dedekindPhiSpec)

/-- ITS FALSE NEIGHBOUR: 'it returns false'. Refute it at one input. -/
def dedekindPhiWrong : ChangeSpec := { name := "dedekindPhi", fn := fun _ => fun
  | [d] => { results := [.lit (.bool false)], args := [d] }
  | _ => none }
def DedekindPhiWrongFalsely : Prop := dedekindPhiRow.holds Try.pinned (OpenSpec.ofChange dedekindPhiWrong)

/-- 'halfplanelaw20.DedekindMultipliers': WHATEVER THE INPUT: true; the input reads as it did. -/
def dedekindMultipliersSpec : ChangeSpec := { name := "dedekindMultipliers", fn := fun _ => fun
  | [d1, d2, d3] => { results := [.lit (.bool true)], args := [d1, d2, d3] }
  | _ => none }
def dedekindMultipliersRow : OpenClaim := { program := "ythfnbpnplbbibaa", sum := "01765b22c5228a751e5bc5d0008cf483f03b2847f0760be1abc6beddac214106", func := "halfplane/halfplanelaw20.DedekindMultipliers", spec := "dedekindMultipliers", unfollowed := true, recurses := true, named := ["math/bits.overflowError"], apart := false }
def DedekindMultipliersSaid : Prop := dedekindMultipliersRow.holds Try.pinned (OpenSpec.ofChange dedekindMultipliersSpec)

/-- ITS FALSE NEIGHBOUR: 'it returns false'. Refute it at one input. -/
def dedekindMultipliersWrong : ChangeSpec := { name := "dedekindMultipliers", fn := fun _ => fun
  | [d1, d2, d3] => { results := [.lit (.bool false)], args := [d1, d2, d3] }
  | _ => none }
def DedekindMultipliersWrongFalsely : Prop := dedekindMultipliersRow.holds Try.pinned (OpenSpec.ofChange dedekindMultipliersWrong)

/-- 'halfplanelaw20.DedekindCocycle': WHATEVER THE INPUT: true; the input reads as it did. -/
def dedekindCocycleSpec : ChangeSpec := { name := "dedekindCocycle", fn := fun _ => fun
  | [d1, d2] => { results := [.lit (.bool true)], args := [d1, d2] }
  | _ => none }
def dedekindCocycleRow : OpenClaim := { program := "ythfnbpnplbbibaa", sum := "01765b22c5228a751e5bc5d0008cf483f03b2847f0760be1abc6beddac214106", func := "halfplane/halfplanelaw20.DedekindCocycle", spec := "dedekindCocycle", unfollowed := true, recurses := true, named := ["math/bits.overflowError"], apart := false }
def DedekindCocycleSaid : Prop := dedekindCocycleRow.holds Try.pinned (OpenSpec.ofChange dedekindCocycleSpec)

/-- ITS FALSE NEIGHBOUR: 'it returns false'. Refute it at one input. -/
def dedekindCocycleWrong : ChangeSpec := { name := "dedekindCocycle", fn := fun _ => fun
  | [d1, d2] => { results := [.lit (.bool false)], args := [d1, d2] }
  | _ => none }
def DedekindCocycleWrongFalsely : Prop := dedekindCocycleRow.holds Try.pinned (OpenSpec.ofChange dedekindCocycleWrong)

/-- 'halfplanelaw20.DedekindHomomorphism': WHATEVER THE INPUT: true; the input reads as it did. -/
def dedekindHomomorphismSpec : ChangeSpec := { name := "dedekindHomomorphism", fn := fun _ => fun
  | [d1, d2, d3] => { results := [.lit (.bool true)], args := [d1, d2, d3] }
  | _ => none }
def dedekindHomomorphismRow : OpenClaim := { program := "ythfnbpnplbbibaa", sum := "01765b22c5228a751e5bc5d0008cf483f03b2847f0760be1abc6beddac214106", func := "halfplane/halfplanelaw20.DedekindHomomorphism", spec := "dedekindHomomorphism", unfollowed := true, recurses := true, named := ["math/bits.overflowError"], apart := false }
def DedekindHomomorphismSaid : Prop := dedekindHomomorphismRow.holds Try.pinned (OpenSpec.ofChange dedekindHomomorphismSpec)

/-- ITS FALSE NEIGHBOUR: 'it returns false'. Refute it at one input. -/
def dedekindHomomorphismWrong : ChangeSpec := { name := "dedekindHomomorphism", fn := fun _ => fun
  | [d1, d2, d3] => { results := [.lit (.bool false)], args := [d1, d2, d3] }
  | _ => none }
def DedekindHomomorphismWrongFalsely : Prop := dedekindHomomorphismRow.holds Try.pinned (OpenSpec.ofChange dedekindHomomorphismWrong)

/-- 'halfplanelaw20.DedekindAbelian': WHATEVER THE INPUT: true; the input reads as it did. -/
def dedekindAbelianSpec : ChangeSpec := { name := "dedekindAbelian", fn := fun _ => fun
  | [d] => { results := [.lit (.bool true)], args := [d] }
  | _ => none }
def dedekindAbelianRow : OpenClaim := { program := "ythfnbpnplbbibaa", sum := "01765b22c5228a751e5bc5d0008cf483f03b2847f0760be1abc6beddac214106", func := "halfplane/halfplanelaw20.DedekindAbelian", spec := "dedekindAbelian", unfollowed := true, recurses := true, named := ["math/bits.overflowError"], apart := false }
def DedekindAbelianSaid : Prop := dedekindAbelianRow.holds Try.pinned (OpenSpec.ofChange dedekindAbelianSpec)

/-- ITS FALSE NEIGHBOUR: 'it returns false'. Refute it at one input. -/
def dedekindAbelianWrong : ChangeSpec := { name := "dedekindAbelian", fn := fun _ => fun
  | [d] => { results := [.lit (.bool false)], args := [d] }
  | _ => none }
def DedekindAbelianWrongFalsely : Prop := dedekindAbelianRow.holds Try.pinned (OpenSpec.ofChange dedekindAbelianWrong)

/- THE SECOND FORM. 'bulk': how many values and letters a reading holds, each counted each time it is reached (what is shared counts as often as it is met; a slice's spare places count too). A statement '..UptoSaid' is the law's where the arguments, and the package variables that the reading takes, are together of bulk at most 1048576: NARROWER than '..Said'. Prove '..Said' where nothing that the law and all that it calls make is longer than what came in: it says more and counts as full. Else prove '..UptoSaid'. A law counts once. -/
mutual
def uptoBulk {H : Type} : DataW H → Nat
  | .lit (.string bytes) => bytes.length + 1
  | .lit _ => 1
  | .nil => 1
  | .ptr d => uptoBulk d + 1
  | .slice elems spare => uptoBulkAll elems + uptoBulkAll spare + 1
  | .agg parts => uptoBulkAll parts + 1
  | .iface _ d => uptoBulk d + 1
  | .map entries => uptoBulkEntries entries + 1
  | .held _ => 1
def uptoBulkAll {H : Type} : List (DataW H) → Nat
  | [] => 0
  | d :: r => uptoBulk d + uptoBulkAll r
def uptoBulkEntries {H : Type} : List (Lit × DataW H) → Nat
  | [] => 0
  | x :: r => uptoBulkEntry x + uptoBulkEntries r
def uptoBulkEntry {H : Type} : Lit × DataW H → Nat
  | (.string bytes, d) => bytes.length + uptoBulk d + 1
  | (_, d) => uptoBulk d + 1
 end
def uptoSmall : (H : Type) → List (DataW H) → Bool := fun _ ds => decide (uptoBulkAll ds ≤ 1048576)
def OpenSpec.upto (s : _root_.Go.ChangeSpec) : _root_.Go.OpenSpec := { _root_.Go.OpenSpec.ofChange s with cond := some uptoSmall }

/-- 'halfplanelaw20.DedekindSums', WHERE WHAT IT READS IS OF BULK AT MOST 1048576: true; the input reads as it did. -/
def dedekindSumsUptoRow : OpenClaim := { program := "ythfnbpnplbbibaa", sum := "01765b22c5228a751e5bc5d0008cf483f03b2847f0760be1abc6beddac214106", func := "halfplane/halfplanelaw20.DedekindSums", spec := "dedekindSums", unfollowed := true, recurses := true, named := ["math/bits.overflowError"], apart := false, narrowed := true }
def DedekindSumsUptoSaid : Prop := dedekindSumsUptoRow.holds Try.pinned (OpenSpec.upto dedekindSumsSpec)

/-- 'halfplanelaw20.DedekindPeriods', WHERE WHAT IT READS IS OF BULK AT MOST 1048576: true; the input reads as it did. -/
def dedekindPeriodsUptoRow : OpenClaim := { program := "ythfnbpnplbbibaa", sum := "01765b22c5228a751e5bc5d0008cf483f03b2847f0760be1abc6beddac214106", func := "halfplane/halfplanelaw20.DedekindPeriods", spec := "dedekindPeriods", unfollowed := true, recurses := true, named := ["math/bits.overflowError"], apart := false, narrowed := true }
def DedekindPeriodsUptoSaid : Prop := dedekindPeriodsUptoRow.holds Try.pinned (OpenSpec.upto dedekindPeriodsSpec)

/-- 'halfplanelaw20.DedekindIntegral', WHERE WHAT IT READS IS OF BULK AT MOST 1048576: true; the input reads as it did. -/
def dedekindIntegralUptoRow : OpenClaim := { program := "ythfnbpnplbbibaa", sum := "01765b22c5228a751e5bc5d0008cf483f03b2847f0760be1abc6beddac214106", func := "halfplane/halfplanelaw20.DedekindIntegral", spec := "dedekindIntegral", unfollowed := true, recurses := true, named := ["math/bits.overflowError"], apart := false, narrowed := true }
def DedekindIntegralUptoSaid : Prop := dedekindIntegralUptoRow.holds Try.pinned (OpenSpec.upto dedekindIntegralSpec)

/-- 'halfplanelaw20.DedekindReciprocity', WHERE WHAT IT READS IS OF BULK AT MOST 1048576: true; the input reads as it did. -/
def dedekindReciprocityUptoRow : OpenClaim := { program := "ythfnbpnplbbibaa", sum := "01765b22c5228a751e5bc5d0008cf483f03b2847f0760be1abc6beddac214106", func := "halfplane/halfplanelaw20.DedekindReciprocity", spec := "dedekindReciprocity", unfollowed := true, recurses := true, named := ["math/bits.overflowError"], apart := false, narrowed := true }
def DedekindReciprocityUptoSaid : Prop := dedekindReciprocityUptoRow.holds Try.pinned (OpenSpec.upto dedekindReciprocitySpec)

/-- 'halfplanelaw20.DedekindPhi', WHERE WHAT IT READS IS OF BULK AT MOST 1048576: true; the input reads as it did. -/
def dedekindPhiUptoRow : OpenClaim := { program := "ythfnbpnplbbibaa", sum := "01765b22c5228a751e5bc5d0008cf483f03b2847f0760be1abc6beddac214106", func := "halfplane/halfplanelaw20.DedekindPhi", spec := "dedekindPhi", unfollowed := true, recurses := true, named := ["math/bits.overflowError"], apart := false, narrowed := true }
def DedekindPhiUptoSaid : Prop := dedekindPhiUptoRow.holds Try.pinned (OpenSpec.upto dedekindPhiSpec)

/-- 'halfplanelaw20.DedekindMultipliers', WHERE WHAT IT READS IS OF BULK AT MOST 1048576: true; the input reads as it did. -/
def dedekindMultipliersUptoRow : OpenClaim := { program := "ythfnbpnplbbibaa", sum := "01765b22c5228a751e5bc5d0008cf483f03b2847f0760be1abc6beddac214106", func := "halfplane/halfplanelaw20.DedekindMultipliers", spec := "dedekindMultipliers", unfollowed := true, recurses := true, named := ["math/bits.overflowError"], apart := false, narrowed := true }
def DedekindMultipliersUptoSaid : Prop := dedekindMultipliersUptoRow.holds Try.pinned (OpenSpec.upto dedekindMultipliersSpec)

/-- 'halfplanelaw20.DedekindCocycle', WHERE WHAT IT READS IS OF BULK AT MOST 1048576: true; the input reads as it did. -/
def dedekindCocycleUptoRow : OpenClaim := { program := "ythfnbpnplbbibaa", sum := "01765b22c5228a751e5bc5d0008cf483f03b2847f0760be1abc6beddac214106", func := "halfplane/halfplanelaw20.DedekindCocycle", spec := "dedekindCocycle", unfollowed := true, recurses := true, named := ["math/bits.overflowError"], apart := false, narrowed := true }
def DedekindCocycleUptoSaid : Prop := dedekindCocycleUptoRow.holds Try.pinned (OpenSpec.upto dedekindCocycleSpec)

/-- 'halfplanelaw20.DedekindHomomorphism', WHERE WHAT IT READS IS OF BULK AT MOST 1048576: true; the input reads as it did. -/
def dedekindHomomorphismUptoRow : OpenClaim := { program := "ythfnbpnplbbibaa", sum := "01765b22c5228a751e5bc5d0008cf483f03b2847f0760be1abc6beddac214106", func := "halfplane/halfplanelaw20.DedekindHomomorphism", spec := "dedekindHomomorphism", unfollowed := true, recurses := true, named := ["math/bits.overflowError"], apart := false, narrowed := true }
def DedekindHomomorphismUptoSaid : Prop := dedekindHomomorphismUptoRow.holds Try.pinned (OpenSpec.upto dedekindHomomorphismSpec)

/-- 'halfplanelaw20.DedekindAbelian', WHERE WHAT IT READS IS OF BULK AT MOST 1048576: true; the input reads as it did. -/
def dedekindAbelianUptoRow : OpenClaim := { program := "ythfnbpnplbbibaa", sum := "01765b22c5228a751e5bc5d0008cf483f03b2847f0760be1abc6beddac214106", func := "halfplane/halfplanelaw20.DedekindAbelian", spec := "dedekindAbelian", unfollowed := true, recurses := true, named := ["math/bits.overflowError"], apart := false, narrowed := true }
def DedekindAbelianUptoSaid : Prop := dedekindAbelianUptoRow.holds Try.pinned (OpenSpec.upto dedekindAbelianSpec)

end Rows
end Go.Proofs.Ythfnbpnplbbibaa
