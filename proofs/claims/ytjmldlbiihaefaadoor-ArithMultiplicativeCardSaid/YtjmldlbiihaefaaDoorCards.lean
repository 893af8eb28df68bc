/-
  DERIVED. GIVEN WITH THE SEED: THE CARDS: each row of YtjmldlbiihaefaaDoorRows.lean that lists a variable, with what it lists TIED to the program's text (the seventh form; the later family's looks); each row that meets fmt, with fmt's text TOLD by the authors' own Lean function (tested against real Go, not proved from fmt's source: count such statements apart). THE CARD IS WHAT COUNTS. Prove the row's statement (the work); the ties are given (YtjmldlbiihaefaaDoorTie.lean); close each card by the builder's one call (the guide's Derived/Test/ToyasCard.lean, 'card_holds'). Laid BY PROGRAM, IN A SANDBOX (cutbox-door.mjs). By AI agents, Wed Nov 11 2026. No macro, syntax, notation, axiom, sorry.
-/
import Derived.Test.YtjmldlbiihaefaaDoorRows
import GoSem.ClaimSeven
namespace Go.Proofs.YtjmldlbiihaefaaDoor
namespace Rows

/-- THE TIED CARD OF 'halfplanelaw03.ArithKronecker'. -/
def arithKroneckerCard : Claim7 := { stood := { row := arithKroneckerRow, standIns := [], harness := (true, "2529ed76ec2bdee454919118d0dd08b0608d877b800e59d42ee665795cbb82e5"), looks := false }, kinds := [], alts := [], laidByText := true, laidKinds := [.data], laidTests := true, laidLooks := .later }
def ArithKroneckerCardSaid : Prop := Claim7.holds Tryd.pinned (.plain (OpenSpec.ofChange arithKroneckerSpec)) arithKroneckerCard

/-- THE TIED CARD OF 'halfplanelaw03.ArithReciprocity'. -/
def arithReciprocityCard : Claim7 := { stood := { row := arithReciprocityRow, standIns := [], harness := (true, "2529ed76ec2bdee454919118d0dd08b0608d877b800e59d42ee665795cbb82e5"), looks := false }, kinds := [], alts := [], laidByText := true, laidKinds := [.data], laidTests := true, laidLooks := .later }
def ArithReciprocityCardSaid : Prop := Claim7.holds Tryd.pinned (.plain (OpenSpec.ofChange arithReciprocitySpec)) arithReciprocityCard

/-- THE TIED CARD OF 'halfplanelaw03.ArithPeriod'. -/
def arithPeriodCard : Claim7 := { stood := { row := arithPeriodRow, standIns := [], harness := (true, "2529ed76ec2bdee454919118d0dd08b0608d877b800e59d42ee665795cbb82e5"), looks := false }, kinds := [], alts := [], laidByText := true, laidKinds := [.data], laidTests := true, laidLooks := .later }
def ArithPeriodCardSaid : Prop := Claim7.holds Tryd.pinned (.plain (OpenSpec.ofChange arithPeriodSpec)) arithPeriodCard

/-- THE TIED CARD OF 'halfplanelaw03.ArithCrt'. -/
def arithCrtCard : Claim7 := { stood := { row := arithCrtRow, standIns := [], harness := (true, "2529ed76ec2bdee454919118d0dd08b0608d877b800e59d42ee665795cbb82e5"), looks := false }, kinds := [], alts := [], laidByText := true, laidKinds := [.data], laidTests := true, laidLooks := .later }
def ArithCrtCardSaid : Prop := Claim7.holds Tryd.pinned (.plain (OpenSpec.ofChange arithCrtSpec)) arithCrtCard

/-- THE TIED CARD OF 'halfplanelaw03.ArithGcds'. -/
def arithGcdsCard : Claim7 := { stood := { row := arithGcdsRow, standIns := [], harness := (true, "2529ed76ec2bdee454919118d0dd08b0608d877b800e59d42ee665795cbb82e5"), looks := false }, kinds := [], alts := [], laidByText := true, laidKinds := [.data], laidTests := true, laidLooks := .later }
def ArithGcdsCardSaid : Prop := Claim7.holds Tryd.pinned (.plain (OpenSpec.ofChange arithGcdsSpec)) arithGcdsCard

/-- THE TIED CARD OF 'halfplanelaw03.ArithDiscriminants'. -/
def arithDiscriminantsCard : Claim7 := { stood := { row := arithDiscriminantsRow, standIns := [], harness := (true, "2529ed76ec2bdee454919118d0dd08b0608d877b800e59d42ee665795cbb82e5"), looks := false }, kinds := [], alts := [], laidByText := true, laidKinds := [.data], laidTests := true, laidLooks := .later }
def ArithDiscriminantsCardSaid : Prop := Claim7.holds Tryd.pinned (.plain (OpenSpec.ofChange arithDiscriminantsSpec)) arithDiscriminantsCard

/-- THE TIED CARD OF 'halfplanelaw03.ArithPrimes'. -/
def arithPrimesCard : Claim7 := { stood := { row := arithPrimesRow, standIns := [], harness := (true, "2529ed76ec2bdee454919118d0dd08b0608d877b800e59d42ee665795cbb82e5"), looks := false }, kinds := [], alts := [], laidByText := true, laidKinds := [.data], laidTests := true, laidLooks := .later }
def ArithPrimesCardSaid : Prop := Claim7.holds Tryd.pinned (.plain (OpenSpec.ofChange arithPrimesSpec)) arithPrimesCard

/-- THE TIED CARD OF 'halfplanelaw03.ArithResidues'. -/
def arithResiduesCard : Claim7 := { stood := { row := arithResiduesRow, standIns := [], harness := (true, "2529ed76ec2bdee454919118d0dd08b0608d877b800e59d42ee665795cbb82e5"), looks := false }, kinds := [], alts := [], laidByText := true, laidKinds := [.data], laidTests := true, laidLooks := .later }
def ArithResiduesCardSaid : Prop := Claim7.holds Tryd.pinned (.plain (OpenSpec.ofChange arithResiduesSpec)) arithResiduesCard

/-- THE TIED CARD OF 'halfplanelaw03.ArithRoots'. -/
def arithRootsCard : Claim7 := { stood := { row := arithRootsRow, standIns := [], harness := (true, "2529ed76ec2bdee454919118d0dd08b0608d877b800e59d42ee665795cbb82e5"), looks := false }, kinds := [], alts := [], laidByText := true, laidKinds := [.data], laidTests := true, laidLooks := .later }
def ArithRootsCardSaid : Prop := Claim7.holds Tryd.pinned (.plain (OpenSpec.ofChange arithRootsSpec)) arithRootsCard

/-- THE TIED CARD OF 'halfplanelaw03.ArithFactors'. -/
def arithFactorsCard : Claim7 := { stood := { row := arithFactorsRow, standIns := [], harness := (true, "2529ed76ec2bdee454919118d0dd08b0608d877b800e59d42ee665795cbb82e5"), looks := false }, kinds := [], alts := [], laidByText := true, laidKinds := [.data], laidTests := true, laidLooks := .later }
def ArithFactorsCardSaid : Prop := Claim7.holds Tryd.pinned (.plain (OpenSpec.ofChange arithFactorsSpec)) arithFactorsCard

/-- THE TIED CARD OF 'halfplanelaw03.ArithFunctions'. -/
def arithFunctionsCard : Claim7 := { stood := { row := arithFunctionsRow, standIns := [], harness := (true, "2529ed76ec2bdee454919118d0dd08b0608d877b800e59d42ee665795cbb82e5"), looks := false }, kinds := [], alts := [], laidByText := true, laidKinds := [.data], laidTests := true, laidLooks := .later }
def ArithFunctionsCardSaid : Prop := Claim7.holds Tryd.pinned (.plain (OpenSpec.ofChange arithFunctionsSpec)) arithFunctionsCard

/-- THE TIED CARD OF 'halfplanelaw03.ArithMultiplicative'. -/
def arithMultiplicativeCard : Claim7 := { stood := { row := arithMultiplicativeRow, standIns := [], harness := (true, "2529ed76ec2bdee454919118d0dd08b0608d877b800e59d42ee665795cbb82e5"), looks := false }, kinds := [], alts := [], laidByText := true, laidKinds := [.data], laidTests := true, laidLooks := .later }
def ArithMultiplicativeCardSaid : Prop := Claim7.holds Tryd.pinned (.plain (OpenSpec.ofChange arithMultiplicativeSpec)) arithMultiplicativeCard

/-- THE SECOND FORM's CARD OF 'halfplanelaw03.ArithKronecker'. -/
def arithKroneckerUptoCard : Claim7 := { stood := { row := arithKroneckerUptoRow, standIns := [], harness := (true, "2529ed76ec2bdee454919118d0dd08b0608d877b800e59d42ee665795cbb82e5"), looks := false }, kinds := [], alts := [], laidByText := true, laidKinds := [.data], laidTests := true, laidLooks := .later }
def ArithKroneckerUptoCardSaid : Prop := Claim7.holds Tryd.pinned (.plain (OpenSpec.upto arithKroneckerSpec)) arithKroneckerUptoCard

/-- THE SECOND FORM's CARD OF 'halfplanelaw03.ArithReciprocity'. -/
def arithReciprocityUptoCard : Claim7 := { stood := { row := arithReciprocityUptoRow, standIns := [], harness := (true, "2529ed76ec2bdee454919118d0dd08b0608d877b800e59d42ee665795cbb82e5"), looks := false }, kinds := [], alts := [], laidByText := true, laidKinds := [.data], laidTests := true, laidLooks := .later }
def ArithReciprocityUptoCardSaid : Prop := Claim7.holds Tryd.pinned (.plain (OpenSpec.upto arithReciprocitySpec)) arithReciprocityUptoCard

/-- THE SECOND FORM's CARD OF 'halfplanelaw03.ArithPeriod'. -/
def arithPeriodUptoCard : Claim7 := { stood := { row := arithPeriodUptoRow, standIns := [], harness := (true, "2529ed76ec2bdee454919118d0dd08b0608d877b800e59d42ee665795cbb82e5"), looks := false }, kinds := [], alts := [], laidByText := true, laidKinds := [.data], laidTests := true, laidLooks := .later }
def ArithPeriodUptoCardSaid : Prop := Claim7.holds Tryd.pinned (.plain (OpenSpec.upto arithPeriodSpec)) arithPeriodUptoCard

/-- THE SECOND FORM's CARD OF 'halfplanelaw03.ArithCrt'. -/
def arithCrtUptoCard : Claim7 := { stood := { row := arithCrtUptoRow, standIns := [], harness := (true, "2529ed76ec2bdee454919118d0dd08b0608d877b800e59d42ee665795cbb82e5"), looks := false }, kinds := [], alts := [], laidByText := true, laidKinds := [.data], laidTests := true, laidLooks := .later }
def ArithCrtUptoCardSaid : Prop := Claim7.holds Tryd.pinned (.plain (OpenSpec.upto arithCrtSpec)) arithCrtUptoCard

/-- THE SECOND FORM's CARD OF 'halfplanelaw03.ArithGcds'. -/
def arithGcdsUptoCard : Claim7 := { stood := { row := arithGcdsUptoRow, standIns := [], harness := (true, "2529ed76ec2bdee454919118d0dd08b0608d877b800e59d42ee665795cbb82e5"), looks := false }, kinds := [], alts := [], laidByText := true, laidKinds := [.data], laidTests := true, laidLooks := .later }
def ArithGcdsUptoCardSaid : Prop := Claim7.holds Tryd.pinned (.plain (OpenSpec.upto arithGcdsSpec)) arithGcdsUptoCard

/-- THE SECOND FORM's CARD OF 'halfplanelaw03.ArithDiscriminants'. -/
def arithDiscriminantsUptoCard : Claim7 := { stood := { row := arithDiscriminantsUptoRow, standIns := [], harness := (true, "2529ed76ec2bdee454919118d0dd08b0608d877b800e59d42ee665795cbb82e5"), looks := false }, kinds := [], alts := [], laidByText := true, laidKinds := [.data], laidTests := true, laidLooks := .later }
def ArithDiscriminantsUptoCardSaid : Prop := Claim7.holds Tryd.pinned (.plain (OpenSpec.upto arithDiscriminantsSpec)) arithDiscriminantsUptoCard

/-- THE SECOND FORM's CARD OF 'halfplanelaw03.ArithPrimes'. -/
def arithPrimesUptoCard : Claim7 := { stood := { row := arithPrimesUptoRow, standIns := [], harness := (true, "2529ed76ec2bdee454919118d0dd08b0608d877b800e59d42ee665795cbb82e5"), looks := false }, kinds := [], alts := [], laidByText := true, laidKinds := [.data], laidTests := true, laidLooks := .later }
def ArithPrimesUptoCardSaid : Prop := Claim7.holds Tryd.pinned (.plain (OpenSpec.upto arithPrimesSpec)) arithPrimesUptoCard

/-- THE SECOND FORM's CARD OF 'halfplanelaw03.ArithResidues'. -/
def arithResiduesUptoCard : Claim7 := { stood := { row := arithResiduesUptoRow, standIns := [], harness := (true, "2529ed76ec2bdee454919118d0dd08b0608d877b800e59d42ee665795cbb82e5"), looks := false }, kinds := [], alts := [], laidByText := true, laidKinds := [.data], laidTests := true, laidLooks := .later }
def ArithResiduesUptoCardSaid : Prop := Claim7.holds Tryd.pinned (.plain (OpenSpec.upto arithResiduesSpec)) arithResiduesUptoCard

/-- THE SECOND FORM's CARD OF 'halfplanelaw03.ArithRoots'. -/
def arithRootsUptoCard : Claim7 := { stood := { row := arithRootsUptoRow, standIns := [], harness := (true, "2529ed76ec2bdee454919118d0dd08b0608d877b800e59d42ee665795cbb82e5"), looks := false }, kinds := [], alts := [], laidByText := true, laidKinds := [.data], laidTests := true, laidLooks := .later }
def ArithRootsUptoCardSaid : Prop := Claim7.holds Tryd.pinned (.plain (OpenSpec.upto arithRootsSpec)) arithRootsUptoCard

/-- THE SECOND FORM's CARD OF 'halfplanelaw03.ArithFactors'. -/
def arithFactorsUptoCard : Claim7 := { stood := { row := arithFactorsUptoRow, standIns := [], harness := (true, "2529ed76ec2bdee454919118d0dd08b0608d877b800e59d42ee665795cbb82e5"), looks := false }, kinds := [], alts := [], laidByText := true, laidKinds := [.data], laidTests := true, laidLooks := .later }
def ArithFactorsUptoCardSaid : Prop := Claim7.holds Tryd.pinned (.plain (OpenSpec.upto arithFactorsSpec)) arithFactorsUptoCard

/-- THE SECOND FORM's CARD OF 'halfplanelaw03.ArithFunctions'. -/
def arithFunctionsUptoCard : Claim7 := { stood := { row := arithFunctionsUptoRow, standIns := [], harness := (true, "2529ed76ec2bdee454919118d0dd08b0608d877b800e59d42ee665795cbb82e5"), looks := false }, kinds := [], alts := [], laidByText := true, laidKinds := [.data], laidTests := true, laidLooks := .later }
def ArithFunctionsUptoCardSaid : Prop := Claim7.holds Tryd.pinned (.plain (OpenSpec.upto arithFunctionsSpec)) arithFunctionsUptoCard

/-- THE SECOND FORM's CARD OF 'halfplanelaw03.ArithMultiplicative'. -/
def arithMultiplicativeUptoCard : Claim7 := { stood := { row := arithMultiplicativeUptoRow, standIns := [], harness := (true, "2529ed76ec2bdee454919118d0dd08b0608d877b800e59d42ee665795cbb82e5"), looks := false }, kinds := [], alts := [], laidByText := true, laidKinds := [.data], laidTests := true, laidLooks := .later }
def ArithMultiplicativeUptoCardSaid : Prop := Claim7.holds Tryd.pinned (.plain (OpenSpec.upto arithMultiplicativeSpec)) arithMultiplicativeUptoCard
end Rows
end Go.Proofs.YtjmldlbiihaefaaDoor
