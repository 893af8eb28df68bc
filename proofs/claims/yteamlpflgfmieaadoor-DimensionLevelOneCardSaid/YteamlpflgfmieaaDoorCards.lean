/-
  DERIVED. GIVEN WITH THE SEED: THE CARDS: each row of YteamlpflgfmieaaDoorRows.lean that lists a variable, with what it lists TIED to the program's text (the seventh form; the later family's looks); each row that meets fmt, with fmt's text TOLD by the authors' own Lean function (tested against real Go, not proved from fmt's source: count such statements apart). THE CARD IS WHAT COUNTS. Prove the row's statement (the work); the ties are given (YteamlpflgfmieaaDoorTie.lean); close each card by the builder's one call (the guide's Derived/Test/ToyasCard.lean, 'card_holds'). Laid BY PROGRAM, IN A SANDBOX (cutbox-door.mjs). By AI agents, Wed Nov 11 2026. No macro, syntax, notation, axiom, sorry.
-/
import Derived.Test.YteamlpflgfmieaaDoorRows
import GoSem.ClaimSeven
namespace Go.Proofs.YteamlpflgfmieaaDoor
namespace Rows

/-- THE TIED CARD OF 'halfplanelaw31.DimensionChecks'. -/
def dimensionChecksCard : Claim7 := { stood := { row := dimensionChecksRow, standIns := [], harness := (true, "e2211a182ffc208473da4378ac05159d0db9b75dcaa06e3c7b4821995d8b1d87"), looks := false }, kinds := [], alts := [], laidByText := true, laidKinds := [.data], laidTests := true, laidLooks := .later }
def DimensionChecksCardSaid : Prop := Claim7.holds Tryd.pinned (.plain (OpenSpec.ofChange dimensionChecksSpec)) dimensionChecksCard

/-- THE TIED CARD OF 'halfplanelaw31.DimensionOld'. -/
def dimensionOldCard : Claim7 := { stood := { row := dimensionOldRow, standIns := [], harness := (true, "e2211a182ffc208473da4378ac05159d0db9b75dcaa06e3c7b4821995d8b1d87"), looks := false }, kinds := [], alts := [], laidByText := true, laidKinds := [.data], laidTests := true, laidLooks := .later }
def DimensionOldCardSaid : Prop := Claim7.holds Tryd.pinned (.plain (OpenSpec.ofChange dimensionOldSpec)) dimensionOldCard

/-- THE TIED CARD OF 'halfplanelaw31.DimensionFormulas'. -/
def dimensionFormulasCard : Claim7 := { stood := { row := dimensionFormulasRow, standIns := [], harness := (true, "e2211a182ffc208473da4378ac05159d0db9b75dcaa06e3c7b4821995d8b1d87"), looks := false }, kinds := [], alts := [], laidByText := true, laidKinds := [.data], laidTests := true, laidLooks := .later }
def DimensionFormulasCardSaid : Prop := Claim7.holds Tryd.pinned (.plain (OpenSpec.ofChange dimensionFormulasSpec)) dimensionFormulasCard

/-- THE TIED CARD OF 'halfplanelaw31.DimensionLevelOne'. -/
def dimensionLevelOneCard : Claim7 := { stood := { row := dimensionLevelOneRow, standIns := [], harness := (true, "e2211a182ffc208473da4378ac05159d0db9b75dcaa06e3c7b4821995d8b1d87"), looks := false }, kinds := [], alts := [], laidByText := true, laidKinds := [.data], laidTests := true, laidLooks := .later }
def DimensionLevelOneCardSaid : Prop := Claim7.holds Tryd.pinned (.plain (OpenSpec.ofChange dimensionLevelOneSpec)) dimensionLevelOneCard

/-- THE TIED CARD OF 'halfplanelaw31.DimensionSpaces'. -/
def dimensionSpacesCard : Claim7 := { stood := { row := dimensionSpacesRow, standIns := [], harness := (true, "e2211a182ffc208473da4378ac05159d0db9b75dcaa06e3c7b4821995d8b1d87"), looks := false }, kinds := [], alts := [], laidByText := true, laidKinds := [.data], laidTests := true, laidLooks := .later }
def DimensionSpacesCardSaid : Prop := Claim7.holds Tryd.pinned (.plain (OpenSpec.ofChange dimensionSpacesSpec)) dimensionSpacesCard

/-- THE TIED CARD OF 'halfplanelaw31.DimensionGenus'. -/
def dimensionGenusCard : Claim7 := { stood := { row := dimensionGenusRow, standIns := [], harness := (true, "e2211a182ffc208473da4378ac05159d0db9b75dcaa06e3c7b4821995d8b1d87"), looks := false }, kinds := [], alts := [], laidByText := true, laidKinds := [.data], laidTests := true, laidLooks := .later }
def DimensionGenusCardSaid : Prop := Claim7.holds Tryd.pinned (.plain (OpenSpec.ofChange dimensionGenusSpec)) dimensionGenusCard

/-- THE TIED CARD OF 'halfplanelaw31.DimensionSignature'. -/
def dimensionSignatureCard : Claim7 := { stood := { row := dimensionSignatureRow, standIns := [], harness := (true, "e2211a182ffc208473da4378ac05159d0db9b75dcaa06e3c7b4821995d8b1d87"), looks := false }, kinds := [], alts := [], laidByText := true, laidKinds := [.data], laidTests := true, laidLooks := .later }
def DimensionSignatureCardSaid : Prop := Claim7.holds Tryd.pinned (.plain (OpenSpec.ofChange dimensionSignatureSpec)) dimensionSignatureCard

/-- THE SECOND FORM's CARD OF 'halfplanelaw31.DimensionChecks'. -/
def dimensionChecksUptoCard : Claim7 := { stood := { row := dimensionChecksUptoRow, standIns := [], harness := (true, "e2211a182ffc208473da4378ac05159d0db9b75dcaa06e3c7b4821995d8b1d87"), looks := false }, kinds := [], alts := [], laidByText := true, laidKinds := [.data], laidTests := true, laidLooks := .later }
def DimensionChecksUptoCardSaid : Prop := Claim7.holds Tryd.pinned (.plain (OpenSpec.upto dimensionChecksSpec)) dimensionChecksUptoCard

/-- THE SECOND FORM's CARD OF 'halfplanelaw31.DimensionOld'. -/
def dimensionOldUptoCard : Claim7 := { stood := { row := dimensionOldUptoRow, standIns := [], harness := (true, "e2211a182ffc208473da4378ac05159d0db9b75dcaa06e3c7b4821995d8b1d87"), looks := false }, kinds := [], alts := [], laidByText := true, laidKinds := [.data], laidTests := true, laidLooks := .later }
def DimensionOldUptoCardSaid : Prop := Claim7.holds Tryd.pinned (.plain (OpenSpec.upto dimensionOldSpec)) dimensionOldUptoCard

/-- THE SECOND FORM's CARD OF 'halfplanelaw31.DimensionFormulas'. -/
def dimensionFormulasUptoCard : Claim7 := { stood := { row := dimensionFormulasUptoRow, standIns := [], harness := (true, "e2211a182ffc208473da4378ac05159d0db9b75dcaa06e3c7b4821995d8b1d87"), looks := false }, kinds := [], alts := [], laidByText := true, laidKinds := [.data], laidTests := true, laidLooks := .later }
def DimensionFormulasUptoCardSaid : Prop := Claim7.holds Tryd.pinned (.plain (OpenSpec.upto dimensionFormulasSpec)) dimensionFormulasUptoCard

/-- THE SECOND FORM's CARD OF 'halfplanelaw31.DimensionLevelOne'. -/
def dimensionLevelOneUptoCard : Claim7 := { stood := { row := dimensionLevelOneUptoRow, standIns := [], harness := (true, "e2211a182ffc208473da4378ac05159d0db9b75dcaa06e3c7b4821995d8b1d87"), looks := false }, kinds := [], alts := [], laidByText := true, laidKinds := [.data], laidTests := true, laidLooks := .later }
def DimensionLevelOneUptoCardSaid : Prop := Claim7.holds Tryd.pinned (.plain (OpenSpec.upto dimensionLevelOneSpec)) dimensionLevelOneUptoCard

/-- THE SECOND FORM's CARD OF 'halfplanelaw31.DimensionSpaces'. -/
def dimensionSpacesUptoCard : Claim7 := { stood := { row := dimensionSpacesUptoRow, standIns := [], harness := (true, "e2211a182ffc208473da4378ac05159d0db9b75dcaa06e3c7b4821995d8b1d87"), looks := false }, kinds := [], alts := [], laidByText := true, laidKinds := [.data], laidTests := true, laidLooks := .later }
def DimensionSpacesUptoCardSaid : Prop := Claim7.holds Tryd.pinned (.plain (OpenSpec.upto dimensionSpacesSpec)) dimensionSpacesUptoCard

/-- THE SECOND FORM's CARD OF 'halfplanelaw31.DimensionGenus'. -/
def dimensionGenusUptoCard : Claim7 := { stood := { row := dimensionGenusUptoRow, standIns := [], harness := (true, "e2211a182ffc208473da4378ac05159d0db9b75dcaa06e3c7b4821995d8b1d87"), looks := false }, kinds := [], alts := [], laidByText := true, laidKinds := [.data], laidTests := true, laidLooks := .later }
def DimensionGenusUptoCardSaid : Prop := Claim7.holds Tryd.pinned (.plain (OpenSpec.upto dimensionGenusSpec)) dimensionGenusUptoCard

/-- THE SECOND FORM's CARD OF 'halfplanelaw31.DimensionSignature'. -/
def dimensionSignatureUptoCard : Claim7 := { stood := { row := dimensionSignatureUptoRow, standIns := [], harness := (true, "e2211a182ffc208473da4378ac05159d0db9b75dcaa06e3c7b4821995d8b1d87"), looks := false }, kinds := [], alts := [], laidByText := true, laidKinds := [.data], laidTests := true, laidLooks := .later }
def DimensionSignatureUptoCardSaid : Prop := Claim7.holds Tryd.pinned (.plain (OpenSpec.upto dimensionSignatureSpec)) dimensionSignatureUptoCard
end Rows
end Go.Proofs.YteamlpflgfmieaaDoor
