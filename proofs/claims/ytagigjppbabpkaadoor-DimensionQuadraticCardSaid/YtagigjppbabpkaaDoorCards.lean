/-
  DERIVED. GIVEN WITH THE SEED: THE CARDS: each row of YtagigjppbabpkaaDoorRows.lean that lists a variable, with what it lists TIED to the program's text (the seventh form; the later family's looks); each row that meets fmt, with fmt's text TOLD by the authors' own Lean function (tested against real Go, not proved from fmt's source: count such statements apart). THE CARD IS WHAT COUNTS. Prove the row's statement (the work); the ties are given (YtagigjppbabpkaaDoorTie.lean); close each card by the builder's one call (the guide's Derived/Test/ToyasCard.lean, 'card_holds'). Laid BY PROGRAM, IN A SANDBOX (cutbox-door.mjs). By AI agents, Wed Nov 11 2026. No macro, syntax, notation, axiom, sorry.
-/
import Derived.Test.YtagigjppbabpkaaDoorRows
import GoSem.ClaimSeven
namespace Go.Proofs.YtagigjppbabpkaaDoor
namespace Rows

/-- THE TIED CARD OF 'halfplanelaw28.DirichletGenerators'. -/
def dirichletGeneratorsCard : Claim7 := { stood := { row := dirichletGeneratorsRow, standIns := [], harness := (true, "248510246132068224973801f6d769071eb2491f24ef5fff1d031a4d09a4617c"), looks := false }, kinds := [], alts := [], laidByText := true, laidKinds := [.data], laidTests := true, laidLooks := .later }
def DirichletGeneratorsCardSaid : Prop := Claim7.holds Tryd.pinned (.plain (OpenSpec.ofChange dirichletGeneratorsSpec)) dirichletGeneratorsCard

/-- THE TIED CARD OF 'halfplanelaw28.DirichletChecks'. -/
def dirichletChecksCard : Claim7 := { stood := { row := dirichletChecksRow, standIns := [], harness := (true, "248510246132068224973801f6d769071eb2491f24ef5fff1d031a4d09a4617c"), looks := false }, kinds := [], alts := [], laidByText := true, laidKinds := [.data], laidTests := true, laidLooks := .later }
def DirichletChecksCardSaid : Prop := Claim7.holds Tryd.pinned (.plain (OpenSpec.ofChange dirichletChecksSpec)) dirichletChecksCard

/-- THE TIED CARD OF 'halfplanelaw28.DirichletQuadratic'. -/
def dirichletQuadraticCard : Claim7 := { stood := { row := dirichletQuadraticRow, standIns := [], harness := (true, "248510246132068224973801f6d769071eb2491f24ef5fff1d031a4d09a4617c"), looks := false }, kinds := [], alts := [], laidByText := true, laidKinds := [.data], laidTests := true, laidLooks := .later }
def DirichletQuadraticCardSaid : Prop := Claim7.holds Tryd.pinned (.plain (OpenSpec.ofChange dirichletQuadraticSpec)) dirichletQuadraticCard

/-- THE TIED CARD OF 'halfplanelaw28.DirichletValues'. -/
def dirichletValuesCard : Claim7 := { stood := { row := dirichletValuesRow, standIns := [], harness := (true, "248510246132068224973801f6d769071eb2491f24ef5fff1d031a4d09a4617c"), looks := false }, kinds := [], alts := [], laidByText := true, laidKinds := [.data], laidTests := true, laidLooks := .later }
def DirichletValuesCardSaid : Prop := Claim7.holds Tryd.pinned (.plain (OpenSpec.ofChange dirichletValuesSpec)) dirichletValuesCard

/-- THE TIED CARD OF 'halfplanelaw28.DirichletMultiplies'. -/
def dirichletMultipliesCard : Claim7 := { stood := { row := dirichletMultipliesRow, standIns := [], harness := (true, "248510246132068224973801f6d769071eb2491f24ef5fff1d031a4d09a4617c"), looks := false }, kinds := [], alts := [], laidByText := true, laidKinds := [.data], laidTests := true, laidLooks := .later }
def DirichletMultipliesCardSaid : Prop := Claim7.holds Tryd.pinned (.plain (OpenSpec.ofChange dirichletMultipliesSpec)) dirichletMultipliesCard

/-- THE TIED CARD OF 'halfplanelaw28.DirichletExtends'. -/
def dirichletExtendsCard : Claim7 := { stood := { row := dirichletExtendsRow, standIns := [], harness := (true, "248510246132068224973801f6d769071eb2491f24ef5fff1d031a4d09a4617c"), looks := false }, kinds := [], alts := [], laidByText := true, laidKinds := [.data], laidTests := true, laidLooks := .later }
def DirichletExtendsCardSaid : Prop := Claim7.holds Tryd.pinned (.plain (OpenSpec.ofChange dirichletExtendsSpec)) dirichletExtendsCard

/-- THE TIED CARD OF 'halfplanelaw28.DirichletPrimitive'. -/
def dirichletPrimitiveCard : Claim7 := { stood := { row := dirichletPrimitiveRow, standIns := [], harness := (true, "248510246132068224973801f6d769071eb2491f24ef5fff1d031a4d09a4617c"), looks := false }, kinds := [], alts := [], laidByText := true, laidKinds := [.data], laidTests := true, laidLooks := .later }
def DirichletPrimitiveCardSaid : Prop := Claim7.holds Tryd.pinned (.plain (OpenSpec.ofChange dirichletPrimitiveSpec)) dirichletPrimitiveCard

/-- THE TIED CARD OF 'halfplanelaw28.DirichletAll'. -/
def dirichletAllCard : Claim7 := { stood := { row := dirichletAllRow, standIns := [], harness := (true, "248510246132068224973801f6d769071eb2491f24ef5fff1d031a4d09a4617c"), looks := false }, kinds := [], alts := [], laidByText := true, laidKinds := [.data], laidTests := true, laidLooks := .later }
def DirichletAllCardSaid : Prop := Claim7.holds Tryd.pinned (.plain (OpenSpec.ofChange dirichletAllSpec)) dirichletAllCard

/-- THE TIED CARD OF 'halfplanelaw28.DirichletProducts'. -/
def dirichletProductsCard : Claim7 := { stood := { row := dirichletProductsRow, standIns := [], harness := (true, "248510246132068224973801f6d769071eb2491f24ef5fff1d031a4d09a4617c"), looks := false }, kinds := [], alts := [], laidByText := true, laidKinds := [.data], laidTests := true, laidLooks := .later }
def DirichletProductsCardSaid : Prop := Claim7.holds Tryd.pinned (.plain (OpenSpec.ofChange dirichletProductsSpec)) dirichletProductsCard

/-- THE TIED CARD OF 'halfplanelaw28.DirichletOrthogonal'. -/
def dirichletOrthogonalCard : Claim7 := { stood := { row := dirichletOrthogonalRow, standIns := [], harness := (true, "248510246132068224973801f6d769071eb2491f24ef5fff1d031a4d09a4617c"), looks := false }, kinds := [], alts := [], laidByText := true, laidKinds := [.data], laidTests := true, laidLooks := .later }
def DirichletOrthogonalCardSaid : Prop := Claim7.holds Tryd.pinned (.plain (OpenSpec.ofChange dirichletOrthogonalSpec)) dirichletOrthogonalCard

/-- THE TIED CARD OF 'halfplanelaw31.DimensionQuadratic'. -/
def dimensionQuadraticCard : Claim7 := { stood := { row := dimensionQuadraticRow, standIns := [], harness := (true, "248510246132068224973801f6d769071eb2491f24ef5fff1d031a4d09a4617c"), looks := false }, kinds := [], alts := [], laidByText := true, laidKinds := [.data], laidTests := true, laidLooks := .later }
def DimensionQuadraticCardSaid : Prop := Claim7.holds Tryd.pinned (.plain (OpenSpec.ofChange dimensionQuadraticSpec)) dimensionQuadraticCard

/-- THE SECOND FORM's CARD OF 'halfplanelaw28.DirichletGenerators'. -/
def dirichletGeneratorsUptoCard : Claim7 := { stood := { row := dirichletGeneratorsUptoRow, standIns := [], harness := (true, "248510246132068224973801f6d769071eb2491f24ef5fff1d031a4d09a4617c"), looks := false }, kinds := [], alts := [], laidByText := true, laidKinds := [.data], laidTests := true, laidLooks := .later }
def DirichletGeneratorsUptoCardSaid : Prop := Claim7.holds Tryd.pinned (.plain (OpenSpec.upto dirichletGeneratorsSpec)) dirichletGeneratorsUptoCard

/-- THE SECOND FORM's CARD OF 'halfplanelaw28.DirichletChecks'. -/
def dirichletChecksUptoCard : Claim7 := { stood := { row := dirichletChecksUptoRow, standIns := [], harness := (true, "248510246132068224973801f6d769071eb2491f24ef5fff1d031a4d09a4617c"), looks := false }, kinds := [], alts := [], laidByText := true, laidKinds := [.data], laidTests := true, laidLooks := .later }
def DirichletChecksUptoCardSaid : Prop := Claim7.holds Tryd.pinned (.plain (OpenSpec.upto dirichletChecksSpec)) dirichletChecksUptoCard

/-- THE SECOND FORM's CARD OF 'halfplanelaw28.DirichletQuadratic'. -/
def dirichletQuadraticUptoCard : Claim7 := { stood := { row := dirichletQuadraticUptoRow, standIns := [], harness := (true, "248510246132068224973801f6d769071eb2491f24ef5fff1d031a4d09a4617c"), looks := false }, kinds := [], alts := [], laidByText := true, laidKinds := [.data], laidTests := true, laidLooks := .later }
def DirichletQuadraticUptoCardSaid : Prop := Claim7.holds Tryd.pinned (.plain (OpenSpec.upto dirichletQuadraticSpec)) dirichletQuadraticUptoCard

/-- THE SECOND FORM's CARD OF 'halfplanelaw28.DirichletValues'. -/
def dirichletValuesUptoCard : Claim7 := { stood := { row := dirichletValuesUptoRow, standIns := [], harness := (true, "248510246132068224973801f6d769071eb2491f24ef5fff1d031a4d09a4617c"), looks := false }, kinds := [], alts := [], laidByText := true, laidKinds := [.data], laidTests := true, laidLooks := .later }
def DirichletValuesUptoCardSaid : Prop := Claim7.holds Tryd.pinned (.plain (OpenSpec.upto dirichletValuesSpec)) dirichletValuesUptoCard

/-- THE SECOND FORM's CARD OF 'halfplanelaw28.DirichletMultiplies'. -/
def dirichletMultipliesUptoCard : Claim7 := { stood := { row := dirichletMultipliesUptoRow, standIns := [], harness := (true, "248510246132068224973801f6d769071eb2491f24ef5fff1d031a4d09a4617c"), looks := false }, kinds := [], alts := [], laidByText := true, laidKinds := [.data], laidTests := true, laidLooks := .later }
def DirichletMultipliesUptoCardSaid : Prop := Claim7.holds Tryd.pinned (.plain (OpenSpec.upto dirichletMultipliesSpec)) dirichletMultipliesUptoCard

/-- THE SECOND FORM's CARD OF 'halfplanelaw28.DirichletExtends'. -/
def dirichletExtendsUptoCard : Claim7 := { stood := { row := dirichletExtendsUptoRow, standIns := [], harness := (true, "248510246132068224973801f6d769071eb2491f24ef5fff1d031a4d09a4617c"), looks := false }, kinds := [], alts := [], laidByText := true, laidKinds := [.data], laidTests := true, laidLooks := .later }
def DirichletExtendsUptoCardSaid : Prop := Claim7.holds Tryd.pinned (.plain (OpenSpec.upto dirichletExtendsSpec)) dirichletExtendsUptoCard

/-- THE SECOND FORM's CARD OF 'halfplanelaw28.DirichletPrimitive'. -/
def dirichletPrimitiveUptoCard : Claim7 := { stood := { row := dirichletPrimitiveUptoRow, standIns := [], harness := (true, "248510246132068224973801f6d769071eb2491f24ef5fff1d031a4d09a4617c"), looks := false }, kinds := [], alts := [], laidByText := true, laidKinds := [.data], laidTests := true, laidLooks := .later }
def DirichletPrimitiveUptoCardSaid : Prop := Claim7.holds Tryd.pinned (.plain (OpenSpec.upto dirichletPrimitiveSpec)) dirichletPrimitiveUptoCard

/-- THE SECOND FORM's CARD OF 'halfplanelaw28.DirichletAll'. -/
def dirichletAllUptoCard : Claim7 := { stood := { row := dirichletAllUptoRow, standIns := [], harness := (true, "248510246132068224973801f6d769071eb2491f24ef5fff1d031a4d09a4617c"), looks := false }, kinds := [], alts := [], laidByText := true, laidKinds := [.data], laidTests := true, laidLooks := .later }
def DirichletAllUptoCardSaid : Prop := Claim7.holds Tryd.pinned (.plain (OpenSpec.upto dirichletAllSpec)) dirichletAllUptoCard

/-- THE SECOND FORM's CARD OF 'halfplanelaw28.DirichletProducts'. -/
def dirichletProductsUptoCard : Claim7 := { stood := { row := dirichletProductsUptoRow, standIns := [], harness := (true, "248510246132068224973801f6d769071eb2491f24ef5fff1d031a4d09a4617c"), looks := false }, kinds := [], alts := [], laidByText := true, laidKinds := [.data], laidTests := true, laidLooks := .later }
def DirichletProductsUptoCardSaid : Prop := Claim7.holds Tryd.pinned (.plain (OpenSpec.upto dirichletProductsSpec)) dirichletProductsUptoCard

/-- THE SECOND FORM's CARD OF 'halfplanelaw28.DirichletOrthogonal'. -/
def dirichletOrthogonalUptoCard : Claim7 := { stood := { row := dirichletOrthogonalUptoRow, standIns := [], harness := (true, "248510246132068224973801f6d769071eb2491f24ef5fff1d031a4d09a4617c"), looks := false }, kinds := [], alts := [], laidByText := true, laidKinds := [.data], laidTests := true, laidLooks := .later }
def DirichletOrthogonalUptoCardSaid : Prop := Claim7.holds Tryd.pinned (.plain (OpenSpec.upto dirichletOrthogonalSpec)) dirichletOrthogonalUptoCard

/-- THE SECOND FORM's CARD OF 'halfplanelaw31.DimensionQuadratic'. -/
def dimensionQuadraticUptoCard : Claim7 := { stood := { row := dimensionQuadraticUptoRow, standIns := [], harness := (true, "248510246132068224973801f6d769071eb2491f24ef5fff1d031a4d09a4617c"), looks := false }, kinds := [], alts := [], laidByText := true, laidKinds := [.data], laidTests := true, laidLooks := .later }
def DimensionQuadraticUptoCardSaid : Prop := Claim7.holds Tryd.pinned (.plain (OpenSpec.upto dimensionQuadraticSpec)) dimensionQuadraticUptoCard
end Rows
end Go.Proofs.YtagigjppbabpkaaDoor
