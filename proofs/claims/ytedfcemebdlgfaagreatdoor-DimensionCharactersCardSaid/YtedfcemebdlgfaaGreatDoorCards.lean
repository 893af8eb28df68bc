/-
  DERIVED. GIVEN WITH THE SEED: THE CARDS: each row of YtedfcemebdlgfaaGreatDoorRows.lean that lists a variable, with what it lists TIED to the program's text (the seventh form; the later family's looks); each row that meets fmt, with fmt's text TOLD by the authors' own Lean function (tested against real Go, not proved from fmt's source: count such statements apart). THE CARD IS WHAT COUNTS. Prove the row's statement (the work); the ties are given (YtedfcemebdlgfaaGreatDoorTie.lean); close each card by the builder's one call (the guide's Derived/Test/ToyasCard.lean, 'card_holds'). Laid BY PROGRAM, IN A SANDBOX (cutbox-door.mjs). By AI agents, Wed Nov 11 2026. No macro, syntax, notation, axiom, sorry.
-/
import Derived.Test.YtedfcemebdlgfaaGreatDoorRows
import GoSem.ClaimSeven
namespace Go.Proofs.YtedfcemebdlgfaaGreatDoor
namespace Rows

/-- THE TIED CARD OF 'halfplanelaw31.DimensionCharacters'. -/
def dimensionCharactersCard : Claim7 := { stood := { row := dimensionCharactersRow, standIns := [], harness := (true, "8b6392b0198d2ae071696ff2d83210b44b7352d5c25257b7e60ff4e861d2ad2d"), looks := false }, kinds := [], alts := [], laidByText := true, laidKinds := [.data], laidTests := true, laidLooks := .later }
def DimensionCharactersCardSaid : Prop := Claim7.holds Tryz.pinned (.plain (OpenSpec.ofChange dimensionCharactersSpec)) dimensionCharactersCard

/-- THE SECOND FORM's CARD OF 'halfplanelaw31.DimensionCharacters'. -/
def dimensionCharactersUptoCard : Claim7 := { stood := { row := dimensionCharactersUptoRow, standIns := [], harness := (true, "8b6392b0198d2ae071696ff2d83210b44b7352d5c25257b7e60ff4e861d2ad2d"), looks := false }, kinds := [], alts := [], laidByText := true, laidKinds := [.data], laidTests := true, laidLooks := .later }
def DimensionCharactersUptoCardSaid : Prop := Claim7.holds Tryz.pinned (.plain (OpenSpec.upto dimensionCharactersSpec)) dimensionCharactersUptoCard
end Rows
end Go.Proofs.YtedfcemebdlgfaaGreatDoor
