/-
  DERIVED. GIVEN WITH THE SEED: THE CARDS: each row of YtjijdabbhfefjaaGreatDoorRows.lean that lists a variable, with what it lists TIED to the program's text (the seventh form; the later family's looks); each row that meets fmt, with fmt's text TOLD by the authors' own Lean function (tested against real Go, not proved from fmt's source: count such statements apart). THE CARD IS WHAT COUNTS. Prove the row's statement (the work); the ties are given (YtjijdabbhfefjaaGreatDoorTie.lean); close each card by the builder's one call (the guide's Derived/Test/ToyasCard.lean, 'card_holds'). Laid BY PROGRAM, IN A SANDBOX (cutbox-door.mjs). By AI agents, Wed Nov 11 2026. No macro, syntax, notation, axiom, sorry.
-/
import Derived.Test.YtjijdabbhfefjaaGreatDoorRows
import GoSem.ClaimSeven
namespace Go.Proofs.YtjijdabbhfefjaaGreatDoor
namespace Rows

/-- THE TIED CARD OF 'halfplanelaw32.TraceTerms'. -/
def traceTermsCard : Claim7 := { stood := { row := traceTermsRow, standIns := [], harness := (true, "2c2a5d8e00191f128b15caa8abe60a578e3fb67c24c1604542fc0262ea8e5435"), looks := false }, kinds := [], alts := [], laidByText := true, laidKinds := [.data], laidTests := true, laidLooks := .later }
def TraceTermsCardSaid : Prop := Claim7.holds Tryz.pinned (.plain (OpenSpec.ofChange traceTermsSpec)) traceTermsCard

/-- THE TIED CARD OF 'halfplanelaw32.TraceTotals'. -/
def traceTotalsCard : Claim7 := { stood := { row := traceTotalsRow, standIns := [], harness := (true, "2c2a5d8e00191f128b15caa8abe60a578e3fb67c24c1604542fc0262ea8e5435"), looks := false }, kinds := [], alts := [], laidByText := true, laidKinds := [.data], laidTests := true, laidLooks := .later }
def TraceTotalsCardSaid : Prop := Claim7.holds Tryz.pinned (.plain (OpenSpec.ofChange traceTotalsSpec)) traceTotalsCard

/-- THE TIED CARD OF 'halfplanelaw32.TraceLevelOne'. -/
def traceLevelOneCard : Claim7 := { stood := { row := traceLevelOneRow, standIns := [], harness := (true, "2c2a5d8e00191f128b15caa8abe60a578e3fb67c24c1604542fc0262ea8e5435"), looks := false }, kinds := [], alts := [], laidByText := true, laidKinds := [.data], laidTests := true, laidLooks := .later }
def TraceLevelOneCardSaid : Prop := Claim7.holds Tryz.pinned (.plain (OpenSpec.ofChange traceLevelOneSpec)) traceLevelOneCard

/-- THE TIED CARD OF 'halfplanelaw32.TraceFixed'. -/
def traceFixedCard : Claim7 := { stood := { row := traceFixedRow, standIns := [], harness := (true, "2c2a5d8e00191f128b15caa8abe60a578e3fb67c24c1604542fc0262ea8e5435"), looks := false }, kinds := [], alts := [], laidByText := true, laidKinds := [.data], laidTests := true, laidLooks := .later }
def TraceFixedCardSaid : Prop := Claim7.holds Tryz.pinned (.plain (OpenSpec.ofChange traceFixedSpec)) traceFixedCard

/-- THE TIED CARD OF 'halfplanelaw32.TraceDimension'. -/
def traceDimensionCard : Claim7 := { stood := { row := traceDimensionRow, standIns := [], harness := (true, "2c2a5d8e00191f128b15caa8abe60a578e3fb67c24c1604542fc0262ea8e5435"), looks := false }, kinds := [], alts := [], laidByText := true, laidKinds := [.data], laidTests := true, laidLooks := .later }
def TraceDimensionCardSaid : Prop := Claim7.holds Tryz.pinned (.plain (OpenSpec.ofChange traceDimensionSpec)) traceDimensionCard

/-- THE TIED CARD OF 'halfplanelaw32.TraceMultiplies'. -/
def traceMultipliesCard : Claim7 := { stood := { row := traceMultipliesRow, standIns := [], harness := (true, "2c2a5d8e00191f128b15caa8abe60a578e3fb67c24c1604542fc0262ea8e5435"), looks := false }, kinds := [], alts := [], laidByText := true, laidKinds := [.data], laidTests := true, laidLooks := .later }
def TraceMultipliesCardSaid : Prop := Claim7.holds Tryz.pinned (.plain (OpenSpec.ofChange traceMultipliesSpec)) traceMultipliesCard

/-- THE TIED CARD OF 'halfplanelaw32.TraceSquares'. -/
def traceSquaresCard : Claim7 := { stood := { row := traceSquaresRow, standIns := [], harness := (true, "2c2a5d8e00191f128b15caa8abe60a578e3fb67c24c1604542fc0262ea8e5435"), looks := false }, kinds := [], alts := [], laidByText := true, laidKinds := [.data], laidTests := true, laidLooks := .later }
def TraceSquaresCardSaid : Prop := Claim7.holds Tryz.pinned (.plain (OpenSpec.ofChange traceSquaresSpec)) traceSquaresCard

/-- THE TIED CARD OF 'halfplanelaw32.TraceBounds'. -/
def traceBoundsCard : Claim7 := { stood := { row := traceBoundsRow, standIns := [], harness := (true, "2c2a5d8e00191f128b15caa8abe60a578e3fb67c24c1604542fc0262ea8e5435"), looks := false }, kinds := [], alts := [], laidByText := true, laidKinds := [.data], laidTests := true, laidLooks := .later }
def TraceBoundsCardSaid : Prop := Claim7.holds Tryz.pinned (.plain (OpenSpec.ofChange traceBoundsSpec)) traceBoundsCard

/-- THE SECOND FORM's CARD OF 'halfplanelaw32.TraceTerms'. -/
def traceTermsUptoCard : Claim7 := { stood := { row := traceTermsUptoRow, standIns := [], harness := (true, "2c2a5d8e00191f128b15caa8abe60a578e3fb67c24c1604542fc0262ea8e5435"), looks := false }, kinds := [], alts := [], laidByText := true, laidKinds := [.data], laidTests := true, laidLooks := .later }
def TraceTermsUptoCardSaid : Prop := Claim7.holds Tryz.pinned (.plain (OpenSpec.upto traceTermsSpec)) traceTermsUptoCard

/-- THE SECOND FORM's CARD OF 'halfplanelaw32.TraceTotals'. -/
def traceTotalsUptoCard : Claim7 := { stood := { row := traceTotalsUptoRow, standIns := [], harness := (true, "2c2a5d8e00191f128b15caa8abe60a578e3fb67c24c1604542fc0262ea8e5435"), looks := false }, kinds := [], alts := [], laidByText := true, laidKinds := [.data], laidTests := true, laidLooks := .later }
def TraceTotalsUptoCardSaid : Prop := Claim7.holds Tryz.pinned (.plain (OpenSpec.upto traceTotalsSpec)) traceTotalsUptoCard

/-- THE SECOND FORM's CARD OF 'halfplanelaw32.TraceLevelOne'. -/
def traceLevelOneUptoCard : Claim7 := { stood := { row := traceLevelOneUptoRow, standIns := [], harness := (true, "2c2a5d8e00191f128b15caa8abe60a578e3fb67c24c1604542fc0262ea8e5435"), looks := false }, kinds := [], alts := [], laidByText := true, laidKinds := [.data], laidTests := true, laidLooks := .later }
def TraceLevelOneUptoCardSaid : Prop := Claim7.holds Tryz.pinned (.plain (OpenSpec.upto traceLevelOneSpec)) traceLevelOneUptoCard

/-- THE SECOND FORM's CARD OF 'halfplanelaw32.TraceFixed'. -/
def traceFixedUptoCard : Claim7 := { stood := { row := traceFixedUptoRow, standIns := [], harness := (true, "2c2a5d8e00191f128b15caa8abe60a578e3fb67c24c1604542fc0262ea8e5435"), looks := false }, kinds := [], alts := [], laidByText := true, laidKinds := [.data], laidTests := true, laidLooks := .later }
def TraceFixedUptoCardSaid : Prop := Claim7.holds Tryz.pinned (.plain (OpenSpec.upto traceFixedSpec)) traceFixedUptoCard

/-- THE SECOND FORM's CARD OF 'halfplanelaw32.TraceDimension'. -/
def traceDimensionUptoCard : Claim7 := { stood := { row := traceDimensionUptoRow, standIns := [], harness := (true, "2c2a5d8e00191f128b15caa8abe60a578e3fb67c24c1604542fc0262ea8e5435"), looks := false }, kinds := [], alts := [], laidByText := true, laidKinds := [.data], laidTests := true, laidLooks := .later }
def TraceDimensionUptoCardSaid : Prop := Claim7.holds Tryz.pinned (.plain (OpenSpec.upto traceDimensionSpec)) traceDimensionUptoCard

/-- THE SECOND FORM's CARD OF 'halfplanelaw32.TraceMultiplies'. -/
def traceMultipliesUptoCard : Claim7 := { stood := { row := traceMultipliesUptoRow, standIns := [], harness := (true, "2c2a5d8e00191f128b15caa8abe60a578e3fb67c24c1604542fc0262ea8e5435"), looks := false }, kinds := [], alts := [], laidByText := true, laidKinds := [.data], laidTests := true, laidLooks := .later }
def TraceMultipliesUptoCardSaid : Prop := Claim7.holds Tryz.pinned (.plain (OpenSpec.upto traceMultipliesSpec)) traceMultipliesUptoCard

/-- THE SECOND FORM's CARD OF 'halfplanelaw32.TraceSquares'. -/
def traceSquaresUptoCard : Claim7 := { stood := { row := traceSquaresUptoRow, standIns := [], harness := (true, "2c2a5d8e00191f128b15caa8abe60a578e3fb67c24c1604542fc0262ea8e5435"), looks := false }, kinds := [], alts := [], laidByText := true, laidKinds := [.data], laidTests := true, laidLooks := .later }
def TraceSquaresUptoCardSaid : Prop := Claim7.holds Tryz.pinned (.plain (OpenSpec.upto traceSquaresSpec)) traceSquaresUptoCard

/-- THE SECOND FORM's CARD OF 'halfplanelaw32.TraceBounds'. -/
def traceBoundsUptoCard : Claim7 := { stood := { row := traceBoundsUptoRow, standIns := [], harness := (true, "2c2a5d8e00191f128b15caa8abe60a578e3fb67c24c1604542fc0262ea8e5435"), looks := false }, kinds := [], alts := [], laidByText := true, laidKinds := [.data], laidTests := true, laidLooks := .later }
def TraceBoundsUptoCardSaid : Prop := Claim7.holds Tryz.pinned (.plain (OpenSpec.upto traceBoundsSpec)) traceBoundsUptoCard
end Rows
end Go.Proofs.YtjijdabbhfefjaaGreatDoor
