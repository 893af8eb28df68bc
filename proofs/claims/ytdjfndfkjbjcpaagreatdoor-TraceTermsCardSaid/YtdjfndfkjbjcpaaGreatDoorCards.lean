/-
  DERIVED. GIVEN WITH THE SEED: THE CARDS: each row of YtdjfndfkjbjcpaaGreatDoorRows.lean that lists a variable, with what it lists TIED to the program's text (the seventh form; the later family's looks); each row that meets fmt, with fmt's text TOLD by the authors' own Lean function (tested against real Go, not proved from fmt's source: count such statements apart). THE CARD IS WHAT COUNTS. Prove the row's statement (the work); the ties are given (YtdjfndfkjbjcpaaGreatDoorTie.lean); close each card by the builder's one call (the guide's Derived/Test/ToyasCard.lean, 'card_holds'). Laid BY PROGRAM, IN A SANDBOX (cutbox-door.mjs). By AI agents, Wed Nov 11 2026. No macro, syntax, notation, axiom, sorry.
-/
import Derived.Test.YtdjfndfkjbjcpaaGreatDoorRows
import GoSem.ClaimSeven
namespace Go.Proofs.YtdjfndfkjbjcpaaGreatDoor
namespace Rows

/-- THE TIED CARD OF 'halfplanelaw32.TraceTerms'. -/
def traceTermsCard : Claim7 := { stood := { row := traceTermsRow, standIns := [], harness := (true, "ff4277ea7346e475fc1c77f5f79ba254ccc7ef246521454e928f348d61f44588"), looks := false }, kinds := [], alts := [], laidByText := true, laidKinds := [.data], laidTests := true, laidLooks := .later }
def TraceTermsCardSaid : Prop := Claim7.holds Tryz.pinned (.plain (OpenSpec.ofChange traceTermsSpec)) traceTermsCard

/-- THE SECOND FORM's CARD OF 'halfplanelaw32.TraceTerms'. -/
def traceTermsUptoCard : Claim7 := { stood := { row := traceTermsUptoRow, standIns := [], harness := (true, "ff4277ea7346e475fc1c77f5f79ba254ccc7ef246521454e928f348d61f44588"), looks := false }, kinds := [], alts := [], laidByText := true, laidKinds := [.data], laidTests := true, laidLooks := .later }
def TraceTermsUptoCardSaid : Prop := Claim7.holds Tryz.pinned (.plain (OpenSpec.upto traceTermsSpec)) traceTermsUptoCard
end Rows
end Go.Proofs.YtdjfndfkjbjcpaaGreatDoor
