/-
  DERIVED. GIVEN WITH THE SEED: THE CARDS: each row of YtedfcemebdlgfaaDoorRows.lean that lists a variable, with what it lists TIED to the program's text (the seventh form; the later family's looks); each row that meets fmt, with fmt's text TOLD by the authors' own Lean function (tested against real Go, not proved from fmt's source: count such statements apart). THE CARD IS WHAT COUNTS. Prove the row's statement (the work); the ties are given (YtedfcemebdlgfaaDoorTie.lean); close each card by the builder's one call (the guide's Derived/Test/ToyasCard.lean, 'card_holds'). Laid BY PROGRAM, IN A SANDBOX (cutbox-door.mjs). By AI agents, Wed Nov 11 2026. No macro, syntax, notation, axiom, sorry.
-/
import Derived.Test.YtedfcemebdlgfaaDoorRows
import GoSem.ClaimSeven
namespace Go.Proofs.YtedfcemebdlgfaaDoor
namespace Rows

/-- THE TIED CARD OF 'halfplanelaw40.ManinNumbers'. -/
def maninNumbersCard : Claim7 := { stood := { row := maninNumbersRow, standIns := [], harness := (true, "6cb60b52064d127358e3d515b577425e470636c530c5dea039924e7471b847a4"), looks := false }, kinds := [], alts := [], laidByText := true, laidKinds := [.data], laidTests := true, laidLooks := .later }
def ManinNumbersCardSaid : Prop := Claim7.holds Tryd.pinned (.plain (OpenSpec.ofChange maninNumbersSpec)) maninNumbersCard

/-- THE TIED CARD OF 'halfplanelaw40.ManinCounts'. -/
def maninCountsCard : Claim7 := { stood := { row := maninCountsRow, standIns := [], harness := (true, "6cb60b52064d127358e3d515b577425e470636c530c5dea039924e7471b847a4"), looks := false }, kinds := [], alts := [], laidByText := true, laidKinds := [.data], laidTests := true, laidLooks := .later }
def ManinCountsCardSaid : Prop := Claim7.holds Tryd.pinned (.plain (OpenSpec.ofChange maninCountsSpec)) maninCountsCard

/-- THE TIED CARD OF 'halfplanelaw40.ManinScales'. -/
def maninScalesCard : Claim7 := { stood := { row := maninScalesRow, standIns := [], harness := (true, "6cb60b52064d127358e3d515b577425e470636c530c5dea039924e7471b847a4"), looks := false }, kinds := [], alts := [], laidByText := true, laidKinds := [.data], laidTests := true, laidLooks := .later }
def ManinScalesCardSaid : Prop := Claim7.holds Tryd.pinned (.plain (OpenSpec.ofChange maninScalesSpec)) maninScalesCard

/-- THE TIED CARD OF 'halfplanelaw40.ManinStars'. -/
def maninStarsCard : Claim7 := { stood := { row := maninStarsRow, standIns := [], harness := (true, "6cb60b52064d127358e3d515b577425e470636c530c5dea039924e7471b847a4"), looks := false }, kinds := [], alts := [], laidByText := true, laidKinds := [.data], laidTests := true, laidLooks := .later }
def ManinStarsCardSaid : Prop := Claim7.holds Tryd.pinned (.plain (OpenSpec.ofChange maninStarsSpec)) maninStarsCard

/-- THE TIED CARD OF 'halfplanelaw40.ManinApplies'. -/
def maninAppliesCard : Claim7 := { stood := { row := maninAppliesRow, standIns := [], harness := (true, "6cb60b52064d127358e3d515b577425e470636c530c5dea039924e7471b847a4"), looks := false }, kinds := [], alts := [], laidByText := true, laidKinds := [.data], laidTests := true, laidLooks := .later }
def ManinAppliesCardSaid : Prop := Claim7.holds Tryd.pinned (.plain (OpenSpec.ofChange maninAppliesSpec)) maninAppliesCard

/-- THE TIED CARD OF 'halfplanelaw40.ManinActs'. -/
def maninActsCard : Claim7 := { stood := { row := maninActsRow, standIns := [], harness := (true, "6cb60b52064d127358e3d515b577425e470636c530c5dea039924e7471b847a4"), looks := false }, kinds := [], alts := [], laidByText := true, laidKinds := [.data], laidTests := true, laidLooks := .later }
def ManinActsCardSaid : Prop := Claim7.holds Tryd.pinned (.plain (OpenSpec.ofChange maninActsSpec)) maninActsCard

/-- THE TIED CARD OF 'halfplanelaw40.ManinTurns'. -/
def maninTurnsCard : Claim7 := { stood := { row := maninTurnsRow, standIns := [], harness := (true, "6cb60b52064d127358e3d515b577425e470636c530c5dea039924e7471b847a4"), looks := false }, kinds := [], alts := [], laidByText := true, laidKinds := [.data], laidTests := true, laidLooks := .later }
def ManinTurnsCardSaid : Prop := Claim7.holds Tryd.pinned (.plain (OpenSpec.ofChange maninTurnsSpec)) maninTurnsCard

/-- THE TIED CARD OF 'halfplanelaw40.ManinMirrors'. -/
def maninMirrorsCard : Claim7 := { stood := { row := maninMirrorsRow, standIns := [], harness := (true, "6cb60b52064d127358e3d515b577425e470636c530c5dea039924e7471b847a4"), looks := false }, kinds := [], alts := [], laidByText := true, laidKinds := [.data], laidTests := true, laidLooks := .later }
def ManinMirrorsCardSaid : Prop := Claim7.holds Tryd.pinned (.plain (OpenSpec.ofChange maninMirrorsSpec)) maninMirrorsCard

/-- THE TIED CARD OF 'halfplanelaw40.ManinRelates'. -/
def maninRelatesCard : Claim7 := { stood := { row := maninRelatesRow, standIns := [], harness := (true, "6cb60b52064d127358e3d515b577425e470636c530c5dea039924e7471b847a4"), looks := false }, kinds := [], alts := [], laidByText := true, laidKinds := [.data], laidTests := true, laidLooks := .later }
def ManinRelatesCardSaid : Prop := Claim7.holds Tryd.pinned (.plain (OpenSpec.ofChange maninRelatesSpec)) maninRelatesCard

/-- THE SECOND FORM's CARD OF 'halfplanelaw40.ManinNumbers'. -/
def maninNumbersUptoCard : Claim7 := { stood := { row := maninNumbersUptoRow, standIns := [], harness := (true, "6cb60b52064d127358e3d515b577425e470636c530c5dea039924e7471b847a4"), looks := false }, kinds := [], alts := [], laidByText := true, laidKinds := [.data], laidTests := true, laidLooks := .later }
def ManinNumbersUptoCardSaid : Prop := Claim7.holds Tryd.pinned (.plain (OpenSpec.upto maninNumbersSpec)) maninNumbersUptoCard

/-- THE SECOND FORM's CARD OF 'halfplanelaw40.ManinCounts'. -/
def maninCountsUptoCard : Claim7 := { stood := { row := maninCountsUptoRow, standIns := [], harness := (true, "6cb60b52064d127358e3d515b577425e470636c530c5dea039924e7471b847a4"), looks := false }, kinds := [], alts := [], laidByText := true, laidKinds := [.data], laidTests := true, laidLooks := .later }
def ManinCountsUptoCardSaid : Prop := Claim7.holds Tryd.pinned (.plain (OpenSpec.upto maninCountsSpec)) maninCountsUptoCard

/-- THE SECOND FORM's CARD OF 'halfplanelaw40.ManinScales'. -/
def maninScalesUptoCard : Claim7 := { stood := { row := maninScalesUptoRow, standIns := [], harness := (true, "6cb60b52064d127358e3d515b577425e470636c530c5dea039924e7471b847a4"), looks := false }, kinds := [], alts := [], laidByText := true, laidKinds := [.data], laidTests := true, laidLooks := .later }
def ManinScalesUptoCardSaid : Prop := Claim7.holds Tryd.pinned (.plain (OpenSpec.upto maninScalesSpec)) maninScalesUptoCard

/-- THE SECOND FORM's CARD OF 'halfplanelaw40.ManinStars'. -/
def maninStarsUptoCard : Claim7 := { stood := { row := maninStarsUptoRow, standIns := [], harness := (true, "6cb60b52064d127358e3d515b577425e470636c530c5dea039924e7471b847a4"), looks := false }, kinds := [], alts := [], laidByText := true, laidKinds := [.data], laidTests := true, laidLooks := .later }
def ManinStarsUptoCardSaid : Prop := Claim7.holds Tryd.pinned (.plain (OpenSpec.upto maninStarsSpec)) maninStarsUptoCard

/-- THE SECOND FORM's CARD OF 'halfplanelaw40.ManinApplies'. -/
def maninAppliesUptoCard : Claim7 := { stood := { row := maninAppliesUptoRow, standIns := [], harness := (true, "6cb60b52064d127358e3d515b577425e470636c530c5dea039924e7471b847a4"), looks := false }, kinds := [], alts := [], laidByText := true, laidKinds := [.data], laidTests := true, laidLooks := .later }
def ManinAppliesUptoCardSaid : Prop := Claim7.holds Tryd.pinned (.plain (OpenSpec.upto maninAppliesSpec)) maninAppliesUptoCard

/-- THE SECOND FORM's CARD OF 'halfplanelaw40.ManinActs'. -/
def maninActsUptoCard : Claim7 := { stood := { row := maninActsUptoRow, standIns := [], harness := (true, "6cb60b52064d127358e3d515b577425e470636c530c5dea039924e7471b847a4"), looks := false }, kinds := [], alts := [], laidByText := true, laidKinds := [.data], laidTests := true, laidLooks := .later }
def ManinActsUptoCardSaid : Prop := Claim7.holds Tryd.pinned (.plain (OpenSpec.upto maninActsSpec)) maninActsUptoCard

/-- THE SECOND FORM's CARD OF 'halfplanelaw40.ManinTurns'. -/
def maninTurnsUptoCard : Claim7 := { stood := { row := maninTurnsUptoRow, standIns := [], harness := (true, "6cb60b52064d127358e3d515b577425e470636c530c5dea039924e7471b847a4"), looks := false }, kinds := [], alts := [], laidByText := true, laidKinds := [.data], laidTests := true, laidLooks := .later }
def ManinTurnsUptoCardSaid : Prop := Claim7.holds Tryd.pinned (.plain (OpenSpec.upto maninTurnsSpec)) maninTurnsUptoCard

/-- THE SECOND FORM's CARD OF 'halfplanelaw40.ManinMirrors'. -/
def maninMirrorsUptoCard : Claim7 := { stood := { row := maninMirrorsUptoRow, standIns := [], harness := (true, "6cb60b52064d127358e3d515b577425e470636c530c5dea039924e7471b847a4"), looks := false }, kinds := [], alts := [], laidByText := true, laidKinds := [.data], laidTests := true, laidLooks := .later }
def ManinMirrorsUptoCardSaid : Prop := Claim7.holds Tryd.pinned (.plain (OpenSpec.upto maninMirrorsSpec)) maninMirrorsUptoCard

/-- THE SECOND FORM's CARD OF 'halfplanelaw40.ManinRelates'. -/
def maninRelatesUptoCard : Claim7 := { stood := { row := maninRelatesUptoRow, standIns := [], harness := (true, "6cb60b52064d127358e3d515b577425e470636c530c5dea039924e7471b847a4"), looks := false }, kinds := [], alts := [], laidByText := true, laidKinds := [.data], laidTests := true, laidLooks := .later }
def ManinRelatesUptoCardSaid : Prop := Claim7.holds Tryd.pinned (.plain (OpenSpec.upto maninRelatesSpec)) maninRelatesUptoCard
end Rows
end Go.Proofs.YtedfcemebdlgfaaDoor
