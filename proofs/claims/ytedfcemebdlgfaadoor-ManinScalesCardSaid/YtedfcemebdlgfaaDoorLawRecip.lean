/- The law ArithReciprocity: its walk. -/
import Derived.Test.YtedfcemebdlgfaaDoorAriG
namespace Go.Proofs.YtedfcemebdlgfaaDoor
open Go.RowKit HP

theorem tri_bd {x : Int} (h : Tri x) : -1 ≤ x ∧ x ≤ 1 := by rcases h with rfl | rfl | rfl <;> decide
end Go.Proofs.YtedfcemebdlgfaaDoor
