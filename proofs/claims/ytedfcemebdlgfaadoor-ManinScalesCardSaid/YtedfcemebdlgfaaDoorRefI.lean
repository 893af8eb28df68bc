/- The reference's Divisors. -/
import Derived.Test.YtedfcemebdlgfaaDoorAriK
import Derived.Test.YtedfcemebdlgfaaDoorNumA
namespace Go.Proofs.YtedfcemebdlgfaaDoor
open Go.RowKit HP

/-- two rows of the call's own that do not share a block -/
def Apart (v u : Value) : Prop := v.ownBlock = none ∨ v.ownBlock ≠ u.ownBlock
theorem Apart.symm {v u : Value} (h : Apart v u) : Apart u v := by
  rcases h with h | h
  · by_cases h2 : u.ownBlock = none
    · exact .inl h2
    · exact .inr (by rw [h]; exact h2)
  · exact .inr fun e => h e.symm
end Go.Proofs.YtedfcemebdlgfaaDoor
