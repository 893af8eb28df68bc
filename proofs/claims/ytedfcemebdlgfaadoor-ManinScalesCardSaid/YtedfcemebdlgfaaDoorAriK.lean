/- Lists of integers as slices: the reference's Primes, the comparison. -/
import Derived.Test.YtedfcemebdlgfaaDoorAriB
import Derived.Test.YtedfcemebdlgfaaDoorNumA
import Derived.Test.YtedfcemebdlgfaaDoorRefC
import Derived.Maps.AppendAt
namespace Go.Proofs.YtedfcemebdlgfaaDoor
open Go.RowKit HP

/-- a slice value that reads as a list of integers -/
def IntsAt (B : Nat) (w : World) (v : Value) (l : List Int) : Prop :=
  (v = .slice none 0 0 ∧ l = []) ∨ ∃ g cap, v = .slice (some ⟨g, 0, none⟩) l.length cap ∧ l.length ≤ cap ∧ cap ≤ maxLen ∧ B ≤ g ∧ g < w.heap.size ∧ ∀ (i : Nat) (x : Int), l[i]? = some x → w.cell? ⟨g, i, none⟩ = some (.int .i64 x)
theorem IntsAt.mono {B C : Nat} {w : World} {v : Value} {l : List Int} (h : IntsAt B w v l) (hC : C ≤ B) : IntsAt C w v l := by
  rcases h with h | ⟨g, cap, h1, h2, h3, h4, h5⟩
  · exact .inl h
  · exact .inr ⟨g, cap, h1, h2, h3, by omega, h5⟩
theorem IntsAt.below {B C : Nat} {w w' : World} {v : Value} {l : List Int} (h : IntsAt B w v l) (hb : Below C w w') (hC : w.heap.size ≤ C) : IntsAt B w' v l := by
  rcases h with h | ⟨g, cap, h1, h2, h3, h4, h5, h6⟩
  · exact .inl h
  · exact .inr ⟨g, cap, h1, h2, h3, h4, by have := hb.size; omega, fun i x hi => (hb.cell (p := ⟨g, i, none⟩) (show g < C by omega)).trans (h6 i x hi)⟩
end Go.Proofs.YtedfcemebdlgfaaDoor
