/- The reference's Divisors. -/
import Derived.Test.YtdjfndfkjbjcpaaGreatDoorAriK
import Derived.Test.YtdjfndfkjbjcpaaGreatDoorNumA
namespace Go.Proofs.YtdjfndfkjbjcpaaGreatDoor
open Go.RowKit HP

def intL (l : List Nat) : List Int := l.map fun (x : Nat) => (x : Int)
def Apart (v u : Value) : Prop := v.ownBlock = none ∨ v.ownBlock ≠ u.ownBlock
theorem Apart.symm {v u : Value} (h : Apart v u) : Apart u v := by
  rcases h with h | h
  · by_cases h2 : u.ownBlock = none
    · exact .inl h2
    · exact .inr (by rw [h]; exact h2)
  · exact .inr fun e => h e.symm
end Go.Proofs.YtdjfndfkjbjcpaaGreatDoor
