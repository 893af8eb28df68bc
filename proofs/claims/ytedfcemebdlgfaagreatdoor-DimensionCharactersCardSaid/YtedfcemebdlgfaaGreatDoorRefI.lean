/- The reference's Divisors. -/
import Derived.Test.YtedfcemebdlgfaaGreatDoorAriK
import Derived.Test.YtedfcemebdlgfaaGreatDoorNumA
namespace Go.Proofs.YtedfcemebdlgfaaGreatDoor
open Go.RowKit HP

/-- naturals as integers -/
def intL (l : List Nat) : List Int := l.map fun (x : Nat) => (x : Int)
theorem intL_append (l m : List Nat) : intL (l ++ m) = intL l ++ intL m := List.map_append
theorem intL_one (x : Nat) : intL [x] = [(x : Int)] := rfl
theorem intL_len (l : List Nat) : (intL l).length = l.length := List.length_map _
theorem intL_at {l : List Nat} {i x : Nat} (h : l[i]? = some x) : (intL l)[i]? = some (x : Int) := by unfold intL; rw [List.getElem?_map, h]; rfl

/-- two rows of the call's own that do not share a block -/
def Apart (v u : Value) : Prop := v.ownBlock = none ∨ v.ownBlock ≠ u.ownBlock
theorem Apart.symm {v u : Value} (h : Apart v u) : Apart u v := by
  rcases h with h | h
  · by_cases h2 : u.ownBlock = none
    · exact .inl h2
    · exact .inr (by rw [h]; exact h2)
  · exact .inr fun e => h e.symm
theorem apart_kept {B : Nat} {wr w1 : World} {u v v' : Value} {l : List Int} {t : TypeId} {n : Nat} {o : Obj} (hu : wr.ownsRow B t 1 u n (intCells l)) (hd : Apart u v) (hg : (wr.alloc o).grownBy w1 v.ownBlock) (hat : v'.ownBlock = v.ownBlock ∨ v'.ownBlock = some (wr.heap.size + 1)) :
    w1.ownsRow B t 1 u n (intCells l) ∧ Apart u v' := by
  refine ⟨(hu.alloc o).kept hg hd, ?_⟩
  rcases hd with hd | hd
  · exact .inl hd
  · by_cases h0 : u.ownBlock = none
    · exact .inl h0
    · refine .inr ?_
      rcases hat with hat | hat
      · rw [hat]; exact hd
      · rw [hat]
        intro e
        have := (hu.lt _ e).2
        omega

end Go.Proofs.YtedfcemebdlgfaaGreatDoor
