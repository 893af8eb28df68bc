/- Lists of integers as slices: the reference's Primes, the comparison. -/
import Derived.Test.YtdjfndfkjbjcpaaGreatDoorAriB
import Derived.Test.YtdjfndfkjbjcpaaGreatDoorNumA
import Derived.Test.YtdjfndfkjbjcpaaGreatDoorAriG
import Derived.Maps.AppendAt
namespace Go.Proofs.YtdjfndfkjbjcpaaGreatDoor
open Go.RowKit HP

theorem infoInt : (Tryz.prog.info? 3).map (fun i => (i.zero, i.size, i.bytes)) = some (some (.int .i64 0), 1, 8) := by kernel_rfl

def intCells (l : List Int) : List Value := l.map fun x => .int .i64 x
theorem intCells_at {l : List Int} {i : Nat} {x : Int} (h : l[i]? = some x) : (intCells l)[i]? = some (.int .i64 x) := by
  unfold intCells; rw [List.getElem?_map, h]; rfl
def IntsAt (B : Nat) (w : World) (v : Value) (l : List Int) : Prop :=
  (v = .slice none 0 0 ∧ l = []) ∨ ∃ g cap, v = .slice (some ⟨g, 0, none⟩) l.length cap ∧ l.length ≤ cap ∧ cap ≤ maxLen ∧ B ≤ g ∧ g < w.heap.size ∧ ∀ (i : Nat) (x : Int), l[i]? = some x → w.cell? ⟨g, i, none⟩ = some (.int .i64 x)
theorem intsAt_of_owns {B : Nat} {w : World} {v : Value} {l : List Int} {t : TypeId} (h : w.ownsRow B t 1 v l.length (intCells l)) : IntsAt B w v l := by
  rcases h.2 with ⟨rfl, h0⟩ | ⟨g, cap, cur, rfl, hg, hb, h1, h2, h3, h4⟩
  · exact .inl ⟨rfl, List.length_eq_zero_iff.1 h0⟩
  · refine .inr ⟨g, cap, rfl, h1, h2, hg, ?_, fun i x hi => ?_⟩
    · exact (Array.getElem?_eq_some_iff.1 hb).1
    · have hil : i < l.length := (List.getElem?_eq_some_iff.1 hi).1
      exact (h.cellAt i (by omega)).trans (intCells_at hi)
theorem IntsAt.mono {B C : Nat} {w : World} {v : Value} {l : List Int} (h : IntsAt B w v l) (hC : C ≤ B) : IntsAt C w v l := by
  rcases h with h | ⟨g, cap, h1, h2, h3, h4, h5⟩
  · exact .inl h
  · exact .inr ⟨g, cap, h1, h2, h3, by omega, h5⟩
theorem IntsAt.below {B C : Nat} {w w' : World} {v : Value} {l : List Int} (h : IntsAt B w v l) (hb : Below C w w') (hC : w.heap.size ≤ C) : IntsAt B w' v l := by
  rcases h with h | ⟨g, cap, h1, h2, h3, h4, h5, h6⟩
  · exact .inl h
  · exact .inr ⟨g, cap, h1, h2, h3, h4, by have := hb.size; omega, fun i x hi => (hb.cell (p := ⟨g, i, none⟩) (show g < C by omega)).trans (h6 i x hi)⟩
theorem one_one (k : IntKind) (a : Int) : ∀ u ∈ [Value.int k a], u.oneCell' = true := by
  intro u hu
  simp at hu
  subst hu; rfl
end Go.Proofs.YtdjfndfkjbjcpaaGreatDoor
