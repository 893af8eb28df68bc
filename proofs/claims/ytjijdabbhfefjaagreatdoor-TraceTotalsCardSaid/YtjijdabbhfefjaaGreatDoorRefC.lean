/- The walk of the reference's Factor. -/
import Derived.Test.YtjijdabbhfefjaaGreatDoorAriG
namespace Go.Proofs.YtjijdabbhfefjaaGreatDoor
open Go.RowKit HP

theorem infoPP : (Tryz.prog.info? 126).map (fun i => (i.zero, i.size, i.bytes)) = some (some (.agg #[.int .i64 0, .int .i64 0]), 2, 16) := by kernel_rfl

def ppCells : List (Nat × Nat) → List Value
  | [] => []
  | (p, e) :: l => .int .i64 p :: .int .i64 e :: ppCells l
theorem ppCells_append : ∀ l m, ppCells (l ++ m) = ppCells l ++ ppCells m
  | [], m => rfl
  | (p, e) :: l, m => by simp [ppCells, ppCells_append l m]
theorem ppCells_at : ∀ (l : List (Nat × Nat)) (i p e : Nat), l[i]? = some (p, e) → (ppCells l)[i * 2]? = some (.int .i64 p) ∧ (ppCells l)[i * 2 + 1]? = some (.int .i64 e)
  | [], i, p, e, h => by simp at h
  | (q, f) :: l, 0, p, e, h => by
    simp only [List.getElem?_cons_zero, Option.some.injEq, Prod.mk.injEq] at h
    obtain ⟨rfl, rfl⟩ := h
    exact ⟨rfl, rfl⟩
  | (q, f) :: l, i + 1, p, e, h => by
    have := ppCells_at l i p e (by simpa using h)
    have e1 : (i + 1) * 2 = i * 2 + 1 + 1 := by omega
    rw [e1]
    exact this

def PPAt (B : Nat) (w : World) (v : Value) (l : List (Nat × Nat)) : Prop :=
  (v = .slice none 0 0 ∧ l = []) ∨ ∃ g cap, v = .slice (some ⟨g, 0, none⟩) l.length cap ∧ B ≤ g ∧ g < w.heap.size ∧
    ∀ (i p e : Nat), l[i]? = some (p, e) → w.cell? ⟨g, i * 2, none⟩ = some (.int .i64 p) ∧ w.cell? ⟨g, i * 2 + 1, none⟩ = some (.int .i64 e)
theorem ppAt_of_owns {B : Nat} {w : World} {v : Value} {l : List (Nat × Nat)} {t : TypeId} (h : w.ownsRow B t 2 v l.length (ppCells l)) : PPAt B w v l := by
  rcases h.2 with ⟨rfl, h0⟩ | ⟨g, cap, cur, rfl, hg, hb, h1, h2, h3, h4⟩
  · exact .inl ⟨rfl, List.length_eq_zero_iff.1 h0⟩
  · refine .inr ⟨g, cap, rfl, hg, ?_, fun i p e hi => ?_⟩
    · exact (Array.getElem?_eq_some_iff.1 hb).1
    · obtain ⟨c1, c2⟩ := ppCells_at l i p e hi
      have hil : i < l.length := (List.getElem?_eq_some_iff.1 hi).1
      exact ⟨(h.cellAt (i * 2) (by omega)).trans c1, (h.cellAt (i * 2 + 1) (by omega)).trans c2⟩
theorem pair_one (k : IntKind) (a b : Int) : ∀ u ∈ [Value.int k a, Value.int k b], u.oneCell' = true := by
  intro u hu
  simp at hu
  rcases hu with rfl | rfl <;> rfl
end Go.Proofs.YtjijdabbhfefjaaGreatDoor
