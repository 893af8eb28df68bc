/- Lists of integers as slices: the reference's Primes, the comparison. -/
import Derived.Test.YtedfcemebdlgfaaGreatDoorAriJ
import Derived.Test.YtedfcemebdlgfaaGreatDoorRefC
import Derived.Maps.AppendAt
namespace Go.Proofs.YtedfcemebdlgfaaGreatDoor
open Go.RowKit HP

theorem infoInt : (Tryz.prog.info? 3).map (fun i => (i.zero, i.size, i.bytes)) = some (some (.int .i64 0), 1, 8) := by kernel_rfl

/-- the cells of a list of integers -/
def intCells (l : List Int) : List Value := l.map fun x => .int .i64 x
theorem intCells_at {l : List Int} {i : Nat} {x : Int} (h : l[i]? = some x) : (intCells l)[i]? = some (.int .i64 x) := by
  unfold intCells; rw [List.getElem?_map, h]; rfl
/-- a slice value that reads as a list of integers -/
def IntsAt (B : Nat) (w : World) (v : Value) (l : List Int) : Prop :=
  (v = .slice none 0 0 ∧ l = []) ∨ ∃ g cap, v = .slice (some ⟨g, 0, none⟩) l.length cap ∧ l.length ≤ cap ∧ cap ≤ maxLen ∧ B ≤ g ∧ g < w.heap.size ∧ ∀ (i : Nat) (x : Int), l[i]? = some x → w.cell? ⟨g, i, none⟩ = some (.int .i64 x)
theorem intsAt_of_owns {B : Nat} {w : World} {v : Value} {l : List Int} {t : TypeId} (h : w.ownsRow B t 1 v l.length (intCells l)) : IntsAt B w v l := by
  rcases h.2 with ⟨rfl, h0⟩ | ⟨g, cap, cur, rfl, hg, hb, h1, h2, h3, h4⟩
  · exact .inl ⟨rfl, List.length_eq_zero_iff.1 h0⟩
  · refine .inr ⟨g, cap, rfl, h1, h2, hg, ?_, fun i x hi => ?_⟩
    · exact (Array.getElem?_eq_some_iff.1 hb).1
    · have hil : i < l.length := (List.getElem?_eq_some_iff.1 hi).1
      exact (h.cellAt i (by omega)).trans (intCells_at hi)
theorem IntsAt.mono {B C : Nat} {w : World} {v : Value} {l : List Int} (h : IntsAt B w v l) (hC : C ≤ B) : IntsAt C w v l := by
  rcases h with h | ⟨g, cap, h1, h2, h3, h4, h5⟩
  · exact .inl h
  · exact .inr ⟨g, cap, h1, h2, h3, by omega, h5⟩
theorem IntsAt.below {B C : Nat} {w w' : World} {v : Value} {l : List Int} (h : IntsAt B w v l) (hb : Below C w w') (hC : w.heap.size ≤ C) : IntsAt B w' v l := by
  rcases h with h | ⟨g, cap, h1, h2, h3, h4, h5, h6⟩
  · exact .inl h
  · exact .inr ⟨g, cap, h1, h2, h3, h4, by have := hb.size; omega, fun i x hi => (hb.cell (p := ⟨g, i, none⟩) (show g < C by omega)).trans (h6 i x hi)⟩
theorem one_one (k : IntKind) (a : Int) : ∀ u ∈ [Value.int k a], u.oneCell' = true := by
  intro u hu
  simp at hu
  subst hu; rfl
/-- behind an append -/
theorem owns_next1 {B : Nat} {w wr w1 : World} {v v' : Value} {l : List Int} {t : TypeId} {p : Int} {o : Obj} (hown : wr.ownsRow B t 1 v l.length (intCells l)) (hB : w.heap.size ≤ B) (hb : Below w.heap.size w wr)
    (hown' : w1.ownsRow B t 1 v' (l.length + 1) (intCells l ++ [.int .i64 p])) (hg : (wr.alloc o).grownBy w1 v.ownBlock) :
    w1.ownsRow B t 1 v' (l ++ [p]).length (intCells (l ++ [p])) ∧ Below w.heap.size w w1 := by
  refine ⟨by unfold intCells at *; rw [List.map_append, List.length_append]; exact hown', ?_⟩
  exact (hb.alloc (by have := hb.size; omega) o).grown hg (by have := hb.size; simp; omega) (fun k hk => by have := (hown.lt k hk).1; omega)

/-- the primes as integers -/
def prmsI (n : Nat) : List Int := (prms n).map fun (p : Nat) => (p : Int)
theorem prmsI_yes {n : Nat} (h : prmB (n + 1) = true) : prmsI (n + 1) = prmsI n ++ [((n + 1 : Nat) : Int)] := by
  unfold prmsI; rw [prms_yes h, List.map_append]; rfl
theorem prmsI_no {n : Nat} (h : prmB (n + 1) = false) : prmsI (n + 1) = prmsI n := by
  unfold prmsI; rw [prms_no h]
theorem prmsI_one : prmsI 1 = [] := rfl
theorem prmsI_small {n : Nat} (h : n ≤ 1) : prmsI n = [] := by
  have : n = 0 ∨ n = 1 := by omega
  rcases this with rfl | rfl <;> rfl
theorem prmsI_len (n : Nat) : (prmsI n).length ≤ n := by unfold prmsI; rw [List.length_map]; exact prms_len n

end Go.Proofs.YtedfcemebdlgfaaGreatDoor
