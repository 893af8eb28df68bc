/- Dirichlet characters: generators, logarithms and checks, walked. -/
import Derived.Test.YtedfcemebdlgfaaGreatDoorDiC
import Derived.Test.YtedfcemebdlgfaaGreatDoorPkVgU
import Derived.Test.YtedfcemebdlgfaaGreatDoorAriG
namespace Go.Proofs.YtedfcemebdlgfaaGreatDoor
open Go Go.RowKit Go.VG HP
def cgL (z : Int × Int) (j : Nat) : Leaf := if j = 0 then ix z.1 else ix z.2
theorem cell_lt {w : World} {g o : Nat} {u : Value} (h : w.cell? ⟨g, o, none⟩ = some u) : g < w.heap.size := Nat.lt_of_not_le fun hle => by
  have e : w.heap[g]? = none := by simpa using hle
  simp [World.cell?, e] at h
theorem dwi_sp (n : Int) : Sp CX 78 [int .i64 n] (bool (decide (1 ≤ n) && decide (n ≤ 60))) := by
  refine fn_sp (C := CX) [] [] tysX_ok mixed Tryz.func78 rfl (by kernel_rfl) Tryz.ntmps78 rfl rfl ?_
  by_cases h1 : 1 ≤ n
  · by_cases h2 : n ≤ 60
    · repeat' ((conv => whnf); first | refine Ob.g ?_ | refine Cases.y ?_ | refine Cases.n ?_ | refine Idx.g rfl ?_ | refine Idx.z rfl ?_ | refine DrawOb.start ?_ | refine TryF.f ?_ | refine TryF.next rfl ?_ | refine TryF.other ?_ | refine TryA.g ?_ | refine TryA.next rfl ?_ | refine TryA.other ?_ | refine TryS.g ?_ | refine TryS.next rfl ?_ | refine TryS.other ?_ | refine TryG.g ?_ | refine TryG.next rfl ?_)
      refine ⟨⟨_, _, rfl, rfl, ?_⟩⟩
      rw [decide_eq_true h1]
      exact AvLe.refl _
    · repeat' ((conv => whnf); first | refine Ob.g ?_ | refine Cases.y ?_ | refine Cases.n ?_ | refine Idx.g rfl ?_ | refine Idx.z rfl ?_ | refine DrawOb.start ?_ | refine TryF.f ?_ | refine TryF.next rfl ?_ | refine TryF.other ?_ | refine TryA.g ?_ | refine TryA.next rfl ?_ | refine TryA.other ?_ | refine TryS.g ?_ | refine TryS.next rfl ?_ | refine TryS.other ?_ | refine TryG.g ?_ | refine TryG.next rfl ?_)
      refine ⟨⟨_, _, rfl, rfl, ?_⟩⟩
      rw [decide_eq_true h1]
      exact AvLe.refl _
  · repeat' ((conv => whnf); first | refine Ob.g ?_ | refine Cases.y ?_ | refine Cases.n ?_ | refine Idx.g rfl ?_ | refine Idx.z rfl ?_ | refine DrawOb.start ?_ | refine TryF.f ?_ | refine TryF.next rfl ?_ | refine TryF.other ?_ | refine TryA.g ?_ | refine TryA.next rfl ?_ | refine TryA.other ?_ | refine TryS.g ?_ | refine TryS.next rfl ?_ | refine TryS.other ?_ | refine TryG.g ?_ | refine TryG.next rfl ?_)
    refine ⟨⟨_, _, rfl, rfl, ?_⟩⟩
    rw [decide_eq_false h1]
    exact AvLe.refl _
theorem dwi_t {n : Nat} (h1 : 1 ≤ n) (h2 : n ≤ 60) : Sp CX 78 [int .i64 n] (bool true) := by
  have := dwi_sp n
  rwa [decide_eq_true (show (1 : Int) ≤ n by omega), decide_eq_true (show (n : Int) ≤ 60 by omega)] at this
theorem dwi_f {n : Int} (h : n < 1 ∨ 60 < n) : Sp CX 78 [int .i64 n] (bool false) := by
  have := dwi_sp n
  have e : (decide (1 ≤ n) && decide (n ≤ 60)) = false := by
    rcases h with h | h
    · rw [decide_eq_false (by omega)]; rfl
    · rw [decide_eq_false (show ¬ n ≤ 60 by omega), Bool.and_false]
  rwa [e] at this
/-- a slice of numbers -/
def nsL (z : Nat) (_ : Nat) : Leaf := ix z
def nsA (Z : Nat → Nat) (n : Nat) : V1 := .c (.sl 1 Nat nsL Z n)
theorem gens_at {n i : Nat} (h : i < np n) : (gens n)[i]? = some (genT n (prtAt n i)) := by
  unfold gens prtAt
  rw [List.getElem?_map, List.getD_eq_getElem?_getD, List.getElem?_eq_getElem h]; rfl
theorem ords_at {n i : Nat} (h : i < np n) : (ords n)[i]? = some (prtAt n i).o := by
  unfold ords prtAt
  rw [List.getElem?_map, List.getD_eq_getElem?_getD, List.getElem?_eq_getElem h]; rfl
theorem prt_z {n : Nat} (hn : n ≤ 60) {i : Nat} (h : i < np n) : PartOk n (prtAt n i) := part_ok hn (prtAt_mem h)
theorem genT_lt {n : Nat} {P : Prt} (h : PartOk n P) : genT n P < n := by
  have h1 := List.mem_of_find?_eq_some h.both
  exact List.mem_range.1 h1
end Go.Proofs.YtedfcemebdlgfaaGreatDoor
