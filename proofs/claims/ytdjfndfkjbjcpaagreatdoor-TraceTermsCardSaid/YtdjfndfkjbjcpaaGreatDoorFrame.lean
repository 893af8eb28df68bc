/- The frame's common part: the table of trailing zeros as the rows list it; a world for the witness. -/
import Derived.Test.YtdjfndfkjbjcpaaGreatDoorAriB
import Derived.OpenShut
import Derived.Deep.DeepHandedRow
import Derived.Lib.LaidTab
namespace Go.Proofs.YtdjfndfkjbjcpaaGreatDoor
open Go.ChangeShapes Go.WideShapes Go.ChangeAt Go.RowKit

theorem own : ownKnob Tryz.prog.godebug = none := by kernel_rfl
theorem gTab : Tryz.prog.globalNamed "math/bits.deBruijn64tab" = some 0 := by kernel_rfl
theorem gTabType : (Tryz.prog.globals[0]?).map (·.type) = some 128 := by kernel_rfl
theorem cellsTab : Tryz.prog.cellsOf 128 = 64 := by kernel_rfl
theorem cellsU8 : Tryz.prog.cellsOf 5 = 1 := by kernel_rfl

def tabInts : List Int := [0, 1, 56, 2, 57, 49, 28, 3, 61, 58, 42, 50, 38, 29, 17, 4, 62, 47, 59, 36, 45, 43, 51, 22, 53, 39, 33, 30, 24, 18, 12, 5, 63, 55, 48, 27, 60, 41, 37, 16, 46, 35, 44, 21, 52, 32, 23, 11, 54, 26, 40, 15, 34, 20, 31, 10, 25, 14, 19, 9, 13, 8, 7, 6]
theorem tab_of_laid {W : World} (h : laidMetH Tryz.prog [("math/bits.deBruijn64tab", Rows.laid_math_bits_deBruijn64tab)] W) : Lib.TabIs Tryz.prog W "math/bits.deBruijn64tab" .u8 tabInts :=
  Lib.tabIs_of_head (rest := []) gTab gTabType Tryz.underlying128 Tryz.underlying5 cellsU8 cellsTab h
theorem tabInts_at : ∀ j, j < 64 → tabInts.getD j 0 = ((Lib.deBruijn64tab.getD j 0 : Nat) : Int) := by decide
theorem tabW_of_laid {W : World} (h : laidMetH Tryz.prog [("math/bits.deBruijn64tab", Rows.laid_math_bits_deBruijn64tab)] W) : TabW W := fun j hj => by
  rw [← tabInts_at j hj]
  exact (tab_of_laid h).cell gTab j (by simpa [tabInts] using hj)
theorem heap_of_laid {W : World} (h : laidMetH Tryz.prog [("math/bits.deBruijn64tab", Rows.laid_math_bits_deBruijn64tab)] W) : 0 < W.heap.size := by
  have := tabW_of_laid h 0 (by decide)
  exact Nat.lt_of_not_le fun hle => by
    have e : W.heap[0]? = none := by simpa using hle
    simp [World.cell?, e] at this

theorem tabW_ext {w w' : World} (h : TabW w) (hg : 0 < w.heap.size) (_ : w.heap.size ≤ w'.heap.size) (hk : ∀ k, k < w.heap.size → w'.heap[k]? = w.heap[k]?) : TabW w' := fun j hj => by
  rw [← h j hj]
  simp only [World.cell?, hk _ hg]

theorem post_of_below {P : Program} {H : Type} {enc : TypeId × Value → H} {f : Func} {s : ChangeSpec} {W W' : World} {args : Array Value} {v : Value} {ds gs : List (DataW H)} {before pa pv : List MemPlace}
    (hW : DataW.Whole enc P f.params.toList s.vars false W args.toList ds gs before)
    (hres : ∀ (b : Nat) (sp : Nat → Bool) (hd : Bool), DataW.TrodAll enc P W' b sp hd f.resultTypes.toList (v.resultList f.resultTypes.size) (s.fn H (ds ++ gs)).results [])
    (hargs : ∀ sp : Nat → Bool, (∀ p ∈ before, sp p.block = true) → DataW.TrodAll enc P W' 0 sp true f.params.toList args.toList (s.fn H (ds ++ gs)).args pa)
    (hvars : ∀ sp : Nat → Bool, (∀ p ∈ before, sp p.block = true) → DataW.TrodVars enc P W' sp s.vars (s.fn H (ds ++ gs)).vars pv)
    (hps : before = pa ++ pv) (hk : Below W.heap.size W W') : s.post enc P f false true false false W args v W' := by
  have hold : ∀ p ∈ before, (fun b => decide (b < W.heap.size)) p.block = true := fun p hp => by simpa using hW.lt p hp
  refine ⟨ds, gs, before, [], pa, pv, hW, hres _ _ _, hargs _ hold, hvars _ hold, World.keptBut_mono (fun p hp => ⟨hp, ?_⟩) (hk.frame (· ∈ before)), fun h => by cases h⟩
  rw [hps, List.mem_append] at hp
  exact Or.inr hp

noncomputable def laidWorld (os : Os) : World :=
  { World.holding Tryz.prog os ⟨#[], #[], []⟩ with heap := (World.holding Tryz.prog os ⟨#[], #[], []⟩).heap.modify 0 fun
      | .cells _ t frozen => .cells (tabInts.map (Value.int .u8)).toArray t frozen
      | o => o }
end Go.Proofs.YtdjfndfkjbjcpaaGreatDoor
