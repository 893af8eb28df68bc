/- The walk of the law's own 'awake'. -/
import Derived.Test.YtdjfndfkjbjcpaaGreatDoorAriF
namespace Go.Proofs.YtdjfndfkjbjcpaaGreatDoor
open Go.RowKit HP

theorem TabW.below {w w' : World} {B : Nat} (h : TabW w) (hb : Below B w w') (hB : 0 < B) : TabW w' := fun j hj => (hb.cell (p := ⟨0, j, none⟩) hB).trans (h j hj)
theorem TabW.alloc {w : World} (h : TabW w) (hB : 0 < w.heap.size) (o : Obj) : TabW (w.alloc o) := fun j hj => (World.cell?_alloc_past _ _ _ hB).trans (h j hj)

end Go.Proofs.YtdjfndfkjbjcpaaGreatDoor
