/- The space of a Spec: walked by hand. -/
import Derived.Test.YtdjfndfkjbjcpaaGreatDoorPkVgY
import Derived.Test.YtdjfndfkjbjcpaaGreatDoorSpA
import Derived.Test.YtdjfndfkjbjcpaaGreatDoorPkNumW
import Derived.StillTailTactics
import Derived.Deep.DeepCutAuto
import Derived.Test.YtdjfndfkjbjcpaaGreatDoorAriG
namespace Go.Proofs.YtdjfndfkjbjcpaaGreatDoor
open Go Go.RowKit Go.VG HP
structure QW (w0 : World) (s l r g : Nat) (n f K D x y : Int) (w : World) : Prop where
  hb : Below w0.heap.size w0 w
  c0 : w.cell? ⟨g, 0, none⟩ = some (.int .i64 n)
  c1 : w.cell? ⟨g, 1, none⟩ = some (.int .i64 f)
  c2 : w.cell? ⟨g, 2, none⟩ = some (.int .i64 K)
  c3 : w.cell? ⟨g, 3, none⟩ = some (.int .i64 x)
  c4 : w.cell? ⟨g, 4, none⟩ = some (.int .i64 y)
  s2 : w.cell? ⟨s, 2, none⟩ = some (.int .i64 D)
  l0 : w.cell? ⟨l, 0, none⟩ = some (.int .i64 n)
  fg : ∀ i, w.frozen? ⟨g, i, none⟩ = false
  r0 : ∀ i, i < 5 → w.cell? ⟨r, i, none⟩ = some (.int .i64 0)
  fr : ∀ i, w.frozen? ⟨r, i, none⟩ = false
end Go.Proofs.YtdjfndfkjbjcpaaGreatDoor
