/- Own texts joined: DmE, DmF, DmG. -/
import Derived.Test.YtedfcemebdlgfaaGreatDoorDmD
/- The sums of the reference over the divisors. -/
namespace Go.Proofs.YtedfcemebdlgfaaGreatDoor
open Go Go.RowKit Go.VG HP
theorem blkLe_app {k n : Nat} {e : TypeId} {u : Bool} {α : Type} {mk : α → Nat → Leaf} {Z Y : Nat → α} (h : Y 0 = Z n) (hp : ∀ z j, pureL (mk z j) = true) : BlkLe (.rw k e u α mk (appZ α Z Y n) (n + 1)) (.rw k e u α mk Z (n + 1)) :=
  .rw (fun i j hi _ => by
    unfold appZ
    split
    · exact .refl _
    · obtain rfl : i = n := by omega
      rw [Nat.sub_self, h]
      exact .refl _) (fun _ _ _ _ => hp _ _)
end Go.Proofs.YtedfcemebdlgfaaGreatDoor

/- The reference: beta, cusp forms, Eisenstein series, Sturm's bound. -/
namespace Go.Proofs.YtedfcemebdlgfaaGreatDoor
open Go Go.RowKit Go.VG HP
end Go.Proofs.YtedfcemebdlgfaaGreatDoor

/- The reference: new forms. -/
namespace Go.Proofs.YtedfcemebdlgfaaGreatDoor
open Go Go.RowKit Go.VG HP
end Go.Proofs.YtedfcemebdlgfaaGreatDoor

