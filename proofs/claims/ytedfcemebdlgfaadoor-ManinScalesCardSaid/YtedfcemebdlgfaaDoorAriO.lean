/- The walks of math/bits.Len, arith.raise and arith.PowMod. -/
import Derived.Test.YtedfcemebdlgfaaDoorAriF
import Derived.Lib.BitFns
namespace Go.Proofs.YtedfcemebdlgfaaDoor
open Go.RowKit HP

theorem tab_get (i : Int) (h : i.toNat < Lib.len8tab.size) : (((Lib.len8tab[i.toNat]'h).toNat : Nat) : Int) = Lib.len8 i := by
  unfold Lib.len8
  rw [getElem?_pos Lib.len8tab i.toNat h]; rfl
end Go.Proofs.YtedfcemebdlgfaaDoor
