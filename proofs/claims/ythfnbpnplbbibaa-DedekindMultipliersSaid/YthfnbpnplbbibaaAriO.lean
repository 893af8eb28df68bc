/- The walks of math/bits.Len, arith.raise and arith.PowMod. -/
import Derived.Test.YthfnbpnplbbibaaAriD
import Derived.Test.YthfnbpnplbbibaaNumA
import Derived.Lib.BitFns
namespace Go.Proofs.Ythfnbpnplbbibaa
open Go.RowKit HP

theorem tab_get (i : Int) (h : i.toNat < Lib.len8tab.size) : (((Lib.len8tab[i.toNat]'h).toNat : Nat) : Int) = Lib.len8 i := by
  unfold Lib.len8
  rw [getElem?_pos Lib.len8tab i.toNat h]; rfl
theorem lt_bitLenAux : ∀ (f x : Nat), x < 2 ^ f → x < 2 ^ Lib.bitLenAux f x
  | 0, x, h => by simpa [Lib.bitLenAux] using h
  | f + 1, x, h => by
    rw [Lib.bitLenAux]
    split
    · next h0 => subst h0; simp
    · rw [Nat.pow_succ] at h
      have := lt_bitLenAux f (x / 2) (by omega)
      rw [Nat.add_comm, Nat.pow_succ]
      omega
end Go.Proofs.Ythfnbpnplbbibaa
