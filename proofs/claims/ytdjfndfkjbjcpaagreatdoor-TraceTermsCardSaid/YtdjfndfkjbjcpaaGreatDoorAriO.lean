/- The walks of math/bits.Len, arith.raise and arith.PowMod. -/
import Derived.Test.YtdjfndfkjbjcpaaGreatDoorAriF
import Derived.Lib.BitFns
namespace Go.Proofs.YtdjfndfkjbjcpaaGreatDoor
open Go.RowKit HP

theorem tab_size : (Lib.len8tab.size : Int) = 256 := by rw [Lib.len8tab_size]; rfl
theorem tab_get (i : Int) (h : i.toNat < Lib.len8tab.size) : (((Lib.len8tab[i.toNat]'h).toNat : Nat) : Int) = Lib.len8 i := by
  unfold Lib.len8
  rw [getElem?_pos Lib.len8tab i.toNat h]; rfl
theorem len_part (x : Nat) (k : Nat) (y : Int) (h : y.toNat < Lib.len8tab.size) (hy : y.toNat = x / 2 ^ k) (hx : x < 2 ^ 64) (h0 : 0 ≤ y) (h1 : y ≤ 255) (hk : 2 ^ k ≤ x) (hk2 : k ≤ 56) : wrap64 ((k : Int) + wrap64 (((Lib.len8tab[y.toNat]'h).toNat : Nat) : Int)) = Lib.bitLen x := by
  have l := Lib.bitLen_le8' y h0 h1
  rw [tab_get y h, Lib.len8_of y h0 h1, IntWalk.wrap64_in (Lib.bitLen y.toNat : Int) (by omega), IntWalk.wrap64_in _ (by omega), Lib.bitLen_shift k x hk hx, ← hy]
  simp
theorem len_part0 (y : Int) (h : y.toNat < Lib.len8tab.size) (h0 : 0 ≤ y) (h1 : y ≤ 255) : wrap64 (wrap64 (((Lib.len8tab[y.toNat]'h).toNat : Nat) : Int)) = Lib.bitLen y.toNat := by
  have l := Lib.bitLen_le8' y h0 h1
  rw [tab_get y h, Lib.len8_of y h0 h1, IntWalk.wrap64_in (Lib.bitLen y.toNat : Int) (by omega), IntWalk.wrap64_in _ (by omega)]

set_option maxHeartbeats 4000000 in
set_option maxRecDepth 100000 in
theorem len64_any (x : Int) (w : World) (h0 : 0 ≤ x) (h1 : x ≤ 18446744073709551615) :
    Calls Tryz.prog 129 #[.int .u64 x] w fun e w' => e = .returned (.int .i64 (Lib.bitLen x.toNat)) ∧ w = w' := by
  go_enter Tryz.func129, Tryz.ntmps129
  go_wp2
  all_goals first
    | (exfalso; have hs := tab_size; omega)
    | (go_ret; refine ⟨congrArg Ending.returned (congrArg (Value.int IntKind.i64) ?_), rfl⟩)
  all_goals first
    | exact len_part x.toNat 56 (x / 4294967296 / 65536 / 256) _ (by omega) (by omega) (by omega) (by omega) (by omega) (by omega)
    | exact len_part x.toNat 48 (x / 4294967296 / 65536) _ (by omega) (by omega) (by omega) (by omega) (by omega) (by omega)
    | exact len_part x.toNat 40 (x / 4294967296 / 256) _ (by omega) (by omega) (by omega) (by omega) (by omega) (by omega)
    | exact len_part x.toNat 32 (x / 4294967296) _ (by omega) (by omega) (by omega) (by omega) (by omega) (by omega)
    | exact len_part x.toNat 24 (x / 65536 / 256) _ (by omega) (by omega) (by omega) (by omega) (by omega) (by omega)
    | exact len_part x.toNat 16 (x / 65536) _ (by omega) (by omega) (by omega) (by omega) (by omega) (by omega)
    | exact len_part x.toNat 8 (x / 256) _ (by omega) (by omega) (by omega) (by omega) (by omega) (by omega)
    | exact len_part0 x _ (by omega) (by omega)

theorem len_any (x : Int) (w : World) (h0 : 0 ≤ x) (h1 : x ≤ 18446744073709551615) :
    Calls Tryz.prog 93 #[.int .u64 x] w fun e w' => e = .returned (.int .i64 (Lib.bitLen x.toNat)) ∧ w = w' := by
  go_enter Tryz.func93, Tryz.ntmps93
  go_wp2_with (go_at_call 129; refine (len64_any x _ h0 h1).mono ?_; rintro e w' ⟨rfl, rfl⟩)
  go_ret
  exact ⟨rfl, rfl⟩

theorem lt_bitLenAux : ∀ (f x : Nat), x < 2 ^ f → x < 2 ^ Lib.bitLenAux f x
  | 0, x, h => by simpa [Lib.bitLenAux] using h
  | f + 1, x, h => by
    rw [Lib.bitLenAux]
    split
    · next h0 => subst h0; simp
    · rw [Nat.pow_succ] at h
      have := lt_bitLenAux f (x / 2) (by omega)
      rw [Nat.add_comm, Nat.pow_succ]
      omega
end Go.Proofs.YtdjfndfkjbjcpaaGreatDoor
