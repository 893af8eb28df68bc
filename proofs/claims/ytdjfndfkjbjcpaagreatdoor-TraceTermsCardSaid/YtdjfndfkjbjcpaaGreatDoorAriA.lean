/- Walks of the plain functions of arith: residues, greatest common divisors. -/
import Derived.Test.YtdjfndfkjbjcpaaGreatDoorRows
import Derived.Test.YtdjfndfkjbjcpaaGreatDoorNumA
import Derived.WalkKit
import Derived.ProofKit
import Derived.WalkLawsBesides
import Derived.Outline
import Derived.IntWalk
import Derived.BigQuiet
import Derived.Deep.QuietTactic
import Derived.Lib.Hide
namespace Go.Proofs.YtdjfndfkjbjcpaaGreatDoor
open Go.RowKit

theorem ret_int {k : IntKind} {a b : Int} (h : a = b) : Ending.returned (.int k a) = .returned (.int k b) := by rw [h]
theorem tmod_neg {a m : Int} (hm : 0 < m) (h : a.tmod m < 0) : a.tmod m + m = a % m := by
  have h1 := Int.tmod_eq_emod (a := a) (b := m)
  have h2 := Int.emod_nonneg a (show m ≠ 0 by omega)
  split at h1 <;> omega
theorem tmod_nonneg {a m : Int} (hm : 0 < m) (h : 0 ≤ a.tmod m) : a.tmod m = a % m := by
  have h1 := Int.tmod_eq_emod (a := a) (b := m)
  have h2 := Int.emod_lt_of_pos a hm
  split at h1 <;> omega

theorem residue_any (a m : Int) (w : World) (hm : 0 < m) (hm2 : m ≤ 9223372036854775807) :
    Calls Tryz.prog 75 #[.int .i64 a, .int .i64 m] w fun e w' => e = .returned (.int .i64 (a % m)) ∧ w = w' := by
  have b1 := Int.emod_nonneg a (show m ≠ 0 by omega)
  have b2 := Int.emod_lt_of_pos a hm
  go_enter Tryz.func75, Tryz.ntmps75
  go_wp2
  · have h : a.tmod m < 0 := by assumption
    go_ret
    exact ⟨ret_int (by rw [tmod_neg hm h, IntWalk.wrap64_in _ (by omega)]), rfl⟩
  · have h : 0 ≤ a.tmod m := by assumption
    go_ret
    exact ⟨ret_int (tmod_nonneg hm h), rfl⟩

theorem gcd_tmod (a b : Int) : Int.gcd b (a.tmod b) = Int.gcd a b := by
  rw [Int.gcd_comm a b]
  unfold Int.gcd
  rw [Int.natAbs_tmod, Nat.gcd_comm, ← Nat.gcd_rec]
def gcdW (a b : Int) : Int := if Int.gcd a b = 9223372036854775808 then 0 else Int.gcd a b
theorem gcdW_of {a b x : Int} (h : Hid (Int.gcd x 0 = Int.gcd a b)) (h0 : -9223372036854775808 < x) (h1 : x ≤ 9223372036854775807) : gcdW a b = x.natAbs := by
  have h2 : Int.gcd x 0 = Int.gcd a b := h
  unfold gcdW
  rw [← h2, Int.gcd_zero_right, if_neg (by omega)]
theorem gcdW_min {a b : Int} (h : Hid (Int.gcd (-9223372036854775808) 0 = Int.gcd a b)) : gcdW a b = 0 := by
  have h2 : Int.gcd (-9223372036854775808) 0 = Int.gcd a b := h
  unfold gcdW
  rw [← h2]
  decide
theorem tmod_abs_lt (a : Int) {b : Int} (hb : b ≠ 0) : (a.tmod b).natAbs < b.natAbs := by
  rw [Int.natAbs_tmod]; exact Nat.mod_lt _ (by omega)

set_option maxHeartbeats 400000 in
theorem gcd_any (a b : Int) (w : World) (ha1 : -9223372036854775808 ≤ a) (ha2 : a ≤ 9223372036854775807) (hb1 : -9223372036854775808 ≤ b) (hb2 : b ≤ 9223372036854775807) :
    Calls Tryz.prog 14 #[.int .i64 a, .int .i64 b] w fun e w' => e = .returned (.int .i64 (gcdW a b)) ∧ ∃ m, w' = w.drewN m := by
  go_enter Tryz.func14, Tryz.ntmps14
  go_wp2
  go_loopw [0, 1] (fun x y wr => ∃ (a' b' : Int) (m : Nat), x = .int .i64 a' ∧ y = .int .i64 b' ∧ -9223372036854775808 ≤ a' ∧ a' ≤ 9223372036854775807 ∧ -9223372036854775808 ≤ b' ∧ b' ≤ 9223372036854775807 ∧ Hid (Int.gcd a' b' = Int.gcd a b) ∧ wr = w.drewN m) (fun _ y _ => (intOf y).natAbs)
  case atStart => exact ⟨a, b, 0, rfl, rfl, ha1, ha2, hb1, hb2, rfl, rfl⟩
  case round =>
    obtain ⟨a', b', m, rfl, rfl, h1, h2, h3, h4, hg, rfl⟩ := hrel
    by_cases hb : b' = 0
    · obtain rfl := hb
      by_cases hm : a' = -9223372036854775808
      · obtain rfl := hm
        have e := gcdW_min hg
        have E := Lib.hid e
        clear e
        go_wp2
        all_goals (try (exfalso; unfold wrap64 at *; omega))
        all_goals go_ret
        all_goals exact ⟨ret_int (by rw [E.out]), m, rfl⟩
      · have e := gcdW_of hg (by omega) h2
        have E := Lib.hid e
        clear e
        by_cases hn : a' < 0
        · go_wp2
          go_ret
          exact ⟨ret_int (by rw [E.out]; omega), m, rfl⟩
        · go_wp2
          go_ret
          exact ⟨ret_int (by rw [E.out]; omega), m, rfl⟩
    · have ht := tmod_abs_lt a' hb
      go_wp2
      go_quiet (fail)
      go_wp2
      go_roundw
      case rel =>
        exact ⟨b', a'.tmod b', m + nq, rfl, rfl, h3, h4, by omega, by omega, (gcd_tmod a' b').trans hg, by simp⟩
      case measure => simpa [intOf] using ht
end Go.Proofs.YtdjfndfkjbjcpaaGreatDoor
