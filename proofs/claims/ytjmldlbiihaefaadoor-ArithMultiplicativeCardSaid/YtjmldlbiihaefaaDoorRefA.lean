/- Walks of the reference: Gcd, Mod. -/
import Derived.Test.YtjmldlbiihaefaaDoorAriG
namespace Go.Proofs.YtjmldlbiihaefaaDoor
open Go.RowKit HP

theorem u64_abs {a : Int} (h1 : -9223372036854775808 ≤ a) (h2 : a < 0) : IntKind.u64.wrap (-IntKind.u64.wrap a) = (a.natAbs : Int) := by
  rw [u64_neg h1 h2]; omega
theorem gcdW_nat (a b : Int) : gcdW a b = if Nat.gcd a.natAbs b.natAbs = 9223372036854775808 then 0 else (Nat.gcd a.natAbs b.natAbs : Int) := rfl

set_option maxHeartbeats 400000 in
theorem rgcd_any (a b : Int) (w : World) (ha1 : -9223372036854775808 ≤ a) (ha2 : a ≤ 9223372036854775807) (hb1 : -9223372036854775808 ≤ b) (hb2 : b ≤ 9223372036854775807) :
    Calls Tryd.prog 18 #[.int .i64 a, .int .i64 b] w fun e w' => e = .returned (.int .i64 (gcdW a b)) ∧ w = w' := by
  have loop : ∀ (x y : Nat), x = a.natAbs → y = b.natAbs → ((0 ≤ a ∧ a = (x : Int)) ∨ (a < 0 ∧ a = -(x : Int))) → ((0 ≤ b ∧ b = (y : Int)) ∨ (b < 0 ∧ b = -(y : Int))) →
      Calls Tryd.prog 18 #[.int .i64 a, .int .i64 b] w fun e w' => e = .returned (.int .i64 (gcdW a b)) ∧ w = w' := by
    intro x y hx hy ha hb
    rw [gcdW_nat, ← hx, ← hy]
    have hx' : x ≤ 9223372036854775808 := by omega
    have hy' : y ≤ 9223372036854775808 := by omega
    clear hx hy
    have hwx : IntKind.u64.wrap (-IntKind.u64.wrap (-(x : Int))) = (x : Int) := by rw [IntKind.wrap_u64, IntKind.wrap_u64]; omega
    have hwy : IntKind.u64.wrap (-IntKind.u64.wrap (-(y : Int))) = (y : Int) := by rw [IntKind.wrap_u64, IntKind.wrap_u64]; omega
    generalize hz : (if Nat.gcd x y = 9223372036854775808 then 0 else (Nat.gcd x y : Int)) = z
    have HZ := Lib.hid hz
    clear hz
    rcases ha with ⟨ha0, rfl⟩ | ⟨ha0, rfl⟩ <;> rcases hb with ⟨hb0, rfl⟩ | ⟨hb0, rfl⟩
    all_goals
      go_enter Tryd.func18, Tryd.ntmps18
      go_wp2
      go_loop [5, 6] (fun s t => ∃ (p q : Nat), s = .int .u64 p ∧ t = .int .u64 q ∧ p ≤ 9223372036854775808 ∧ q ≤ 9223372036854775808 ∧ Hid (Nat.gcd p q = Nat.gcd x y)) (fun _ t => (intOf t).toNat)
      case atStart => exact ⟨x, y, rfl, rfl, hx', hy', rfl⟩
      case round =>
        obtain ⟨p, q, rfl, rfl, h1, h2, h3⟩ := hrel
        by_cases hq : q = 0
        · obtain rfl := hq
          have h3' := h3.out
          rw [Nat.gcd_zero_right] at h3'
          have HZ' := HZ.out
          rw [← h3'] at HZ'
          by_cases hp : p = 9223372036854775808
          · obtain rfl := hp
            rw [if_pos rfl] at HZ'
            have HZZ := Lib.hid HZ'
            clear HZ' h3'
            go_wp2
            go_ret
            exact ⟨ret_int HZZ.out, rfl⟩
          · rw [if_neg hp] at HZ'
            have HZZ := Lib.hid HZ'
            clear HZ' h3'
            have hp' : p ≤ 9223372036854775807 := by omega
            go_wp2
            go_ret
            exact ⟨ret_int HZZ.out, rfl⟩
        · have hm := Nat.mod_lt p (show 0 < q by omega)
          have e : (p : Int) % q = ((p % q : Nat) : Int) := by simp
          have h3' : Nat.gcd q (p % q) = Nat.gcd x y := by rw [← h3.out, Nat.gcd_comm q, ← Nat.gcd_rec, Nat.gcd_comm]
          have H3 := Lib.hid h3'
          clear h3' h3
          generalize p % q = r at *
          go_wp2
          go_round
          case rel => exact ⟨q, r, rfl, by rw [← e], h2, by omega, H3.out⟩
          case measure => simp [intOf]; omega
  exact loop a.natAbs b.natAbs rfl rfl (by omega) (by omega)
end Go.Proofs.YtjmldlbiihaefaaDoor
