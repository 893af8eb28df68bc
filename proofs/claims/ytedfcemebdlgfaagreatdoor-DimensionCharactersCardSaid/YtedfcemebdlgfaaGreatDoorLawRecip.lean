/- The law ArithReciprocity: its walk. -/
import Derived.Test.YtedfcemebdlgfaaGreatDoorRefA
namespace Go.Proofs.YtedfcemebdlgfaaGreatDoor
open Go.RowKit HP

theorem tri_bd {x : Int} (h : Tri x) : -1 ≤ x ∧ x ≤ 1 := by rcases h with rfl | rfl | rfl <;> decide
theorem mul_bd31 {a b : Int} (h1 : -2147483648 < a) (h2 : a < 2147483648) (h3 : -2147483648 < b) (h4 : b < 2147483648) : -9223372036854775808 ≤ a * b ∧ a * b ≤ 9223372036854775807 := by
  have h := mul31 (x := a.natAbs) (y := b.natAbs) (by omega) (by omega)
  rw [← Int.natAbs_mul] at h
  omega

/-- what the second half of the law rests on -/
theorem recip_fact (a n : Int) : 0 < a → 0 < n → a % 2 = 1 → n % 2 = 1 → kro a n * kro n a = if Int.gcd a n = 1 then (if a % 4 = 3 ∧ n % 4 = 3 then -1 else 1) else 0 := by
  intro h1 h2 h3 h4
  rw [kro_recip h1 h2 h3 h4]
  obtain ⟨x, rfl⟩ := Int.eq_ofNat_of_zero_le (Int.le_of_lt h1)
  obtain ⟨y, rfl⟩ := Int.eq_ofNat_of_zero_le (Int.le_of_lt h2)
  rfl

/-- the law's last lines -/
theorem recip_end {a n A C g : Int} {x : Bool} (H : Hid (0 < a → 0 < n → a % 2 = 1 → n % 2 = 1 → A * C = if Int.gcd a n = 1 then (if a % 4 = 3 ∧ n % 4 = 3 then -1 else 1) else 0))
    (G : Hid (gcdW a n = g)) (h1 : 1 ≤ a) (h2 : ¬ a % 2 = 0) (h3 : 1 ≤ n) (h4 : ¬ n % 2 = 0)
    (hx : (g ≠ 1 → x = (A * C == 0)) ∧ (g = 1 → (a % 4 = 3 ∧ n % 4 = 3) → x = (A * C == -1)) ∧ (g = 1 → ¬ (a % 4 = 3 ∧ n % 4 = 3) → x = (A * C == 1))) : x = true := by
  have e := H.out (by omega) (by omega) (by omega) (by omega)
  have eg : gcdW a n = g := G
  unfold gcdW at eg
  obtain ⟨x1, x2, x3⟩ := hx
  by_cases hg : Int.gcd a n = 1
  · rw [if_pos hg] at e
    rw [hg] at eg
    have hg1 : g = 1 := by rw [← eg]; decide
    by_cases h : a % 4 = 3 ∧ n % 4 = 3
    · rw [if_pos h] at e
      rw [x2 hg1 h, e]; rfl
    · rw [if_neg h] at e
      rw [x3 hg1 h, e]; rfl
  · rw [if_neg hg] at e
    have hg1 : g ≠ 1 := by
      rw [← eg]
      split
      · decide
      · omega
    rw [x1 hg1, e]; rfl

end Go.Proofs.YtedfcemebdlgfaaGreatDoor
