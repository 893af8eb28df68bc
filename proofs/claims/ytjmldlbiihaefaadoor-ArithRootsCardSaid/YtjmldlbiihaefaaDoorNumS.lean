import Derived.Test.YtjmldlbiihaefaaDoorNumR
/-! Plain number theory: square roots modulo a prime. -/
namespace HP

theorem pm_one {p : Nat} (hp : Prm p) {y : Int} (h : Cong p (y * y) 1) : Cong p y 1 ∨ Cong p y (-1) := by
  have h1 : (p : Int) ∣ (y - 1) * (y + 1) := by
    have h2 : (p : Int) ∣ y * y - 1 := h
    rw [show (y - 1) * (y + 1) = y * y - 1 by grind]
    exact h2
  rcases hp.dvd_mulI h1 with h2 | h2
  · exact .inl h2
  · refine .inr ?_
    show (p : Int) ∣ y - -1
    rw [show y - -1 = y + 1 by omega]
    exact h2
theorem res_one {p : Nat} (hp : Prm p) {t : Int} (h0 : 0 ≤ t) (h1 : t < p) (h : Cong p t 1) : t = 1 := by
  have h2 := h.emod_eq
  have := hp.1
  rw [Int.emod_eq_of_lt h0 h1, Int.emod_eq_of_lt (by omega) (by omega)] at h2
  exact h2
/-- what the rounds keep -/
def Ton (p : Nat) (a : Int) (s : Nat) (x z t : Int) : Prop := 1 ≤ s ∧ Cong p (x * x) (a * t) ∧ Cong p (z ^ (2 ^ (s - 1))) (-1) ∧ Cong p (t ^ (2 ^ (s - 1))) 1
theorem two_pow_pred {s : Nat} (h : 1 ≤ s) : 2 ^ s = 2 * 2 ^ (s - 1) := by
  obtain ⟨k, rfl⟩ : ∃ k, s = k + 1 := ⟨s - 1, by omega⟩
  rw [Nat.pow_succ, Nat.mul_comm]; rfl
theorem ton_start {p o s : Nat} {a b : Int} (hp : Prm p) (h : p - 1 = 2 ^ s * o) (ho : o % 2 = 1) (hs : 1 ≤ s) (ha : Cong p (a ^ ((p - 1) / 2)) 1) (hb : ¬ (p : Int) ∣ b) (hb2 : ¬ Cong p (b ^ ((p - 1) / 2)) 1) :
    Ton p a s (a ^ ((o + 1) / 2) % p) (b ^ o % p) (a ^ o % p) := by
  have e : (p - 1) / 2 = o * 2 ^ (s - 1) := by
    rw [h, two_pow_pred hs, Nat.mul_assoc, Nat.mul_div_cancel_left _ (by omega), Nat.mul_comm]
  refine ⟨hs, ?_, ?_, ?_⟩
  · refine ((Cong.emod _ _).mul (Cong.emod _ _)).trans ?_
    rw [← Int.pow_add, show (o + 1) / 2 + (o + 1) / 2 = o + 1 by omega, Int.pow_succ, Int.mul_comm]
    exact (Cong.refl _ _).mul (Cong.emod _ _).symm
  · refine ((Cong.emod _ _).pow _).trans ?_
    rw [← Int.pow_mul, ← e]
    have hf := fermat hp hb
    rw [show p - 1 = (p - 1) / 2 + (p - 1) / 2 by rw [e, h, two_pow_pred hs, Nat.mul_comm o, Nat.mul_assoc]; omega, Int.pow_add] at hf
    rcases pm_one hp hf with h1 | h1
    · exact absurd h1 hb2
    · exact h1
  · refine ((Cong.emod _ _).pow _).trans ?_
    rw [← Int.pow_mul, ← e]
    exact ha
theorem pow_two_succ (t : Int) (k : Nat) : t ^ (2 ^ (k + 1)) = t ^ (2 ^ k) * t ^ (2 ^ k) := by
  rw [← Int.pow_add, Nat.pow_succ, Nat.mul_two]
theorem ton_step {p s k : Nat} {a x z t zz : Int} (hp : Prm p) (hT : Ton p a s x z t) (hk1 : 1 ≤ k) (hks : k + 1 ≤ s) (hk : Cong p (t ^ (2 ^ k)) 1) (hmin : ∀ j, j < k → ¬ Cong p (t ^ (2 ^ j)) 1) (hz : Cong p zz (z ^ (2 ^ (s - k - 1)))) :
    Ton p a k (x * zz % p) (zz * zz % p) (t * (zz * zz % p) % p) := by
  obtain ⟨h1, h2, h3, h4⟩ := hT
  have hzk : Cong p ((zz * zz) ^ (2 ^ (k - 1))) (-1) := by
    rw [show zz * zz = zz ^ 2 by rw [Int.pow_succ, Int.pow_succ, Int.pow_zero, Int.one_mul], ← Int.pow_mul, ← two_pow_pred hk1]
    refine (hz.pow _).trans ?_
    rw [← Int.pow_mul, ← Nat.pow_add, show s - k - 1 + k = s - 1 by omega]
    exact h3
  have htk : Cong p (t ^ (2 ^ (k - 1))) (-1) := by
    rcases pm_one hp (y := t ^ (2 ^ (k - 1))) (by rw [← pow_two_succ, show k - 1 + 1 = k by omega]; exact hk) with h | h
    · exact absurd h (hmin (k - 1) (by omega))
    · exact h
  refine ⟨hk1, ?_, ((Cong.emod _ _).pow _).trans hzk, ?_⟩
  · refine ((Cong.emod _ _).mul (Cong.emod _ _)).trans ?_
    rw [show x * zz * (x * zz) = x * x * (zz * zz) by grind]
    refine (h2.mul (Cong.refl _ _)).trans ?_
    rw [Int.mul_assoc]
    refine (Cong.refl _ a).mul ?_
    exact (((Cong.refl _ t).mul (Cong.emod _ _).symm).trans (Cong.emod _ _).symm)
  · refine ((Cong.emod _ _).pow _).trans ?_
    rw [Int.mul_pow]
    exact htk.mul (((Cong.emod _ _).pow _).trans hzk)
/-- the search for a number that is no square ends -/
theorem nonsquare {p : Nat} (hp : Prm p) (h2 : p ≠ 2) : ∃ b : Nat, 2 ≤ b ∧ b < p ∧ ¬ Cong p ((b : Int) ^ ((p - 1) / 2)) 1 := by
  have h3 := half_eq hp h2
  have h4 := three_le hp h2
  obtain ⟨x, h5, h6, h7⟩ := exists_not_one hp (n := (p - 1) / 2) (by omega) (by omega)
  refine ⟨x, ?_, h6, h7⟩
  apply Nat.lt_of_not_le
  intro h8
  obtain rfl : x = 1 := by omega
  exact h7 (by rw [show ((1 : Nat) : Int) = 1 from rfl, Int.one_pow]; exact Cong.refl _ _)
/-- Euler's criterion, in the law's words -/
theorem euler_leg {p : Nat} (hp : Prm p) (h2 : p ≠ 2) {a : Int} (ha : ¬ (p : Int) ∣ a) : (0 ≤ leg a p ↔ Cong p (a ^ ((p - 1) / 2)) 1) := by
  have c := leg_cong hp h2 a
  have t := leg_tri hp h2 a
  have n := leg_ne_zero hp h2 ha
  constructor
  · intro h
    have e : leg a p = 1 := by rcases t with t | t | t <;> omega
    rw [e] at c
    exact c.symm
  · intro h
    have e : leg a p = 1 := leg_eq hp h2 (.inr (.inl rfl)) h
    omega
end HP
