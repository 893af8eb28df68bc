/- Binary digits: division one by one, in plain words. -/
import Derived.Test.YtdjfndfkjbjcpaaGreatDoorPkNumK
namespace HP
theorem dg_up (y m j : Nat) : dg (W32 ^ m * y) j = if j < m then 0 else dg y (j - m) := by
  have hp : ∀ i, 0 < W32 ^ i := fun i => w32_pos i
  by_cases h : j < m
  · rw [if_pos h]
    obtain ⟨q, rfl⟩ : ∃ q, m = j + (q + 1) := ⟨m - j - 1, by omega⟩
    show W32 ^ (j + (q + 1)) * y / W32 ^ j % W32 = 0
    rw [Nat.pow_add, Nat.mul_assoc, Nat.mul_div_cancel_left _ (hp j), Nat.pow_succ, Nat.mul_comm (W32 ^ q), Nat.mul_assoc]
    exact Nat.mul_mod_right _ _
  · rw [if_neg h]
    obtain ⟨q, rfl⟩ : ∃ q, j = m + q := ⟨j - m, by omega⟩
    show W32 ^ m * y / W32 ^ (m + q) % W32 = _
    rw [Nat.pow_add, Nat.mul_div_mul_left _ _ (hp m), Nat.add_sub_cancel_left]
    rfl
theorem pow_split (k : Nat) : 2 ^ k = W32 ^ (k / 32) * 2 ^ (k % 32) := by
  rw [w32_two, ← Nat.pow_add]
  congr 1
  omega
theorem dg_bit {M k : Nat} (h : 2 ^ (k + 1) ∣ M) : (∀ j, dg (M + 2 ^ k) j = if j = k / 32 then dg M j + 2 ^ (k % 32) else dg M j) ∧ dg M (k / 32) + 2 ^ (k % 32) < 4294967296 := by
  obtain ⟨c, rfl⟩ := h
  have hs : k % 32 ≤ 31 := by omega
  have e0 : 2 ^ (k + 1) * c = W32 ^ (k / 32) * (2 ^ (k % 32) * (2 * c)) := by
    rw [Nat.pow_succ, pow_split k]
    simp only [Nat.mul_assoc]
  have e1 : 2 ^ (k + 1) * c + 2 ^ k = W32 ^ (k / 32) * (2 ^ (k % 32) * (2 * c + 1)) := by
    rw [e0, pow_split k, Nat.mul_add, Nat.mul_add, Nat.mul_one]
  have hw : (4294967296 : Nat) = 2 ^ (k % 32) * (2 * 2 ^ (31 - k % 32)) := by
    have a : 2 * 2 ^ (31 - k % 32) = 2 ^ (32 - k % 32) := by
      rw [show 32 - k % 32 = 31 - k % 32 + 1 by omega, Nat.pow_succ, Nat.mul_comm]
    rw [a, ← Nat.pow_add, show k % 32 + (32 - k % 32) = 32 by omega]
  have hp : 0 < 2 ^ (k % 32) := Nat.pow_pos (by omega)
  have hq : 0 < 2 ^ (31 - k % 32) := Nat.pow_pos (by omega)
  rw [e1, e0]
  generalize 2 ^ (31 - k % 32) = Q at *
  generalize 2 ^ (k % 32) = P at *
  have low : ∀ y, dg (P * y) 0 = P * (y % (2 * Q)) := fun y => by
    rw [dg0, hw, Nat.mul_mod_mul_left]
  have hi : ∀ i, dg (P * (2 * c + 1)) (i + 1) = dg (P * (2 * c)) (i + 1) := fun i => by
    show P * (2 * c + 1) / W32 ^ (i + 1) % W32 = P * (2 * c) / W32 ^ (i + 1) % W32
    congr 1
    rw [Nat.pow_succ, Nat.mul_comm (W32 ^ i), ← Nat.div_div_eq_div_mul, ← Nat.div_div_eq_div_mul]
    congr 1
    rw [w32_eq, hw, Nat.mul_div_mul_left _ _ hp, Nat.mul_div_mul_left _ _ hp, ← Nat.div_div_eq_div_mul, ← Nat.div_div_eq_div_mul]
    congr 1
    omega
  have m1 : (2 * c + 1) % (2 * Q) = 2 * c % (2 * Q) + 1 := by
    rw [Nat.mul_mod_mul_left]
    have d := Nat.div_add_mod c Q
    have l := Nat.mod_lt c hq
    have e : 2 * c + 1 = 2 * Q * (c / Q) + (2 * (c % Q) + 1) := by
      rw [Nat.mul_assoc]
      omega
    rw [e, Nat.mul_add_mod, Nat.mod_eq_of_lt (by omega)]
  have m2 : 2 * c % (2 * Q) + 1 < 2 * Q := by
    rw [Nat.mul_mod_mul_left]
    have l := Nat.mod_lt c hq
    omega
  refine ⟨fun j => ?_, ?_⟩
  · rw [dg_up, dg_up]
    by_cases h1 : j < k / 32
    · rw [if_pos h1, if_pos h1, if_neg (by omega)]
    · rw [if_neg h1, if_neg h1]
      by_cases h2 : j = k / 32
      · rw [if_pos h2, h2, Nat.sub_self, low, low, m1, Nat.mul_add, Nat.mul_one]
      · rw [if_neg h2]
        obtain ⟨i, hi'⟩ : ∃ i, j - k / 32 = i + 1 := ⟨j - k / 32 - 1, by omega⟩
        rw [hi', hi]
  · rw [dg_up, if_neg (by omega), Nat.sub_self, low, hw]
    have := Nat.mul_le_mul_left P (show 2 * c % (2 * Q) + 1 + 1 ≤ 2 * Q by omega)
    rw [Nat.mul_add, Nat.mul_add, Nat.mul_one] at this
    omega
structure BdI (a b K r A : Nat) : Prop where
  r : r = a % (b * 2 ^ K)
  q : A = a / (b * 2 ^ K) * 2 ^ K
theorem BdI.start {a b K : Nat} (h : a < b * 2 ^ K) : BdI a b K a 0 := ⟨(Nat.mod_eq_of_lt h).symm, by rw [Nat.div_eq_of_lt h, Nat.zero_mul]⟩
theorem bd_split {a t : Nat} (ht : 0 < t) : a / t = 2 * (a / (2 * t)) + (if a % (2 * t) < t then 0 else 1) ∧ a % t = (if a % (2 * t) < t then a % (2 * t) else a % (2 * t) - t) := by
  have d := Nat.div_add_mod a (2 * t)
  have l := Nat.mod_lt a (show 0 < 2 * t by omega)
  generalize a % (2 * t) = r at *
  generalize a / (2 * t) = q at *
  have e : a = t * (2 * q) + r := by rw [← d, Nat.mul_comm 2 t, Nat.mul_assoc]
  by_cases h : r < t
  · rw [if_pos h, if_pos h, e, Nat.mul_add_div ht, Nat.mul_add_mod, Nat.div_eq_of_lt h, Nat.mod_eq_of_lt h]
    exact ⟨rfl, rfl⟩
  · rw [if_neg h, if_neg h, e, Nat.mul_add_div ht, Nat.mul_add_mod]
    have h2 : r = t * 1 + (r - t) := by omega
    rw [h2, Nat.mul_add_div ht, Nat.mul_add_mod, Nat.div_eq_of_lt (show r - t < t by omega), Nat.mod_eq_of_lt (show r - t < t by omega)]
    exact ⟨rfl, by omega⟩
theorem BdI.lo {a b k r A : Nat} (hb : 0 < b) (h : BdI a b (k + 1) r A) (hl : r < b * 2 ^ k) : BdI a b k r A := by
  have ht : 0 < b * 2 ^ k := Nat.mul_pos hb (Nat.pow_pos (by omega))
  obtain ⟨s1, s2⟩ := bd_split (a := a) ht
  have e : b * 2 ^ (k + 1) = 2 * (b * 2 ^ k) := by rw [Nat.pow_succ, ← Nat.mul_assoc, Nat.mul_comm]
  obtain ⟨h1, h2⟩ := h
  rw [e] at h1 h2
  rw [← h1, if_pos hl] at s1 s2
  refine ⟨s2.symm, ?_⟩
  rw [s1, h2]
  generalize a / (2 * (b * 2 ^ k)) = q
  rw [Nat.pow_succ, Nat.mul_comm (2 ^ k) 2, ← Nat.mul_assoc, Nat.mul_comm q 2, Nat.add_zero]
theorem BdI.hi {a b k r A : Nat} (hb : 0 < b) (h : BdI a b (k + 1) r A) (hl : ¬ r < b * 2 ^ k) : BdI a b k (r - b * 2 ^ k) (A + 2 ^ k) ∧ 2 ^ (k + 1) ∣ A := by
  have ht : 0 < b * 2 ^ k := Nat.mul_pos hb (Nat.pow_pos (by omega))
  obtain ⟨s1, s2⟩ := bd_split (a := a) ht
  have e : b * 2 ^ (k + 1) = 2 * (b * 2 ^ k) := by rw [Nat.pow_succ, ← Nat.mul_assoc, Nat.mul_comm]
  obtain ⟨h1, h2⟩ := h
  have hd : 2 ^ (k + 1) ∣ A := by rw [h2]; exact Nat.dvd_mul_left _ _
  rw [e] at h1 h2
  rw [← h1, if_neg hl] at s1 s2
  refine ⟨⟨s2.symm, ?_⟩, hd⟩
  rw [s1, h2, Nat.add_mul, Nat.one_mul]
  generalize a / (2 * (b * 2 ^ k)) = q
  rw [Nat.pow_succ, Nat.mul_comm (2 ^ k) 2, ← Nat.mul_assoc, Nat.mul_comm q 2]
theorem BdI.fin {a b r A : Nat} (h : BdI a b 0 r A) : r = a % b ∧ A = a / b := by
  obtain ⟨h1, h2⟩ := h
  rw [Nat.pow_zero, Nat.mul_one] at h1 h2
  rw [Nat.mul_one] at h2
  exact ⟨h1, h2⟩
def cyF (x s i : Nat) : Nat := if i = 0 then 0 else dg x (i - 1) * 2 ^ s / W32
theorem cyF_step {x s i : Nat} (hs : s ≤ 31) : (dg x i * 2 ^ s + cyF x s i) % 4294967296 = dg (x * 2 ^ s) i ∧ (dg x i * 2 ^ s + cyF x s i) / 4294967296 = cyF x s (i + 1) ∧ dg x i * 2 ^ s + cyF x s i < 18446744073709551616 := by
  have hx : ∀ j, dg x j < W32 := fun j => dg_lt x j
  have hp : 2 ^ s ≤ 2147483648 := Nat.pow_le_pow_right (n := 2) (by omega) hs
  have c : cyF x s i < 2 ^ s := by
    unfold cyF
    split
    · exact Nat.pow_pos (by omega)
    · exact shl_small hs (hx _)
  have b1 : dg x i * 2 ^ s ≤ 4294967295 * 2147483648 := Nat.mul_le_mul (by have := hx i; rw [w32_eq] at this; omega) hp
  have m1 := (shl_hi (s := s) (y := dg x i) hs).2
  have c2 := w32_cut hs
  have h3 : dg x i * 2 ^ s % W32 + 2 ^ s ≤ W32 := by
    rw [m1]
    have a : dg x i % 2 ^ (32 - s) < 2 ^ (32 - s) := Nat.mod_lt _ (Nat.pow_pos (by omega))
    have b : (dg x i % 2 ^ (32 - s) + 1) * 2 ^ s ≤ 2 ^ (32 - s) * 2 ^ s := Nat.mul_le_mul_right _ a
    rw [Nat.add_mul, Nat.one_mul, Nat.mul_comm (2 ^ (32 - s)), ← c2] at b
    exact b
  have e2 : dg (x * 2 ^ s) i = dg x i * 2 ^ s % W32 + cyF x s i := by
    unfold cyF
    by_cases h0 : i = 0
    · rw [if_pos h0, h0, shl_zero, Nat.add_zero]
    · obtain ⟨q, rfl⟩ : ∃ q, i = q + 1 := ⟨i - 1, by omega⟩
      rw [if_neg h0, Nat.add_sub_cancel, shl_dg hs]
  have e3 : cyF x s (i + 1) = dg x i * 2 ^ s / W32 := by
    unfold cyF
    rw [if_neg (by omega), Nat.add_sub_cancel]
  rw [e2, e3]
  rw [w32_eq] at *
  generalize dg x i * 2 ^ s = Y at *
  generalize cyF x s i = C at *
  generalize 2 ^ s = P at *
  omega
end HP
