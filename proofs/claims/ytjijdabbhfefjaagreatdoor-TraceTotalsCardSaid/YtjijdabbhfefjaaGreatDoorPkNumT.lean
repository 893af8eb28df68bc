/- Own texts joined: NumT, NumU, NumV, NumQ, NumR, NumP. -/
import Derived.Test.YtjijdabbhfefjaaGreatDoorNumA
import Derived.Test.YtjijdabbhfefjaaGreatDoorNumD
/- Dedekind sums of integers; Rademacher's function and its cocycle. -/
namespace HP
structure Mx where
  a : Int
  b : Int
  c : Int
  d : Int
def Mx.One (x : Mx) : Prop := x.a * x.d - x.b * x.c = 1
def Mx.mul (x y : Mx) : Mx := ⟨x.a * y.a + x.b * y.c, x.a * y.b + x.b * y.d, x.c * y.a + x.d * y.c, x.c * y.b + x.d * y.d⟩
theorem Mx.One.mul {x y : Mx} (hx : x.One) (hy : y.One) : (x.mul y).One := by
  unfold Mx.One Mx.mul at *
  simp only
  have e : (x.a * y.a + x.b * y.c) * (x.c * y.b + x.d * y.d) - (x.a * y.b + x.b * y.d) * (x.c * y.a + x.d * y.c) = (x.a * x.d - x.b * x.c) * (y.a * y.d - y.b * y.c) := by grind
  rw [e, hx, hy]
  rfl
theorem Mx.One.gcd {x : Mx} (h : x.One) : Int.gcd x.d x.c = 1 := by
  have h1 : ((Int.gcd x.d x.c : Nat) : Int) ∣ 1 := by
    rw [← h]
    exact Int.dvd_sub (Int.dvd_mul_of_dvd_right (Int.gcd_dvd_left ..)) (Int.dvd_mul_of_dvd_right (Int.gcd_dvd_right ..))
  have h2 := Int.natAbs_dvd_natAbs.2 h1
  simpa using h2
end HP

/- Rademacher's function: translations, turns, and the cocycle. -/
namespace HP
theorem sgn_tri (x : Int) : (x.sign = -1 ∧ x < 0) ∨ (x.sign = 0 ∧ x = 0) ∨ (x.sign = 1 ∧ 0 < x) := by
  rcases Int.lt_trichotomy x 0 with h | h | h
  · exact .inl ⟨Int.sign_eq_neg_one_of_neg h, h⟩
  · exact .inr (.inl ⟨by rw [h]; rfl, h⟩)
  · exact .inr (.inr ⟨Int.sign_eq_one_of_pos h, h⟩)
theorem Mx.One.row {x : Mx} (h : x.One) : x.c ≠ 0 ∨ x.d ≠ 0 := by
  by_cases hc : x.c = 0
  · refine .inr fun hd => ?_
    unfold Mx.One at h
    rw [hc, hd] at h
    simp at h
  · exact .inl hc
end HP

/- Rademacher's function modulo 12: a homomorphism; the sums of eta quotients; words. -/
namespace HP
def Mx.at (x : Mx) (d : Int) : Mx := ⟨x.a, x.b * d, x.c / d, x.d⟩
theorem Mx.One.at {x : Mx} (h : x.One) {d : Int} (hd : d ∣ x.c) : (x.at d).One := by
  unfold Mx.One Mx.at at *
  obtain ⟨q, hq⟩ := hd
  by_cases h0 : d = 0
  · rw [h0, Int.zero_mul] at hq
    rw [hq, Int.mul_zero] at h
    show x.a * x.d - x.b * d * (x.c / d) = 1
    rw [hq, Int.zero_ediv, Int.mul_zero]
    exact h
  · show x.a * x.d - x.b * d * (x.c / d) = 1
    rw [hq, Int.mul_ediv_cancel_left _ h0, Int.mul_assoc, ← hq]
    exact h
end HP

/- Dedekind sums as fractions. -/
namespace HP
theorem rat_bd {a b : Int} (hb : b ≠ 0) : (Rat.divInt a b).num.natAbs ≤ a.natAbs ∧ (Rat.divInt a b).den ≤ b.natAbs := by
  rw [Rat.num_divInt, Rat.den_divInt, if_neg hb]
  constructor
  · rw [Int.natAbs_ediv_of_dvd (by
      refine Int.dvd_trans ?_ (Int.dvd_mul_left _ _)
      exact Int.gcd_dvd_right ..), Int.natAbs_mul, Int.natAbs_sign_of_ne_zero hb, Nat.one_mul]
    exact Nat.div_le_self _ _
  · exact Nat.div_le_self _ _
def RB (q : Rat) : Prop := ln q.num.natAbs ≤ 1000 ∧ ln q.den ≤ 1000
theorem RB.of {a b : Int} (hb : b ≠ 0) (h1 : ln a.natAbs ≤ 1000) (h2 : ln b.natAbs ≤ 1000) : RB (Rat.divInt a b) := by
  obtain ⟨e1, e2⟩ := rat_bd (a := a) hb
  have m : ∀ {x y : Nat}, x ≤ y → ln x ≤ ln y := fun h => ln_le (Nat.lt_of_le_of_lt h (lt_ln _))
  exact ⟨Nat.le_trans (m e1) h1, Nat.le_trans (m e2) h2⟩
theorem ln_of {x k : Nat} (h : x < 2 ^ (32 * k)) : ln x ≤ k := ln_le (by rw [w32_two]; exact h)
end HP

/- Multipliers of eta quotients: the fractional part of a sum over the divisors. -/
namespace HP
def Mx.neg (m : Mx) : Mx := ⟨-m.a, -m.b, -m.c, -m.d⟩
theorem Mx.One.neg {m : Mx} (h : m.One) : m.neg.One := by
  unfold Mx.One Mx.neg at *
  grind
end HP

/- Fractions as the program reckons them: numerator and denominator of Lean's Rat. -/
namespace HP
theorem over_num {n d : Int} (hd : 0 < d) : (Rat.divInt n d).num = n / (Int.gcd n d : Nat) ∧ ((Rat.divInt n d).den : Int) = d / (Int.gcd n d : Nat) := by
  rw [Rat.num_divInt, Rat.den_divInt, if_neg (by omega), Int.sign_eq_one_of_pos hd, Int.one_mul, Int.gcd_comm]
  refine ⟨rfl, ?_⟩
  rw [Int.natCast_ediv]
  congr 1
  omega
theorem over_whole (n : Int) : (Rat.divInt n 1).num = n ∧ (Rat.divInt n 1).den = 1 := by
  have h := over_num (n := n) (d := 1) (by omega)
  rw [Int.gcd_one] at h
  exact ⟨by rw [h.1]; exact Int.ediv_one _, by have := h.2; omega⟩
theorem over_cop {n d : Int} (hd : 0 < d) (hg : Int.gcd n d = 1) : (Rat.divInt n d).num = n ∧ ((Rat.divInt n d).den : Int) = d := by
  have h := over_num (n := n) hd
  rw [hg] at h
  exact ⟨by rw [h.1]; exact Int.ediv_one _, by rw [h.2]; exact Int.ediv_one _⟩
theorem over_neg (n d : Int) : Rat.divInt (-n) (-d) = Rat.divInt n d := Rat.neg_divInt_neg n d
theorem over_self (q : Rat) : Rat.divInt q.num q.den = q := Rat.num_divInt_den q
theorem rat_add (a b : Rat) : a + b = Rat.divInt (a.num * b.den + b.num * a.den) (a.den * b.den) := by
  rw [Rat.add_def', ← Rat.divInt_ofNat, Int.natCast_mul]
theorem rat_add_one {a b : Rat} (ha : a.den = 1) (hb : b.den = 1) : (a + b).num = a.num + b.num ∧ (a + b).den = 1 := by
  have h := rat_add a b
  rw [ha, hb] at h
  rw [h]
  have e := over_whole (a.num * ((1 : Nat) : Int) + b.num * ((1 : Nat) : Int))
  refine ⟨e.1.trans (by omega), e.2⟩
theorem rat_mul (a b : Rat) : a * b = Rat.divInt (a.num * b.num) (a.den * b.den) := by
  rw [Rat.mul_def, Rat.normalize_eq_mkRat, ← Rat.divInt_ofNat, Int.natCast_mul]
theorem rat_neg (a : Rat) : -a = Rat.divInt (-a.num) a.den := by
  rw [← Rat.neg_divInt, Rat.num_divInt_den]
theorem rat_sub (a b : Rat) : a - b = a + -b := Rat.sub_eq_add_neg a b
end HP

