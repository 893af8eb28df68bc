import Derived.Test.YtjmldlbiihaefaaDoorNumC
/-! Plain number theory, fourth part: Kronecker's symbol for all integers, the rounds of Jacobi's method, periods. -/
namespace HP

theorem jac_odd_part {a : Int} {n z m : Nat} (hm : 0 < m) (h : n = 2 ^ z * m) : jac a n = two a ^ z * jac a m := by
  rw [h, jac_mul _ _ _ (Nat.pow_pos (by omega)) hm, jac_pow _ _ _ (by omega), jac_two]

theorem jac_nat_mul (a b n : Nat) (hn : 0 < n) : jac ((a * b : Nat) : Int) n = jac a n * jac b n := by
  rw [Int.natCast_mul, jac_mul_left _ _ _ hn]
theorem jac_nat_pow (a n : Nat) (hn : n % 2 = 1) : ∀ k, jac ((a ^ k : Nat) : Int) n = jac a n ^ k
  | 0 => by
    have : ((a ^ 0 : Nat) : Int) = 1 := by simp
    rw [this, jac_one_left hn, Int.pow_zero]
  | k + 1 => by
    rw [Nat.pow_succ, jac_nat_mul _ _ _ (by omega), jac_nat_pow a n hn k, Int.pow_succ]

/-- the sign of z halvings -/
def flip2 (z m : Nat) : Int := if z % 2 = 1 ∧ (m % 8 = 3 ∨ m % 8 = 5) then -1 else 1
theorem two_nat (m : Nat) : two (m : Int) = if m % 8 = 1 ∨ m % 8 = 7 then 1 else if m % 8 = 3 ∨ m % 8 = 5 then -1 else 0 := by
  unfold two
  have h : ((m : Int) % 8 = 1 ↔ m % 8 = 1) ∧ ((m : Int) % 8 = 7 ↔ m % 8 = 7) ∧ ((m : Int) % 8 = 3 ↔ m % 8 = 3) ∧ ((m : Int) % 8 = 5 ↔ m % 8 = 5) := by omega
  simp only [h.1, h.2.1, h.2.2.1, h.2.2.2]
theorem two_pow_flip {m : Nat} (hm : m % 2 = 1) (z : Nat) : two (m : Int) ^ z = flip2 z m := by
  rw [two_nat]
  unfold flip2
  rcases mod8_odd hm with h | h | h | h <;> rw [h]
  · rw [if_pos (by decide), Int.one_pow, if_neg (by omega)]
  · rw [if_neg (by decide), if_pos (by decide), sg_pow]; unfold sg
    rcases Nat.mod_two_eq_zero_or_one z with g | g <;> simp [g]
  · rw [if_neg (by decide), if_pos (by decide), sg_pow]; unfold sg
    rcases Nat.mod_two_eq_zero_or_one z with g | g <;> simp [g]
  · rw [if_pos (by decide), Int.one_pow, if_neg (by omega)]

theorem jac_round {a z b m : Nat} (hm : m % 2 = 1) (hb : b % 2 = 1) (h : a = 2 ^ z * b) :
    jac a m = flip2 z m * s44 b m * jac ((m % b : Nat) : Int) b := by
  rw [h, jac_nat_mul _ _ _ (by omega), jac_nat_pow _ _ hm]
  have e2 : ((2 : Nat) : Int) = 2 := rfl
  rw [e2, jac_two_left hm, two_pow_flip hm, jac_recip hb hm, Int.natCast_emod, jac_emod _ hb]
  grind
theorem jac_end {m : Nat} (hm : m % 2 = 1) : jac 0 m = if m = 1 then 1 else 0 := by
  split
  · next h => subst h; exact jac_one _
  · next h =>
    obtain ⟨p, hp, hd⟩ := exists_prime (n := m) (by omega)
    exact jac_zero_of (by omega) hp hd ⟨0, by omega⟩

/-- Kronecker's symbol -/
def kro (a n : Int) : Int := if n = 0 then (if a = 1 ∨ a = -1 then 1 else 0) else (if n < 0 ∧ a < 0 then -1 else 1) * jac a n.natAbs
theorem kro_pos {a n : Int} (h : 0 < n) : kro a n = jac a n.toNat := by
  unfold kro
  rw [if_neg (by omega), if_neg (by omega), Int.one_mul]
  congr 1; omega
theorem kro_tri (a n : Int) : Tri (kro a n) := by
  unfold kro
  split
  · split <;> simp [Tri]
  · next h =>
    refine Tri.mul ?_ (jac_tri a _ (by omega))
    split <;> simp [Tri]

/-- reciprocity, as the statement says it -/
theorem kro_recip {a n : Int} (ha : 0 < a) (hn : 0 < n) (ha2 : a % 2 = 1) (hn2 : n % 2 = 1) :
    kro a n * kro n a = if Nat.gcd a.toNat n.toNat = 1 then (if a % 4 = 3 ∧ n % 4 = 3 then -1 else 1) else 0 := by
  obtain ⟨x, rfl⟩ := Int.eq_ofNat_of_zero_le (Int.le_of_lt ha)
  obtain ⟨y, rfl⟩ := Int.eq_ofNat_of_zero_le (Int.le_of_lt hn)
  rw [kro_pos ha, kro_pos hn, Int.toNat_natCast, Int.toNat_natCast]
  have hx : x % 2 = 1 := by omega
  have hy : y % 2 = 1 := by omega
  by_cases hg : Nat.gcd x y = 1
  · rw [if_pos hg, jac_recip hx hy]
    have hne : jac y x ≠ 0 := jac_ne_zero (by omega) fun p hp h1 h2 => by
      have h2' : p ∣ y := Int.natCast_dvd_natCast.1 h2
      have := Nat.dvd_gcd h1 h2'
      rw [hg] at this
      exact hp.not_dvd_one this
    have hsq : jac y x * jac y x = 1 := by
      rcases jac_tri y x (by omega) with h | h | h
      · exact absurd h hne
      · rw [h]; rfl
      · rw [h]; rfl
    have e : jac y x * s44 x y * jac y x = s44 x y := by
      calc jac y x * s44 x y * jac y x = jac y x * jac y x * s44 x y := by grind
        _ = s44 x y := by rw [hsq, Int.one_mul]
    rw [e]
    unfold s44
    have h4 : ((x : Int) % 4 = 3 ↔ x % 4 = 3) ∧ ((y : Int) % 4 = 3 ↔ y % 4 = 3) := by omega
    simp only [h4.1, h4.2]
  · rw [if_neg hg]
    have hg2 : 2 ≤ Nat.gcd x y := by
      have : 0 < Nat.gcd x y := Nat.gcd_pos_of_pos_left _ (by omega)
      omega
    obtain ⟨p, hp, hd⟩ := exists_prime hg2
    rw [jac_zero_of (by omega) hp (Nat.dvd_trans hd (Nat.gcd_dvd_left x y)) (Int.natCast_dvd_natCast.2 (Nat.dvd_trans hd (Nat.gcd_dvd_right x y))), Int.mul_zero]

theorem kro_mul_left {a b n : Int} (hn : 0 < n) : kro (a * b) n = kro a n * kro b n := by
  rw [kro_pos hn, kro_pos hn, kro_pos hn, jac_mul_left _ _ _ (by omega)]
theorem kro_mul_right {a b n : Int} (hn : 0 < n) (ha : a ≠ 0) (hb : b ≠ 0) : kro n (a * b) = kro n a * kro n b := by
  have hab : a * b ≠ 0 := Int.mul_ne_zero ha hb
  unfold kro
  rw [if_neg hab, if_neg ha, if_neg hb, if_neg (by omega), if_neg (by omega), if_neg (by omega), Int.natAbs_mul, jac_mul _ _ _ (by omega) (by omega)]
  grind

/-! the period of a discriminant -/
theorem two_natAbs (d : Int) : two d = two (d.natAbs : Int) := by
  rcases Int.natAbs_eq d with h | h
  · rw [← h]
  · have : d = -1 * (d.natAbs : Int) := by omega
    conv => lhs; rw [this]
    rw [two_mul]
    have : two (-1) = 1 := by decide
    rw [this, Int.one_mul]
theorem jac_abs {d : Int} {n : Nat} (hn : n % 2 = 1) : jac d n = (if d < 0 then s4 n else 1) * jac (d.natAbs : Int) n := by
  split
  · next h =>
    have : d = -1 * (d.natAbs : Int) := by omega
    conv => lhs; rw [this]
    rw [jac_mul_left _ _ _ (by omega), jac_neg_one hn]
  · next h =>
    have : (d.natAbs : Int) = d := by omega
    rw [this, Int.one_mul]
theorem kr_disc {d : Int} (h : d % 4 = 1) {p : Nat} (hp : Prm p) : kr d p = jac (p : Int) d.natAbs := by
  have hd : d.natAbs % 2 = 1 := by omega
  by_cases h2 : p = 2
  · subst h2
    have e2 : ((2 : Nat) : Int) = 2 := rfl
    rw [e2, jac_two_left hd, ← two_natAbs]; rfl
  · have ho := hp.odd h2
    rw [← jac_prime d hp, jac_abs ho, jac_recip hd ho]
    by_cases hneg : d < 0
    · rw [if_pos hneg]
      have : s44 d.natAbs p = s4 p := by
        unfold s44 s4
        have : d.natAbs % 4 = 3 := by omega
        simp [this]
      rw [this]
      have hs : s4 p * s4 p = 1 := by unfold s4; split <;> rfl
      calc s4 p * (jac (p : Int) d.natAbs * s4 p) = (s4 p * s4 p) * jac (p : Int) d.natAbs := by grind
        _ = _ := by rw [hs, Int.one_mul]
    · rw [if_neg hneg]
      have : s44 d.natAbs p = 1 := by
        unfold s44
        rw [if_neg (by omega)]
      rw [this, Int.one_mul, Int.mul_one]
theorem jac_disc {d : Int} (h : d % 4 = 1) (n : Nat) (hn : 0 < n) : jac d n = jac (n : Int) d.natAbs := by
  have hd : d.natAbs % 2 = 1 := by omega
  induction n, hn using prime_ind with
  | h1 => 
    have : ((1 : Nat) : Int) = 1 := rfl
    rw [jac_one, this, jac_one_left hd]
  | hp p m hp hm ih =>
    rw [jac_mul _ _ _ hp.pos hm, jac_nat_mul _ _ _ (by omega), ih, jac_prime _ hp, kr_disc h hp]

theorem jac_even {d : Int} {n : Nat} (hn : 0 < n) (h1 : d % 2 = 0) (h2 : n % 2 = 0) : jac d n = 0 :=
  jac_zero_of hn prm_two (Nat.dvd_of_mod_eq_zero h2) (Int.dvd_of_emod_eq_zero h1)

theorem s4_congr {m n : Nat} (h : m % 4 = n % 4) : s4 m = s4 n := by unfold s4; rw [h]
theorem s44_congr {k m n : Nat} (h : m % 4 = n % 4) : s44 k m = s44 k n := by unfold s44; rw [h]
theorem exists_two_pow (n : Nat) (hn : 0 < n) : ∃ z m, n = 2 ^ z * m ∧ m % 2 = 1 := by
  refine ⟨mlt 2 n, strip 2 n, (strip_mul 2 n).symm, ?_⟩
  have := strip_not (p := 2) (n := n) (by omega) hn
  omega

theorem jac_period {d : Int} (hd0 : d ≠ 0) (hd : d % 4 = 0 ∨ d % 4 = 1) (n k : Nat) (hn : 0 < n) : jac d (n + k * d.natAbs) = jac d n := by
  rcases hd with hd | hd
  · rcases Nat.mod_two_eq_zero_or_one n with hp | hp
    · have : (n + k * d.natAbs) % 2 = 0 := by
        rw [Nat.add_mod, Nat.mul_mod, show d.natAbs % 2 = 0 by omega]; simp [hp]
      rw [jac_even (by omega) (by omega) hp, jac_even (by omega) (by omega) this]
    · have hp' : (n + k * d.natAbs) % 2 = 1 := by
        rw [Nat.add_mod, Nat.mul_mod, show d.natAbs % 2 = 0 by omega]; simp [hp]
      have h4 : (n + k * d.natAbs) % 4 = n % 4 := by
        rw [Nat.add_mod, Nat.mul_mod, show d.natAbs % 4 = 0 by omega]; simp
      obtain ⟨z, e, hz, he⟩ := exists_two_pow d.natAbs (by omega)
      rw [jac_abs hp', jac_abs hp, hz, jac_nat_mul _ _ _ (by omega), jac_nat_mul _ _ _ (by omega), jac_nat_pow _ _ (by rw [← hz]; exact hp'), jac_nat_pow _ _ hp, ← hz]
      have e2 : ((2 : Nat) : Int) = 2 := rfl
      rw [e2, jac_two_left hp', jac_two_left hp, two_pow_flip hp', two_pow_flip hp, jac_recip he hp', jac_recip he hp, s4_congr h4, s44_congr h4]
      have h8 : flip2 z (n + k * d.natAbs) = flip2 z n := by
        unfold flip2
        rcases Nat.mod_two_eq_zero_or_one z with g | g
        · simp [g]
        · have : (n + k * d.natAbs) % 8 = n % 8 := by
            have hz3 : 3 ≤ z := by
              rcases Nat.lt_or_ge z 3 with h3 | h3
              · have : z = 1 := by omega
                subst this
                omega
              · exact h3
            obtain ⟨y, rfl⟩ := Nat.exists_eq_add_of_le hz3
            rw [hz, Nat.pow_add, Nat.add_mod, Nat.mul_mod]
            have : (2 ^ 3 * 2 ^ y * e) % 8 = 0 := by
              rw [Nat.mul_assoc]; exact Nat.mul_mod_right 8 _
            rw [this]; simp
          rw [this]
      have hc : jac ((n + k * d.natAbs : Nat) : Int) e = jac (n : Int) e := by
        refine jac_congr he ⟨(k : Int) * 2 ^ z, ?_⟩
        rw [hz]
        simp only [Int.natCast_add, Int.natCast_mul, Int.natCast_pow]
        grind
      rw [h8, hc]
  · have hdo : d.natAbs % 2 = 1 := by omega
    rw [jac_disc hd _ (by omega), jac_disc hd _ hn]
    refine jac_congr hdo ⟨(k : Int), ?_⟩
    simp only [Int.natCast_add, Int.natCast_mul]
    grind
end HP
