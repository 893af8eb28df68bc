import Derived.Test.YtjmldlbiihaefaaDoorNumA
/-! Plain number theory, second part: least divisors, multiplicative extension, the Kronecker symbol. -/
namespace HP

/-! least divisor from 2 on -/
def lpfA (n : Nat) : Nat → Nat → Nat
  | _, 0 => n
  | d, f + 1 => if n % d = 0 then d else lpfA n (d + 1) f
def lpf (n : Nat) : Nat := lpfA n 2 n

theorem lpfA_spec {n : Nat} (hn : 2 ≤ n) : ∀ f d, 2 ≤ d → d ≤ n → n ≤ d + f → (∀ e, 2 ≤ e → e < d → ¬ e ∣ n) →
    lpfA n d f ∣ n ∧ 2 ≤ lpfA n d f ∧ ∀ e, 2 ≤ e → e < lpfA n d f → ¬ e ∣ n
  | 0, d, h1, h2, h3, h4 => by
    have : d = n := by omega
    subst this
    exact ⟨Nat.dvd_refl _, hn, h4⟩
  | f + 1, d, h1, h2, h3, h4 => by
    unfold lpfA
    split
    · next h => exact ⟨Nat.dvd_of_mod_eq_zero h, h1, h4⟩
    · next h =>
      have hdn : d ≠ n := fun e => by subst e; simp at h
      refine lpfA_spec hn f (d + 1) (by omega) (by omega) (by omega) ?_
      intro e he1 he2 hd
      by_cases hed : e = d
      · subst hed; exact h (Nat.mod_eq_zero_of_dvd hd)
      · exact h4 e he1 (by omega) hd
theorem lpf_spec {n : Nat} (hn : 2 ≤ n) : lpf n ∣ n ∧ 2 ≤ lpf n ∧ ∀ e, 2 ≤ e → e < lpf n → ¬ e ∣ n :=
  lpfA_spec hn n 2 (by omega) hn (by omega) (fun e _ _ => by omega)
theorem prm_of_least {n d : Nat} (hd : d ∣ n) (h2 : 2 ≤ d) (h : ∀ e, 2 ≤ e → e < d → ¬ e ∣ n) : Prm d := by
  refine ⟨h2, fun e he => ?_⟩
  have h0 : e ≠ 0 := fun h => by subst h; have := Nat.eq_zero_of_zero_dvd he; omega
  have hle := Nat.le_of_dvd (by omega) he
  by_cases h1 : e = 1
  · exact .inl h1
  · by_cases h3 : e = d
    · exact .inr h3
    · exact absurd (Nat.dvd_trans he hd) (h e (by omega) (by omega))
theorem lpf_prm {n : Nat} (hn : 2 ≤ n) : Prm (lpf n) := by
  obtain ⟨h1, h2, h3⟩ := lpf_spec hn
  exact prm_of_least h1 h2 h3
theorem lpf_eq {n p : Nat} (hd : p ∣ n) (hn : 0 < n) (h2 : 2 ≤ p) (h : ∀ e, 2 ≤ e → e < p → ¬ e ∣ n) : lpf n = p := by
  have := Nat.le_of_dvd hn hd
  obtain ⟨h3, h4, h5⟩ := lpf_spec (n := n) (by omega)
  rcases Nat.lt_trichotomy (lpf n) p with h6 | h6 | h6
  · exact absurd h3 (h _ h4 h6)
  · exact h6
  · exact absurd hd (h5 _ h2 h6)
theorem div_lpf_lt {n : Nat} (hn : 2 ≤ n) : n / lpf n < n := Nat.div_lt_self (by omega) (lpf_spec hn).2.1
theorem div_lpf_pos {n : Nat} (hn : 2 ≤ n) : 0 < n / lpf n :=
  Nat.div_pos (Nat.le_of_dvd (by omega) (lpf_spec hn).1) (by have := (lpf_spec hn).2.1; omega)

/-- the completely multiplicative function with given values at primes -/
def ext (f : Nat → Int) (n : Nat) : Int := if _h : 2 ≤ n then f (lpf n) * ext f (n / lpf n) else 1
termination_by n
decreasing_by exact div_lpf_lt _h

theorem ext_one (f) : ext f 1 = 1 := by rw [ext]; simp
theorem ext_lpf (f) {n : Nat} (h : 2 ≤ n) : ext f n = f (lpf n) * ext f (n / lpf n) := by rw [ext]; simp [h]

theorem ext_prime_mul (f : Nat → Int) {p : Nat} (hp : Prm p) (n : Nat) (hn : 0 < n) : ext f (p * n) = f p * ext f n := by
  induction n using Nat.strongRecOn with
  | _ n ih =>
    have h2 : 2 ≤ p * n := by have := hp.two_le; have := Nat.le_mul_of_pos_right p hn; omega
    obtain ⟨q1, q2, q3⟩ := lpf_spec h2
    have hq := lpf_prm h2
    rw [ext_lpf f h2]
    by_cases hqp : lpf (p * n) = p
    · rw [hqp, Nat.mul_div_cancel_left _ hp.pos]
    · rcases hq.dvd_mul q1 with h | h
      · exact absurd (hq.eq_of_dvd hp h) hqp
      · have hlq : lpf n = lpf (p * n) := by
          refine lpf_eq h hn q2 fun e he1 he2 hd => q3 e he1 he2 (Nat.dvd_trans hd (Nat.dvd_mul_left _ _))
        have hn2 : 2 ≤ n := by have := Nat.le_of_dvd hn h; omega
        rw [Nat.mul_div_assoc _ h, ih _ (by rw [← hlq]; exact div_lpf_lt hn2) (by rw [← hlq]; exact div_lpf_pos hn2), ext_lpf f hn2, hlq]
        grind

theorem prime_ind0 {P : Nat → Prop} (h1 : P 1) (hp : ∀ p n, Prm p → 0 < n → P n → P (p * n)) (n : Nat) (hn : 0 < n) : P n := by
  induction n using Nat.strongRecOn with
  | _ n ih =>
    by_cases h2 : 2 ≤ n
    · have := hp (lpf n) (n / lpf n) (lpf_prm h2) (div_lpf_pos h2) (ih _ (div_lpf_lt h2) (div_lpf_pos h2))
      rwa [Nat.mul_div_cancel' (lpf_spec h2).1] at this
    · have : n = 1 := by omega
      subst this; exact h1
theorem prime_ind {P : (n : Nat) → 0 < n → Prop} (h1 : P 1 (by omega)) (hp : ∀ p n (h : Prm p) (hn : 0 < n), P n hn → P (p * n) (Nat.mul_pos h.pos hn)) (n : Nat) (hn : 0 < n) : P n hn :=
  prime_ind0 (P := fun n => ∀ hn : 0 < n, P n hn) (fun _ => h1) (fun p n h hn ih _ => hp p n h hn (ih hn)) n hn hn

theorem ext_mul (f : Nat → Int) (m n : Nat) (hm : 0 < m) (hn : 0 < n) : ext f (m * n) = ext f m * ext f n := by
  induction m, hm using prime_ind with
  | h1 => rw [Nat.one_mul, ext_one, Int.one_mul]
  | hp p m hp hm ih =>
    rw [Nat.mul_assoc, ext_prime_mul f hp _ (Nat.mul_pos hm hn), ih, ext_prime_mul f hp _ hm]
    grind
theorem ext_prime (f : Nat → Int) {p : Nat} (hp : Prm p) : ext f p = f p := by
  have := ext_prime_mul f hp 1 (by omega)
  rwa [Nat.mul_one, ext_one, Int.mul_one] at this
theorem ext_pow (f : Nat → Int) (m : Nat) (hm : 0 < m) : ∀ k, ext f (m ^ k) = ext f m ^ k
  | 0 => by rw [Nat.pow_zero, ext_one, Int.pow_zero]
  | k + 1 => by rw [Nat.pow_succ, ext_mul f _ _ (Nat.pow_pos hm) hm, ext_pow f m hm k, Int.pow_succ]
theorem ext_congr (f g : Nat → Int) (n : Nat) (hn : 0 < n) (h : ∀ p, Prm p → p ∣ n → f p = g p) : ext f n = ext g n := by
  induction n, hn using prime_ind with
  | h1 => rw [ext_one, ext_one]
  | hp p m hp hm ih =>
    rw [ext_prime_mul f hp m hm, ext_prime_mul g hp m hm, h p hp (Nat.dvd_mul_right _ _), ih (fun q hq hd => h q hq (Nat.dvd_trans hd (Nat.dvd_mul_left _ _)))]
theorem ext_fmul (f g : Nat → Int) (n : Nat) (hn : 0 < n) : ext (fun p => f p * g p) n = ext f n * ext g n := by
  induction n, hn using prime_ind with
  | h1 => simp [ext_one]
  | hp p m hp hm ih =>
    rw [ext_prime_mul _ hp m hm, ext_prime_mul f hp m hm, ext_prime_mul g hp m hm, ih]
    grind
theorem ext_zero_of (f : Nat → Int) (n : Nat) (hn : 0 < n) {p : Nat} (hp : Prm p) (hd : p ∣ n) (hf : f p = 0) : ext f n = 0 := by
  obtain ⟨k, rfl⟩ := hd
  have hk : 0 < k := Nat.pos_of_mul_pos_left (by omega)
  rw [ext_prime_mul f hp k hk, hf, Int.zero_mul]
theorem exists_prime {n : Nat} (h : 2 ≤ n) : ∃ p, Prm p ∧ p ∣ n := ⟨lpf n, lpf_prm h, (lpf_spec h).1⟩

/-! the symbol at odd primes, by Euler's power -/
def leg (a : Int) (p : Nat) : Int := if a ^ ((p - 1) / 2) % p = p - 1 then -1 else a ^ ((p - 1) / 2) % p

/-- values 0, 1, -1 that agree modulo a number from 3 on are equal -/
def Tri (x : Int) : Prop := x = 0 ∨ x = 1 ∨ x = -1
theorem Tri.eq {p : Nat} (hp : 3 ≤ p) {x y : Int} (hx : Tri x) (hy : Tri y) (h : Cong p x y) : x = y := by
  obtain ⟨k, hk⟩ := h
  have h2 : x - y ≤ 2 ∧ -2 ≤ x - y := by rcases hx with rfl | rfl | rfl <;> rcases hy with rfl | rfl | rfl <;> decide
  rcases Int.lt_trichotomy k 0 with h4 | h4 | h4
  · have : (p : Int) * k ≤ p * (-1) := Int.mul_le_mul_of_nonneg_left (by omega) (by omega)
    omega
  · subst h4; omega
  · have : (p : Int) * 1 ≤ p * k := Int.mul_le_mul_of_nonneg_left (by omega) (by omega)
    omega
theorem Tri.mul {x y : Int} (hx : Tri x) (hy : Tri y) : Tri (x * y) := by
  rcases hx with rfl | rfl | rfl <;> rcases hy with rfl | rfl | rfl <;> simp [Tri]
theorem tri_sg (n) : Tri (sg n) := by rcases sg_cases n with h | h <;> simp [Tri, h]
theorem Tri.neg {x : Int} (hx : Tri x) : Tri (-x) := by rcases hx with rfl | rfl | rfl <;> simp [Tri]

section
variable {p : Nat} (hp : Prm p) (h2 : p ≠ 2)
include hp h2
theorem half_eq : p = 2 * ((p - 1) / 2) + 1 := by have := hp.odd h2; omega
theorem three_le : 3 ≤ p := by have := hp.two_le; omega
theorem leg_zero {a : Int} (h : (p : Int) ∣ a) : leg a p = 0 := by
  have h3 := three_le hp h2
  have hP := half_eq hp h2
  have : a ^ ((p - 1) / 2) % p = 0 := by
    obtain ⟨k, hk⟩ : ∃ k, (p - 1) / 2 = k + 1 := ⟨(p - 1) / 2 - 1, by omega⟩
    rw [hk, Int.pow_succ]
    exact Int.emod_eq_zero_of_dvd (Int.dvd_mul_of_dvd_right h)
  unfold leg
  rw [this, if_neg (by omega)]
theorem leg_cong_tri (a : Int) : Tri (leg a p) ∧ Cong p (leg a p) (a ^ ((p - 1) / 2)) := by
  have h3 := three_le hp h2
  have hP := half_eq hp h2
  have hc : Cong p (leg a p) (a ^ ((p - 1) / 2)) := by
    unfold leg
    split
    · next h =>
      refine Cong.trans ?_ (Cong.emod p _)
      rw [h]
      exact ⟨-1, by omega⟩
    · exact Cong.emod p _
  refine ⟨?_, hc⟩
  by_cases hd : (p : Int) ∣ a
  · rw [leg_zero hp h2 hd]; exact .inl rfl
  · have ha : ¬ p ∣ (a % p).toNat := by
      intro h
      apply hd
      have e : ((a % p).toNat : Int) = a % p := Int.toNat_of_nonneg (Int.emod_nonneg _ (by omega))
      have : (p : Int) ∣ a % p := by rw [← e]; exact Int.natCast_dvd_natCast.2 h
      obtain ⟨k, hk⟩ := this
      have := Int.mul_ediv_add_emod a p
      exact ⟨a / p + k, by grind⟩
    have g := gauss_floor hp hP ha
    have e : ((a % p).toNat : Int) = a % p := Int.toNat_of_nonneg (Int.emod_nonneg _ (by omega))
    rw [e] at g
    have g2 : Cong p (a ^ ((p - 1) / 2)) (sg (sumN (fun i => 2 * (a % p).toNat * (i + 1) / p) ((p - 1) / 2))) :=
      ((Cong.emod p a).symm.pow _).trans g
    generalize sumN _ _ = s at g2
    have g3 := g2.emod_eq
    unfold leg
    rcases sg_cases s with h | h
    · rw [h] at g3
      rw [g3, Int.emod_eq_of_lt (by omega) (by omega), if_neg (by omega)]
      exact .inr (.inl rfl)
    · rw [h] at g3
      have : (-1 : Int) % p = p - 1 := by
        rw [show (-1 : Int) = (p - 1) + p * (-1) by omega, Int.add_mul_emod_self_left, Int.emod_eq_of_lt (by omega) (by omega)]
      rw [g3, this, if_pos rfl]
      exact .inr (.inr rfl)
theorem leg_tri (a : Int) : Tri (leg a p) := (leg_cong_tri hp h2 a).1
theorem leg_cong (a : Int) : Cong p (leg a p) (a ^ ((p - 1) / 2)) := (leg_cong_tri hp h2 a).2
theorem leg_eq {a x : Int} (hx : Tri x) (h : Cong p (a ^ ((p - 1) / 2)) x) : leg a p = x :=
  Tri.eq (three_le hp h2) (leg_tri hp h2 a) hx ((leg_cong hp h2 a).trans h)
theorem leg_mul (a b : Int) : leg (a * b) p = leg a p * leg b p := by
  refine leg_eq hp h2 ((leg_tri hp h2 a).mul (leg_tri hp h2 b)) ?_
  rw [Int.mul_pow]
  exact (leg_cong hp h2 a).symm.mul (leg_cong hp h2 b).symm
theorem leg_congr {a b : Int} (h : Cong p a b) : leg a p = leg b p :=
  leg_eq hp h2 (leg_tri hp h2 b) ((h.pow _).trans (leg_cong hp h2 b).symm)
theorem leg_ne_zero {a : Int} (h : ¬ (p : Int) ∣ a) : leg a p ≠ 0 := fun h0 => by
  have := leg_cong hp h2 a
  rw [h0] at this
  obtain ⟨k, hk⟩ := this
  exact h (hp.dvd_pow (k := (p - 1) / 2) ⟨-k, by grind⟩)
theorem leg_one : leg 1 p = 1 := leg_eq hp h2 (.inr (.inl rfl)) (by rw [Int.one_pow]; exact Cong.refl _ _)
theorem leg_neg_one : leg (-1) p = sg ((p - 1) / 2) := leg_eq hp h2 (tri_sg _) (by rw [sg_pow]; exact Cong.refl _ _)
theorem leg_two : leg 2 p = sg (tri ((p - 1) / 2)) := leg_eq hp h2 (tri_sg _) (two_pow hp (half_eq hp h2))
theorem leg_recip {q : Nat} (hq : Prm q) (hq2 : q ≠ 2) : leg q p = leg p q * sg ((p - 1) / 2 * ((q - 1) / 2)) := by
  by_cases hpq : p = q
  · subst hpq
    rw [leg_zero hp h2 ⟨1, by omega⟩, Int.zero_mul]
  · have d1 : ¬ p ∣ q := fun h => hpq (hp.eq_of_dvd hq h)
    have d2 : ¬ q ∣ p := fun h => hpq (hq.eq_of_dvd hp h).symm
    have hP := half_eq hp h2
    have hQ := half_eq hq hq2
    have e1 : leg q p = sg _ := leg_eq hp h2 (tri_sg _) (odd_pow hp hP (hq.odd hq2) d1)
    have e2 : leg p q = sg _ := leg_eq hq hq2 (tri_sg _) (odd_pow hq hQ (hp.odd h2) d2)
    rw [e1, e2, ← lattice hP hQ (hp.coprime d1), ← sg_add]
    apply sg_congr
    omega
end

theorem tri_two (P : Nat) : 2 * tri P = P * (P + 1) := by
  induction P with
  | zero => rfl
  | succ n ih =>
    have : tri (n + 1) = tri n + (n + 1) := rfl
    grind

/-! residues modulo 8 -/
/-- the symbol (a/2) -/
def two (a : Int) : Int := if a % 8 = 1 ∨ a % 8 = 7 then 1 else if a % 8 = 3 ∨ a % 8 = 5 then -1 else 0
/-- the sign (-1/n), (2/n) for odd n -/
def s4 (n : Nat) : Int := if n % 4 = 3 then -1 else 1
def s44 (m n : Nat) : Int := if m % 4 = 3 ∧ n % 4 = 3 then -1 else 1

theorem two_tri (a : Int) : Tri (two a) := by unfold two; split <;> (try split) <;> simp [Tri]
theorem mod8_cases (a : Int) : a % 8 = 0 ∨ a % 8 = 1 ∨ a % 8 = 2 ∨ a % 8 = 3 ∨ a % 8 = 4 ∨ a % 8 = 5 ∨ a % 8 = 6 ∨ a % 8 = 7 := by omega
theorem two_mul (a b : Int) : two (a * b) = two a * two b := by
  unfold two
  rw [Int.mul_emod]
  rcases mod8_cases a with h | h | h | h | h | h | h | h <;> rw [h] <;>
  rcases mod8_cases b with g | g | g | g | g | g | g | g <;> rw [g] <;> decide
theorem two_congr {a b : Int} (h : Cong 8 a b) : two a = two b := by unfold two; rw [h.emod_eq]

/-- the symbol at a prime -/
def kr (a : Int) (p : Nat) : Int := if p = 2 then two a else leg a p
theorem kr_tri {p : Nat} (hp : Prm p) (a : Int) : Tri (kr a p) := by
  unfold kr; split
  · exact two_tri a
  · next h => exact leg_tri hp h a
theorem kr_mul {p : Nat} (hp : Prm p) (a b : Int) : kr (a * b) p = kr a p * kr b p := by
  unfold kr; split
  · exact two_mul a b
  · next h => exact leg_mul hp h a b

/-- Jacobi's symbol, and Kronecker's, for a positive n -/
def jac (a : Int) (n : Nat) : Int := ext (kr a) n

theorem jac_tri (a : Int) (n : Nat) (hn : 0 < n) : Tri (jac a n) := by
  unfold jac
  induction n, hn using prime_ind with
  | h1 => rw [ext_one]; exact .inr (.inl rfl)
  | hp p m hp hm ih => rw [ext_prime_mul _ hp m hm]; exact (kr_tri hp a).mul ih
theorem jac_one (a : Int) : jac a 1 = 1 := ext_one _
theorem jac_mul (a : Int) (m n : Nat) (hm : 0 < m) (hn : 0 < n) : jac a (m * n) = jac a m * jac a n := ext_mul _ m n hm hn
theorem jac_prime (a : Int) {p : Nat} (hp : Prm p) : jac a p = kr a p := ext_prime _ hp
theorem jac_pow (a : Int) (m k : Nat) (hm : 0 < m) : jac a (m ^ k) = jac a m ^ k := ext_pow _ m hm k
theorem prm_two : Prm 2 := ⟨by omega, fun d hd => by have := Nat.le_of_dvd (by omega) hd; have : d ≠ 0 := fun h => by subst h; have := Nat.eq_zero_of_zero_dvd hd; omega
                                                     omega⟩
theorem jac_two (a : Int) : jac a 2 = two a := by rw [jac_prime a prm_two]; rfl
theorem jac_mul_left (a b : Int) (n : Nat) (hn : 0 < n) : jac (a * b) n = jac a n * jac b n := by
  unfold jac
  rw [← ext_fmul _ _ n hn]
  exact ext_congr _ _ n hn (fun p hp _ => kr_mul hp a b)
theorem odd_prime_of {n p : Nat} (hn : n % 2 = 1) (hd : p ∣ n) : p ≠ 2 := fun h => by subst h; omega
theorem jac_congr {a b : Int} {n : Nat} (hn : n % 2 = 1) (h : Cong n a b) : jac a n = jac b n := by
  refine ext_congr _ _ n (by omega) fun p hp hd => ?_
  unfold kr
  have := odd_prime_of hn hd
  rw [if_neg this, if_neg this]
  exact leg_congr hp this (h.dvd (Int.natCast_dvd_natCast.2 hd))
theorem jac_emod (a : Int) {n : Nat} (hn : n % 2 = 1) : jac (a % n) n = jac a n := jac_congr hn (Cong.emod _ _)

theorem odd_of_mul {p m : Nat} (hp : Prm p) (hn : p * m % 2 = 1) : p ≠ 2 ∧ m % 2 = 1 := by
  have hp2 : p ≠ 2 := odd_prime_of hn (Nat.dvd_mul_right _ _)
  exact ⟨hp2, by rw [Nat.mul_mod, hp.odd hp2] at hn; omega⟩
theorem odd_mul {p m : Nat} (hp : p % 2 = 1) (hm : m % 2 = 1) : p * m % 2 = 1 := by rw [Nat.mul_mod, hp, hm]
theorem odd_ind {P : (n : Nat) → n % 2 = 1 → Prop} (h1 : P 1 rfl) (hp : ∀ p n (h : Prm p) (h2 : p ≠ 2) (hn : n % 2 = 1), P n hn → P (p * n) (odd_mul (h.odd h2) hn)) (n : Nat) (hn : n % 2 = 1) : P n hn :=
  prime_ind0 (P := fun n => ∀ hn : n % 2 = 1, P n hn) (fun _ => h1) (fun p n h _ ih hn => hp p n h (odd_of_mul h hn).1 (odd_of_mul h hn).2 (ih _)) n (by omega) hn

theorem jac_one_left {n : Nat} (hn : n % 2 = 1) : jac 1 n = 1 := by
  induction n, hn using odd_ind with
  | h1 => exact jac_one _
  | hp p m hp h2 hm ih =>
    rw [jac_mul _ _ _ hp.pos (by omega), ih, jac_prime _ hp, kr, if_neg h2, leg_one hp h2]; rfl

theorem mod4_odd {n : Nat} (h : n % 2 = 1) : n % 4 = 1 ∨ n % 4 = 3 := by omega
theorem mod8_odd {n : Nat} (h : n % 2 = 1) : n % 8 = 1 ∨ n % 8 = 3 ∨ n % 8 = 5 ∨ n % 8 = 7 := by omega
theorem s4_mul {m n : Nat} (hm : m % 2 = 1) (hn : n % 2 = 1) : s4 (m * n) = s4 m * s4 n := by
  unfold s4
  rw [Nat.mul_mod]
  rcases mod4_odd hm with h | h <;> rcases mod4_odd hn with g | g <;> rw [h, g] <;> decide
theorem s44_mul {m n k : Nat} (hm : m % 2 = 1) (hn : n % 2 = 1) (hk : k % 2 = 1) : s44 (m * n) k = s44 m k * s44 n k := by
  unfold s44
  rw [Nat.mul_mod]
  rcases mod4_odd hm with h | h <;> rcases mod4_odd hn with g | g <;> rcases mod4_odd hk with f | f <;> rw [h, g, f] <;> decide
theorem s44_symm (m n : Nat) : s44 m n = s44 n m := by unfold s44; simp only [And.comm]
theorem s44_sq (m n : Nat) : s44 m n * s44 m n = 1 := by unfold s44; split <;> rfl
theorem sg_half {n : Nat} (hn : n % 2 = 1) : sg ((n - 1) / 2) = s4 n := by
  unfold sg s4
  rcases mod4_odd hn with h | h
  · rw [if_pos (by omega), if_neg (by omega)]
  · rw [if_neg (by omega), if_pos (by omega)]
theorem sg_mul_half {m n : Nat} (hm : m % 2 = 1) (hn : n % 2 = 1) : sg ((m - 1) / 2 * ((n - 1) / 2)) = s44 m n := by
  unfold sg s44
  rw [Nat.mul_mod]
  rcases mod4_odd hm with h | h <;> rcases mod4_odd hn with g | g
  · rw [show (m - 1) / 2 % 2 = 0 by omega, Nat.zero_mul, if_pos (by omega), if_neg (by omega)]
  · rw [show (m - 1) / 2 % 2 = 0 by omega, Nat.zero_mul, if_pos (by omega), if_neg (by omega)]
  · rw [show (n - 1) / 2 % 2 = 0 by omega, Nat.mul_zero, if_pos (by omega), if_neg (by omega)]
  · rw [show (n - 1) / 2 % 2 = 1 by omega, show (m - 1) / 2 % 2 = 1 by omega, if_neg (by omega), if_pos (by omega)]
theorem sg_tri {n : Nat} (hn : n % 2 = 1) : sg (tri ((n - 1) / 2)) = two n := by
  have h := tri_two ((n - 1) / 2)
  unfold sg two
  obtain ⟨k, hk⟩ : ∃ k, n = 8 * k + n % 8 := ⟨n / 8, by omega⟩
  rcases mod8_odd hn with g | g | g | g <;> rw [g] at hk
  · rw [show (n - 1) / 2 = 4 * k by omega] at h ⊢
    have : tri (4 * k) = 2 * (k * (4 * k + 1)) := by grind
    rw [if_pos (by omega), if_pos (by omega)]
  · rw [show (n - 1) / 2 = 4 * k + 1 by omega] at h ⊢
    have : tri (4 * k + 1) = 2 * (4 * k * k + 3 * k) + 1 := by grind
    rw [if_neg (by omega), if_neg (by omega), if_pos (by omega)]
  · rw [show (n - 1) / 2 = 4 * k + 2 by omega] at h ⊢
    have : tri (4 * k + 2) = 2 * (4 * k * k + 5 * k + 1) + 1 := by grind
    rw [if_neg (by omega), if_neg (by omega), if_pos (by omega)]
  · rw [show (n - 1) / 2 = 4 * k + 3 by omega] at h ⊢
    have : tri (4 * k + 3) = 2 * (4 * k * k + 7 * k + 3) := by grind
    rw [if_pos (by omega), if_pos (by omega)]

theorem jac_neg_one {n : Nat} (hn : n % 2 = 1) : jac (-1) n = s4 n := by
  induction n, hn using odd_ind with
  | h1 => rw [jac_one]; rfl
  | hp p m hp h2 hm ih =>
    rw [jac_mul _ _ _ hp.pos (by omega), ih, jac_prime _ hp, kr, if_neg h2, leg_neg_one hp h2, sg_half (hp.odd h2), s4_mul (hp.odd h2) hm]
theorem jac_two_left {n : Nat} (hn : n % 2 = 1) : jac 2 n = two n := by
  induction n, hn using odd_ind with
  | h1 => rw [jac_one]; rfl
  | hp p m hp h2 hm ih =>
    rw [jac_mul _ _ _ hp.pos (by omega), ih, jac_prime _ hp, kr, if_neg h2, leg_two hp h2, sg_tri (hp.odd h2), Int.natCast_mul, two_mul]

theorem jac_recip {m n : Nat} (hm : m % 2 = 1) (hn : n % 2 = 1) : jac m n = jac n m * s44 m n := by
  induction m, hm using odd_ind with
  | h1 => 
    rw [jac_one, Int.one_mul]
    have : ((1 : Nat) : Int) = 1 := rfl
    rw [this, jac_one_left hn]
    unfold s44
    rw [if_neg (by omega)]
  | hp q m hq hq2 hm ih =>
    have key : jac q n = jac n q * s44 q n := by
      clear ih
      rw [jac_prime _ hq, kr, if_neg hq2]
      induction n, hn using odd_ind with
      | h1 =>
        have : ((1 : Nat) : Int) = 1 := rfl
        rw [jac_one, this, leg_one hq hq2]
        unfold s44
        rw [if_neg (by omega)]; rfl
      | hp p n hp hp2 hn ih =>
        have ho := hp.odd hp2
        have hoq := hq.odd hq2
        rw [jac_mul _ _ _ hp.pos (by omega), ih, jac_prime _ hp, kr, if_neg hp2, leg_recip hp hp2 hq hq2, sg_mul_half ho hoq, Int.natCast_mul, leg_mul hq hq2,
          s44_symm q (p * n), s44_mul ho hn hoq, s44_symm q n]
        grind
    rw [Int.natCast_mul, jac_mul_left _ _ _ (by omega), ih, key, jac_mul _ _ _ hq.pos (by omega), s44_mul (hq.odd hq2) hm hn]
    grind

/-- the symbol is 0 exactly where there is a common prime -/
theorem jac_zero_of {a : Int} {n p : Nat} (hn : 0 < n) (hp : Prm p) (h1 : p ∣ n) (h2 : (p : Int) ∣ a) : jac a n = 0 := by
  refine ext_zero_of _ n hn hp h1 ?_
  unfold kr
  split
  · next h => 
    subst h
    unfold two
    rw [if_neg (by omega), if_neg (by omega)]
  · next h => exact leg_zero hp h h2
theorem kr_ne_zero {a : Int} {p : Nat} (hp : Prm p) (h : ¬ (p : Int) ∣ a) : kr a p ≠ 0 := by
  unfold kr
  split
  · next h2 =>
    subst h2
    unfold two
    split
    · decide
    · split
      · decide
      · have : ((2 : Nat) : Int) ∣ a := by omega
        exact absurd this h
  · next h2 => exact leg_ne_zero hp h2 h
theorem jac_ne_zero {a : Int} {n : Nat} (hn : 0 < n) (h : ∀ p, Prm p → p ∣ n → ¬ (p : Int) ∣ a) : jac a n ≠ 0 := by
  unfold jac
  induction n, hn using prime_ind with
  | h1 => rw [ext_one]; decide
  | hp p m hp hm ih =>
    rw [ext_prime_mul _ hp m hm]
    have h1 := kr_ne_zero hp (h p hp (Nat.dvd_mul_right _ _))
    have h2 := ih fun q hq hd => h q hq (Nat.dvd_trans hd (Nat.dvd_mul_left _ _))
    exact Int.mul_ne_zero h1 h2

end HP
