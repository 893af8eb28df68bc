import Derived.Test.YtjmldlbiihaefaaDoorNumE
/-! Plain number theory, sixth part: the extended Euclidean algorithm with truncated division. -/
namespace HP

def Sgn (x : Int) : Prop := x = 1 ∨ x = -1

/-- what the rounds of the extended algorithm keep -/
def XI (a b g rest u next : Int) : Prop :=
  ∃ (x y z : Int) (R R' U N : Nat), Sgn x ∧ Sgn y ∧ Sgn z ∧ g = x * R ∧ rest = y * R' ∧ u = z * U ∧ next = -(x * y * z) * N ∧
    N * R + U * R' = b.natAbs ∧ U ≤ b.natAbs ∧ N ≤ b.natAbs ∧ b ∣ g - u * a ∧ b ∣ rest - next * a ∧ Int.gcd g rest = Int.gcd a b

theorem sgn_of (a : Int) : ∃ x, Sgn x ∧ a = x * a.natAbs := by
  by_cases h : 0 ≤ a
  · exact ⟨1, .inl rfl, by omega⟩
  · exact ⟨-1, .inr rfl, by omega⟩

theorem xi_start {a b : Int} (hb : b ≠ 0) : XI a b a b 1 0 := by
  obtain ⟨x, hx, ha⟩ := sgn_of a
  obtain ⟨y, hy, hbb⟩ := sgn_of b
  exact ⟨x, y, 1, a.natAbs, b.natAbs, 1, 0, hx, hy, .inl rfl, ha, hbb, by omega, by simp, by omega, by omega, by omega, ⟨0, by omega⟩, ⟨1, by omega⟩, rfl⟩

theorem sgn_tdiv {x y : Int} {R R' : Nat} (hx : Sgn x) (hy : Sgn y) : (x * R).tdiv (y * R') = x * y * ((R / R' : Nat) : Int) := by
  have h : ((R : Int)).tdiv R' = ((R / R' : Nat) : Int) := by
    rw [Int.tdiv_eq_ediv_of_nonneg (by omega)]; simp
  rcases hx with rfl | rfl <;> rcases hy with rfl | rfl
  · rw [Int.one_mul, Int.one_mul, h]; omega
  · rw [Int.one_mul, Int.neg_mul, Int.one_mul, Int.tdiv_neg, h]; omega
  · rw [Int.neg_mul, Int.one_mul, Int.one_mul, Int.neg_tdiv, h]; omega
  · rw [Int.neg_mul, Int.one_mul, Int.neg_mul, Int.one_mul, Int.neg_tdiv, Int.tdiv_neg, h]; omega

theorem sgn_sq {x : Int} (hx : Sgn x) : x * x = 1 := by rcases hx with rfl | rfl <;> rfl
theorem sgn_abs {x : Int} (hx : Sgn x) (n : Nat) : (x * n).natAbs = n := by rcases hx with rfl | rfl <;> omega
theorem sgn_mul {x y : Int} (hx : Sgn x) (hy : Sgn y) : Sgn (x * y) := by
  rcases hx with rfl | rfl <;> rcases hy with rfl | rfl <;> simp [Sgn]
theorem sgn_neg {x : Int} (hx : Sgn x) : Sgn (-x) := by rcases hx with rfl | rfl <;> simp [Sgn]

theorem gcd_sub_mul (g r q : Int) : Int.gcd r (g - q * r) = Int.gcd g r := by
  have h1 : ((Int.gcd g r : Nat) : Int) ∣ g := Int.gcd_dvd_left ..
  have h2 : ((Int.gcd g r : Nat) : Int) ∣ r := Int.gcd_dvd_right ..
  have h3 : ((Int.gcd r (g - q * r) : Nat) : Int) ∣ r := Int.gcd_dvd_left ..
  have h4 : ((Int.gcd r (g - q * r) : Nat) : Int) ∣ g - q * r := Int.gcd_dvd_right ..
  apply Nat.dvd_antisymm
  · apply Int.dvd_gcd _ h3 |> fun h => h
    have : ((Int.gcd r (g - q * r) : Nat) : Int) ∣ (g - q * r) + q * r := Int.dvd_add h4 (Int.dvd_mul_of_dvd_right h3)
    rwa [Int.sub_add_cancel] at this
  · exact Int.dvd_gcd h2 (Int.dvd_sub h1 (Int.dvd_mul_of_dvd_right h2))

theorem dvd_step {b g u r n a q : Int} (h : b ∣ g - u * a) (h' : b ∣ r - n * a) : b ∣ (g - q * r) - (u - q * n) * a := by
  obtain ⟨k, hk⟩ := h
  obtain ⟨l, hl⟩ := h'
  exact ⟨k - q * l, by grind⟩
theorem xi_step {a b g rest u next : Int} (h : XI a b g rest u next) (hr : rest ≠ 0) :
    XI a b rest (g - g.tdiv rest * rest) next (u - g.tdiv rest * next) ∧ (g - g.tdiv rest * rest).natAbs < rest.natAbs ∧
    (g.tdiv rest).natAbs ≤ g.natAbs ∧ (g.tdiv rest * rest).natAbs ≤ g.natAbs ∧ (g.tdiv rest * next).natAbs ≤ b.natAbs ∧ (u - g.tdiv rest * next).natAbs ≤ b.natAbs ∧ u.natAbs ≤ b.natAbs := by
  obtain ⟨x, y, z, R, R', U, N, hx, hy, hz, rfl, rfl, rfl, rfl, h1, h2, h3, h4, h5, h6⟩ := h
  have hR' : 0 < R' := by
    rcases Nat.eq_zero_or_pos R' with h | h
    · subst h; simp at hr
    · exact h
  rw [sgn_tdiv hx hy]
  have e1 := Nat.div_add_mod R R'
  have e2 := Nat.mod_lt R hR'
  generalize hq : R / R' = q at *
  generalize R % R' = t at *
  have xx := sgn_sq hx
  have yy := sgn_sq hy
  have zz := sgn_sq hz
  have hqR : q * R' ≤ R := by rw [Nat.mul_comm]; omega
  have hRe : (R : Int) = R' * q + t := by exact_mod_cast e1.symm
  have ea : x * R - x * y * (q : Int) * (y * R') = x * t := by
    rw [hRe]
    have : x * y * (q : Int) * (y * R') = x * (y * y) * (q * R') := by grind
    rw [this, yy]; grind
  have eb : z * U - x * y * (q : Int) * (-(x * y * z) * N) = z * ((U + q * N : Nat) : Int) := by
    have : x * y * (q : Int) * (-(x * y * z) * N) = -((x * x) * (y * y) * z * (q * N)) := by grind
    rw [this, xx, yy]
    simp only [Int.natCast_add, Int.natCast_mul]
    grind
  have hN : (U + q * N) * R' ≤ b.natAbs := by
    have : q * N * R' ≤ N * R := by
      have := Nat.mul_le_mul_left N hqR
      grind
    rw [Nat.add_mul]; omega
  have hN2 : U + q * N ≤ b.natAbs := Nat.le_trans (Nat.le_mul_of_pos_right _ hR') hN
  have hqN : q * N ≤ b.natAbs := by omega
  rw [ea, eb]
  refine ⟨⟨y, x, -(x * y * z), R', t, N, U + q * N, hy, hx, sgn_neg (sgn_mul (sgn_mul hx hy) hz), rfl, rfl, rfl, ?_, ?_, h3, hN2, h5, ?_, ?_⟩, ?_, ?_, ?_, ?_, ?_, ?_⟩
  · have : -(y * x * -(x * y * z)) = (x * x) * (y * y) * z := by grind
    rw [this, xx, yy]; simp
  · rw [← h1, ← e1]; grind
  · rw [← ea, ← eb]
    exact dvd_step h4 h5
  · rw [← ea, gcd_sub_mul, h6]
  · rw [sgn_abs hx, sgn_abs hy]; exact e2
  · rw [sgn_abs (sgn_mul hx hy), sgn_abs hx, ← hq]; exact Nat.div_le_self _ _
  · have : x * y * (q : Int) * (y * R') = (x * (y * y)) * ((q * R' : Nat) : Int) := by simp; grind
    rw [this, yy, Int.mul_one, sgn_abs hx, sgn_abs hx]; exact hqR
  · have : x * y * (q : Int) * (-(x * y * z) * N) = -((x * x) * (y * y) * z) * ((q * N : Nat) : Int) := by simp; grind
    rw [this, xx, yy, Int.one_mul, Int.one_mul, sgn_abs (sgn_neg hz)]; exact hqN
  · rw [sgn_abs hz]; exact hN2
  · rw [sgn_abs hz]; exact h2

/-- the cofactor of a greatest common divisor -/
def XU (a b u : Int) : Prop := 0 ≤ u ∧ u < b.natAbs / Int.gcd a b ∧ b ∣ Int.gcd a b - u * a

theorem xi_end {a b g u next : Int} (hb : b ≠ 0) (h : XI a b g 0 u next) : g.natAbs = Int.gcd a b ∧ b ∣ g - u * a ∧ u.natAbs ≤ b.natAbs ∧ 0 < Int.gcd a b := by
  obtain ⟨x, y, z, R, R', U, N, hx, hy, hz, rfl, h0, rfl, rfl, h1, h2, h3, h4, h5, h6⟩ := h
  rw [Int.gcd_zero_right] at h6
  refine ⟨h6, h4, by rw [sgn_abs hz]; exact h2, ?_⟩
  exact Int.gcd_pos_of_ne_zero_right a hb

/-- the residue of a cofactor is a cofactor -/
theorem xu_mod {a b u : Int} (hb : b ≠ 0) (h : b ∣ Int.gcd a b - u * a) : XU a b (u % ((b.natAbs / Int.gcd a b : Nat) : Int)) := by
  have hg : 0 < Int.gcd a b := Int.gcd_pos_of_ne_zero_right a hb
  have hgb : Int.gcd a b ∣ b.natAbs := Nat.gcd_dvd_right a.natAbs b.natAbs
  have hga : ((Int.gcd a b : Nat) : Int) ∣ a := Int.gcd_dvd_left ..
  have hm : 0 < b.natAbs / Int.gcd a b := Nat.div_pos (Nat.le_of_dvd (by omega) hgb) hg
  refine ⟨Int.emod_nonneg _ (by omega), ?_, ?_⟩
  · have := Int.emod_lt_of_pos u (show (0 : Int) < ((b.natAbs / Int.gcd a b : Nat) : Int) by omega)
    exact_mod_cast this
  · have e := Int.mul_ediv_add_emod u ((b.natAbs / Int.gcd a b : Nat) : Int)
    obtain ⟨k, hk⟩ := h
    obtain ⟨l, hl⟩ := hga
    have hbb : (b.natAbs : Int) = (Int.gcd a b : Int) * ((b.natAbs / Int.gcd a b : Nat) : Int) := by
      exact_mod_cast (Nat.mul_div_cancel' hgb).symm
    generalize ((b.natAbs / Int.gcd a b : Nat) : Int) = m at *
    generalize u / m = q at *
    generalize hG : ((Int.gcd a b : Nat) : Int) = G at *
    have hd : b ∣ (b.natAbs : Int) := by rcases Int.natAbs_eq b with h | h
                                         · rw [← h]; exact Int.dvd_refl _
                                         · exact ⟨-1, by omega⟩
    obtain ⟨s, hs⟩ := hd
    refine ⟨k + q * l * s, ?_⟩
    have : q * m * a = q * l * (b.natAbs : Int) := by rw [hbb, hl]; grind
    grind

theorem xu_unique {a b u v : Int} (hb : b ≠ 0) (hu : XU a b u) (hv : XU a b v) : u = v := by
  obtain ⟨u1, u2, u3⟩ := hu
  obtain ⟨v1, v2, v3⟩ := hv
  have hg : 0 < Int.gcd a b := Int.gcd_pos_of_ne_zero_right a hb
  have hgb : Int.gcd a b ∣ b.natAbs := Nat.gcd_dvd_right a.natAbs b.natAbs
  have h1 : b ∣ (u - v) * a := by
    obtain ⟨k, hk⟩ := u3
    obtain ⟨l, hl⟩ := v3
    exact ⟨l - k, by grind⟩
  have h2 : b.natAbs ∣ (u - v).natAbs * a.natAbs := by
    have := Int.natAbs_dvd_natAbs.2 h1
    rwa [Int.natAbs_mul] at this
  have h3 : b.natAbs / Int.gcd a b ∣ (u - v).natAbs := by
    have h4 : Nat.Coprime (b.natAbs / Int.gcd a b) (a.natAbs / Int.gcd a b) := by
      have := Nat.coprime_div_gcd_div_gcd (m := b.natAbs) (n := a.natAbs) (by rw [Nat.gcd_comm]; exact hg)
      have e : Nat.gcd b.natAbs a.natAbs = Int.gcd a b := by rw [Nat.gcd_comm]; rfl
      rwa [e] at this
    apply h4.dvd_of_dvd_mul_right
    obtain ⟨k, hk⟩ := h2
    have hga : Int.gcd a b ∣ a.natAbs := Nat.gcd_dvd_left a.natAbs b.natAbs
    obtain ⟨m, hm⟩ := hgb
    obtain ⟨n, hn⟩ := hga
    rw [hm, hn] at hk ⊢
    rw [Nat.mul_div_cancel_left _ hg, Nat.mul_div_cancel_left _ hg]
    refine ⟨k, Nat.eq_of_mul_eq_mul_left hg ?_⟩
    grind
  have h5 : ((b.natAbs / Int.gcd a b : Nat) : Int) = (b.natAbs : Int) / Int.gcd a b := by simp
  rcases Nat.eq_zero_or_pos (u - v).natAbs with h6 | h6
  · omega
  · have := Nat.le_of_dvd h6 h3
    omega
end HP
