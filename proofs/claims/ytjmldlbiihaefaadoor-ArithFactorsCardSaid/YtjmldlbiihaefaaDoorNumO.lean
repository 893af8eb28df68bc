import Derived.Test.YtjmldlbiihaefaaDoorNumE
/-! Plain number theory: Fermat, Euler. -/
namespace HP

theorem fermat {p : Nat} (hp : Prm p) {a : Int} (h : ¬ (p : Int) ∣ a) : Cong p (a ^ (p - 1)) 1 := by
  by_cases h2 : p = 2
  · subst h2
    show ((2 : Nat) : Int) ∣ a ^ 1 - 1
    rw [Int.pow_one]
    omega
  · have t := leg_tri hp h2 a
    have c := leg_cong hp h2 a
    have n := leg_ne_zero hp h2 h
    have e : p - 1 = (p - 1) / 2 + (p - 1) / 2 := by
      have := half_eq hp h2
      omega
    have c2 := c.mul c
    rw [← Int.pow_add, ← e] at c2
    have l : leg a p * leg a p = 1 := by
      rcases t with t | t | t
      · exact absurd t n
      · rw [t]; rfl
      · rw [t]; rfl
    rw [l] at c2
    exact c2.symm

/-- 1 + x + .. -/
def geo (x : Int) : Nat → Int
  | 0 => 0
  | n + 1 => geo x n * x + 1
theorem geo_mul (x : Int) : ∀ n, (x - 1) * geo x n = x ^ n - 1
  | 0 => by simp [geo]
  | n + 1 => by
    have := geo_mul x n
    rw [geo, Int.pow_succ]
    grind
theorem geo_cong {m x : Int} (h : Cong m x 1) : ∀ n : Nat, Cong m (geo x n) n
  | 0 => Cong.refl _ _
  | n + 1 => by
    have := ((geo_cong h n).mul h).add (Cong.refl m 1)
    rw [Int.mul_one] at this
    exact this
theorem lift_pow {p : Nat} {x : Int} {k : Nat} (hk : 1 ≤ k) (h : Cong ((p ^ k : Nat) : Int) x 1) : Cong ((p ^ (k + 1) : Nat) : Int) (x ^ p) 1 := by
  have h1 : Cong (p : Int) x 1 := h.dvd (by
    obtain ⟨j, rfl⟩ : ∃ j, k = j + 1 := ⟨k - 1, by omega⟩
    exact ⟨((p ^ j : Nat) : Int), by rw [Nat.pow_succ, Nat.mul_comm]; simp⟩)
  have h2 := geo_cong h1 p
  have h3 : (p : Int) ∣ geo x p := by
    obtain ⟨c, hc⟩ := h2
    exact ⟨c + 1, by grind⟩
  show ((p ^ (k + 1) : Nat) : Int) ∣ x ^ p - 1
  rw [← geo_mul, Nat.pow_succ, Int.natCast_mul]
  exact Int.mul_dvd_mul h h3
theorem euler_pow {p : Nat} (hp : Prm p) {a : Int} (h : ¬ (p : Int) ∣ a) : ∀ e, Cong ((p ^ (e + 1) : Nat) : Int) (a ^ (p ^ e * (p - 1))) 1
  | 0 => by
    have := fermat hp h
    simpa using this
  | e + 1 => by
    have := lift_pow (by omega) (euler_pow hp h e)
    rw [← Int.pow_mul] at this
    rw [show p ^ (e + 1) * (p - 1) = p ^ e * (p - 1) * p by rw [Nat.pow_succ]; grind]
    exact this
theorem cong_mul_coprime {A B : Nat} (hc : Nat.Coprime A B) {x y : Int} (h1 : Cong A x y) (h2 : Cong B x y) : Cong ((A * B : Nat) : Int) x y := by
  have k1 : A ∣ (x - y).natAbs := Int.ofNat_dvd_left.1 h1
  have k2 : B ∣ (x - y).natAbs := Int.ofNat_dvd_left.1 h2
  exact Int.ofNat_dvd_left.2 (hc.mul_dvd_of_dvd_of_dvd k1 k2)
theorem phi_big {n : Nat} (h : 2 ≤ n) : phi n = phiF (lpf n) (mlt (lpf n) n) * phi (strip (lpf n) n) := by
  unfold phi
  rw [facs_big h]; rfl
theorem phi_one : phi 1 = 1 := by unfold phi; rw [facs_small (by omega)]; rfl
theorem euler {m : Nat} (hm : 0 < m) {a : Int} (h : ∀ p, Prm p → p ∣ m → ¬ (p : Int) ∣ a) : Cong m (a ^ (phi m).toNat) 1 := by
  induction m, hm using facs_ind with
  | h1 => exact ⟨a ^ (phi 1).toNat - 1, by omega⟩
  | h2 n hb h0 hs ih =>
    have hl := lpf_spec hb
    have hp := lpf_prm hb
    have e0 := mlt_pos hl.2.1 h0 hl.1
    have hsm := strip_mul (lpf n) n
    have hnd := strip_not (p := lpf n) (n := n) hl.2.1 h0
    have hsd := strip_dvd (lpf n) n
    have ih' := ih fun q hq hd => h q hq (Nat.dvd_trans hd hsd)
    have hpa := h _ hp hl.1
    rw [phi_big hb]
    have hpF : phiF (lpf n) (mlt (lpf n) n) = ((lpf n ^ (mlt (lpf n) n - 1) * (lpf n - 1) : Nat) : Int) := rfl
    have hps := phi_prefix hs (l := facs (strip (lpf n) n)) (r := []) (by simp)
    have hps' : 0 ≤ phi (strip (lpf n) n) := hps.1
    rw [hpF]
    generalize phi (strip (lpf n) n) = f at *
    obtain ⟨F, rfl⟩ := Int.eq_ofNat_of_zero_le hps'
    rw [← Int.natCast_mul, Int.toNat_natCast]
    rw [Int.toNat_natCast] at ih'
    obtain ⟨e, he⟩ : ∃ e, mlt (lpf n) n = e + 1 := ⟨mlt (lpf n) n - 1, by omega⟩
    rw [he] at hsm ⊢
    rw [show e + 1 - 1 = e by omega]
    have c1 := (euler_pow hp hpa e).pow F
    have c2 := ih'.pow (lpf n ^ e * (lpf n - 1))
    rw [← Int.pow_mul, Int.one_pow] at c1 c2
    rw [Nat.mul_comm F] at c2
    have := cong_mul_coprime (Nat.Coprime.pow_left (e + 1) (hp.coprime hnd)) c1 c2
    rwa [hsm] at this
end HP
