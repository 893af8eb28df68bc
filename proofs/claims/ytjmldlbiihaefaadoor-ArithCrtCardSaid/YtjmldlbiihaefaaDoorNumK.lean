import Derived.Test.YtjmldlbiihaefaaDoorNumJ
/-! Plain number theory, eleventh part: the combined congruence is equivalent to each. -/
namespace HP

theorem gcd_div_coprime {M m : Int} (h1 : 1 ≤ M) : Int.gcd (M / (Int.gcd M m : Int)) (m / (Int.gcd M m : Int)) = 1 :=
  Int.gcd_ediv_gcd_ediv_gcd (Int.gcd_pos_of_ne_zero_left m (by omega))

theorem crt_alg {rm r m q g t c1 e k i x s y : Int} (hq : rm - r = m * q) (ht : m = g * t) (he : rm - c1 = g * e) (hx : k - e * i = t * x) (hy : s * i - 1 = t * y) :
    c1 + g * s * k - r = m * (s * x + e * y + q) := by
  have h1 : k = e * i + t * x := by omega
  have h2 : s * i = 1 + t * y := by omega
  have h3 : g * s * k = g * e * (s * i) + g * t * (s * x) := by rw [h1]; grind
  rw [h2] at h3
  have h4 : g * e * (1 + t * y) = g * e + g * t * (e * y) := by grind
  rw [h3, h4, ← ht, ← he]
  have h5 : m * (s * x + e * y + q) = m * (s * x) + m * (e * y) + m * q := by grind
  rw [h5, ← hq]
  omega
theorem crtStep_sound {c c' : Int × Int} {r m : Int} (hc : CrtOk c) (h : crtStep c r m = .ok c') :
    CrtOk c' ∧ c.2 ∣ c'.2 ∧ c.2 ∣ c'.1 - c.1 ∧ 1 ≤ m ∧ m ∣ c'.2 ∧ m ∣ c'.1 - r := by
  unfold crtStep at h
  split at h
  · cases h
  · next hm =>
    split at h
    · cases h
    · next hd =>
      split at h
      · cases h
      · next hl =>
        have hm1 : 1 ≤ m := by omega
        have hM1 : 1 ≤ c.2 := by have := hc.1; have := hc.2.1; omega
        have hg : 0 < Int.gcd c.2 m := Int.gcd_pos_of_ne_zero_left m (by omega)
        have hg' : (0 : Int) < (Int.gcd c.2 m : Nat) := by omega
        have hgM : ((Int.gcd c.2 m : Nat) : Int) ∣ c.2 := Int.gcd_dvd_left ..
        have hgm : ((Int.gcd c.2 m : Nat) : Int) ∣ m := Int.gcd_dvd_right ..
        obtain ⟨hsp, hsm⟩ := div_pos_le (show (0 : Int) < (Int.gcd c.2 m : Nat) by omega) (show 0 < m by omega) hgm
        have hinv := invM_mod hsp (gcd_div_coprime (m := m) hM1)
        have hd0 : ((Int.gcd c.2 m : Nat) : Int) ∣ r % m - c.1 := by
          apply Int.dvd_of_emod_eq_zero
          rcases Decidable.em ((r % m - c.1) % (Int.gcd c.2 m : Int) = 0) with h | h
          · exact h
          · exact absurd h hd
        have hkr := crt_range hc (show 1 ≤ m / (Int.gcd c.2 m : Int) by omega)
          (Int.emod_nonneg ((r % m - c.1) / (Int.gcd c.2 m : Int) % (m / (Int.gcd c.2 m : Int)) * invM (c.2 / (Int.gcd c.2 m : Int)) (m / (Int.gcd c.2 m : Int))) (by omega)) (Int.emod_lt_of_pos _ hsp) (by omega)
        have hc' := (Except.ok.inj h).symm
        subst hc'
        refine ⟨hkr.1, ⟨_, rfl⟩, ?_, hm1, ?_, ?_⟩
        · exact ⟨_, by simp only; rw [Int.add_comm, Int.add_sub_cancel]⟩
        · simp only
          generalize ((Int.gcd c.2 m : Nat) : Int) = g at *
          obtain ⟨s, hs⟩ := hgM
          obtain ⟨t, ht⟩ := hgm
          have hg0 : g ≠ 0 := by omega
          have : m / g = t := by rw [ht, Int.mul_ediv_cancel_left _ hg0]
          rw [this, hs]
          exact ⟨s, by rw [ht]; grind⟩
        · simp only
          have hrm := Cong.emod m r
          obtain ⟨q, hq⟩ := hrm
          generalize hG : ((Int.gcd c.2 m : Nat) : Int) = g at *
          obtain ⟨s, hs⟩ := hgM
          obtain ⟨t, ht⟩ := hgm
          obtain ⟨e, he⟩ := hd0
          have hg0 : g ≠ 0 := by omega
          have e1 : m / g = t := by rw [ht, Int.mul_ediv_cancel_left _ hg0]
          have e2 : c.2 / g = s := by rw [hs, Int.mul_ediv_cancel_left _ hg0]
          have e3 : (r % m - c.1) / g = e := by rw [he, Int.mul_ediv_cancel_left _ hg0]
          rw [e1, e2] at hinv
          rw [e1, e2, e3]
          generalize invM s t = i at *
          have k1 : Cong t (e % t * i % t) (e * i) := (Cong.emod t _).trans ((Cong.emod t e).mul (Cong.refl _ _))
          obtain ⟨x, hx⟩ := k1
          obtain ⟨y, hy⟩ := hinv
          generalize e % t * i % t = k at *
          exact ⟨s * x + e * y + q, by rw [hs]; exact crt_alg hq ht he hx hy⟩

theorem crt_sound : ∀ (l : List (Int × Int)) (c c' : Int × Int), CrtOk c → crt c l = .ok c' →
    CrtOk c' ∧ c.2 ∣ c'.2 ∧ c.2 ∣ c'.1 - c.1 ∧ ∀ x ∈ l, 1 ≤ x.2 ∧ x.2 ∣ c'.2 ∧ x.2 ∣ c'.1 - x.1
  | [], c, c', hc, h => by
    cases h
    exact ⟨hc, ⟨1, by omega⟩, ⟨0, by omega⟩, fun x hx => by cases hx⟩
  | (r, m) :: l, c, c', hc, h => by
    unfold crt at h
    split at h
    · next d hd =>
      obtain ⟨s1, s2, s3, s4, s5, s6⟩ := crtStep_sound hc hd
      obtain ⟨i1, i2, i3, i4⟩ := crt_sound l d c' s1 h
      have key : ∀ {a b c d e : Int}, a ∣ b → b ∣ c - d → a ∣ d - e → a ∣ c - e := by
        intro a b c d e h1 h2 h3
        have := Int.dvd_add (Int.dvd_trans h1 h2) h3
        have e0 : c - d + (d - e) = c - e := by omega
        rwa [e0] at this
      refine ⟨i1, Int.dvd_trans s2 i2, key s2 i3 s3, fun x hx => ?_⟩
      rcases List.mem_cons.1 hx with rfl | hx
      · exact ⟨s4, Int.dvd_trans s5 i2, key s5 i3 s6⟩
      · exact i4 x hx
    · cases h

theorem crt_final {l : List (Int × Int)} {R M : Int} (h : crt (0, 1) l = .ok (R, M)) :
    (0 ≤ R ∧ R < M) ∧ M ≤ 2147483647 ∧ ∀ (i : Nat) (r m : Int), l[i]? = some (r, m) → 1 ≤ m ∧ m ≤ 2147483647 ∧ M % m = 0 ∧ r % m = R % m := by
  obtain ⟨h1, _, _, h4⟩ := crt_sound l (0, 1) (R, M) ⟨by decide, by decide, by decide⟩ h
  refine ⟨⟨h1.1, h1.2.1⟩, h1.2.2, fun i r m hi => ?_⟩
  obtain ⟨a, b, c⟩ := h4 _ (List.mem_of_getElem? hi)
  have hM : 0 < M := by have := h1.1; have := h1.2.1; simp only at *; omega
  have := Int.le_of_dvd hM b
  have h2 := h1.2.2
  simp only at *
  exact ⟨a, by omega, Int.emod_eq_zero_of_dvd b, (Cong.emod_eq c).symm⟩
theorem crt_err_code {l : List (Int × Int)} {c : Int × Int} {e : Int} (h : crt c l = .error e) : e = 2 ∨ e = 24 ∨ e = 7 := by
  induction l generalizing c with
  | nil => cases h
  | cons x l ih =>
    obtain ⟨r, m⟩ := x
    unfold crt at h
    split at h
    · exact ih h
    · next d hd =>
      cases h
      unfold crtStep at hd
      split at hd
      · cases hd; exact .inl rfl
      · split at hd
        · cases hd; exact .inr (.inl rfl)
        · split at hd
          · cases hd; exact .inr (.inr rfl)
          · cases hd
end HP
