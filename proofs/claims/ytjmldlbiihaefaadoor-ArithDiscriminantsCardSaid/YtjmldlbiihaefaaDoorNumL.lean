import Derived.Test.YtjmldlbiihaefaaDoorNumI
/-! Plain number theory: a fundamental discriminant is its own, with conductor 1. -/
namespace HP

theorem asc_two_odd {l : List (Nat × Nat)} (h : Asc 2 l) : natL l % 2 = 1 := by
  rcases Nat.mod_two_eq_zero_or_one (natL l) with e | e
  · have := asc_prime_dvd h prm_two (Nat.dvd_of_mod_eq_zero e); omega
  · exact e
theorem oddL_one (l : List (Nat × Nat)) : ∀ x ∈ oddL l, x.2 = 1 := by
  intro x hx
  unfold oddL at hx
  obtain ⟨y, _, rfl⟩ := List.mem_map.1 hx
  rfl
theorem asc_split : ∀ {l : List (Nat × Nat)}, Asc 1 l → (∀ x ∈ l, x.2 = 1) → Asc 2 l ∨ ∃ r, l = (2, 1) :: r ∧ Asc 2 r
  | [], _, _ => .inl trivial
  | (p, e) :: r, ⟨h1, h2, h3, h4⟩, h => by
    have he : e = 1 := h (p, e) (by simp)
    subst he
    by_cases hp : p = 2
    · subst hp; exact .inr ⟨r, rfl, h4⟩
    · exact .inl ⟨by omega, h2, h3, h4⟩
/-- four times a square-free number -/
theorem four_free {l : List (Nat × Nat)} (ha : Asc 1 l) (h1 : ∀ x ∈ l, x.2 = 1) (hl : oddL l = l) :
    frL (facs (4 * natL l)) = (natL l : Nat) ∧ sqL (facs (4 * natL l)) = 2 ∧ natL l % 4 ≠ 0 := by
  have hf : frL l = (natL l : Nat) := by rw [frL_odd, hl]
  have hs : sqL l = 1 := by rw [← hl]; exact sqL_odd l
  rcases asc_split ha h1 with h | ⟨r, rfl, h⟩
  · have e : 4 * natL l = natL ((2, 2) :: l) := by show _ = 2 ^ 2 * natL l; rfl
    have hA : Asc 1 ((2, 2) :: l) := ⟨by omega, prm_two, by omega, h⟩
    have ho := asc_two_odd h
    rw [e, facs_of _ hA]
    refine ⟨?_, ?_, by omega⟩
    · show ((2 ^ (2 % 2) : Nat) : Int) * frL l = _
      rw [hf]; simp
    · show ((2 ^ (2 / 2) : Nat) : Int) * sqL l = 2
      rw [hs]; rfl
  · have e1 : natL ((2, 1) :: r) = 2 * natL r := by show 2 ^ 1 * natL r = _; rfl
    have hf' : frL r = (natL r : Nat) := by
      have e : frL ((2, 1) :: r) = 2 * frL r := by show ((2 ^ (1 % 2) : Nat) : Int) * frL r = _; rfl
      rw [e, e1] at hf; omega
    have hs' : sqL r = 1 := by
      have e : sqL ((2, 1) :: r) = 1 * sqL r := by show ((2 ^ (1 / 2) : Nat) : Int) * sqL r = _; rfl
      rw [e] at hs; omega
    have e : 4 * natL ((2, 1) :: r) = natL ((2, 3) :: r) := by
      rw [e1]; show _ = 2 ^ 3 * natL r; omega
    have hA : Asc 1 ((2, 3) :: r) := ⟨by omega, prm_two, by omega, h⟩
    have ho := asc_two_odd h
    rw [e, facs_of _ hA, e1]
    refine ⟨?_, ?_, by omega⟩
    · show ((2 ^ (3 % 2) : Nat) : Int) * frL r = _
      rw [hf']; simp
    · show ((2 ^ (3 / 2) : Nat) : Int) * sqL r = 2
      rw [hs']; rfl

theorem fundOut_val {D F S : Int} (h0 : ¬ (D = 0 ∨ 2147483647 < D ∨ D < -2147483647)) (h1 : ¬ 1 < D % 4) (hT : fundT D = F) (hS : sqL (facs D.natAbs) = S) :
    fundOut D = if F % 4 = 1 then (F, S, 0) else (4 * F, S / 2, 0) := by
  unfold fundOut
  rw [if_neg h0, if_neg h1, hT, hS]
theorem fundT_val {D : Int} {k f : Nat} (hk : D.natAbs = k) (hf : frL (facs k) = (f : Int)) : fundT D = if D < 0 then -(f : Int) else f := by
  unfold fundT
  rw [hk, hf]
  split <;> omega

theorem fund_again {d : Int} (h : (fundOut d).2.2 = 0) : fundOut (fundOut d).1 = ((fundOut d).1, 1, 0) ∧ (fundOut d).1 * (fundOut d).2.1 * (fundOut d).2.1 = d ∧ 1 ≤ (fundOut d).2.1 := by
  rcases fund_cases d with ⟨e, _⟩ | ⟨e, _⟩ | ⟨h1, h2, hc⟩
  · rw [e] at h; simp at h
  · rw [e] at h; simp at h
  clear h
  have hn : 0 < d.natAbs := by omega
  have hA := facs_asc1 _ hn
  have hN := natL_facs _ hn
  have hq := fr_sq (facs d.natAbs)
  have hfo := frL_odd (facs d.natAbs)
  have hS := sqL_pos hA
  have hB := oddL_asc hA
  obtain ⟨f1, f2, f3⟩ := four_free hB (oddL_one _) (oddL_idem _)
  have hm1 : frL (facs (natL (oddL (facs d.natAbs)))) = (natL (oddL (facs d.natAbs)) : Nat) := by rw [facs_of _ hB, frL_odd, oddL_idem]
  have hm2 : sqL (facs (natL (oddL (facs d.natAbs)))) = 1 := by rw [facs_of _ hB, sqL_odd]
  have hmp := natL_pos hB
  have hT : fundT d = if d < 0 then -(natL (oddL (facs d.natAbs)) : Int) else (natL (oddL (facs d.natAbs)) : Int) := fundT_val rfl hfo
  rw [hN, hfo] at hq
  clear hN hfo hB hA
  generalize natL (oddL (facs d.natAbs)) = m at *
  generalize sqL (facs d.natAbs) = S at *
  generalize fundT d = T at *
  have hd : T * (S * S) = d := by
    rw [hT]
    split
    · rw [Int.neg_mul, hq]; omega
    · rw [hq]; omega
  have hTm : T.natAbs = m := by rw [hT]; split <;> omega
  have hss : 1 ≤ S * S := Int.mul_pos hS hS
  have hTs : T < 0 ↔ d < 0 := by rw [hT]; split <;> omega
  rcases hc with ⟨h3, e⟩ | ⟨h3, e⟩
  · have hle : (m : Int) ≤ d.natAbs := by
      have := Int.mul_le_mul_of_nonneg_left hss (show (0 : Int) ≤ m by omega)
      omega
    have h4 := fundOut_val (D := T) (F := T) (S := 1) (by omega) (by omega) (by rw [fundT_val hTm hm1, hT]; split <;> split <;> omega) (by rw [hTm]; exact hm2)
    rw [if_pos h3] at h4
    rw [e]
    exact ⟨h4, by rw [← hd]; exact Int.mul_assoc _ _ _, hS⟩
  · have hev : S % 2 = 0 := by
      rcases Int.emod_two_eq S with h5 | h5
      · exact h5
      · exfalso
        obtain ⟨j, hj⟩ : ∃ j, S = 2 * j + 1 := ⟨S / 2, by omega⟩
        have e2 : d = 4 * (T * (j * j + j)) + T := by rw [← hd, hj]; grind
        have h6 : d % 4 = T % 4 := by omega
        have : T % 4 ≠ 0 := by omega
        omega
    obtain ⟨j, hj⟩ : ∃ j, S = 2 * j := ⟨S / 2, by omega⟩
    have hj1 : 1 ≤ j := by omega
    have hjj : 1 ≤ j * j := Int.mul_pos hj1 hj1
    have hd2 : 4 * T * j * j = d := by rw [← hd, hj]; grind
    have hle : (4 * m : Int) ≤ d.natAbs := by
      have h5 := Int.mul_le_mul_of_nonneg_left hjj (show (0 : Int) ≤ 4 * m by omega)
      have h6 : 4 * (m : Int) * (j * j) = d.natAbs := by rw [← hq, hj]; grind
      omega
    have h4 := fundOut_val (D := 4 * T) (F := T) (S := 2) (by omega) (by omega) (by rw [fundT_val (k := 4 * m) (by omega) f1]; rw [hT]; split <;> split <;> omega) (by rw [show (4 * T).natAbs = 4 * m by omega]; exact f2)
    rw [if_neg h3] at h4
    rw [e]
    have e3 : S / 2 = j := by omega
    rw [e3]
    exact ⟨h4, hd2, hj1⟩
theorem fund_bd {D F d : Int} (h : D * F * F = d) (hF : 1 ≤ F) (h1 : -2147483647 ≤ d) (h2 : d ≤ 2147483647) : -2147483647 ≤ D * F ∧ D * F ≤ 2147483647 := by
  generalize D * F = x at *
  rcases Int.lt_or_le x 0 with h3 | h3
  · have := Int.mul_le_mul_of_nonneg_left hF (show 0 ≤ -x by omega)
    simp only [Int.neg_mul, Int.mul_one] at this
    omega
  · have := Int.mul_le_mul_of_nonneg_left hF h3
    omega
end HP
