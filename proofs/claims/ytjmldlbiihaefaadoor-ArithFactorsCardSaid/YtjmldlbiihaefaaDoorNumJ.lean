import Derived.Test.YtjmldlbiihaefaaDoorNumI
/-! Plain number theory, tenth part: inverses as the program hands them back. -/
namespace HP

def invOut (a m : Int) : Int × Int := if m < 1 ∨ 2147483647 < m then (0, 2) else if Int.gcd a m ≠ 1 then (0, 9) else (invM a m, 0)
theorem inv_cases (a m : Int) : (m < 1 ∨ 2147483647 < m) ∧ invOut a m = (0, 2) ∨ (1 ≤ m ∧ m ≤ 2147483647) ∧ (Int.gcd a m ≠ 1 ∧ invOut a m = (0, 9) ∨ Int.gcd a m = 1 ∧ invOut a m = (invM a m, 0)) := by
  unfold invOut
  by_cases h : m < 1 ∨ 2147483647 < m
  · exact .inl ⟨h, by rw [if_pos h]⟩
  · refine .inr ⟨by omega, ?_⟩
    by_cases h1 : Int.gcd a m = 1
    · exact .inr ⟨h1, by rw [if_neg h, if_neg (fun x => x h1)]⟩
    · exact .inl ⟨h1, by rw [if_neg h, if_pos h1]⟩
theorem gcd_emod (a m : Int) : Int.gcd (a % m) m = Int.gcd a m := by
  have e : a % m = a - a / m * m := by have := Int.mul_ediv_add_emod a m; rw [Int.mul_comm]; omega
  rw [Int.gcd_comm (a % m), e, gcd_sub_mul]
/-- a cofactor of a residue at greatest common divisor 1 is the inverse -/
theorem inv_of_cofactor {a m s : Int} (hm : 0 < m) (h : m ∣ 1 - s * (a % m)) : s % m = invM a m := by
  refine (invM_eq (Int.emod_nonneg _ (by omega)) (Int.emod_lt_of_pos _ hm) ?_).symm
  have h1 := (Cong.emod m s).symm
  have h2 := (Cong.emod m a).symm
  have h3 : Cong m 1 (s * (a % m)) := h
  have h4 : Cong m (s * (a % m)) (s % m * a) := h1.mul h2.symm
  have h5 := (h3.trans h4).symm
  have e : s % m * a = a * (s % m) := by grind
  rw [e] at h5
  exact h5
theorem invM_mod {a m : Int} (hm : 0 < m) (h : Int.gcd a m = 1) : m ∣ a * invM a m - 1 := by
  have hx : ∃ u : Int, m ∣ 1 - u * (a % m) := by
    -- by the extended algorithm's own invariant
    have key : ∀ (n : Nat) (g rest u next : Int), rest.natAbs = n → XI (a % m) m g rest u next → ∃ g u next, XI (a % m) m g 0 u next := by
      intro n
      induction n using Nat.strongRecOn with
      | _ n ih =>
        intro g rest u next hn hI
        by_cases hr : rest = 0
        · subst hr; exact ⟨g, u, next, hI⟩
        · obtain ⟨n1, n2, _⟩ := xi_step hI hr
          exact ih _ (by omega) _ _ _ _ rfl n1
    obtain ⟨g, u, next, hI⟩ := key _ (a % m) m 1 0 rfl (xi_start (by omega))
    obtain ⟨e1, e2, _, _⟩ := xi_end (by omega) hI
    rw [gcd_emod, h] at e1
    have hg : g = 1 ∨ g = -1 := by omega
    rcases hg with rfl | rfl
    · exact ⟨u, e2⟩
    · refine ⟨-u, ?_⟩
      have e : 1 - -u * (a % m) = -(-1 - u * (a % m)) := by grind
      rw [e]; exact Int.dvd_neg.2 e2
  obtain ⟨u, hu⟩ := hx
  rw [← inv_of_cofactor hm hu]
  have h1 := Cong.emod m u
  have h2 := Cong.emod m a
  have h3 : Cong m 1 (u * (a % m)) := hu
  have h4 : Cong m (u * (a % m)) (u % m * a) := h1.symm.mul h2
  have h5 := (h3.trans h4).symm
  have e : u % m * a = a * (u % m) := by grind
  rw [e] at h5
  exact h5
end HP
