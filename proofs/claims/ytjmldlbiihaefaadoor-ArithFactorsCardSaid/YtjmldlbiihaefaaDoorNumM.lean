import Derived.Test.YtjmldlbiihaefaaDoorNumC
/-! Plain number theory: primes as a test, the primes up to a bound, what the sieve marks. -/
namespace HP

/-- whether a number is a prime -/
def prmB (n : Nat) : Bool := decide (2 ≤ n) && (lpf n == n)
theorem prmB_of {n : Nat} (h : Prm n) : prmB n = true := by
  have h1 := lpf_spec h.1
  have h2 : lpf n = n := by
    rcases h.2 _ h1.1 with e | e
    · omega
    · exact e
  unfold prmB
  rw [h2]
  simp [h.1]
theorem prm_of_B {n : Nat} (h : prmB n = true) : Prm n := by
  unfold prmB at h
  simp at h
  have := lpf_prm h.1
  rwa [h.2] at this
theorem prmB_iff {n : Nat} : prmB n = true ↔ Prm n := ⟨prm_of_B, prmB_of⟩
theorem prmB_not {n : Nat} (h : ¬ Prm n) : prmB n = false := by
  cases e : prmB n with
  | false => rfl
  | true => exact absurd (prm_of_B e) h
theorem prmB_small {n : Nat} (h : n ≤ 1) : prmB n = false := prmB_not fun h1 => by have := h1.1; omega
/-- a divisor was found -/
theorem prmB_div {n d : Nat} (h2 : 2 ≤ d) (hl : d < n) (hd : d ∣ n) : prmB n = false := prmB_not fun h1 => by
  rcases h1.2 d hd with e | e <;> omega
/-- none was found -/
theorem prmB_rough {n d : Nat} (hn : 2 ≤ n) (hr : Rough d n) (h : n < d * d) : prmB n = true := prmB_of (rough_prime hn hr h).1

/-- the primes up to a bound -/
def prms (n : Nat) : List Nat := (List.range (n + 1)).filter prmB
theorem prms_yes {n : Nat} (h : prmB (n + 1) = true) : prms (n + 1) = prms n ++ [n + 1] := by
  unfold prms
  rw [List.range_succ, List.filter_append, List.filter_cons_of_pos h]; rfl
theorem prms_no {n : Nat} (h : prmB (n + 1) = false) : prms (n + 1) = prms n := by
  unfold prms
  rw [List.range_succ, List.filter_append, List.filter_cons_of_neg (by simp [h])]; simp
theorem prms_one : prms 1 = [] := rfl
theorem prms_zero : prms 0 = [] := rfl
theorem prms_len : ∀ n, (prms n).length ≤ n
  | 0 => Nat.le_refl _
  | n + 1 => by
    have ih := prms_len n
    cases e : prmB (n + 1) with
    | true => rw [prms_yes e]; simp; exact ih
    | false => rw [prms_no e]; omega
theorem prms_mem {n p : Nat} (h : p ∈ prms n) : p ≤ n ∧ Prm p := by
  unfold prms at h
  rw [List.mem_filter] at h
  exact ⟨by have := List.mem_range.1 h.1; omega, prm_of_B h.2⟩

/-- what the sieve has marked ahead of p -/
def Sv (p j : Nat) : Prop := ∃ q, Prm q ∧ q < p ∧ q ∣ j ∧ q * q ≤ j
/-- what it has marked on the way at p, up to m -/
def SvAt (p m j : Nat) : Prop := Sv p j ∨ p ∣ j ∧ p * p ≤ j ∧ j < m
theorem sv_two (j : Nat) : ¬ Sv 2 j := fun ⟨q, h1, h2, _⟩ => by have := h1.1; omega
theorem sv_self {p : Nat} (hp : 2 ≤ p) : Sv p p ↔ prmB p = false := by
  constructor
  · rintro ⟨q, h1, h2, h3, _⟩
    exact prmB_div h1.1 h2 h3
  · intro h
    have hl := lpf_spec hp
    have hq := lpf_prm hp
    have hne : lpf p ≠ p := fun e => by rw [e] at hq; rw [prmB_of hq] at h; cases h
    have hle := Nat.le_of_dvd (by omega) hl.1
    refine ⟨lpf p, hq, by omega, hl.1, ?_⟩
    obtain ⟨k, hk⟩ := hl.1
    have hk2 : 2 ≤ k := by
      rcases Nat.lt_or_ge k 2 with h1 | h1
      · have : k = 0 ∨ k = 1 := by omega
        rcases this with rfl | rfl
        · omega
        · rw [Nat.mul_one] at hk; exact absurd hk.symm hne
      · exact h1
    have : lpf p ≤ k := Nat.le_of_not_lt fun h1 => hl.2.2 k hk2 h1 ⟨lpf p, by rw [Nat.mul_comm]; exact hk⟩
    calc lpf p * lpf p ≤ lpf p * k := Nat.mul_le_mul_left _ this
      _ = p := hk.symm
theorem sv_skip {p j : Nat} (h : prmB p = false) : Sv (p + 1) j ↔ Sv p j := by
  constructor
  · rintro ⟨q, h1, h2, h3⟩
    have : q ≠ p := fun e => by subst e; rw [prmB_of h1] at h; cases h
    exact ⟨q, h1, by omega, h3⟩
  · rintro ⟨q, h1, h2, h3⟩
    exact ⟨q, h1, by omega, h3⟩
theorem svAt_start {p j : Nat} : SvAt p (p * p) j ↔ Sv p j := by
  constructor
  · rintro (h | ⟨_, h1, h2⟩)
    · exact h
    · omega
  · exact .inl
theorem svAt_end {p m j : Nat} (hp : prmB p = true) (h : j < m) : SvAt p m j ↔ Sv (p + 1) j := by
  have hpr := prm_of_B hp
  constructor
  · rintro (⟨q, h1, h2, h3⟩ | ⟨h1, h2, _⟩)
    · exact ⟨q, h1, by omega, h3⟩
    · exact ⟨p, hpr, by omega, h1, h2⟩
  · rintro ⟨q, h1, h2, h3, h4⟩
    by_cases e : q = p
    · subst e; exact .inr ⟨h3, h4, h⟩
    · exact .inl ⟨q, h1, by omega, h3, h4⟩
theorem svAt_step {p m j : Nat} (h0 : 0 < p) (hm : p ∣ m) (hm2 : p * p ≤ m) : SvAt p (m + p) j ↔ SvAt p m j ∨ j = m := by
  constructor
  · rintro (h | ⟨h1, h2, h3⟩)
    · exact .inl (.inl h)
    · by_cases e : j < m
      · exact .inl (.inr ⟨h1, h2, e⟩)
      · right
        obtain ⟨a, ha⟩ : p ∣ j - m := Nat.dvd_sub h1 hm
        rcases Nat.eq_zero_or_pos a with rfl | h0
        · omega
        · have : p * 1 ≤ p * a := Nat.mul_le_mul_left _ h0
          omega
  · rintro ((h | ⟨h1, h2, h3⟩) | rfl)
    · exact .inl h
    · exact .inr ⟨h1, h2, by omega⟩
    · exact .inr ⟨hm, hm2, by omega⟩
end HP
