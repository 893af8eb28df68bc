import Derived.Test.YtjmldlbiihaefaaDoorNumG
/-! Plain number theory, eighth part: which list is a factorization; square-free parts and fundamental discriminants. -/
namespace HP

/-- the number with a list of prime powers -/
def natL : List (Nat × Nat) → Nat
  | [] => 1
  | (p, e) :: l => p ^ e * natL l
/-- ascending prime powers, all primes above a bound -/
def Asc : Nat → List (Nat × Nat) → Prop
  | _, [] => True
  | b, (p, e) :: l => b < p ∧ Prm p ∧ 0 < e ∧ Asc p l
theorem asc_mono {b c : Nat} (h : c ≤ b) : ∀ {l : List (Nat × Nat)}, Asc b l → Asc c l
  | [], _ => trivial
  | (p, e) :: l, ⟨h1, h2⟩ => ⟨by omega, h2⟩
theorem natL_pos : ∀ {b : Nat} {l : List (Nat × Nat)}, Asc b l → 0 < natL l
  | _, [], _ => by decide
  | _, (p, e) :: l, ⟨_, h2, _, h4⟩ => Nat.mul_pos (Nat.pow_pos h2.pos) (natL_pos h4)
theorem Prm.dvd_of_dvd_pow {q p : Nat} (hq : Prm q) : ∀ {e : Nat}, q ∣ p ^ e → q ∣ p
  | 0, h => absurd h hq.not_dvd_one
  | e + 1, h => by
    rw [Nat.pow_succ] at h
    rcases hq.dvd_mul h with h5 | h5
    · exact hq.dvd_of_dvd_pow h5
    · exact h5
theorem asc_prime_dvd : ∀ {b : Nat} {l : List (Nat × Nat)} {q : Nat}, Asc b l → Prm q → q ∣ natL l → b < q
  | _, [], q, _, hq, hd => absurd hd hq.not_dvd_one
  | b, (p, e) :: l, q, ⟨h1, h2, h3, h4⟩, hq, hd => by
    rcases hq.dvd_mul hd with h | h
    · have hqp : q ∣ p := hq.dvd_of_dvd_pow h
      have := hq.eq_of_dvd h2 hqp
      omega
    · have := asc_prime_dvd h4 hq h
      omega
theorem mlt_pow_mul {p m : Nat} (hp : 2 ≤ p) (hm : 0 < m) (hd : ¬ p ∣ m) : ∀ e, mlt p (p ^ e * m) = e ∧ strip p (p ^ e * m) = m
  | 0 => by
    have h : m % p ≠ 0 := fun h => hd (Nat.dvd_of_mod_eq_zero h)
    rw [Nat.pow_zero, Nat.one_mul, mlt_no h, strip_no h]
    exact ⟨rfl, rfl⟩
  | e + 1 => by
    have hpos : 0 < p ^ (e + 1) * m := Nat.mul_pos (Nat.pow_pos (by omega)) hm
    have h0 : p ^ (e + 1) * m % p = 0 := Nat.mod_eq_zero_of_dvd ⟨p ^ e * m, by rw [Nat.pow_succ]; grind⟩
    have h1 : p ^ (e + 1) * m / p = p ^ e * m := by
      have : p ^ (e + 1) * m = p * (p ^ e * m) := by rw [Nat.pow_succ]; grind
      rw [this, Nat.mul_div_cancel_left _ (by omega)]
    obtain ⟨i1, i2⟩ := mlt_pow_mul hp hm hd e
    rw [mlt_yes hp hpos h0, strip_yes hp hpos h0, h1, i1, i2]
    exact ⟨by omega, rfl⟩
theorem facs_of : ∀ {b : Nat} (l : List (Nat × Nat)), Asc b l → facs (natL l) = l
  | _, [], _ => facs_small (by decide)
  | b, (p, e) :: l, ⟨h1, h2, h3, h4⟩ => by
    have hpos := natL_pos h4
    have hnd : ¬ p ∣ natL l := fun hd => by have := asc_prime_dvd h4 h2 hd; omega
    obtain ⟨m1, m2⟩ := mlt_pow_mul h2.1 hpos hnd e
    have hn : 0 < p ^ e * natL l := Nat.mul_pos (Nat.pow_pos h2.pos) hpos
    have hdv : p ∣ p ^ e * natL l := Nat.dvd_trans (by obtain ⟨k, rfl⟩ : ∃ k, e = k + 1 := ⟨e - 1, by omega⟩
                                                       exact ⟨p ^ k, by rw [Nat.pow_succ, Nat.mul_comm]⟩) (Nat.dvd_mul_right _ _)
    have hr : Rough p (p ^ e * natL l) := by
      intro c hc1 hc2 hcd
      obtain ⟨q, hq, hqc⟩ := exists_prime hc1
      have hql : q ≤ c := Nat.le_of_dvd (by omega) hqc
      have := asc_prime_dvd (b := p - 1) (l := (p, e) :: l) ⟨by have := h2.pos; omega, h2, h3, h4⟩ hq (Nat.dvd_trans hqc hcd)
      omega
    show facs (p ^ e * natL l) = _
    rw [(facs_round h2.1 hn hr hdv).1, m1, m2, facs_of l h4]
theorem facs_asc (n : Nat) (hn : 0 < n) : ∀ b, (∀ q, Prm q → q ∣ n → b < q) → Asc b (facs n) := by
  induction n, hn using facs_ind with
  | h1 => intro b _; rw [facs_small (by omega)]; trivial
  | h2 n hb h0 hs ih =>
    intro b hbq
    rw [facs_big hb]
    have hl := lpf_spec hb
    refine ⟨hbq _ (lpf_prm hb) hl.1, lpf_prm hb, mlt_pos hl.2.1 h0 hl.1, ih _ fun q hq hd => ?_⟩
    have h1 : q ∣ n := Nat.dvd_trans hd (strip_dvd _ _)
    have h2 : ¬ q < lpf n := fun h => hl.2.2 q hq.1 h h1
    have h3 : q ≠ lpf n := fun h => by subst h; exact strip_not hl.2.1 h0 hd
    omega
theorem facs_asc1 (n : Nat) (hn : 0 < n) : Asc 1 (facs n) := facs_asc n hn 1 fun _ hq _ => hq.1
theorem natL_facs (n : Nat) (hn : 0 < n) : natL (facs n) = n := by
  have h := prod_facs n hn
  have e : ∀ l : List (Nat × Nat), prodL (fun p e => (p : Int) ^ e) l = (natL l : Nat) := by
    intro l
    induction l with
    | nil => rfl
    | cons x l ih =>
      obtain ⟨p, e⟩ := x
      show (p : Int) ^ e * _ = ((p ^ e * natL l : Nat) : Int)
      rw [ih]; simp
  rw [e] at h
  exact_mod_cast h

/-- the square-free part and the root of the square part -/
def frL (l : List (Nat × Nat)) : Int := prodL (fun p e => ((p ^ (e % 2) : Nat) : Int)) l
def sqL (l : List (Nat × Nat)) : Int := prodL (fun p e => ((p ^ (e / 2) : Nat) : Int)) l
def oddL (l : List (Nat × Nat)) : List (Nat × Nat) := (l.filter (fun x => x.2 % 2 = 1)).map (fun x => (x.1, 1))
theorem oddL_asc : ∀ {b : Nat} {l : List (Nat × Nat)}, Asc b l → Asc b (oddL l)
  | _, [], _ => trivial
  | b, (p, e) :: l, ⟨h1, h2, h3, h4⟩ => by
    unfold oddL
    by_cases h : e % 2 = 1
    · rw [List.filter_cons_of_pos (by simpa using h)]
      exact ⟨h1, h2, by omega, oddL_asc h4⟩
    · rw [List.filter_cons_of_neg (by simpa using h)]
      exact asc_mono (by omega) (oddL_asc h4)
theorem frL_odd : ∀ l : List (Nat × Nat), frL l = (natL (oddL l) : Nat)
  | [] => rfl
  | (p, e) :: l => by
    have ih := frL_odd l
    unfold oddL at *
    show ((p ^ (e % 2) : Nat) : Int) * frL l = _
    rw [ih]
    by_cases h : e % 2 = 1
    · rw [List.filter_cons_of_pos (by simpa using h), h]
      simp [natL]
    · rw [List.filter_cons_of_neg (by simpa using h), show e % 2 = 0 by omega]
      simp
theorem fr_sq : ∀ l : List (Nat × Nat), frL l * (sqL l * sqL l) = (natL l : Nat)
  | [] => rfl
  | (p, e) :: l => by
    have ih := fr_sq l
    show ((p ^ (e % 2) : Nat) : Int) * frL l * (((p ^ (e / 2) : Nat) : Int) * sqL l * (((p ^ (e / 2) : Nat) : Int) * sqL l)) = ((p ^ e * natL l : Nat) : Int)
    have h1 : p ^ e = p ^ (e % 2) * (p ^ (e / 2) * p ^ (e / 2)) := by
      rw [← Nat.pow_add, ← Nat.pow_add]; congr 1; omega
    rw [h1, Int.natCast_mul, ← ih]
    simp only [Int.natCast_mul]
    grind
theorem frL_pos {b : Nat} {l : List (Nat × Nat)} (h : Asc b l) : 0 < frL l := by
  rw [frL_odd]; have := natL_pos (oddL_asc h); omega
theorem sqL_pos : ∀ {b : Nat} {l : List (Nat × Nat)}, Asc b l → 0 < sqL l
  | _, [], _ => by decide
  | _, (p, e) :: l, ⟨_, h2, _, h4⟩ => Int.mul_pos (show (0 : Int) < ((p ^ (e / 2) : Nat) : Int) by have := Nat.pow_pos (n := e / 2) h2.pos; omega) (sqL_pos h4)
theorem oddL_idem (l : List (Nat × Nat)) : oddL (oddL l) = oddL l := by
  unfold oddL
  induction l with
  | nil => rfl
  | cons x l ih =>
    obtain ⟨p, e⟩ := x
    by_cases h : e % 2 = 1
    · rw [List.filter_cons_of_pos (by simpa using h)]
      simp only [List.map_cons]
      rw [List.filter_cons_of_pos (by simp)]
      simp only [List.map_cons, ih]
    · rw [List.filter_cons_of_neg (by simpa using h)]
      exact ih
theorem sqL_odd (l : List (Nat × Nat)) : sqL (oddL l) = 1 := by
  unfold oddL
  induction l with
  | nil => rfl
  | cons x l ih =>
    obtain ⟨p, e⟩ := x
    by_cases h : e % 2 = 1
    · rw [List.filter_cons_of_pos (by simpa using h)]
      show ((p ^ (1 / 2) : Nat) : Int) * sqL _ = 1
      rw [ih]; simp
    · rw [List.filter_cons_of_neg (by simpa using h)]
      exact ih
end HP
