import Derived.Test.YtjmldlbiihaefaaDoorNumP
/-! Plain number theory: a monic polynomial has at most as many roots modulo a prime as its degree; primitive roots exist. -/
namespace HP

/-- a monic polynomial, by its lower coefficients -/
def pol : List Int → Int → Int
  | [], _ => 1
  | c :: l, x => pol l x * x + c
theorem pol_add (r : Int) : ∀ (f g : List Int), g.length < f.length → ∃ h : List Int, h.length = f.length ∧ ∀ x, pol h x = pol f x + r * pol g x
  | [], _, h => absurd h (by simp)
  | c :: f, [], _ => ⟨(c + r) :: f, rfl, fun x => by simp only [pol]; grind⟩
  | c :: f, d :: g, h => by
    obtain ⟨k, hk, hx⟩ := pol_add r f g (by simpa using h)
    exact ⟨(c + r * d) :: k, by simp [hk], fun x => by simp only [pol, hx]; grind⟩
theorem pol_div (r : Int) : ∀ (f : List Int), 0 < f.length → ∃ g : List Int, g.length + 1 = f.length ∧ ∀ x, pol f x - pol f r = (x - r) * pol g x
  | [], h => absurd h (by simp)
  | [c], _ => ⟨[], rfl, fun x => by simp only [pol]; grind⟩
  | c :: d :: f, _ => by
    obtain ⟨g, hg, hx⟩ := pol_div r (d :: f) (by simp)
    obtain ⟨h, hh, hy⟩ := pol_add r (d :: f) g (by omega)
    refine ⟨h, by simp [hh], fun x => ?_⟩
    have h1 := hx x
    have h2 := hy x
    rw [h2, pol, pol.eq_2 r c]
    generalize pol (d :: f) x = A at *
    generalize pol (d :: f) r = B at *
    generalize pol g x = C at *
    grind
theorem roots_le {p : Nat} (hp : Prm p) : ∀ (n : Nat) (f : List Int), f.length = n → ∀ L : List Int, L.Pairwise (fun x y => ¬ (p : Int) ∣ y - x) → (∀ x ∈ L, (p : Int) ∣ pol f x) → L.length ≤ n
  | n, f, _, [], _, _ => Nat.zero_le _
  | 0, f, hf, r :: L, _, h => by
    have e : f = [] := List.length_eq_zero_iff.1 hf
    have h1 : (p : Int) ∣ ((1 : Nat) : Int) := by
      have h1 := h r (List.mem_cons_self ..)
      rw [e] at h1
      exact h1
    have h2 : p ∣ 1 := Int.natCast_dvd_natCast.1 h1
    exact absurd h2 hp.not_dvd_one
  | n + 1, f, hf, r :: L, hd, h => by
    obtain ⟨g, hg, hx⟩ := pol_div r f (by omega)
    rw [List.pairwise_cons] at hd
    have := roots_le hp n g (by omega) L hd.2 fun s hs => by
      have h1 := h s (List.mem_cons_of_mem _ hs)
      have h2 := h r (List.mem_cons_self ..)
      have h3 := Int.dvd_sub h1 h2
      rw [hx s] at h3
      rcases hp.dvd_mulI h3 with h4 | h4
      · exact absurd h4 (hd.1 s hs)
      · exact h4
    simp
    exact this
theorem pol_zero : ∀ (n : Nat) (x : Int), pol (List.replicate n 0) x = x ^ n
  | 0, x => by rw [Int.pow_zero]; rfl
  | n + 1, x => by
    rw [List.replicate_succ, pol, pol_zero n x, Int.pow_succ]; omega
theorem pol_one (n : Nat) : ∃ f : List Int, f.length = n + 1 ∧ ∀ x, pol f x = x ^ (n + 1) - 1 :=
  ⟨-1 :: List.replicate n 0, by simp, fun x => by rw [pol, pol_zero, Int.pow_succ]; omega⟩
/-- if n is less than p - 1, not all units solve x^n = 1 -/
theorem exists_not_one {p n : Nat} (hp : Prm p) (hn : 0 < n) (h : n < p - 1) : ∃ x : Nat, 1 ≤ x ∧ x < p ∧ ¬ Cong p ((x : Int) ^ n) 1 := by
  apply Classical.byContradiction
  intro hno
  obtain ⟨m, rfl⟩ : ∃ m, n = m + 1 := ⟨n - 1, by omega⟩
  obtain ⟨f, hf, hx⟩ := pol_one m
  have := roots_le hp (m + 1) f hf ((List.range (p - 1)).map fun (i : Nat) => ((i : Int) + 1)) (by
      rw [List.pairwise_map]
      refine List.Pairwise.imp_of_mem ?_ (range_sorted (p - 1))
      intro x y hx hy hxy hd
      rw [List.mem_range] at hx hy
      have h1 : ((p : Nat) : Int) ∣ ((y - x : Nat) : Int) := by
        rw [show ((y - x : Nat) : Int) = (y : Int) + 1 - ((x : Int) + 1) by omega]; exact hd
      have h2 := Nat.le_of_dvd (by omega) (Int.natCast_dvd_natCast.1 h1)
      omega) (fun x hxm => by
      obtain ⟨i, hi, rfl⟩ := List.mem_map.1 hxm
      rw [List.mem_range] at hi
      rw [hx]
      apply Classical.byContradiction
      intro h1
      refine hno ⟨i + 1, by omega, by omega, fun h2 => h1 ?_⟩
      have h3 : (p : Int) ∣ ((i + 1 : Nat) : Int) ^ (m + 1) - 1 := h2
      rw [Int.natCast_add] at h3
      exact h3)
  rw [List.length_map, List.length_range] at this
  omega

theorem ord_mul {m x y : Int} {a b : Nat} (hx : IsOrd x m a) (hy : IsOrd y m b) (hc : Nat.Coprime a b) : IsOrd (x * y) m (a * b) := by
  refine ⟨Nat.mul_pos hx.1 hy.1, fun n => ⟨fun h => ?_, fun ⟨k, hk⟩ => ?_⟩⟩
  · rw [Int.mul_pow] at h
    have ha : b ∣ n * a := (hy.2 _).1 (by
      have h1 := h.pow a
      rw [Int.mul_pow, Int.one_pow, ← Int.pow_mul, ← Int.pow_mul] at h1
      have h2 := (hx.2 (n * a)).2 ⟨n, Nat.mul_comm _ _⟩
      have h3 := h2.mul (Cong.refl m (y ^ (n * a)))
      rw [Int.one_mul] at h3
      exact h3.symm.trans h1)
    have hb : a ∣ n * b := (hx.2 _).1 (by
      have h1 := h.pow b
      rw [Int.mul_pow, Int.one_pow, ← Int.pow_mul, ← Int.pow_mul] at h1
      have h2 := (hy.2 (n * b)).2 ⟨n, Nat.mul_comm _ _⟩
      have h3 := (Cong.refl m (x ^ (n * b))).mul h2
      rw [Int.mul_one] at h3
      exact h3.symm.trans h1)
    exact hc.mul_dvd_of_dvd_of_dvd (hc.dvd_of_dvd_mul_right hb) (hc.symm.dvd_of_dvd_mul_right ha)
  · rw [Int.mul_pow]
    have h1 := (hx.2 n).2 ⟨b * k, by rw [hk, Nat.mul_assoc]⟩
    have h2 := (hy.2 n).2 ⟨a * k, by rw [hk, Nat.mul_comm a b, Nat.mul_assoc]⟩
    exact h1.mul h2
theorem prime_pow_dvd {q : Nat} (hq : Prm q) : ∀ (k d : Nat), d ∣ q ^ (k + 1) → ¬ d ∣ q ^ k → d = q ^ (k + 1)
  | k, d, h, hn => by
    by_cases hqd : q ∣ d
    · obtain ⟨e, rfl⟩ := hqd
      rw [Nat.pow_succ, Nat.mul_comm] at h
      have h1 : e ∣ q ^ k := Nat.dvd_of_mul_dvd_mul_left hq.pos (by rw [Nat.mul_comm q (q ^ k), Nat.mul_comm q e]; exact h)
      match k with
      | 0 =>
        have h2 : e = 1 := Nat.dvd_one.1 (by simpa using h1)
        rw [h2, Nat.pow_one, Nat.mul_one]
      | k + 1 =>
        have h2 : ¬ e ∣ q ^ k := fun h3 => hn (by rw [Nat.pow_succ, Nat.mul_comm]; exact Nat.mul_dvd_mul_right h3 q)
        have := prime_pow_dvd hq k e h1 h2
        rw [this, Nat.pow_succ q (k + 1), Nat.mul_comm]
    · rw [Nat.pow_succ] at h
      exact absurd ((hq.coprime hqd).symm.dvd_of_dvd_mul_right h) hn
/-- a unit of order q^e, for the whole power of q in p - 1 -/
theorem ord_prime_pow {p q e : Nat} (hp : Prm p) (hq : Prm q) (he : 1 ≤ e) (hd : q ^ e ∣ p - 1) (h2 : 2 ≤ p - 1) : ∃ y : Int, IsOrd y p (q ^ e) := by
  obtain ⟨k, rfl⟩ : ∃ k, e = k + 1 := ⟨e - 1, by omega⟩
  obtain ⟨c, hc⟩ := hd
  have hqk : 0 < q ^ k := Nat.pow_pos hq.pos
  have hc0 : 0 < c := Nat.pos_of_ne_zero fun h => by rw [h, Nat.mul_zero] at hc; omega
  have hlt : q ^ k * c < p - 1 := by
    rw [hc, Nat.pow_succ, Nat.mul_right_comm]
    have h3 : 0 < q ^ k * c := Nat.mul_pos hqk hc0
    have h4 : q ^ k * c * 2 ≤ q ^ k * c * q := Nat.mul_le_mul_left _ hq.1
    omega
  obtain ⟨x, hx1, hx2, hx3⟩ := exists_not_one hp (Nat.mul_pos hqk hc0) hlt
  have hf := fermat hp (a := x) (fun h => by
    have h3 : p ∣ x := Int.natCast_dvd_natCast.1 h
    have := Nat.le_of_dvd (by omega) h3
    omega)
  rw [hc] at hf
  have hy : Cong p (((x : Int) ^ c) ^ (q ^ (k + 1))) 1 := by
    rw [← Int.pow_mul, Nat.mul_comm]; exact hf
  have hn : ¬ Cong p (((x : Int) ^ c) ^ (q ^ k)) 1 := by
    rw [← Int.pow_mul, Nat.mul_comm]; exact hx3
  obtain ⟨d, hd⟩ := ord_exists (a := (x : Int) ^ c) (m := p) (q ^ (k + 1)) (Nat.pow_pos hq.pos) hy
  have e : d = q ^ (k + 1) := prime_pow_dvd hq k d ((hd.2 _).1 hy) fun h => hn ((hd.2 _).2 h)
  exact ⟨_, e ▸ hd⟩
theorem coprime_natL {q e : Nat} (hq : Prm q) : ∀ {l : List (Nat × Nat)}, (∀ x ∈ l, Prm x.1 ∧ x.1 ≠ q) → Nat.Coprime (q ^ e) (natL l)
  | [], _ => Nat.coprime_one_right _
  | (p, k) :: l, h => by
    have h1 := h _ (List.mem_cons_self ..)
    refine Nat.Coprime.mul_right ?_ (coprime_natL hq fun x hx => h x (List.mem_cons_of_mem _ hx))
    exact Nat.Coprime.pow _ _ (hq.coprime fun hd => h1.2 (hq.eq_of_dvd h1.1 hd).symm)
theorem asc_mem : ∀ {b : Nat} {l : List (Nat × Nat)}, Asc b l → ∀ x ∈ l, b < x.1 ∧ Prm x.1
  | _, [], _, x, hx => by cases hx
  | b, (p, e) :: l, ⟨h1, h2, h3, h4⟩, x, hx => by
    rcases List.mem_cons.1 hx with rfl | hx
    · exact ⟨h1, h2⟩
    · have := asc_mem h4 x hx
      exact ⟨by omega, this.2⟩
theorem ord_list {p : Nat} (hp : Prm p) (h2 : 2 ≤ p - 1) : ∀ {b : Nat} (l : List (Nat × Nat)), Asc b l → natL l ∣ p - 1 → ∃ y : Int, IsOrd y p (natL l)
  | _, [], _, _ => ⟨1, by show 0 < 1; omega, fun n => by
      rw [Int.one_pow]
      exact ⟨fun _ => ⟨n, by show n = 1 * n; omega⟩, fun _ => Cong.refl _ _⟩⟩
  | b, (q, e) :: l, ⟨h1, hq, he, hl⟩, hd => by
    have hd' : q ^ e * natL l ∣ p - 1 := hd
    obtain ⟨y, hy⟩ := ord_prime_pow hp hq he (Nat.dvd_trans ⟨natL l, rfl⟩ hd') h2
    obtain ⟨z, hz⟩ := ord_list hp h2 l hl (Nat.dvd_trans ⟨q ^ e, Nat.mul_comm _ _⟩ hd')
    refine ⟨y * z, ord_mul hy hz (coprime_natL hq ?_)⟩
    intro x hx
    have := asc_mem hl x hx
    exact ⟨this.2, by have := this.1; omega⟩
theorem prim_exists {p : Nat} (hp : Prm p) : ∃ g : Nat, 1 ≤ g ∧ g < p ∧ IsOrd g p (p - 1) := by
  by_cases h2 : 2 ≤ p - 1
  · obtain ⟨y, hy⟩ := ord_list hp h2 (facs (p - 1)) (facs_asc1 _ (by omega)) (by rw [natL_facs _ (by omega)]; exact Nat.dvd_refl _)
    rw [natL_facs _ (by omega)] at hy
    have hy2 : IsOrd (y % p) p (p - 1) :=
      ⟨hy.1, fun n => ⟨fun h1 => (hy.2 n).1 (((Cong.emod p y).pow n).symm.trans h1), fun h1 => ((Cong.emod p y).pow n).trans ((hy.2 n).2 h1)⟩⟩
    have b1 := Int.emod_nonneg y (show (p : Int) ≠ 0 by omega)
    have b2 := Int.emod_lt_of_pos y (show (0 : Int) < p by omega)
    obtain ⟨g, hg⟩ := Int.eq_ofNat_of_zero_le b1
    rw [hg] at hy2 b2
    refine ⟨g, Nat.pos_of_ne_zero fun h => ?_, by omega, hy2⟩
    subst h
    have h3 := (hy2.2 (p - 1)).2 (Nat.dvd_refl _)
    rw [show ((0 : Nat) : Int) ^ (p - 1) = 0 by
      obtain ⟨k, hk⟩ : ∃ k, p - 1 = k + 1 := ⟨p - 2, by omega⟩
      rw [hk, Int.pow_succ]; simp] at h3
    obtain ⟨c, hc⟩ := h3
    have h4 : p ∣ 1 := by
      have h5 : (p : Int) ∣ ((1 : Nat) : Int) := ⟨-c, by grind⟩
      exact Int.natCast_dvd_natCast.1 h5
    exact hp.not_dvd_one h4
  · have hp2 : p = 2 := by have := hp.1; omega
    subst hp2
    refine ⟨1, by omega, by omega, by omega, fun n => ?_⟩
    show Cong _ (((1 : Nat) : Int) ^ n) 1 ↔ 1 ∣ n
    rw [show ((1 : Nat) : Int) = 1 from rfl, Int.one_pow]
    exact ⟨fun _ => ⟨n, by omega⟩, fun _ => Cong.refl _ _⟩
theorem least_exists {P : Nat → Prop} : ∀ n : Nat, P n → ∃ k, P k ∧ k ≤ n ∧ ∀ j, j < k → ¬ P j := by
  intro n
  induction n using Nat.strongRecOn with
  | ind n ih =>
    intro h
    by_cases h2 : ∃ j, j < n ∧ P j
    · obtain ⟨j, h3, h4⟩ := h2
      obtain ⟨k, h5, h6, h7⟩ := ih j h3 h4
      exact ⟨k, h5, by omega, h7⟩
    · exact ⟨n, h, Nat.le_refl _, fun j h3 h4 => h2 ⟨j, h3, h4⟩⟩
theorem prim_least {p : Nat} (hp : Prm p) : ∃ g : Nat, 1 ≤ g ∧ g < p ∧ IsOrd g p (p - 1) ∧ ∀ r, 1 ≤ r → r < g → ¬ IsOrd r p (p - 1) := by
  obtain ⟨g, h1, h2, h3⟩ := prim_exists hp
  obtain ⟨k, ⟨h4, h5⟩, h6, h7⟩ := least_exists (P := fun n => 1 ≤ n ∧ IsOrd n p (p - 1)) g ⟨h1, h3⟩
  exact ⟨k, h4, by omega, h5, fun r hr hk hi => h7 r hk ⟨hr, hi⟩⟩
theorem phi_prime {p : Nat} (hp : Prm p) : phi p = ((p - 1 : Nat) : Int) := by
  unfold phi
  rw [facs_prime hp]
  show phiF p 1 * 1 = _
  unfold phiF
  simp
theorem unit_prime {p : Nat} (hp : Prm p) {r : Nat} (h1 : 1 ≤ r) (h2 : r < p) : Int.gcd r p = 1 := by
  have h3 : ¬ p ∣ r := fun h => by have := Nat.le_of_dvd h1 h; omega
  have := (hp.coprime h3).symm
  exact this
end HP
