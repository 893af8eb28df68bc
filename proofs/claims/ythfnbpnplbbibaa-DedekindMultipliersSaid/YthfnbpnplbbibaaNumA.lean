/- Texts joined: NumA, NumB, NumC, NumD, NumE, NumF, NumG, NumH, NumI, NumJ, NumK, NumL, NumM, NumO, NumP, NumQ, NumR, NumS, NumT, NumU, NumV. -/

/-! Plain number theory, first part: folds over ranges, permutations, primes, Gauss's lemma, quadratic reciprocity for primes. -/
namespace HP

/-! folds over 0 .. n-1 -/
def bigN {α : Type} (op : α → α → α) (e : α) (f : Nat → α) : Nat → α
  | 0 => e
  | n + 1 => op (bigN op e f n) (f n)

theorem bigN_congr {α : Type} (op : α → α → α) (e : α) (f g : Nat → α) : ∀ n, (∀ i, i < n → f i = g i) → bigN op e f n = bigN op e g n
  | 0, _ => rfl
  | n + 1, h => by
    show op _ _ = op _ _
    rw [bigN_congr op e f g n (fun i hi => h i (by omega)), h n (by omega)]

theorem inj_surj : ∀ (n : Nat) (s : Nat → Nat), (∀ i, i < n → s i < n) → (∀ i j, i < n → j < n → s i = s j → i = j) →
    ∀ y, y < n → ∃ x, x < n ∧ s x = y
  | 0, _, _, _, y, hy => by omega
  | n + 1, s, hm, hi, y, hy => by
    have hm' : ∀ i, i < n → (if s i = n then s n else s i) < n := by
      intro i h
      have h1 := hm i (by omega)
      have h2 := hm n (by omega)
      split
      · next he =>
        have : s n ≠ n := fun hn => by have := hi i n (by omega) (by omega) (by omega); omega
        omega
      · omega
    have hi' : ∀ i j, i < n → j < n → (if s i = n then s n else s i) = (if s j = n then s n else s j) → i = j := by
      intro i j h1 h2 h3
      split at h3 <;> split at h3
      · exact hi i j (by omega) (by omega) (by omega)
      · have := hi n j (by omega) (by omega) h3; omega
      · have := hi i n (by omega) (by omega) h3; omega
      · exact hi i j (by omega) (by omega) h3
    have ih := inj_surj n (fun i => if s i = n then s n else s i) hm' hi'
    by_cases hyn : y = n
    · by_cases hn : s n = n
      · exact ⟨n, by omega, by omega⟩
      · have h1 := hm n (by omega)
        obtain ⟨x, hx, hx2⟩ := ih (s n) (by omega)
        by_cases hxn : s x = n
        · exact ⟨x, by omega, by omega⟩
        · simp only [hxn, if_false] at hx2
          have := hi x n (by omega) (by omega) hx2
          omega
    · obtain ⟨x, hx, hx2⟩ := ih y (by omega)
      by_cases hxn : s x = n
      · simp only [hxn, if_true] at hx2
        exact ⟨n, by omega, hx2⟩
      · simp only [hxn, if_false] at hx2
        exact ⟨x, by omega, hx2⟩

section
variable {α : Type} (op : α → α → α) (e : α) [hA : Std.Associative op] [hC : Std.Commutative op]

theorem bigN_update (g h : Nat → α) (x : Nat) : ∀ n, x < n → (∀ i, i < n → i ≠ x → g i = h i) → op (bigN op e g n) (h x) = op (bigN op e h n) (g x)
  | 0, hx, _ => by omega
  | n + 1, hx, hh => by
    show op (op _ _) _ = op (op _ _) _
    by_cases hxn : x = n
    · subst hxn
      rw [bigN_congr op e g h x (fun i hi => hh i (by omega) (by omega))]
      ac_rfl
    · have := bigN_update g h x n (by omega) (fun i hi => hh i (by omega))
      rw [hh n (by omega) (by omega)]
      calc op (op (bigN op e g n) (h n)) (h x) = op (op (bigN op e g n) (h x)) (h n) := by ac_rfl
        _ = op (op (bigN op e h n) (g x)) (h n) := by rw [this]
        _ = op (op (bigN op e h n) (h n)) (g x) := by ac_rfl

theorem bigN_perm (f : Nat → α) : ∀ (n : Nat) (s : Nat → Nat), (∀ i, i < n → s i < n) → (∀ i j, i < n → j < n → s i = s j → i = j) →
    bigN op e (fun i => f (s i)) n = bigN op e f n
  | 0, _, _, _ => rfl
  | n + 1, s, hm, hi => by
    by_cases hn : s n = n
    · show op _ _ = op _ _
      rw [bigN_perm f n s ?_ (fun i j h1 h2 => hi i j (by omega) (by omega))]
      · show op _ (f (s n)) = _
        rw [hn]
      intro i h
      have h1 := hm i (by omega)
      have : s i ≠ n := fun h2 => by have := hi i n (by omega) (by omega) (by omega); omega
      omega
    · have h1 := hm n (by omega)
      obtain ⟨x, hx, hxn⟩ := inj_surj (n + 1) s hm hi n (by omega)
      have hxl : x < n := by
        by_cases h : x = n
        · subst h; omega
        · omega
      have ih := bigN_perm f n (fun i => if i = x then s n else s i) ?_ ?_
      · show op (bigN op e (fun i => f (s i)) n) (f (s n)) = op (bigN op e f n) (f n)
        rw [← ih]
        have := bigN_update op e (fun i => f (s i)) (fun i => f (if i = x then s n else s i)) x n hxl (by
          intro i _ h; simp [h])
        simp only [if_true, hxn] at this
        exact this
      · intro i h
        have h1' := hm i (by omega)
        show (if i = x then s n else s i) < n
        split
        · omega
        · have : s i ≠ n := fun h2 => by have := hi i x (by omega) (by omega) (by omega); omega
          omega
      · intro i j h2 h3 h4
        change (if i = x then s n else s i) = (if j = x then s n else s j) at h4
        split at h4 <;> split at h4
        · omega
        · have := hi n j (by omega) (by omega) h4; omega
        · have := hi i n (by omega) (by omega) h4; omega
        · exact hi i j (by omega) (by omega) h4

theorem bigN_op (f g : Nat → α) (he : op e e = e) : ∀ n, bigN op e (fun i => op (f i) (g i)) n = op (bigN op e f n) (bigN op e g n)
  | 0 => he.symm
  | n + 1 => by
    show op _ (op (f n) (g n)) = op (op _ _) (op _ _)
    rw [bigN_op f g he n]
    ac_rfl

omit hA hC in
theorem bigN_const (he : op e e = e) : ∀ n, bigN op e (fun _ => e) n = e
  | 0 => rfl
  | n + 1 => by
    show op _ _ = _
    rw [bigN_const he n, he]

theorem bigN_swap (f : Nat → Nat → α) (he : op e e = e) (m : Nat) : ∀ n, bigN op e (fun i => bigN op e (fun j => f i j) m) n = bigN op e (fun j => bigN op e (fun i => f i j) n) m
  | 0 => (bigN_const op e he m).symm
  | n + 1 => by
    show op _ _ = _
    rw [bigN_swap f he m n, ← bigN_op op e _ _ he m]
    rfl
end

def sumN (f : Nat → Nat) (n : Nat) : Nat := bigN (· + ·) 0 f n
theorem sumN_zero (f) : sumN f 0 = 0 := rfl
theorem sumN_succ (f) (n) : sumN f (n + 1) = sumN f n + f n := rfl
theorem sumN_congr (f g) (n) (h : ∀ i, i < n → f i = g i) : sumN f n = sumN g n := bigN_congr _ _ _ _ _ h
theorem sumN_perm (f) (n) (s : Nat → Nat) (hm : ∀ i, i < n → s i < n) (hi : ∀ i j, i < n → j < n → s i = s j → i = j) : sumN (fun i => f (s i)) n = sumN f n := bigN_perm _ _ f n s hm hi
theorem sumN_add (f g) (n) : sumN (fun i => f i + g i) n = sumN f n + sumN g n := bigN_op _ _ f g (by simp) n
theorem sumN_swap (f : Nat → Nat → Nat) (m n) : sumN (fun i => sumN (fun j => f i j) m) n = sumN (fun j => sumN (fun i => f i j) n) m := bigN_swap _ _ f (by simp) m n
theorem sumN_const (a : Nat) : ∀ n, sumN (fun _ => a) n = n * a
  | 0 => by simp [sumN_zero]
  | n + 1 => by rw [sumN_succ, sumN_const a n, Nat.add_mul, Nat.one_mul]

/-! congruences -/
def Cong (n a b : Int) : Prop := n ∣ a - b
theorem Cong.refl (n a : Int) : Cong n a a := ⟨0, by omega⟩
theorem Cong.symm {n a b : Int} : Cong n a b → Cong n b a := fun ⟨k, h⟩ => ⟨-k, by grind⟩
theorem Cong.trans {n a b c : Int} : Cong n a b → Cong n b c → Cong n a c := fun ⟨k, h⟩ ⟨l, g⟩ => ⟨k + l, by grind⟩
theorem Cong.add {n a b c d : Int} : Cong n a b → Cong n c d → Cong n (a + c) (b + d) := fun ⟨k, h⟩ ⟨l, g⟩ => ⟨k + l, by grind⟩
theorem Cong.sub {n a b c d : Int} : Cong n a b → Cong n c d → Cong n (a - c) (b - d) := fun ⟨k, h⟩ ⟨l, g⟩ => ⟨k - l, by grind⟩
theorem Cong.neg {n a b : Int} : Cong n a b → Cong n (-a) (-b) := fun ⟨k, h⟩ => ⟨-k, by grind⟩
theorem Cong.mul {n a b c d : Int} : Cong n a b → Cong n c d → Cong n (a * c) (b * d) := fun ⟨k, h⟩ ⟨l, g⟩ => ⟨k * c + b * l, by grind⟩
theorem Cong.pow {n a b : Int} (h : Cong n a b) : ∀ k : Nat, Cong n (a ^ k) (b ^ k)
  | 0 => by rw [Int.pow_zero, Int.pow_zero]; exact Cong.refl _ _
  | k + 1 => by rw [Int.pow_succ, Int.pow_succ]; exact (Cong.pow h k).mul h
/-! primes -/
def Prm (p : Nat) : Prop := 2 ≤ p ∧ ∀ d, d ∣ p → d = 1 ∨ d = p
theorem Prm.pos {p : Nat} (h : Prm p) : 0 < p := by have := h.1; omega
theorem Prm.coprime {p : Nat} (h : Prm p) {a : Nat} (ha : ¬ p ∣ a) : Nat.Coprime p a := by
  rcases h.2 _ (Nat.gcd_dvd_left p a) with h1 | h1
  · exact h1
  · exact absurd (h1 ▸ Nat.gcd_dvd_right p a) ha
theorem Prm.eq_of_dvd {p q : Nat} (h : Prm p) (hq : Prm q) (hd : p ∣ q) : p = q := by
  rcases hq.2 p hd with h1 | h1
  · have := h.1; omega
  · exact h1

/-! signs -/
def sg (n : Nat) : Int := if n % 2 = 0 then 1 else -1
/-! Gauss's lemma -/
section gauss
variable (p P a : Nat)
/-- residue of a times i+1 -/
def gr (i : Nat) : Nat := (a * (i + 1)) % p
def ge (i : Nat) : Int := if gr p a i ≤ P then 1 else -1

variable {p P a}
end gauss

/-! reciprocity for odd primes -/
theorem count_mul (p x : Nat) (hp : 0 < p) : ∀ Q, sumN (fun j => if p * (j + 1) ≤ x then 1 else 0) Q = min Q (x / p)
  | 0 => by simp [sumN_zero]
  | Q + 1 => by
    rw [sumN_succ, count_mul p x hp Q]
    have := Nat.le_div_iff_mul_le (x := Q + 1) (y := x) hp
    rw [Nat.mul_comm] at this
    split
    · next h => have := this.2 h; omega
    · next h => have : ¬ Q + 1 ≤ x / p := fun hh => h (this.1 hh); omega

end HP

/-! Plain number theory, second part: least divisors, multiplicative extension, the Kronecker symbol. -/
namespace HP

/-! least divisor from 2 on -/
def lpfA (n : Nat) : Nat → Nat → Nat
  | _, 0 => n
  | d, f + 1 => if n % d = 0 then d else lpfA n (d + 1) f
def lpf (n : Nat) : Nat := lpfA n 2 n

theorem lpfA_spec {n : Nat} (hn : 2 ≤ n) : ∀ f d, 2 ≤ d → d ≤ n → n ≤ d + f → (∀ e, 2 ≤ e → e < d → ¬ e ∣ n) →
    lpfA n d f ∣ n ∧ 2 ≤ lpfA n d f ∧ ∀ e, 2 ≤ e → e < lpfA n d f → ¬ e ∣ n
  | 0, d, h1, h2, h3, h4 => by
    have : d = n := by omega
    subst this
    exact ⟨Nat.dvd_refl _, hn, h4⟩
  | f + 1, d, h1, h2, h3, h4 => by
    unfold lpfA
    split
    · next h => exact ⟨Nat.dvd_of_mod_eq_zero h, h1, h4⟩
    · next h =>
      have hdn : d ≠ n := fun e => by subst e; simp at h
      refine lpfA_spec hn f (d + 1) (by omega) (by omega) (by omega) ?_
      intro e he1 he2 hd
      by_cases hed : e = d
      · subst hed; exact h (Nat.mod_eq_zero_of_dvd hd)
      · exact h4 e he1 (by omega) hd
theorem lpf_spec {n : Nat} (hn : 2 ≤ n) : lpf n ∣ n ∧ 2 ≤ lpf n ∧ ∀ e, 2 ≤ e → e < lpf n → ¬ e ∣ n :=
  lpfA_spec hn n 2 (by omega) hn (by omega) (fun e _ _ => by omega)
theorem prm_of_least {n d : Nat} (hd : d ∣ n) (h2 : 2 ≤ d) (h : ∀ e, 2 ≤ e → e < d → ¬ e ∣ n) : Prm d := by
  refine ⟨h2, fun e he => ?_⟩
  have h0 : e ≠ 0 := fun h => by subst h; have := Nat.eq_zero_of_zero_dvd he; omega
  have hle := Nat.le_of_dvd (by omega) he
  by_cases h1 : e = 1
  · exact .inl h1
  · by_cases h3 : e = d
    · exact .inr h3
    · exact absurd (Nat.dvd_trans he hd) (h e (by omega) (by omega))
theorem lpf_prm {n : Nat} (hn : 2 ≤ n) : Prm (lpf n) := by
  obtain ⟨h1, h2, h3⟩ := lpf_spec hn
  exact prm_of_least h1 h2 h3
theorem lpf_eq {n p : Nat} (hd : p ∣ n) (hn : 0 < n) (h2 : 2 ≤ p) (h : ∀ e, 2 ≤ e → e < p → ¬ e ∣ n) : lpf n = p := by
  have := Nat.le_of_dvd hn hd
  obtain ⟨h3, h4, h5⟩ := lpf_spec (n := n) (by omega)
  rcases Nat.lt_trichotomy (lpf n) p with h6 | h6 | h6
  · exact absurd h3 (h _ h4 h6)
  · exact h6
  · exact absurd hd (h5 _ h2 h6)
theorem div_lpf_lt {n : Nat} (hn : 2 ≤ n) : n / lpf n < n := Nat.div_lt_self (by omega) (lpf_spec hn).2.1
/-- the completely multiplicative function with given values at primes -/
def ext (f : Nat → Int) (n : Nat) : Int := if _h : 2 ≤ n then f (lpf n) * ext f (n / lpf n) else 1
termination_by n
decreasing_by exact div_lpf_lt _h

/-! the symbol at odd primes, by Euler's power -/
/-- values 0, 1, -1 that agree modulo a number from 3 on are equal -/
def Tri (x : Int) : Prop := x = 0 ∨ x = 1 ∨ x = -1
theorem Tri.eq {p : Nat} (hp : 3 ≤ p) {x y : Int} (hx : Tri x) (hy : Tri y) (h : Cong p x y) : x = y := by
  obtain ⟨k, hk⟩ := h
  have h2 : x - y ≤ 2 ∧ -2 ≤ x - y := by rcases hx with rfl | rfl | rfl <;> rcases hy with rfl | rfl | rfl <;> decide
  rcases Int.lt_trichotomy k 0 with h4 | h4 | h4
  · have : (p : Int) * k ≤ p * (-1) := Int.mul_le_mul_of_nonneg_left (by omega) (by omega)
    omega
  · subst h4; omega
  · have : (p : Int) * 1 ≤ p * k := Int.mul_le_mul_of_nonneg_left (by omega) (by omega)
    omega
theorem Tri.mul {x y : Int} (hx : Tri x) (hy : Tri y) : Tri (x * y) := by
  rcases hx with rfl | rfl | rfl <;> rcases hy with rfl | rfl | rfl <;> simp [Tri]
theorem Tri.neg {x : Int} (hx : Tri x) : Tri (-x) := by rcases hx with rfl | rfl | rfl <;> simp [Tri]

section
variable {p : Nat} (hp : Prm p) (h2 : p ≠ 2)
include hp h2
end

/-! residues modulo 8 -/
/-- the symbol (a/2) -/
def two (a : Int) : Int := if a % 8 = 1 ∨ a % 8 = 7 then 1 else if a % 8 = 3 ∨ a % 8 = 5 then -1 else 0
/-- the sign (-1/n), (2/n) for odd n -/
def s4 (n : Nat) : Int := if n % 4 = 3 then -1 else 1
end HP

/-! Plain number theory, third part: the factorization as a list. -/
namespace HP

/-- how often p divides n -/
def mlt (p n : Nat) : Nat := if _h : 2 ≤ p ∧ 0 < n ∧ n % p = 0 then 1 + mlt p (n / p) else 0
termination_by n
decreasing_by exact Nat.div_lt_self _h.2.1 _h.1

theorem mlt_yes {p n : Nat} (hp : 2 ≤ p) (hn : 0 < n) (h : n % p = 0) : mlt p n = 1 + mlt p (n / p) := by
  rw [mlt, dif_pos ⟨hp, hn, h⟩]
theorem mlt_no {p n : Nat} (h : n % p ≠ 0) : mlt p n = 0 := by
  rw [mlt, dif_neg (fun h1 => h h1.2.2)]
theorem mlt_dvd (p n : Nat) : p ^ mlt p n ∣ n := by
  induction n using Nat.strongRecOn with
  | _ n ih =>
    by_cases h : 2 ≤ p ∧ 0 < n ∧ n % p = 0
    · rw [mlt_yes h.1 h.2.1 h.2.2, Nat.add_comm, Nat.pow_succ]
      obtain ⟨k, hk⟩ := ih (n / p) (Nat.div_lt_self h.2.1 h.1)
      refine ⟨k, ?_⟩
      have e : n = n / p * p := (Nat.div_mul_cancel (Nat.dvd_of_mod_eq_zero h.2.2)).symm
      generalize p ^ mlt p (n / p) = x at *
      rw [e, hk]; grind
    · rw [mlt, dif_neg h, Nat.pow_zero]; exact Nat.one_dvd _
/-- what is left of n without p -/
def strip (p n : Nat) : Nat := n / p ^ mlt p n
theorem strip_mul (p n : Nat) : p ^ mlt p n * strip p n = n := Nat.mul_div_cancel' (mlt_dvd p n)
theorem strip_yes {p n : Nat} (hp : 2 ≤ p) (hn : 0 < n) (h : n % p = 0) : strip p n = strip p (n / p) := by
  unfold strip
  rw [mlt_yes hp hn h, Nat.add_comm, Nat.pow_succ, Nat.mul_comm, Nat.div_div_eq_div_mul]
theorem strip_no {p n : Nat} (h : n % p ≠ 0) : strip p n = n := by
  unfold strip; rw [mlt_no h]; simp
theorem strip_pos (p n : Nat) (hn : 0 < n) : 0 < strip p n := by
  rcases Nat.eq_zero_or_pos (strip p n) with h | h
  · have := strip_mul p n; rw [h] at this; omega
  · exact h
theorem strip_dvd (p n : Nat) : strip p n ∣ n := ⟨p ^ mlt p n, by rw [Nat.mul_comm]; exact (strip_mul p n).symm⟩
theorem strip_not {p n : Nat} (hp : 2 ≤ p) (hn : 0 < n) : ¬ p ∣ strip p n := by
  induction n using Nat.strongRecOn with
  | _ n ih =>
    by_cases h : n % p = 0
    · rw [strip_yes hp hn h]
      exact ih _ (Nat.div_lt_self hn hp) (Nat.div_pos (Nat.le_of_dvd hn (Nat.dvd_of_mod_eq_zero h)) (by omega))
    · rw [strip_no h]; intro hd; exact h (Nat.mod_eq_zero_of_dvd hd)
theorem strip_lt {p n : Nat} (hp : 2 ≤ p) (hn : 0 < n) (h : p ∣ n) : strip p n < n := by
  rw [strip_yes hp hn (Nat.mod_eq_zero_of_dvd h)]
  have h1 : n / p < n := Nat.div_lt_self hn hp
  have h2 := Nat.le_of_dvd (Nat.div_pos (Nat.le_of_dvd hn h) (by omega)) (strip_dvd p (n / p))
  omega
theorem mlt_pos {p n : Nat} (hp : 2 ≤ p) (hn : 0 < n) (h : p ∣ n) : 0 < mlt p n := by
  rw [mlt_yes hp hn (Nat.mod_eq_zero_of_dvd h)]; omega

/-- the factorization: ascending prime powers -/
def facs (n : Nat) : List (Nat × Nat) := if _h : 2 ≤ n then (lpf n, mlt (lpf n) n) :: facs (strip (lpf n) n) else []
termination_by n
decreasing_by exact strip_lt (lpf_spec _h).2.1 (by omega) (lpf_spec _h).1

theorem facs_small {n : Nat} (h : n ≤ 1) : facs n = [] := by rw [facs, dif_neg (by omega)]
theorem facs_big {n : Nat} (h : 2 ≤ n) : facs n = (lpf n, mlt (lpf n) n) :: facs (strip (lpf n) n) := by rw [facs, dif_pos h]
/-- no divisor below p -/
def Rough (p n : Nat) : Prop := ∀ e, 2 ≤ e → e < p → ¬ e ∣ n
theorem rough_two (n) : Rough 2 n := fun e h1 h2 => by omega
theorem rough_next {p n : Nat} (h : Rough p n) (hd : ¬ p ∣ n) : Rough (p + 1) n := fun e h1 h2 he => by
  by_cases hep : e = p
  · subst hep; exact hd he
  · exact h e h1 (by omega) he
theorem rough_dvd {p n m : Nat} (h : Rough p n) (hd : m ∣ n) : Rough p m := fun e h1 h2 he => h e h1 h2 (Nat.dvd_trans he hd)
/-- the round at a divisor -/
theorem facs_round {p n : Nat} (hp : 2 ≤ p) (hn : 0 < n) (hr : Rough p n) (hd : p ∣ n) : facs n = (p, mlt p n) :: facs (strip p n) ∧ Prm p := by
  have h1 := Nat.le_of_dvd hn hd
  have e := lpf_eq hd hn hp hr
  rw [facs_big (by omega), e]
  exact ⟨rfl, e ▸ lpf_prm (by omega)⟩
/-- the last round -/
theorem rough_prime {p n : Nat} (hn : 2 ≤ n) (hr : Rough p n) (h : n < p * p) : Prm n ∧ Rough n n := by
  have key : Rough n n := by
    intro e h1 h2 hd
    obtain ⟨k, hk⟩ := hd
    have hep : p ≤ e := Nat.le_of_not_lt fun h3 => hr e h1 h3 ⟨k, hk⟩
    have hk2 : 2 ≤ k := by
      rcases Nat.lt_or_ge k 2 with h3 | h3
      · have : k = 0 ∨ k = 1 := by omega
        rcases this with rfl | rfl <;> omega
      · exact h3
    have hkp : p ≤ k := Nat.le_of_not_lt fun h3 => hr k hk2 h3 ⟨e, by rw [hk, Nat.mul_comm]⟩
    have := Nat.mul_le_mul hep hkp
    omega
  exact ⟨prm_of_least (Nat.dvd_refl n) hn key, key⟩
/-- products over the list -/
def prodL (f : Nat → Nat → Int) : List (Nat × Nat) → Int
  | [] => 1
  | (p, e) :: l => f p e * prodL f l
theorem prodL_append (f) : ∀ l m, prodL f (l ++ m) = prodL f l * prodL f m
  | [], m => by simp [prodL]
  | (p, e) :: l, m => by simp [prodL, prodL_append f l m, Int.mul_assoc]
theorem facs_ind {P : (n : Nat) → 0 < n → Prop} (h1 : P 1 (by omega))
    (h2 : ∀ n (_ : 2 ≤ n) (h0 : 0 < n) (hs : 0 < strip (lpf n) n), P (strip (lpf n) n) hs → P n h0) (n : Nat) (hn : 0 < n) : P n hn := by
  induction n using Nat.strongRecOn with
  | _ n ih =>
    by_cases hb : 2 ≤ n
    · exact h2 n hb hn (strip_pos _ _ hn) (ih _ (strip_lt (lpf_spec hb).2.1 hn (lpf_spec hb).1) _)
    · have : n = 1 := by omega
      subst this; exact h1
theorem prod_facs (n : Nat) (hn : 0 < n) : prodL (fun p e => (p : Int) ^ e) (facs n) = n := by
  induction n, hn using facs_ind with
  | h1 => rw [facs_small (by omega)]; rfl
  | h2 n hb h0 hs ih =>
    rw [facs_big hb]
    show (_ : Int) ^ _ * prodL _ _ = _
    rw [ih]
    have := strip_mul (lpf n) n
    generalize strip (lpf n) n = s at *
    generalize lpf n = p at *
    generalize mlt p n = e at *
    rw [← this]
    simp
theorem facs_mem {n : Nat} (hn : 0 < n) : ∀ x ∈ facs n, Prm x.1 ∧ 0 < x.2 ∧ x.1 ∣ n := by
  induction n, hn using facs_ind with
  | h1 => rw [facs_small (by omega)]; intro x hx; cases hx
  | h2 n hb h0 hs ih =>
    rw [facs_big hb]
    intro x hx
    have hl := lpf_spec hb
    rcases List.mem_cons.1 hx with rfl | hx
    · exact ⟨lpf_prm hb, mlt_pos hl.2.1 h0 hl.1, hl.1⟩
    · obtain ⟨a, b, c⟩ := ih x hx
      exact ⟨a, b, Nat.dvd_trans c (strip_dvd _ _)⟩
end HP

/-! Plain number theory, fourth part: Kronecker's symbol for all integers, the rounds of Jacobi's method, periods. -/
namespace HP

/-! the period of a discriminant -/
end HP

/-! Plain number theory, fifth part: bounds on products over the factorization. -/
namespace HP

theorem facs_pow_dvd {n : Nat} (hn : 0 < n) : ∀ x ∈ facs n, x.1 ^ x.2 ∣ n := by
  induction n, hn using facs_ind with
  | h1 => rw [facs_small (by omega)]; intro x hx; cases hx
  | h2 n hb h0 hs ih =>
    rw [facs_big hb]
    intro x hx
    rcases List.mem_cons.1 hx with rfl | hx
    · exact mlt_dvd _ _
    · exact Nat.dvd_trans (ih x hx) (strip_dvd _ _)
theorem lt_two_pow (e : Nat) : e < 2 ^ e := Nat.lt_two_pow_self
theorem facs_bounds {n p e : Nat} (hn : 0 < n) (h : (p, e) ∈ facs n) : Prm p ∧ 2 ≤ p ∧ 1 ≤ e ∧ p ≤ n ∧ e ≤ n ∧ p ^ e ≤ n ∧ p ^ (e - 1) ≤ n := by
  obtain ⟨h1, h2, h3⟩ := facs_mem hn _ h
  have h4 := Nat.le_of_dvd hn (facs_pow_dvd hn _ h)
  have h5 : 2 ^ e ≤ p ^ e := Nat.pow_le_pow_left h1.1 e
  have h6 := lt_two_pow e
  have h7 : p ^ (e - 1) ≤ p ^ e := Nat.pow_le_pow_right h1.pos (by omega)
  exact ⟨h1, h1.1, h2, Nat.le_of_dvd hn h3, by simp only at h4; omega, h4, by simp only at h4; omega⟩

def pwF (p e : Nat) : Int := (p : Int) ^ e
theorem prodL_le {f g : Nat → Nat → Int} : ∀ l : List (Nat × Nat), (∀ x ∈ l, 0 ≤ f x.1 x.2 ∧ f x.1 x.2 ≤ g x.1 x.2) → 0 ≤ prodL f l ∧ prodL f l ≤ prodL g l
  | [], _ => by simp [prodL]
  | (p, e) :: l, h => by
    obtain ⟨h1, h2⟩ := h _ (List.mem_cons_self ..)
    obtain ⟨h3, h4⟩ := prodL_le l (fun x hx => h x (List.mem_cons_of_mem _ hx))
    exact ⟨Int.mul_nonneg h1 h3, Int.mul_le_mul h2 h4 h3 (Int.le_trans h1 h2)⟩
theorem pw_one_le {p e : Nat} (h : 1 ≤ p) : 1 ≤ pwF p e := by
  unfold pwF
  have : 0 < p ^ e := Nat.pow_pos h
  exact_mod_cast this
theorem prefix_pw {n : Nat} (hn : 0 < n) {l r : List (Nat × Nat)} (h : facs n = l ++ r) : 1 ≤ prodL pwF l ∧ prodL pwF l ≤ n := by
  have hone : ∀ m : List (Nat × Nat), (∀ x ∈ m, x ∈ facs n) → 1 ≤ prodL pwF m := by
    intro m hm
    have := prodL_le (f := fun _ _ => 1) (g := pwF) m (fun x hx => ⟨by decide, pw_one_le (by have := (facs_mem hn x (hm x hx)).1.1; omega)⟩)
    have e1 : ∀ m : List (Nat × Nat), prodL (fun _ _ => 1) m = 1 := by
      intro m; induction m with
      | nil => rfl
      | cons x m ih => obtain ⟨p, e⟩ := x; show 1 * prodL _ m = 1; rw [ih]; rfl
    rw [e1] at this
    exact this.2
  have h1 := hone l (fun x hx => by rw [h]; exact List.mem_append_left _ hx)
  have h2 := hone r (fun x hx => by rw [h]; exact List.mem_append_right _ hx)
  have h3 : prodL pwF l * prodL pwF r = n := by
    rw [← prodL_append, ← h]; exact prod_facs n hn
  refine ⟨h1, ?_⟩
  have : prodL pwF l * 1 ≤ prodL pwF l * prodL pwF r := Int.mul_le_mul_of_nonneg_left h2 (by omega)
  omega

theorem mem_prefix {n : Nat} {l r : List (Nat × Nat)} (h : facs n = l ++ r) {x : Nat × Nat} (hx : x ∈ l) : x ∈ facs n := by rw [h]; exact List.mem_append_left _ hx
end HP

/-! Plain number theory, sixth part: the extended Euclidean algorithm with truncated division. -/
namespace HP

end HP

/-! Plain number theory, seventh part: inverses, the Chinese remainder theorem. -/
namespace HP

/-! the Chinese remainder theorem -/
end HP

/-! Plain number theory, eighth part: which list is a factorization; square-free parts and fundamental discriminants. -/
namespace HP

/-- the number with a list of prime powers -/
def natL : List (Nat × Nat) → Nat
  | [] => 1
  | (p, e) :: l => p ^ e * natL l
/-- ascending prime powers, all primes above a bound -/
def Asc : Nat → List (Nat × Nat) → Prop
  | _, [] => True
  | b, (p, e) :: l => b < p ∧ Prm p ∧ 0 < e ∧ Asc p l
theorem facs_asc (n : Nat) (hn : 0 < n) : ∀ b, (∀ q, Prm q → q ∣ n → b < q) → Asc b (facs n) := by
  induction n, hn using facs_ind with
  | h1 => intro b _; rw [facs_small (by omega)]; trivial
  | h2 n hb h0 hs ih =>
    intro b hbq
    rw [facs_big hb]
    have hl := lpf_spec hb
    refine ⟨hbq _ (lpf_prm hb) hl.1, lpf_prm hb, mlt_pos hl.2.1 h0 hl.1, ih _ fun q hq hd => ?_⟩
    have h1 : q ∣ n := Nat.dvd_trans hd (strip_dvd _ _)
    have h2 : ¬ q < lpf n := fun h => hl.2.2 q hq.1 h h1
    have h3 : q ≠ lpf n := fun h => by subst h; exact strip_not hl.2.1 h0 hd
    omega
theorem facs_asc1 (n : Nat) (hn : 0 < n) : Asc 1 (facs n) := facs_asc n hn 1 fun _ hq _ => hq.1
theorem natL_facs (n : Nat) (hn : 0 < n) : natL (facs n) = n := by
  have h := prod_facs n hn
  have e : ∀ l : List (Nat × Nat), prodL (fun p e => (p : Int) ^ e) l = (natL l : Nat) := by
    intro l
    induction l with
    | nil => rfl
    | cons x l ih =>
      obtain ⟨p, e⟩ := x
      show (p : Int) ^ e * _ = ((p ^ e * natL l : Nat) : Int)
      rw [ih]; simp
  rw [e] at h
  exact_mod_cast h

end HP

/-! Plain number theory, ninth part: the fundamental discriminant as the program computes it. -/
namespace HP

theorem part_bd {f : Nat → Nat → Int} (hf : ∀ p e, 2 ≤ p → 1 ≤ e → 1 ≤ f p e ∧ f p e ≤ pwF p e) {n : Nat} (hn : 0 < n) {l r : List (Nat × Nat)} (h : facs n = l ++ r) : 1 ≤ prodL f l ∧ prodL f l ≤ n := by
  obtain ⟨_, h2⟩ := prefix_pw hn h
  have hm : ∀ x ∈ l, 2 ≤ x.1 ∧ 1 ≤ x.2 := fun x hx => by
    obtain ⟨_, b, c, _⟩ := facs_bounds (p := x.1) (e := x.2) hn (mem_prefix h hx)
    exact ⟨b, c⟩
  have h3 := prodL_le (f := f) (g := pwF) l (fun x hx => by
    have := hf x.1 x.2 (hm x hx).1 (hm x hx).2
    exact ⟨by omega, this.2⟩)
  refine ⟨?_, by omega⟩
  have h4 := prodL_le (f := fun _ _ => 1) (g := f) l (fun x hx => ⟨by decide, (hf x.1 x.2 (hm x hx).1 (hm x hx).2).1⟩)
  have e1 : ∀ m : List (Nat × Nat), prodL (fun _ _ => 1) m = 1 := by
    intro m; induction m with
    | nil => rfl
    | cons x m ih => obtain ⟨p, e⟩ := x; show 1 * prodL _ m = 1; rw [ih]; rfl
  rw [e1] at h4
  exact h4.2
end HP

/-! Plain number theory, tenth part: inverses as the program hands them back. -/
namespace HP

end HP

/-! Plain number theory, eleventh part: the combined congruence is equivalent to each. -/
namespace HP

end HP

/-! Plain number theory: a fundamental discriminant is its own, with conductor 1. -/
namespace HP

end HP

/-! Plain number theory: primes as a test, the primes up to a bound, what the sieve marks. -/
namespace HP

end HP

/-! Plain number theory: Fermat, Euler. -/
namespace HP

end HP

/-! Plain number theory: the order of a residue, and how it is found. -/
namespace HP

/-- d is the order of a modulo m -/
def IsOrd (a m : Int) (d : Nat) : Prop := 0 < d ∧ ∀ n : Nat, Cong m (a ^ n) 1 ↔ d ∣ n

theorem IsOrd.unique {a m : Int} {d e : Nat} (h : IsOrd a m d) (g : IsOrd a m e) : d = e :=
  Nat.dvd_antisymm ((h.2 e).1 ((g.2 e).2 (Nat.dvd_refl e))) ((g.2 d).1 ((h.2 d).2 (Nat.dvd_refl d)))
theorem natL_append : ∀ l m, natL (l ++ m) = natL l * natL m
  | [], m => by simp [natL]
  | (p, e) :: l, m => by
    show p ^ e * natL (l ++ m) = p ^ e * natL l * natL m
    rw [natL_append l m, Nat.mul_assoc]
theorem facs_not {n : Nat} (hn : 0 < n) : ∀ x ∈ facs n, ¬ x.1 ^ (x.2 + 1) ∣ n := by
  induction n, hn using facs_ind with
  | h1 => rw [facs_small (by omega)]; intro x hx; cases hx
  | h2 n hb h0 hs ih =>
    have hsm := strip_mul (lpf n) n
    have hl := lpf_spec hb
    have hnd := strip_not (p := lpf n) (n := n) hl.2.1 h0
    have hp := lpf_prm hb
    rw [facs_big hb]
    intro x hx hd
    rcases List.mem_cons.1 hx with rfl | hx
    · simp only at hd
      have h1 : lpf n ^ mlt (lpf n) n * lpf n ∣ lpf n ^ mlt (lpf n) n * strip (lpf n) n := by
        rw [hsm, ← Nat.pow_succ]; exact hd
      exact hnd (Nat.dvd_of_mul_dvd_mul_left (Nat.pow_pos hp.pos) h1)
    · obtain ⟨g1, g2, g3⟩ := facs_mem hs x hx
      have hne : ¬ x.1 ∣ lpf n := fun h => by
        have := g1.eq_of_dvd hp h
        rw [this] at g3
        exact hnd g3
      have hc : Nat.Coprime (x.1 ^ (x.2 + 1)) (lpf n ^ mlt (lpf n) n) := Nat.Coprime.pow _ _ (g1.coprime hne)
      rw [← hsm] at hd
      exact ih x hx (hc.dvd_of_dvd_mul_left hd)
/-- the divisors of n, ascending -/
def isDv (n d : Nat) : Bool := decide (0 < d) && decide (n % d = 0)
def dvs (n : Nat) : List Nat := (List.range (n + 1)).filter (isDv n)
theorem range_sorted (n : Nat) : (List.range n).Pairwise (· < ·) := List.pairwise_lt_range
theorem dvs_sorted (n : Nat) : (dvs n).Pairwise (· < ·) := (range_sorted _).filter _
theorem isDv_iff {n d : Nat} : isDv n d = true ↔ 0 < d ∧ d ∣ n := by
  unfold isDv
  rw [Bool.and_eq_true, decide_eq_true_iff, decide_eq_true_iff, Nat.dvd_iff_mod_eq_zero]
theorem dvs_mem {n d : Nat} (hn : 0 < n) : d ∈ dvs n ↔ d ∣ n := by
  unfold dvs
  rw [List.mem_filter, List.mem_range, isDv_iff]
  refine ⟨fun h => h.2.2, fun h => ⟨?_, Nat.pos_of_dvd_of_pos h hn, h⟩⟩
  have := Nat.le_of_dvd hn h
  omega
end HP

/-! Plain number theory: phi and psi, prime by prime. -/
namespace HP

end HP

/-! Plain number theory: a monic polynomial has at most as many roots modulo a prime as its degree; primitive roots exist. -/
namespace HP

end HP

/-! Plain number theory: square roots modulo a prime. -/
namespace HP

end HP

/-! Plain number theory: the divisors as they are gathered prime by prime, and sorted. -/
namespace HP

/-- the list after j rounds at the prime p -/
def dvE (p : Nat) (L : List Nat) : Nat → List Nat
  | 0 => L
  | j + 1 => dvE p L j ++ L.map (· * p ^ (j + 1))
def dvF (L : List Nat) : List (Nat × Nat) → List Nat
  | [] => L
  | (p, e) :: l => dvF (dvE p L e) l
theorem dvF_append : ∀ (l m : List (Nat × Nat)) (L : List Nat), dvF L (l ++ m) = dvF (dvF L l) m
  | [], _, _ => rfl
  | (_, _) :: l, m, _ => dvF_append l m _
theorem dvE_mem {p x : Nat} {L : List Nat} : ∀ e, x ∈ dvE p L e ↔ ∃ j, j ≤ e ∧ ∃ y, y ∈ L ∧ x = y * p ^ j
  | 0 => by
    constructor
    · intro h; exact ⟨0, Nat.le_refl _, x, h, by rw [Nat.pow_zero, Nat.mul_one]⟩
    · rintro ⟨j, hj, y, hy, rfl⟩
      obtain rfl : j = 0 := by omega
      rw [Nat.pow_zero, Nat.mul_one]; exact hy
  | e + 1 => by
    rw [dvE, List.mem_append, dvE_mem e, List.mem_map]
    constructor
    · rintro (⟨j, hj, h⟩ | ⟨y, hy, rfl⟩)
      · exact ⟨j, by omega, h⟩
      · exact ⟨e + 1, Nat.le_refl _, y, hy, rfl⟩
    · rintro ⟨j, hj, y, hy, rfl⟩
      by_cases h : j = e + 1
      · subst h; exact .inr ⟨y, hy, rfl⟩
      · exact .inl ⟨j, by omega, y, hy, rfl⟩
theorem dvE_len (p : Nat) (L : List Nat) : ∀ e, (dvE p L e).length = L.length * (e + 1)
  | 0 => by simp [dvE]
  | e + 1 => by rw [dvE, List.length_append, dvE_len p L e, List.length_map, Nat.mul_add L.length (e + 1), Nat.mul_one]
theorem dvE_dvd {p m : Nat} {L : List Nat} (hp : Prm p) (hm : 0 < m) (hpm : ¬ p ∣ m) (hL : ∀ x, x ∈ L ↔ x ∣ m) (e x : Nat) : x ∈ dvE p L e ↔ x ∣ m * p ^ e := by
  rw [dvE_mem]
  constructor
  · rintro ⟨j, hj, y, hy, rfl⟩
    exact Nat.mul_dvd_mul ((hL y).1 hy) (Nat.pow_dvd_pow p hj)
  · intro h
    have hx0 : 0 < x := Nat.pos_of_dvd_of_pos h (Nat.mul_pos hm (Nat.pow_pos hp.pos))
    have h1 := strip_mul p x
    have h2 := strip_not (p := p) (n := x) hp.1 hx0
    have hy : strip p x ∣ m := by
      have h3 : strip p x ∣ m * p ^ e := Nat.dvd_trans (strip_dvd p x) h
      have hc : Nat.Coprime (strip p x) (p ^ e) := (Nat.Coprime.pow_left e (hp.coprime h2)).symm
      exact hc.dvd_of_dvd_mul_right h3
    have hk : p ^ mlt p x ∣ p ^ e := by
      have h3 : p ^ mlt p x ∣ m * p ^ e := Nat.dvd_trans (mlt_dvd p x) h
      have hc : Nat.Coprime (p ^ mlt p x) m := Nat.Coprime.pow_left _ (hp.coprime hpm)
      exact hc.dvd_of_dvd_mul_left h3
    have hke : mlt p x ≤ e := by
      apply Nat.le_of_not_lt
      intro h3
      have h4 := Nat.le_of_dvd (Nat.pow_pos hp.pos) hk
      have h5 : p ^ e < p ^ mlt p x := Nat.pow_lt_pow_right hp.1 h3
      omega
    exact ⟨mlt p x, hke, strip p x, (hL _).2 hy, by rw [Nat.mul_comm]; exact h1.symm⟩
theorem dvE_nodup {p m : Nat} {L : List Nat} (hp : Prm p) (hm : 0 < m) (hpm : ¬ p ∣ m) (hL : ∀ x, x ∈ L ↔ x ∣ m) (hn : L.Nodup) : ∀ e, (dvE p L e).Nodup
  | 0 => hn
  | e + 1 => by
    rw [dvE, List.nodup_append]
    refine ⟨dvE_nodup hp hm hpm hL hn e, ?_, ?_⟩
    · unfold List.Nodup
      rw [List.pairwise_map]
      refine List.Pairwise.imp ?_ hn
      intro a b hab h
      exact hab (Nat.eq_of_mul_eq_mul_right (Nat.pow_pos hp.pos) h)
    · intro a ha b hb hab
      subst hab
      obtain ⟨j, hj, y, hy, h1⟩ := (dvE_mem e).1 ha
      obtain ⟨z, hz, h2⟩ := List.mem_map.1 hb
      obtain ⟨k, hk⟩ : ∃ k, e + 1 = j + 1 + k := ⟨e - j, by omega⟩
      have h3 : y * p ^ j = z * (p ^ (j + 1 + k)) := by rw [← hk, h2]; exact h1.symm
      have h4 : y = z * p ^ k * p := by
        apply Nat.eq_of_mul_eq_mul_right (Nat.pow_pos hp.pos (n := j))
        rw [h3, Nat.pow_add, Nat.pow_succ]
        grind
      have h5 := (hL y).1 hy
      exact hpm (Nat.dvd_trans ⟨z * p ^ k, by rw [h4, Nat.mul_comm]⟩ h5)
/-- what the list holds behind a prefix of the factorization -/
theorem dvF_spec {N : Nat} (hN : 0 < N) : ∀ (r l : List (Nat × Nat)) (L : List Nat), facs N = l ++ r → (∀ x, x ∈ L ↔ x ∣ natL l) → L.Nodup → (∀ x, x ∈ dvF L r ↔ x ∣ N) ∧ (dvF L r).Nodup
  | [], l, L, hl, hL, hn => by
    have e : natL l = N := by rw [← natL_facs N hN, hl, List.append_nil]
    rw [e] at hL
    exact ⟨hL, hn⟩
  | (p, e) :: r, l, L, hl, hL, hn => by
    have hmem : (p, e) ∈ facs N := by rw [hl]; simp
    have hp : Prm p := (facs_mem hN _ hmem).1
    have hnot := facs_not hN _ hmem
    have hNe : N = natL l * (p ^ e * natL r) := by rw [← natL_facs N hN, hl, natL_append]; rfl
    have hlp : 0 < natL l := Nat.pos_of_ne_zero fun h => by rw [h, Nat.zero_mul] at hNe; omega
    have hpl : ¬ p ∣ natL l := fun h => hnot (by
      rw [hNe]
      have h1 : p * p ^ e ∣ natL l * p ^ e := Nat.mul_dvd_mul_right h _
      rw [show natL l * (p ^ e * natL r) = natL l * p ^ e * natL r by grind, show p ^ (e + 1) = p * p ^ e by rw [Nat.pow_succ, Nat.mul_comm]]
      exact Nat.dvd_trans h1 ⟨natL r, rfl⟩)
    refine dvF_spec hN r (l ++ [(p, e)]) (dvE p L e) (by rw [hl, List.append_assoc]; rfl) ?_ (dvE_nodup hp hlp hpl hL hn e)
    have e1 : natL (l ++ [(p, e)]) = natL l * p ^ e := by
      rw [natL_append]
      show natL l * (p ^ e * 1) = _
      rw [Nat.mul_one]
    rw [e1]
    exact dvE_dvd hp hlp hpl hL e
theorem dvF_facs {N : Nat} (hN : 0 < N) : (∀ x, x ∈ dvF [1] (facs N) ↔ x ∣ N) ∧ (dvF [1] (facs N)).Nodup :=
  dvF_spec hN (facs N) [] [1] rfl (fun x => by
    rw [List.mem_singleton]
    exact (Nat.dvd_one).symm) (by simp)
theorem dvF_pre {N : Nat} (hN : 0 < N) {l r : List (Nat × Nat)} (h : facs N = l ++ r) : ∀ x ∈ dvF [1] l, x ∣ natL l := by
  have hA := facs_asc1 N hN
  intro x
  have hl : 0 < natL l := by
    have hNe : N = natL l * natL r := by rw [← natL_facs N hN, h, natL_append]
    exact Nat.pos_of_ne_zero fun h => by rw [h, Nat.zero_mul] at hNe; omega
  have key : ∀ (m : List (Nat × Nat)) (L : List Nat) (k : Nat), (∀ x ∈ L, x ∣ k) → ∀ x ∈ dvF L m, x ∣ k * natL m := by
    intro m
    induction m with
    | nil => intro L k hL x hx; rw [show k * natL [] = k from Nat.mul_one k]; exact hL x hx
    | cons y m ih =>
      obtain ⟨p, e⟩ := y
      intro L k hL x hx
      have := ih (dvE p L e) (k * p ^ e) (fun x hx => by
        obtain ⟨j, hj, y, hy, rfl⟩ := (dvE_mem e).1 hx
        exact Nat.mul_dvd_mul (hL y hy) (Nat.pow_dvd_pow p hj)) x hx
      rw [Nat.mul_assoc] at this
      exact this
  intro hx
  have := key l [1] 1 (fun x hx => by rw [List.mem_singleton.1 hx]; exact Nat.dvd_refl _) x hx
  rwa [Nat.one_mul] at this
def cntF (_ e : Nat) : Int := (e : Int) + 1
theorem dvF_len : ∀ (m : List (Nat × Nat)) (L : List Nat), ((dvF L m).length : Int) = L.length * prodL cntF m
  | [], L => by simp [dvF, prodL]
  | (p, e) :: m, L => by
    rw [dvF, dvF_len m, dvE_len]
    show _ = (L.length : Int) * (((e : Int) + 1) * prodL cntF m)
    rw [Int.natCast_mul, Int.natCast_add, Int.mul_assoc]; rfl
theorem cntF_bd {p e : Nat} (hp : 2 ≤ p) (_ : 1 ≤ e) : 1 ≤ cntF p e ∧ cntF p e ≤ pwF p e := by
  unfold cntF pwF
  have h1 := lt_two_pow e
  have h2 : 2 ^ e ≤ p ^ e := Nat.pow_le_pow_left hp e
  have h3 : e + 1 ≤ p ^ e := by omega
  have h4 : ((e + 1 : Nat) : Int) ≤ ((p ^ e : Nat) : Int) := Int.ofNat_le.2 h3
  rw [Int.natCast_pow, Int.natCast_add] at h4
  exact ⟨by omega, h4⟩
theorem cnt_bd {N : Nat} (hN : 0 < N) {l r : List (Nat × Nat)} (h : facs N = l ++ r) : 1 ≤ prodL cntF l ∧ prodL cntF l ≤ N := part_bd (fun _ _ => cntF_bd) hN h
theorem dvF_length {N : Nat} (hN : 0 < N) {l r : List (Nat × Nat)} (h : facs N = l ++ r) : (dvF [1] l).length ≤ N ∧ 1 ≤ (dvF [1] l).length := by
  have h1 := dvF_len l [1]
  have h2 := cnt_bd hN h
  simp only [List.length_singleton] at h1
  omega
/-- two ascending lists of the same integers are the same -/
theorem sorted_extI : ∀ {l m : List Int}, l.Pairwise (· < ·) → m.Pairwise (· < ·) → (∀ x, x ∈ l ↔ x ∈ m) → l = m
  | [], [], _, _, _ => rfl
  | [], y :: m, _, _, h => by have := (h y).2 (List.mem_cons_self ..); cases this
  | x :: l, [], _, _, h => by have := (h x).1 (List.mem_cons_self ..); cases this
  | x :: l, y :: m, hl, hm, h => by
    rw [List.pairwise_cons] at hl hm
    have e : x = y := by
      rcases List.mem_cons.1 ((h x).1 (List.mem_cons_self ..)) with h1 | h1
      · exact h1
      · rcases List.mem_cons.1 ((h y).2 (List.mem_cons_self ..)) with h2 | h2
        · exact h2.symm
        · have := hm.1 _ h1; have := hl.1 _ h2; omega
    subst e
    congr 1
    refine sorted_extI hl.2 hm.2 fun z => ⟨fun hz => ?_, fun hz => ?_⟩
    · rcases List.mem_cons.1 ((h z).1 (List.mem_cons_of_mem _ hz)) with h1 | h1
      · have := hl.1 _ hz; omega
      · exact h1
    · rcases List.mem_cons.1 ((h z).2 (List.mem_cons_of_mem _ hz)) with h1 | h1
      · have := hm.1 _ hz; omega
      · exact h1
def castL (l : List Nat) : List Int := l.map fun (x : Nat) => (x : Int)
theorem sort_dvs {N : Nat} (hN : 0 < N) {D : List Nat} (hD : ∀ x, x ∈ D ↔ x ∣ N) (hn : D.Nodup) : (castL D).mergeSort (fun x y => decide (x ≤ y)) = castL (dvs N) := by
  have hperm := List.mergeSort_perm (castL D) (fun x y => decide (x ≤ y))
  have hsort : ((castL D).mergeSort (fun x y => decide (x ≤ y))).Pairwise (fun x y => decide (x ≤ y) = true) :=
    List.pairwise_mergeSort (fun a b c h1 h2 => by rw [decide_eq_true_iff] at *; omega) (fun a b => by rw [Bool.or_eq_true, decide_eq_true_iff, decide_eq_true_iff]; omega) _
  have hnd : (castL D).Nodup := by
    unfold castL List.Nodup
    rw [List.pairwise_map]
    refine List.Pairwise.imp ?_ hn
    intro a b hab h
    exact hab (by omega)
  have hnd2 : ((castL D).mergeSort (fun x y => decide (x ≤ y))).Nodup := hperm.nodup_iff.2 hnd
  refine sorted_extI ?_ ?_ ?_
  · refine (hsort.and hnd2).imp ?_
    rintro a b ⟨h1, h2⟩
    rw [decide_eq_true_iff] at h1
    omega
  · unfold castL
    rw [List.pairwise_map]
    refine (dvs_sorted N).imp ?_
    intro a b h
    omega
  · intro x
    rw [hperm.mem_iff]
    unfold castL
    rw [List.mem_map, List.mem_map]
    constructor
    · rintro ⟨y, hy, rfl⟩; exact ⟨y, (dvs_mem hN).2 ((hD y).1 hy), rfl⟩
    · rintro ⟨y, hy, rfl⟩; exact ⟨y, (hD y).2 ((dvs_mem hN).1 hy), rfl⟩
end HP

/-! Plain: digits to the base 2^32. -/
namespace HP

def W32 : Nat := 4294967296
theorem w32_eq : W32 = 4294967296 := rfl
theorem w32_mono {m n : Nat} (h : m ≤ n) : W32 ^ m ≤ W32 ^ n := Nat.pow_le_pow_right (by decide) h
theorem w32_pos (n : Nat) : 0 < W32 ^ n := Nat.pow_pos (by decide)
/-- the value of the first n digits -/
def valF (F : Nat → Nat) : Nat → Nat
  | 0 => 0
  | n + 1 => valF F n + F n * W32 ^ n
theorem valF_ext {F G : Nat → Nat} : ∀ n, (∀ i, i < n → F i = G i) → valF F n = valF G n
  | 0, _ => rfl
  | n + 1, h => by rw [valF, valF, valF_ext n (fun i hi => h i (by omega)), h n (by omega)]
theorem valF_lt {F : Nat → Nat} : ∀ n, (∀ i, i < n → F i < W32) → valF F n < W32 ^ n
  | 0, _ => by simp [valF]
  | n + 1, h => by
    have h1 := valF_lt n (fun i hi => h i (by omega))
    have h2 : F n + 1 ≤ W32 := h n (by omega)
    have h3 : (F n + 1) * W32 ^ n ≤ W32 * W32 ^ n := Nat.mul_le_mul_right _ h2
    rw [Nat.add_mul, Nat.one_mul] at h3
    rw [valF, Nat.pow_succ, Nat.mul_comm (W32 ^ n)]
    omega
/-- digit number i of x -/
def dg (x i : Nat) : Nat := x / W32 ^ i % W32
theorem dg_lt (x i : Nat) : dg x i < W32 := Nat.mod_lt _ (by decide)
theorem valF_dg (x : Nat) : ∀ n, valF (dg x) n = x % W32 ^ n
  | 0 => by simp [valF, Nat.mod_one]
  | n + 1 => by
    rw [valF, valF_dg x n, Nat.pow_succ, Nat.mod_mul, dg, Nat.mul_comm (x / W32 ^ n % W32)]
theorem valF_dg' {x n : Nat} (h : x < W32 ^ n) : valF (dg x) n = x := by rw [valF_dg, Nat.mod_eq_of_lt h]
theorem dg_valF {F : Nat → Nat} : ∀ (n i : Nat), (∀ i, i < n → F i < W32) → i < n → dg (valF F n) i = F i
  | 0, _, _, h => absurd h (Nat.not_lt_zero _)
  | n + 1, i, hF, hi => by
    have hlt := valF_lt n (fun i hi => hF i (by omega))
    by_cases h : i = n
    · subst h
      unfold dg
      rw [valF, Nat.add_mul_div_right _ _ (w32_pos i), Nat.div_eq_of_lt hlt, Nat.zero_add, Nat.mod_eq_of_lt (hF i (by omega))]
    · have ih := dg_valF n i (fun i hi => hF i (by omega)) (by omega)
      unfold dg at ih ⊢
      rw [valF]
      obtain ⟨k, hk⟩ : ∃ k, n = i + 1 + k := ⟨n - i - 1, by omega⟩
      have e : F n * W32 ^ n = F n * W32 ^ k * W32 * W32 ^ i := by
        rw [hk, Nat.pow_add, Nat.pow_succ]; grind
      rw [e, Nat.add_mul_div_right _ _ (w32_pos i), Nat.add_mul_mod_self_right]
      exact ih
/-- n is the number of digits of x -/
def Len (x n : Nat) : Prop := x < W32 ^ n ∧ (n = 0 ∨ W32 ^ (n - 1) ≤ x)
theorem Len.unique {x m n : Nat} (h : Len x m) (g : Len x n) : m = n := by
  have key : ∀ {a b : Nat}, Len x a → Len x b → ¬ a < b := fun {a b} ha hb hab => by
    rcases hb.2 with h0 | h0
    · omega
    · have h1 : W32 ^ a ≤ W32 ^ (b - 1) := Nat.pow_le_pow_right (by decide) (by omega)
      have := ha.1
      omega
  have := key h g
  have := key g h
  omega
theorem Len.le {x n k : Nat} (h : Len x n) (hx : x < W32 ^ k) : n ≤ k := by
  rcases h.2 with h0 | h0
  · omega
  · apply Nat.le_of_not_lt
    intro h1
    have h2 : W32 ^ k ≤ W32 ^ (n - 1) := Nat.pow_le_pow_right (by decide) (by omega)
    omega
theorem len_zero : Len 0 0 := ⟨by simp, .inl rfl⟩
theorem Len.zero_iff {x n : Nat} (h : Len x n) : n = 0 ↔ x = 0 := by
  constructor
  · intro h0
    have := h.1
    rw [h0, Nat.pow_zero] at this
    omega
  · intro h0
    rcases h.2 with h1 | h1
    · exact h1
    · have := w32_pos (n - 1)
      omega
theorem len_one {x : Nat} (h0 : x ≠ 0) (h : x < W32) : Len x 1 := ⟨by rw [Nat.pow_one]; exact h, .inr (by simp; omega)⟩
theorem len_two {x : Nat} (h0 : W32 ≤ x) (h : x < 18446744073709551616) : Len x 2 := ⟨by rw [show W32 ^ 2 = 18446744073709551616 by decide]; exact h, .inr (by simpa using h0)⟩
theorem dg0 (x : Nat) : dg x 0 = x % 4294967296 := by unfold dg; rw [Nat.pow_zero, Nat.div_one]; rfl
theorem dg1 {x : Nat} (h : x < 18446744073709551616) : dg x 1 = x / 4294967296 := by
  unfold dg; rw [Nat.pow_one]
  show x / 4294967296 % 4294967296 = _
  omega
/-- a set digit -/
def upd (F : Nat → Nat) (k d : Nat) : Nat → Nat := fun i => if i = k then d else F i
theorem upd_at (F : Nat → Nat) (k d : Nat) : upd F k d k = d := by unfold upd; rw [if_pos rfl]
theorem upd_ne (F : Nat → Nat) {k i : Nat} (d : Nat) (h : i ≠ k) : upd F k d i = F i := by unfold upd; rw [if_neg h]
theorem valF_upd_ge (F : Nat → Nat) {k : Nat} (d : Nat) : ∀ n, n ≤ k → valF (upd F k d) n = valF F n := fun n hn => valF_ext n fun i hi => upd_ne F d (by omega)
/-- a step of an addition with carry -/
theorem add_step {F a b : Nat → Nat} {i s c c' d : Nat} (h : valF F i + c * W32 ^ i = valF a i + valF b i) (hs : s = a i + b i + c) (hd : s = d + c' * W32) (hF : F i = d) :
    valF F (i + 1) + c' * W32 ^ (i + 1) = valF a (i + 1) + valF b (i + 1) := by
  rw [valF, valF, valF, hF, Nat.pow_succ]
  have e : a i + b i + c = d + c' * W32 := by rw [← hs, hd]
  have e2 : (a i + b i + c) * W32 ^ i = (d + c' * W32) * W32 ^ i := by rw [e]
  rw [Nat.add_mul, Nat.add_mul, Nat.add_mul] at e2
  rw [Nat.mul_comm (W32 ^ i) W32, ← Nat.mul_assoc]
  generalize W32 ^ i = P at *
  generalize c' * W32 * P = x1 at *
  generalize d * P = x2 at *
  generalize a i * P = x3 at *
  generalize b i * P = x4 at *
  generalize c * P = x5 at *
  omega
end HP

/-! Plain: school multiplication to the base 2^32. -/
namespace HP
theorem mul_digit {x y h c : Nat} (hx : x < 4294967296) (hy : y < 4294967296) (hh : h < 4294967296) (hc : c < 4294967296) : x * y ≤ 18446744065119617025 ∧ x * y + h + c < 18446744073709551616 ∧ (x * y + h + c) / 4294967296 < 4294967296 := by
  have h1 : x * y ≤ 4294967295 * 4294967295 := Nat.mul_le_mul (by omega) (by omega)
  refine ⟨by omega, by omega, ?_⟩
  apply Nat.div_lt_of_lt_mul
  omega
/-- what the inner rounds keep: H is the row, H0 the row at their start -/
def MulI (H H0 G : Nat → Nat) (x c i j : Nat) : Prop :=
  (∀ k, i + j ≤ k → H k = H0 k) ∧ (∀ k, H k < W32) ∧ c < W32 ∧ valF H (i + j) + c * W32 ^ (i + j) = valF H0 (i + j) + x * valF G j * W32 ^ i
theorem mulI_start {H0 G : Nat → Nat} {x i : Nat} (h : ∀ k, H0 k < W32) : MulI H0 H0 G x 0 i 0 :=
  ⟨fun _ _ => rfl, h, by decide, by simp [valF]⟩
theorem mulI_step {H H0 G : Nat → Nat} {x c i j t : Nat} (h : MulI H H0 G x c i j) (hx : x < W32) (hG : G j < W32) (ht : t = x * G j + H (i + j) + c) : MulI (upd H (i + j) (t % 4294967296)) H0 G x (t / 4294967296) i (j + 1) := by
  obtain ⟨h1, h2, h3, h4⟩ := h
  have hb := mul_digit hx hG (h2 (i + j)) h3
  refine ⟨fun k hk => ?_, fun k => ?_, ?_, ?_⟩
  · rw [upd_ne _ _ (by omega)]; exact h1 k (by omega)
  · by_cases hk : k = i + j
    · subst hk; rw [upd_at]; exact Nat.mod_lt _ (by decide)
    · rw [upd_ne _ _ hk]; exact h2 k
  · rw [ht]; exact hb.2.2
  · have e0 : i + (j + 1) = (i + j) + 1 := by omega
    rw [e0, valF, valF, valF_upd_ge _ _ _ (Nat.le_refl (i + j)), upd_at, ← h1 (i + j) (Nat.le_refl _), valF, Nat.pow_succ]
    have e1 : t = t % 4294967296 + t / 4294967296 * W32 := by rw [w32_eq]; omega
    have e2 : x * G j + H (i + j) + c = t % 4294967296 + t / 4294967296 * W32 := by rw [← ht]; exact e1
    have e3 : (x * G j + H (i + j) + c) * W32 ^ (i + j) = (t % 4294967296 + t / 4294967296 * W32) * W32 ^ (i + j) := by rw [e2]
    have e4 : x * (valF G j + G j * W32 ^ j) * W32 ^ i = x * valF G j * W32 ^ i + x * G j * W32 ^ (i + j) := by
      rw [Nat.mul_add, Nat.add_mul, Nat.pow_add, Nat.mul_comm (W32 ^ i) (W32 ^ j), ← Nat.mul_assoc, ← Nat.mul_assoc]
    rw [e4]
    rw [Nat.add_mul, Nat.add_mul, Nat.add_mul] at e3
    rw [Nat.mul_comm (W32 ^ (i + j)) W32, ← Nat.mul_assoc]
    generalize W32 ^ (i + j) = P at *
    generalize t / 4294967296 * W32 * P = x1 at *
    generalize t % 4294967296 * P = x2 at *
    generalize x * G j * P = x3 at *
    generalize H (i + j) * P = x4 at *
    generalize c * P = x5 at *
    generalize x * valF G j * W32 ^ i = x6 at *
    omega
/-- what the outer rounds keep -/
def MulO (H F G : Nat → Nat) (i m : Nat) : Prop := (∀ k, H k < W32) ∧ valF H (i + m) = valF F i * valF G m
theorem mulO_start (F G : Nat → Nat) (m : Nat) : MulO (fun _ => 0) F G 0 m := by
  refine ⟨fun _ => (by decide : 0 < W32), ?_⟩
  rw [Nat.zero_add]
  show valF (fun _ => 0) m = 0 * _
  rw [Nat.zero_mul]
  have : ∀ n, valF (fun _ => 0) n = 0 := by
    intro n
    induction n with
    | zero => rfl
    | succ n ih => rw [valF, ih]; simp
  exact this m
theorem mulO_step {H H0 F G : Nat → Nat} {c i m : Nat} (h0 : MulO H0 F G i m) (h : MulI H H0 G (F i) c i m) : MulO (upd H (i + m) c) F G (i + 1) m := by
  obtain ⟨h1, h2, h3, h4⟩ := h
  refine ⟨fun k => ?_, ?_⟩
  · by_cases hk : k = i + m
    · subst hk; rw [upd_at]; exact h3
    · rw [upd_ne _ _ hk]; exact h2 k
  · rw [show i + 1 + m = (i + m) + 1 by omega, valF, valF_upd_ge _ _ _ (Nat.le_refl (i + m)), upd_at, h4, h0.2, valF, Nat.add_mul]
    congr 1
    rw [Nat.mul_right_comm]
end HP
