/-! Plain number theory, first part: folds over ranges, permutations, primes, Gauss's lemma, quadratic reciprocity for primes. -/
namespace HP

/-! folds over 0 .. n-1 -/
def bigN {α : Type} (op : α → α → α) (e : α) (f : Nat → α) : Nat → α
  | 0 => e
  | n + 1 => op (bigN op e f n) (f n)

theorem bigN_congr {α : Type} (op : α → α → α) (e : α) (f g : Nat → α) : ∀ n, (∀ i, i < n → f i = g i) → bigN op e f n = bigN op e g n
  | 0, _ => rfl
  | n + 1, h => by
    show op _ _ = op _ _
    rw [bigN_congr op e f g n (fun i hi => h i (by omega)), h n (by omega)]

theorem inj_surj : ∀ (n : Nat) (s : Nat → Nat), (∀ i, i < n → s i < n) → (∀ i j, i < n → j < n → s i = s j → i = j) →
    ∀ y, y < n → ∃ x, x < n ∧ s x = y
  | 0, _, _, _, y, hy => by omega
  | n + 1, s, hm, hi, y, hy => by
    have hm' : ∀ i, i < n → (if s i = n then s n else s i) < n := by
      intro i h
      have h1 := hm i (by omega)
      have h2 := hm n (by omega)
      split
      · next he =>
        have : s n ≠ n := fun hn => by have := hi i n (by omega) (by omega) (by omega); omega
        omega
      · omega
    have hi' : ∀ i j, i < n → j < n → (if s i = n then s n else s i) = (if s j = n then s n else s j) → i = j := by
      intro i j h1 h2 h3
      split at h3 <;> split at h3
      · exact hi i j (by omega) (by omega) (by omega)
      · have := hi n j (by omega) (by omega) h3; omega
      · have := hi i n (by omega) (by omega) h3; omega
      · exact hi i j (by omega) (by omega) h3
    have ih := inj_surj n (fun i => if s i = n then s n else s i) hm' hi'
    by_cases hyn : y = n
    · by_cases hn : s n = n
      · exact ⟨n, by omega, by omega⟩
      · have h1 := hm n (by omega)
        obtain ⟨x, hx, hx2⟩ := ih (s n) (by omega)
        by_cases hxn : s x = n
        · exact ⟨x, by omega, by omega⟩
        · simp only [hxn, if_false] at hx2
          have := hi x n (by omega) (by omega) hx2
          omega
    · obtain ⟨x, hx, hx2⟩ := ih y (by omega)
      by_cases hxn : s x = n
      · simp only [hxn, if_true] at hx2
        exact ⟨n, by omega, hx2⟩
      · simp only [hxn, if_false] at hx2
        exact ⟨x, by omega, hx2⟩

section
variable {α : Type} (op : α → α → α) (e : α) [hA : Std.Associative op] [hC : Std.Commutative op]

theorem bigN_update (g h : Nat → α) (x : Nat) : ∀ n, x < n → (∀ i, i < n → i ≠ x → g i = h i) → op (bigN op e g n) (h x) = op (bigN op e h n) (g x)
  | 0, hx, _ => by omega
  | n + 1, hx, hh => by
    show op (op _ _) _ = op (op _ _) _
    by_cases hxn : x = n
    · subst hxn
      rw [bigN_congr op e g h x (fun i hi => hh i (by omega) (by omega))]
      ac_rfl
    · have := bigN_update g h x n (by omega) (fun i hi => hh i (by omega))
      rw [hh n (by omega) (by omega)]
      calc op (op (bigN op e g n) (h n)) (h x) = op (op (bigN op e g n) (h x)) (h n) := by ac_rfl
        _ = op (op (bigN op e h n) (g x)) (h n) := by rw [this]
        _ = op (op (bigN op e h n) (h n)) (g x) := by ac_rfl

theorem bigN_perm (f : Nat → α) : ∀ (n : Nat) (s : Nat → Nat), (∀ i, i < n → s i < n) → (∀ i j, i < n → j < n → s i = s j → i = j) →
    bigN op e (fun i => f (s i)) n = bigN op e f n
  | 0, _, _, _ => rfl
  | n + 1, s, hm, hi => by
    by_cases hn : s n = n
    · show op _ _ = op _ _
      rw [bigN_perm f n s ?_ (fun i j h1 h2 => hi i j (by omega) (by omega))]
      · show op _ (f (s n)) = _
        rw [hn]
      intro i h
      have h1 := hm i (by omega)
      have : s i ≠ n := fun h2 => by have := hi i n (by omega) (by omega) (by omega); omega
      omega
    · have h1 := hm n (by omega)
      obtain ⟨x, hx, hxn⟩ := inj_surj (n + 1) s hm hi n (by omega)
      have hxl : x < n := by
        by_cases h : x = n
        · subst h; omega
        · omega
      have ih := bigN_perm f n (fun i => if i = x then s n else s i) ?_ ?_
      · show op (bigN op e (fun i => f (s i)) n) (f (s n)) = op (bigN op e f n) (f n)
        rw [← ih]
        have := bigN_update op e (fun i => f (s i)) (fun i => f (if i = x then s n else s i)) x n hxl (by
          intro i _ h; simp [h])
        simp only [if_true, hxn] at this
        exact this
      · intro i h
        have h1' := hm i (by omega)
        show (if i = x then s n else s i) < n
        split
        · omega
        · have : s i ≠ n := fun h2 => by have := hi i x (by omega) (by omega) (by omega); omega
          omega
      · intro i j h2 h3 h4
        change (if i = x then s n else s i) = (if j = x then s n else s j) at h4
        split at h4 <;> split at h4
        · omega
        · have := hi n j (by omega) (by omega) h4; omega
        · have := hi i n (by omega) (by omega) h4; omega
        · exact hi i j (by omega) (by omega) h4

theorem bigN_op (f g : Nat → α) (he : op e e = e) : ∀ n, bigN op e (fun i => op (f i) (g i)) n = op (bigN op e f n) (bigN op e g n)
  | 0 => he.symm
  | n + 1 => by
    show op _ (op (f n) (g n)) = op (op _ _) (op _ _)
    rw [bigN_op f g he n]
    ac_rfl

omit hA hC in
theorem bigN_const (he : op e e = e) : ∀ n, bigN op e (fun _ => e) n = e
  | 0 => rfl
  | n + 1 => by
    show op _ _ = _
    rw [bigN_const he n, he]

theorem bigN_swap (f : Nat → Nat → α) (he : op e e = e) (m : Nat) : ∀ n, bigN op e (fun i => bigN op e (fun j => f i j) m) n = bigN op e (fun j => bigN op e (fun i => f i j) n) m
  | 0 => (bigN_const op e he m).symm
  | n + 1 => by
    show op _ _ = _
    rw [bigN_swap f he m n, ← bigN_op op e _ _ he m]
    rfl
end

def prodN (f : Nat → Int) (n : Nat) : Int := bigN (· * ·) 1 f n
def sumN (f : Nat → Nat) (n : Nat) : Nat := bigN (· + ·) 0 f n
theorem prodN_zero (f) : prodN f 0 = 1 := rfl
theorem prodN_succ (f) (n) : prodN f (n + 1) = prodN f n * f n := rfl
theorem sumN_zero (f) : sumN f 0 = 0 := rfl
theorem sumN_succ (f) (n) : sumN f (n + 1) = sumN f n + f n := rfl
theorem sumN_congr (f g) (n) (h : ∀ i, i < n → f i = g i) : sumN f n = sumN g n := bigN_congr _ _ _ _ _ h
theorem prodN_congr (f g) (n) (h : ∀ i, i < n → f i = g i) : prodN f n = prodN g n := bigN_congr _ _ _ _ _ h
theorem prodN_perm (f) (n) (s : Nat → Nat) (hm : ∀ i, i < n → s i < n) (hi : ∀ i j, i < n → j < n → s i = s j → i = j) : prodN (fun i => f (s i)) n = prodN f n := bigN_perm _ _ f n s hm hi
theorem sumN_perm (f) (n) (s : Nat → Nat) (hm : ∀ i, i < n → s i < n) (hi : ∀ i j, i < n → j < n → s i = s j → i = j) : sumN (fun i => f (s i)) n = sumN f n := bigN_perm _ _ f n s hm hi
theorem prodN_mul (f g) (n) : prodN (fun i => f i * g i) n = prodN f n * prodN g n := bigN_op _ _ f g (by simp) n
theorem sumN_add (f g) (n) : sumN (fun i => f i + g i) n = sumN f n + sumN g n := bigN_op _ _ f g (by simp) n
theorem sumN_swap (f : Nat → Nat → Nat) (m n) : sumN (fun i => sumN (fun j => f i j) m) n = sumN (fun j => sumN (fun i => f i j) n) m := bigN_swap _ _ f (by simp) m n
theorem prodN_const (a : Int) : ∀ n, prodN (fun _ => a) n = a ^ n
  | 0 => by rw [prodN_zero, Int.pow_zero]
  | n + 1 => by rw [prodN_succ, prodN_const a n, Int.pow_succ]
theorem sumN_const (a : Nat) : ∀ n, sumN (fun _ => a) n = n * a
  | 0 => by simp [sumN_zero]
  | n + 1 => by rw [sumN_succ, sumN_const a n, Nat.add_mul, Nat.one_mul]

/-! congruences -/
def Cong (n a b : Int) : Prop := n ∣ a - b
theorem Cong.refl (n a : Int) : Cong n a a := ⟨0, by omega⟩
theorem Cong.symm {n a b : Int} : Cong n a b → Cong n b a := fun ⟨k, h⟩ => ⟨-k, by grind⟩
theorem Cong.trans {n a b c : Int} : Cong n a b → Cong n b c → Cong n a c := fun ⟨k, h⟩ ⟨l, g⟩ => ⟨k + l, by grind⟩
theorem Cong.add {n a b c d : Int} : Cong n a b → Cong n c d → Cong n (a + c) (b + d) := fun ⟨k, h⟩ ⟨l, g⟩ => ⟨k + l, by grind⟩
theorem Cong.sub {n a b c d : Int} : Cong n a b → Cong n c d → Cong n (a - c) (b - d) := fun ⟨k, h⟩ ⟨l, g⟩ => ⟨k - l, by grind⟩
theorem Cong.neg {n a b : Int} : Cong n a b → Cong n (-a) (-b) := fun ⟨k, h⟩ => ⟨-k, by grind⟩
theorem Cong.mul {n a b c d : Int} : Cong n a b → Cong n c d → Cong n (a * c) (b * d) := fun ⟨k, h⟩ ⟨l, g⟩ => ⟨k * c + b * l, by grind⟩
theorem Cong.pow {n a b : Int} (h : Cong n a b) : ∀ k : Nat, Cong n (a ^ k) (b ^ k)
  | 0 => by rw [Int.pow_zero, Int.pow_zero]; exact Cong.refl _ _
  | k + 1 => by rw [Int.pow_succ, Int.pow_succ]; exact (Cong.pow h k).mul h
theorem Cong.emod (n a : Int) : Cong n (a % n) a := ⟨-(a / n), by have := Int.mul_ediv_add_emod a n; grind⟩
theorem Cong.emod_eq {n a b : Int} (h : Cong n a b) : a % n = b % n := Int.emod_eq_emod_iff_emod_sub_eq_zero.2 (Int.emod_eq_zero_of_dvd h)
theorem Cong.of_emod {n a b : Int} (h : a % n = b % n) : Cong n a b := (Cong.emod n a).symm.trans (h ▸ Cong.emod n b)
theorem Cong.prod {n : Int} {f g : Nat → Int} : ∀ m, (∀ i, i < m → Cong n (f i) (g i)) → Cong n (prodN f m) (prodN g m)
  | 0, _ => Cong.refl _ _
  | m + 1, h => (Cong.prod m (fun i hi => h i (by omega))).mul (h m (by omega))
theorem Cong.dvd {m n a b : Int} (hd : m ∣ n) (h : Cong n a b) : Cong m a b := Int.dvd_trans hd h

/-! primes -/
def Prm (p : Nat) : Prop := 2 ≤ p ∧ ∀ d, d ∣ p → d = 1 ∨ d = p
theorem Prm.two_le {p : Nat} (h : Prm p) : 2 ≤ p := h.1
theorem Prm.pos {p : Nat} (h : Prm p) : 0 < p := by have := h.1; omega
theorem Prm.coprime {p : Nat} (h : Prm p) {a : Nat} (ha : ¬ p ∣ a) : Nat.Coprime p a := by
  rcases h.2 _ (Nat.gcd_dvd_left p a) with h1 | h1
  · exact h1
  · exact absurd (h1 ▸ Nat.gcd_dvd_right p a) ha
theorem Prm.dvd_mul {p : Nat} (h : Prm p) {a b : Nat} (hd : p ∣ a * b) : p ∣ a ∨ p ∣ b := by
  by_cases ha : p ∣ a
  · exact .inl ha
  · exact .inr ((h.coprime ha).dvd_of_dvd_mul_left hd)
theorem Prm.dvd_mulI {p : Nat} (h : Prm p) {a b : Int} (hd : (p : Int) ∣ a * b) : (p : Int) ∣ a ∨ (p : Int) ∣ b := by
  rw [Int.ofNat_dvd_left, Int.natAbs_mul] at hd
  rw [Int.ofNat_dvd_left, Int.ofNat_dvd_left]
  exact h.dvd_mul hd
theorem Prm.not_dvd_one {p : Nat} (h : Prm p) : ¬ p ∣ 1 := fun hd => by have := Nat.le_of_dvd (by omega) hd; have := h.1; omega
theorem Prm.dvd_pow {p : Nat} (h : Prm p) {a : Int} : ∀ {k : Nat}, (p : Int) ∣ a ^ k → (p : Int) ∣ a
  | 0, hd => by
    rw [Int.pow_zero, Int.ofNat_dvd_left] at hd
    exact absurd hd h.not_dvd_one
  | k + 1, hd => by
    rw [Int.pow_succ] at hd
    rcases h.dvd_mulI hd with h1 | h1
    · exact h.dvd_pow h1
    · exact h1
theorem Prm.odd {p : Nat} (h : Prm p) (h2 : p ≠ 2) : p % 2 = 1 := by
  have : ¬ 2 ∣ p := fun hd => by rcases h.2 2 hd with h1 | h1 <;> omega
  omega
theorem Prm.eq_of_dvd {p q : Nat} (h : Prm p) (hq : Prm q) (hd : p ∣ q) : p = q := by
  rcases hq.2 p hd with h1 | h1
  · have := h.1; omega
  · exact h1

theorem Cong.cancel {p : Nat} (hp : Prm p) {a b c : Int} (hc : ¬ (p : Int) ∣ c) (h : Cong p (a * c) (b * c)) : Cong p a b := by
  have : (p : Int) ∣ (a - b) * c := by obtain ⟨k, hk⟩ := h; exact ⟨k, by grind⟩
  rcases hp.dvd_mulI this with h1 | h1
  · exact h1
  · exact absurd h1 hc

/-! signs -/
def sg (n : Nat) : Int := if n % 2 = 0 then 1 else -1
theorem sg_add (m n : Nat) : sg (m + n) = sg m * sg n := by
  unfold sg
  rcases Nat.mod_two_eq_zero_or_one m with h | h <;> rcases Nat.mod_two_eq_zero_or_one n with g | g <;> simp [Nat.add_mod, h, g]
theorem sg_sq (n : Nat) : sg n * sg n = 1 := by unfold sg; split <;> rfl
theorem sg_congr {m n : Nat} (h : m % 2 = n % 2) : sg m = sg n := by unfold sg; rw [h]
theorem sg_cases (n : Nat) : sg n = 1 ∨ sg n = -1 := by unfold sg; split <;> simp
theorem sg_pow (n : Nat) : (-1 : Int) ^ n = sg n := by
  induction n with
  | zero => rfl
  | succ n ih => rw [Int.pow_succ, ih, sg_add]; rfl
theorem prodN_sg (f : Nat → Nat) : ∀ n, prodN (fun i => sg (f i)) n = sg (sumN f n)
  | 0 => rfl
  | n + 1 => by rw [prodN_succ, prodN_sg f n, sumN_succ, sg_add]

/-! Gauss's lemma -/
section gauss
variable (p P a : Nat)
/-- residue of a times i+1 -/
def gr (i : Nat) : Nat := (a * (i + 1)) % p
def gp (i : Nat) : Nat := (if gr p a i ≤ P then gr p a i else p - gr p a i) - 1
def ge (i : Nat) : Int := if gr p a i ≤ P then 1 else -1

variable {p P a}
theorem not_dvd_small {p : Nat} {i : Nat} (h0 : 0 < i) (h : i < p) : ¬ p ∣ i := fun hd => by
  have := Nat.le_of_dvd h0 hd; omega
theorem gr_pos (hp : Prm p) (hP : p = 2 * P + 1) (ha : ¬ p ∣ a) {i : Nat} (hi : i < P) : 0 < gr p a i ∧ gr p a i < p := by
  unfold gr
  have h1 := Nat.mod_lt (a * (i + 1)) hp.pos
  refine ⟨?_, h1⟩
  rcases Nat.eq_zero_or_pos (a * (i + 1) % p) with h | h
  · rcases hp.dvd_mul (Nat.dvd_of_mod_eq_zero h) with h2 | h2
    · exact absurd h2 ha
    · exact absurd h2 (not_dvd_small (by omega) (by omega))
  · exact h
theorem gp_cong (hp : Prm p) (hP : p = 2 * P + 1) (ha : ¬ p ∣ a) {i : Nat} (hi : i < P) : Cong p ((a : Int) * (i + 1)) (ge p P a i * ((gp p P a i : Nat) + 1 : Int)) := by
  obtain ⟨h1, h2⟩ := gr_pos hp hP ha hi
  have h3 : Cong p ((a : Int) * (i + 1)) (gr p a i : Nat) := by
    unfold gr
    have := (Cong.emod p ((a : Int) * (i + 1))).symm
    simpa using this
  unfold ge gp
  by_cases hle : gr p a i ≤ P
  · rw [if_pos hle, if_pos hle]
    have : (1 : Int) * (((gr p a i - 1 : Nat) : Int) + 1) = (gr p a i : Nat) := by omega
    rw [this]; exact h3
  · rw [if_neg hle, if_neg hle]
    refine h3.trans ⟨1, ?_⟩
    have : (((p - gr p a i - 1 : Nat) : Int) + 1) = (p : Int) - (gr p a i : Nat) := by omega
    rw [this]; omega
theorem gp_lt (hp : Prm p) (hP : p = 2 * P + 1) (ha : ¬ p ∣ a) {i : Nat} (hi : i < P) : gp p P a i < P := by
  obtain ⟨h1, h2⟩ := gr_pos hp hP ha hi
  unfold gp
  split <;> omega
theorem ge_cases (i : Nat) : ge p P a i = 1 ∨ ge p P a i = -1 := by unfold ge; split <;> simp
theorem gp_inj (hp : Prm p) (hP : p = 2 * P + 1) (ha : ¬ p ∣ a) {i j : Nat} (hi : i < P) (hj : j < P) (h : gp p P a i = gp p P a j) : i = j := by
  have h1 := gp_cong hp hP ha hi
  have h2 := gp_cong hp hP ha hj
  rw [h] at h1
  have hna : ¬ (p : Int) ∣ (a : Int) := by rw [Int.natCast_dvd_natCast]; exact ha
  have key : Cong p ((a : Int) * (i + 1)) ((a : Int) * (j + 1)) ∨ Cong p ((a : Int) * (i + 1)) (-((a : Int) * (j + 1))) := by
    rcases ge_cases (p := p) (P := P) (a := a) i with e1 | e1 <;> rcases ge_cases (p := p) (P := P) (a := a) j with e2 | e2 <;> rw [e1] at h1 <;> rw [e2] at h2
    · exact .inl (h1.trans h2.symm)
    · refine .inr (h1.trans ?_)
      have := h2.symm.neg
      refine Cong.trans ?_ this
      have e : -(-1 * ((gp p P a j : Nat) + 1 : Int)) = 1 * ((gp p P a j : Nat) + 1 : Int) := by omega
      rw [e]; exact Cong.refl _ _
    · refine .inr (h1.trans ?_)
      have := h2.symm.neg
      refine Cong.trans ?_ this
      have e : -(1 * ((gp p P a j : Nat) + 1 : Int)) = -1 * ((gp p P a j : Nat) + 1 : Int) := by omega
      rw [e]; exact Cong.refl _ _
    · exact .inl (h1.trans h2.symm)
  rcases key with ⟨k, hk⟩ | ⟨k, hk⟩
  · have : (p : Int) ∣ (a : Int) * ((i : Int) - j) := ⟨k, by grind⟩
    rcases hp.dvd_mulI this with h3 | h3
    · exact absurd h3 hna
    · obtain ⟨l, hl⟩ := h3
      have hl0 : l = 0 := by
        rcases Int.lt_trichotomy l 0 with h4 | h4 | h4
        · have : (p : Int) * l ≤ p * (-1) := Int.mul_le_mul_of_nonneg_left (by omega) (by omega)
          omega
        · exact h4
        · have : (p : Int) * 1 ≤ p * l := Int.mul_le_mul_of_nonneg_left (by omega) (by omega)
          omega
      subst hl0; omega
  · have : (p : Int) ∣ (a : Int) * ((i : Int) + j + 2) := ⟨k, by grind⟩
    rcases hp.dvd_mulI this with h3 | h3
    · exact absurd h3 hna
    · have h3' : p ∣ i + j + 2 := by
        rw [← Int.natCast_dvd_natCast]; simpa using h3
      exact absurd h3' (not_dvd_small (by omega) (by omega))

theorem fact_not_dvd (hp : Prm p) : ∀ n, n < p → ¬ (p : Int) ∣ prodN (fun i => (i : Int) + 1) n
  | 0, _, hd => by
    rw [prodN_zero] at hd
    have : p ∣ 1 := by rw [← Int.natCast_dvd_natCast]; exact hd
    exact hp.not_dvd_one this
  | n + 1, h, hd => by
    rw [prodN_succ] at hd
    rcases hp.dvd_mulI hd with h1 | h1
    · exact fact_not_dvd hp n (by omega) h1
    · have : p ∣ n + 1 := by rw [← Int.natCast_dvd_natCast]; exact h1
      exact not_dvd_small (by omega) h this

theorem gauss (hp : Prm p) (hP : p = 2 * P + 1) (ha : ¬ p ∣ a) : Cong p ((a : Int) ^ P) (prodN (ge p P a) P) := by
  have h1 : Cong p (prodN (fun i => (a : Int) * (i + 1)) P) (prodN (fun i => ge p P a i * ((gp p P a i : Nat) + 1 : Int)) P) :=
    Cong.prod P (fun i hi => gp_cong hp hP ha hi)
  rw [prodN_mul, prodN_mul, prodN_const] at h1
  rw [prodN_perm (fun i => (i : Int) + 1) P (gp p P a) (fun i hi => gp_lt hp hP ha hi) (fun i j hi hj h => gp_inj hp hP ha hi hj h)] at h1
  exact Cong.cancel hp (fact_not_dvd hp P (by omega)) h1

/-- the sign of Gauss's lemma is the parity of 2 a (i + 1) / p -/
theorem ge_floor (hp : Prm p) (hP : p = 2 * P + 1) (ha : ¬ p ∣ a) {i : Nat} (hi : i < P) : ge p P a i = sg (2 * a * (i + 1) / p) := by
  obtain ⟨h1, h2⟩ := gr_pos hp hP ha hi
  have hd := Nat.div_add_mod (a * (i + 1)) p
  have hq : 2 * a * (i + 1) / p = 2 * (a * (i + 1) / p) + (if gr p a i ≤ P then 0 else 1) := by
    have hr : gr p a i = a * (i + 1) % p := rfl
    generalize hx : a * (i + 1) = x at *
    have e : 2 * a * (i + 1) = 2 * x := by rw [Nat.mul_assoc, hx]
    rw [e]
    generalize x / p = q at *
    have e2 : 2 * x = p * (2 * q) + 2 * (x % p) := by
      have : p * (2 * q) = 2 * (p * q) := by rw [← Nat.mul_assoc, Nat.mul_comm p 2, Nat.mul_assoc]
      omega
    rw [e2, Nat.mul_add_div hp.pos, hr]
    split
    · rw [Nat.div_eq_of_lt (by omega)]
    · have : 2 * (x % p) / p = 1 := by
        apply Nat.div_eq_of_lt_le <;> omega
      rw [this]
  rw [hq, sg_add]
  have : sg (2 * (a * (i + 1) / p)) = 1 := by unfold sg; simp
  rw [this]
  unfold ge
  split <;> rfl

theorem gauss_floor (hp : Prm p) (hP : p = 2 * P + 1) (ha : ¬ p ∣ a) : Cong p ((a : Int) ^ P) (sg (sumN (fun i => 2 * a * (i + 1) / p) P)) := by
  have := gauss hp hP ha
  rw [prodN_congr _ (fun i => sg (2 * a * (i + 1) / p)) P (fun i hi => ge_floor hp hP ha hi), prodN_sg] at this
  exact this
end gauss

/-! reciprocity for odd primes -/
def tri (P : Nat) : Nat := sumN (fun i => i + 1) P

theorem half_pow {p P q : Nat} (hp : Prm p) (hP : p = 2 * P + 1) (hq : q % 2 = 1) (hd : ¬ p ∣ q) :
    Cong p ((q : Int) ^ P) (2 ^ P * sg (sumN (fun i => q * (i + 1) / p) P + tri P)) := by
  obtain ⟨h, hh⟩ : ∃ h, p + q = 2 * h := ⟨(p + q) / 2, by omega⟩
  have hdh : ¬ p ∣ h := fun hx => by
    apply hd
    have : p ∣ p + q := by rw [hh]; exact Nat.dvd_trans hx ⟨2, by omega⟩
    exact (Nat.dvd_add_right (Nat.dvd_refl p)).1 this
  have g := gauss_floor hp hP hdh
  have e : sumN (fun i => 2 * h * (i + 1) / p) P = sumN (fun i => q * (i + 1) / p) P + tri P := by
    unfold tri
    rw [← sumN_add]
    apply sumN_congr
    intro i _
    rw [← hh, Nat.add_mul, Nat.mul_add_div hp.pos]
    omega
  rw [e] at g
  have h2 : Cong p ((q : Int) ^ P) (((2 * h : Nat) : Int) ^ P) := by
    apply Cong.pow
    refine ⟨-1, ?_⟩
    rw [← hh]
    simp only [Int.natCast_add]
    omega
  rw [Int.natCast_mul, Int.mul_pow] at h2
  exact h2.trans ((Cong.refl _ _).mul g)

theorem two_pow {p P : Nat} (hp : Prm p) (hP : p = 2 * P + 1) : Cong p (2 ^ P) (sg (tri P)) := by
  have h := half_pow (q := 1) hp hP rfl hp.not_dvd_one
  have e : sumN (fun i => 1 * (i + 1) / p) P = 0 := by
    rw [sumN_congr _ (fun _ => 0) P, sumN_const, Nat.mul_zero]
    intro i hi
    exact Nat.div_eq_of_lt (by omega)
  rw [e, Nat.zero_add] at h
  have h1 : ((1 : Nat) : Int) ^ P = 1 := Int.one_pow
  rw [h1] at h
  have := h.mul (Cong.refl (p : Int) (sg (tri P)))
  rw [Int.mul_assoc, sg_sq, Int.one_mul, Int.mul_one] at this
  exact this.symm

theorem odd_pow {p P q : Nat} (hp : Prm p) (hP : p = 2 * P + 1) (hq : q % 2 = 1) (hd : ¬ p ∣ q) :
    Cong p ((q : Int) ^ P) (sg (sumN (fun i => q * (i + 1) / p) P)) := by
  have h := (half_pow hp hP hq hd).trans ((two_pow hp hP).mul (Cong.refl _ _))
  rw [sg_add, Int.mul_comm (sg (sumN _ _)), ← Int.mul_assoc, sg_sq, Int.one_mul] at h
  exact h

theorem count_mul (p x : Nat) (hp : 0 < p) : ∀ Q, sumN (fun j => if p * (j + 1) ≤ x then 1 else 0) Q = min Q (x / p)
  | 0 => by simp [sumN_zero]
  | Q + 1 => by
    rw [sumN_succ, count_mul p x hp Q]
    have := Nat.le_div_iff_mul_le (x := Q + 1) (y := x) hp
    rw [Nat.mul_comm] at this
    split
    · next h => have := this.2 h; omega
    · next h => have : ¬ Q + 1 ≤ x / p := fun hh => h (this.1 hh); omega

theorem lattice {p q P Q : Nat} (hP : p = 2 * P + 1) (hQ : q = 2 * Q + 1) (hc : Nat.Coprime p q) :
    sumN (fun i => q * (i + 1) / p) P + sumN (fun j => p * (j + 1) / q) Q = P * Q := by
  have a1 : sumN (fun i => q * (i + 1) / p) P = sumN (fun i => sumN (fun j => if p * (j + 1) ≤ q * (i + 1) then 1 else 0) Q) P := by
    apply sumN_congr
    intro i hi
    rw [count_mul p _ (by omega) Q]
    have : q * (i + 1) / p ≤ Q := by
      rw [← Nat.lt_succ_iff, Nat.div_lt_iff_lt_mul (by omega)]
      have h1 : q * (i + 1) ≤ q * P := Nat.mul_le_mul_left q (by omega)
      have h2 : q * P < Q.succ * p := by
        subst hP hQ
        grind
      omega
    omega
  have a2 : sumN (fun j => p * (j + 1) / q) Q = sumN (fun j => sumN (fun i => if q * (i + 1) ≤ p * (j + 1) then 1 else 0) P) Q := by
    apply sumN_congr
    intro i hi
    rw [count_mul q _ (by omega) P]
    have : p * (i + 1) / q ≤ P := by
      rw [← Nat.lt_succ_iff, Nat.div_lt_iff_lt_mul (by omega)]
      have h1 : p * (i + 1) ≤ p * Q := Nat.mul_le_mul_left p (by omega)
      have h2 : p * Q < P.succ * q := by
        subst hP hQ
        grind
      omega
    omega
  rw [a1, a2, sumN_swap (fun j i => if q * (i + 1) ≤ p * (j + 1) then 1 else 0) P Q, ← sumN_add]
  rw [sumN_congr _ (fun _ => Q) P, sumN_const]
  intro i hi
  rw [← sumN_add, sumN_congr _ (fun _ => 1) Q, sumN_const, Nat.mul_one]
  intro j hj
  have hne : p * (j + 1) ≠ q * (i + 1) := fun h => by
    have h1 : p ∣ i + 1 := hc.dvd_of_dvd_mul_left ⟨j + 1, h.symm⟩
    exact not_dvd_small (by omega) (by omega) h1
  split <;> split <;> omega

end HP
