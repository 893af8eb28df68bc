/- Texts joined: NumA, NumB, NumC, NumD, NumE, NumF, NumG, NumH, NumI, NumJ, NumK, NumL, NumM, NumO, NumP, NumQ, NumR, NumS, NumT, NumU, NumV. -/

/-! Plain number theory, first part: folds over ranges, permutations, primes, Gauss's lemma, quadratic reciprocity for primes. -/
namespace HP

/-! folds over 0 .. n-1 -/
def bigN {α : Type} (op : α → α → α) (e : α) (f : Nat → α) : Nat → α
  | 0 => e
  | n + 1 => op (bigN op e f n) (f n)

theorem bigN_congr {α : Type} (op : α → α → α) (e : α) (f g : Nat → α) : ∀ n, (∀ i, i < n → f i = g i) → bigN op e f n = bigN op e g n
  | 0, _ => rfl
  | n + 1, h => by
    show op _ _ = op _ _
    rw [bigN_congr op e f g n (fun i hi => h i (by omega)), h n (by omega)]

theorem inj_surj : ∀ (n : Nat) (s : Nat → Nat), (∀ i, i < n → s i < n) → (∀ i j, i < n → j < n → s i = s j → i = j) →
    ∀ y, y < n → ∃ x, x < n ∧ s x = y
  | 0, _, _, _, y, hy => by omega
  | n + 1, s, hm, hi, y, hy => by
    have hm' : ∀ i, i < n → (if s i = n then s n else s i) < n := by
      intro i h
      have h1 := hm i (by omega)
      have h2 := hm n (by omega)
      split
      · next he =>
        have : s n ≠ n := fun hn => by have := hi i n (by omega) (by omega) (by omega); omega
        omega
      · omega
    have hi' : ∀ i j, i < n → j < n → (if s i = n then s n else s i) = (if s j = n then s n else s j) → i = j := by
      intro i j h1 h2 h3
      split at h3 <;> split at h3
      · exact hi i j (by omega) (by omega) (by omega)
      · have := hi n j (by omega) (by omega) h3; omega
      · have := hi i n (by omega) (by omega) h3; omega
      · exact hi i j (by omega) (by omega) h3
    have ih := inj_surj n (fun i => if s i = n then s n else s i) hm' hi'
    by_cases hyn : y = n
    · by_cases hn : s n = n
      · exact ⟨n, by omega, by omega⟩
      · have h1 := hm n (by omega)
        obtain ⟨x, hx, hx2⟩ := ih (s n) (by omega)
        by_cases hxn : s x = n
        · exact ⟨x, by omega, by omega⟩
        · simp only [hxn, if_false] at hx2
          have := hi x n (by omega) (by omega) hx2
          omega
    · obtain ⟨x, hx, hx2⟩ := ih y (by omega)
      by_cases hxn : s x = n
      · simp only [hxn, if_true] at hx2
        exact ⟨n, by omega, hx2⟩
      · simp only [hxn, if_false] at hx2
        exact ⟨x, by omega, hx2⟩

section
variable {α : Type} (op : α → α → α) (e : α) [hA : Std.Associative op] [hC : Std.Commutative op]

theorem bigN_update (g h : Nat → α) (x : Nat) : ∀ n, x < n → (∀ i, i < n → i ≠ x → g i = h i) → op (bigN op e g n) (h x) = op (bigN op e h n) (g x)
  | 0, hx, _ => by omega
  | n + 1, hx, hh => by
    show op (op _ _) _ = op (op _ _) _
    by_cases hxn : x = n
    · subst hxn
      rw [bigN_congr op e g h x (fun i hi => hh i (by omega) (by omega))]
      ac_rfl
    · have := bigN_update g h x n (by omega) (fun i hi => hh i (by omega))
      rw [hh n (by omega) (by omega)]
      calc op (op (bigN op e g n) (h n)) (h x) = op (op (bigN op e g n) (h x)) (h n) := by ac_rfl
        _ = op (op (bigN op e h n) (g x)) (h n) := by rw [this]
        _ = op (op (bigN op e h n) (h n)) (g x) := by ac_rfl

theorem bigN_perm (f : Nat → α) : ∀ (n : Nat) (s : Nat → Nat), (∀ i, i < n → s i < n) → (∀ i j, i < n → j < n → s i = s j → i = j) →
    bigN op e (fun i => f (s i)) n = bigN op e f n
  | 0, _, _, _ => rfl
  | n + 1, s, hm, hi => by
    by_cases hn : s n = n
    · show op _ _ = op _ _
      rw [bigN_perm f n s ?_ (fun i j h1 h2 => hi i j (by omega) (by omega))]
      · show op _ (f (s n)) = _
        rw [hn]
      intro i h
      have h1 := hm i (by omega)
      have : s i ≠ n := fun h2 => by have := hi i n (by omega) (by omega) (by omega); omega
      omega
    · have h1 := hm n (by omega)
      obtain ⟨x, hx, hxn⟩ := inj_surj (n + 1) s hm hi n (by omega)
      have hxl : x < n := by
        by_cases h : x = n
        · subst h; omega
        · omega
      have ih := bigN_perm f n (fun i => if i = x then s n else s i) ?_ ?_
      · show op (bigN op e (fun i => f (s i)) n) (f (s n)) = op (bigN op e f n) (f n)
        rw [← ih]
        have := bigN_update op e (fun i => f (s i)) (fun i => f (if i = x then s n else s i)) x n hxl (by
          intro i _ h; simp [h])
        simp only [if_true, hxn] at this
        exact this
      · intro i h
        have h1' := hm i (by omega)
        show (if i = x then s n else s i) < n
        split
        · omega
        · have : s i ≠ n := fun h2 => by have := hi i x (by omega) (by omega) (by omega); omega
          omega
      · intro i j h2 h3 h4
        change (if i = x then s n else s i) = (if j = x then s n else s j) at h4
        split at h4 <;> split at h4
        · omega
        · have := hi n j (by omega) (by omega) h4; omega
        · have := hi i n (by omega) (by omega) h4; omega
        · exact hi i j (by omega) (by omega) h4

theorem bigN_op (f g : Nat → α) (he : op e e = e) : ∀ n, bigN op e (fun i => op (f i) (g i)) n = op (bigN op e f n) (bigN op e g n)
  | 0 => he.symm
  | n + 1 => by
    show op _ (op (f n) (g n)) = op (op _ _) (op _ _)
    rw [bigN_op f g he n]
    ac_rfl

omit hA hC in
theorem bigN_const (he : op e e = e) : ∀ n, bigN op e (fun _ => e) n = e
  | 0 => rfl
  | n + 1 => by
    show op _ _ = _
    rw [bigN_const he n, he]

theorem bigN_swap (f : Nat → Nat → α) (he : op e e = e) (m : Nat) : ∀ n, bigN op e (fun i => bigN op e (fun j => f i j) m) n = bigN op e (fun j => bigN op e (fun i => f i j) n) m
  | 0 => (bigN_const op e he m).symm
  | n + 1 => by
    show op _ _ = _
    rw [bigN_swap f he m n, ← bigN_op op e _ _ he m]
    rfl
end

def prodN (f : Nat → Int) (n : Nat) : Int := bigN (· * ·) 1 f n
def sumN (f : Nat → Nat) (n : Nat) : Nat := bigN (· + ·) 0 f n
theorem prodN_zero (f) : prodN f 0 = 1 := rfl
theorem prodN_succ (f) (n) : prodN f (n + 1) = prodN f n * f n := rfl
theorem sumN_zero (f) : sumN f 0 = 0 := rfl
theorem sumN_succ (f) (n) : sumN f (n + 1) = sumN f n + f n := rfl
theorem sumN_congr (f g) (n) (h : ∀ i, i < n → f i = g i) : sumN f n = sumN g n := bigN_congr _ _ _ _ _ h
theorem prodN_congr (f g) (n) (h : ∀ i, i < n → f i = g i) : prodN f n = prodN g n := bigN_congr _ _ _ _ _ h
theorem prodN_perm (f) (n) (s : Nat → Nat) (hm : ∀ i, i < n → s i < n) (hi : ∀ i j, i < n → j < n → s i = s j → i = j) : prodN (fun i => f (s i)) n = prodN f n := bigN_perm _ _ f n s hm hi
theorem sumN_perm (f) (n) (s : Nat → Nat) (hm : ∀ i, i < n → s i < n) (hi : ∀ i j, i < n → j < n → s i = s j → i = j) : sumN (fun i => f (s i)) n = sumN f n := bigN_perm _ _ f n s hm hi
theorem prodN_mul (f g) (n) : prodN (fun i => f i * g i) n = prodN f n * prodN g n := bigN_op _ _ f g (by simp) n
theorem sumN_add (f g) (n) : sumN (fun i => f i + g i) n = sumN f n + sumN g n := bigN_op _ _ f g (by simp) n
theorem sumN_swap (f : Nat → Nat → Nat) (m n) : sumN (fun i => sumN (fun j => f i j) m) n = sumN (fun j => sumN (fun i => f i j) n) m := bigN_swap _ _ f (by simp) m n
theorem prodN_const (a : Int) : ∀ n, prodN (fun _ => a) n = a ^ n
  | 0 => by rw [prodN_zero, Int.pow_zero]
  | n + 1 => by rw [prodN_succ, prodN_const a n, Int.pow_succ]
theorem sumN_const (a : Nat) : ∀ n, sumN (fun _ => a) n = n * a
  | 0 => by simp [sumN_zero]
  | n + 1 => by rw [sumN_succ, sumN_const a n, Nat.add_mul, Nat.one_mul]

/-! congruences -/
def Cong (n a b : Int) : Prop := n ∣ a - b
theorem Cong.refl (n a : Int) : Cong n a a := ⟨0, by omega⟩
theorem Cong.symm {n a b : Int} : Cong n a b → Cong n b a := fun ⟨k, h⟩ => ⟨-k, by grind⟩
theorem Cong.trans {n a b c : Int} : Cong n a b → Cong n b c → Cong n a c := fun ⟨k, h⟩ ⟨l, g⟩ => ⟨k + l, by grind⟩
theorem Cong.add {n a b c d : Int} : Cong n a b → Cong n c d → Cong n (a + c) (b + d) := fun ⟨k, h⟩ ⟨l, g⟩ => ⟨k + l, by grind⟩
theorem Cong.sub {n a b c d : Int} : Cong n a b → Cong n c d → Cong n (a - c) (b - d) := fun ⟨k, h⟩ ⟨l, g⟩ => ⟨k - l, by grind⟩
theorem Cong.neg {n a b : Int} : Cong n a b → Cong n (-a) (-b) := fun ⟨k, h⟩ => ⟨-k, by grind⟩
theorem Cong.mul {n a b c d : Int} : Cong n a b → Cong n c d → Cong n (a * c) (b * d) := fun ⟨k, h⟩ ⟨l, g⟩ => ⟨k * c + b * l, by grind⟩
theorem Cong.pow {n a b : Int} (h : Cong n a b) : ∀ k : Nat, Cong n (a ^ k) (b ^ k)
  | 0 => by rw [Int.pow_zero, Int.pow_zero]; exact Cong.refl _ _
  | k + 1 => by rw [Int.pow_succ, Int.pow_succ]; exact (Cong.pow h k).mul h
theorem Cong.emod (n a : Int) : Cong n (a % n) a := ⟨-(a / n), by have := Int.mul_ediv_add_emod a n; grind⟩
theorem Cong.emod_eq {n a b : Int} (h : Cong n a b) : a % n = b % n := Int.emod_eq_emod_iff_emod_sub_eq_zero.2 (Int.emod_eq_zero_of_dvd h)
theorem Cong.prod {n : Int} {f g : Nat → Int} : ∀ m, (∀ i, i < m → Cong n (f i) (g i)) → Cong n (prodN f m) (prodN g m)
  | 0, _ => Cong.refl _ _
  | m + 1, h => (Cong.prod m (fun i hi => h i (by omega))).mul (h m (by omega))
theorem Cong.dvd {m n a b : Int} (hd : m ∣ n) (h : Cong n a b) : Cong m a b := Int.dvd_trans hd h

/-! primes -/
def Prm (p : Nat) : Prop := 2 ≤ p ∧ ∀ d, d ∣ p → d = 1 ∨ d = p
theorem Prm.two_le {p : Nat} (h : Prm p) : 2 ≤ p := h.1
theorem Prm.pos {p : Nat} (h : Prm p) : 0 < p := by have := h.1; omega
theorem Prm.coprime {p : Nat} (h : Prm p) {a : Nat} (ha : ¬ p ∣ a) : Nat.Coprime p a := by
  rcases h.2 _ (Nat.gcd_dvd_left p a) with h1 | h1
  · exact h1
  · exact absurd (h1 ▸ Nat.gcd_dvd_right p a) ha
theorem Prm.dvd_mul {p : Nat} (h : Prm p) {a b : Nat} (hd : p ∣ a * b) : p ∣ a ∨ p ∣ b := by
  by_cases ha : p ∣ a
  · exact .inl ha
  · exact .inr ((h.coprime ha).dvd_of_dvd_mul_left hd)
theorem Prm.dvd_mulI {p : Nat} (h : Prm p) {a b : Int} (hd : (p : Int) ∣ a * b) : (p : Int) ∣ a ∨ (p : Int) ∣ b := by
  rw [Int.ofNat_dvd_left, Int.natAbs_mul] at hd
  rw [Int.ofNat_dvd_left, Int.ofNat_dvd_left]
  exact h.dvd_mul hd
theorem Prm.not_dvd_one {p : Nat} (h : Prm p) : ¬ p ∣ 1 := fun hd => by have := Nat.le_of_dvd (by omega) hd; have := h.1; omega
theorem Prm.odd {p : Nat} (h : Prm p) (h2 : p ≠ 2) : p % 2 = 1 := by
  have : ¬ 2 ∣ p := fun hd => by rcases h.2 2 hd with h1 | h1 <;> omega
  omega
theorem Prm.eq_of_dvd {p q : Nat} (h : Prm p) (hq : Prm q) (hd : p ∣ q) : p = q := by
  rcases hq.2 p hd with h1 | h1
  · have := h.1; omega
  · exact h1

theorem Cong.cancel {p : Nat} (hp : Prm p) {a b c : Int} (hc : ¬ (p : Int) ∣ c) (h : Cong p (a * c) (b * c)) : Cong p a b := by
  have : (p : Int) ∣ (a - b) * c := by obtain ⟨k, hk⟩ := h; exact ⟨k, by grind⟩
  rcases hp.dvd_mulI this with h1 | h1
  · exact h1
  · exact absurd h1 hc

/-! signs -/
def sg (n : Nat) : Int := if n % 2 = 0 then 1 else -1
theorem sg_add (m n : Nat) : sg (m + n) = sg m * sg n := by
  unfold sg
  rcases Nat.mod_two_eq_zero_or_one m with h | h <;> rcases Nat.mod_two_eq_zero_or_one n with g | g <;> simp [Nat.add_mod, h, g]
theorem sg_sq (n : Nat) : sg n * sg n = 1 := by unfold sg; split <;> rfl
theorem sg_congr {m n : Nat} (h : m % 2 = n % 2) : sg m = sg n := by unfold sg; rw [h]
theorem sg_cases (n : Nat) : sg n = 1 ∨ sg n = -1 := by unfold sg; split <;> simp
theorem sg_pow (n : Nat) : (-1 : Int) ^ n = sg n := by
  induction n with
  | zero => rfl
  | succ n ih => rw [Int.pow_succ, ih, sg_add]; rfl
theorem prodN_sg (f : Nat → Nat) : ∀ n, prodN (fun i => sg (f i)) n = sg (sumN f n)
  | 0 => rfl
  | n + 1 => by rw [prodN_succ, prodN_sg f n, sumN_succ, sg_add]

/-! Gauss's lemma -/
section gauss
variable (p P a : Nat)
def gr (i : Nat) : Nat := (a * (i + 1)) % p
def gp (i : Nat) : Nat := (if gr p a i ≤ P then gr p a i else p - gr p a i) - 1
def ge (i : Nat) : Int := if gr p a i ≤ P then 1 else -1

variable {p P a}
theorem not_dvd_small {p : Nat} {i : Nat} (h0 : 0 < i) (h : i < p) : ¬ p ∣ i := fun hd => by
  have := Nat.le_of_dvd h0 hd; omega
theorem gr_pos (hp : Prm p) (hP : p = 2 * P + 1) (ha : ¬ p ∣ a) {i : Nat} (hi : i < P) : 0 < gr p a i ∧ gr p a i < p := by
  unfold gr
  have h1 := Nat.mod_lt (a * (i + 1)) hp.pos
  refine ⟨?_, h1⟩
  rcases Nat.eq_zero_or_pos (a * (i + 1) % p) with h | h
  · rcases hp.dvd_mul (Nat.dvd_of_mod_eq_zero h) with h2 | h2
    · exact absurd h2 ha
    · exact absurd h2 (not_dvd_small (by omega) (by omega))
  · exact h
theorem gp_cong (hp : Prm p) (hP : p = 2 * P + 1) (ha : ¬ p ∣ a) {i : Nat} (hi : i < P) : Cong p ((a : Int) * (i + 1)) (ge p P a i * ((gp p P a i : Nat) + 1 : Int)) := by
  obtain ⟨h1, h2⟩ := gr_pos hp hP ha hi
  have h3 : Cong p ((a : Int) * (i + 1)) (gr p a i : Nat) := by
    unfold gr
    have := (Cong.emod p ((a : Int) * (i + 1))).symm
    simpa using this
  unfold ge gp
  by_cases hle : gr p a i ≤ P
  · rw [if_pos hle, if_pos hle]
    have : (1 : Int) * (((gr p a i - 1 : Nat) : Int) + 1) = (gr p a i : Nat) := by omega
    rw [this]; exact h3
  · rw [if_neg hle, if_neg hle]
    refine h3.trans ⟨1, ?_⟩
    have : (((p - gr p a i - 1 : Nat) : Int) + 1) = (p : Int) - (gr p a i : Nat) := by omega
    rw [this]; omega
theorem gp_lt (hp : Prm p) (hP : p = 2 * P + 1) (ha : ¬ p ∣ a) {i : Nat} (hi : i < P) : gp p P a i < P := by
  obtain ⟨h1, h2⟩ := gr_pos hp hP ha hi
  unfold gp
  split <;> omega
theorem ge_cases (i : Nat) : ge p P a i = 1 ∨ ge p P a i = -1 := by unfold ge; split <;> simp
theorem gp_inj (hp : Prm p) (hP : p = 2 * P + 1) (ha : ¬ p ∣ a) {i j : Nat} (hi : i < P) (hj : j < P) (h : gp p P a i = gp p P a j) : i = j := by
  have h1 := gp_cong hp hP ha hi
  have h2 := gp_cong hp hP ha hj
  rw [h] at h1
  have hna : ¬ (p : Int) ∣ (a : Int) := by rw [Int.natCast_dvd_natCast]; exact ha
  have key : Cong p ((a : Int) * (i + 1)) ((a : Int) * (j + 1)) ∨ Cong p ((a : Int) * (i + 1)) (-((a : Int) * (j + 1))) := by
    rcases ge_cases (p := p) (P := P) (a := a) i with e1 | e1 <;> rcases ge_cases (p := p) (P := P) (a := a) j with e2 | e2 <;> rw [e1] at h1 <;> rw [e2] at h2
    · exact .inl (h1.trans h2.symm)
    · refine .inr (h1.trans ?_)
      have := h2.symm.neg
      refine Cong.trans ?_ this
      have e : -(-1 * ((gp p P a j : Nat) + 1 : Int)) = 1 * ((gp p P a j : Nat) + 1 : Int) := by omega
      rw [e]; exact Cong.refl _ _
    · refine .inr (h1.trans ?_)
      have := h2.symm.neg
      refine Cong.trans ?_ this
      have e : -(1 * ((gp p P a j : Nat) + 1 : Int)) = -1 * ((gp p P a j : Nat) + 1 : Int) := by omega
      rw [e]; exact Cong.refl _ _
    · exact .inl (h1.trans h2.symm)
  rcases key with ⟨k, hk⟩ | ⟨k, hk⟩
  · have : (p : Int) ∣ (a : Int) * ((i : Int) - j) := ⟨k, by grind⟩
    rcases hp.dvd_mulI this with h3 | h3
    · exact absurd h3 hna
    · obtain ⟨l, hl⟩ := h3
      have hl0 : l = 0 := by
        rcases Int.lt_trichotomy l 0 with h4 | h4 | h4
        · have : (p : Int) * l ≤ p * (-1) := Int.mul_le_mul_of_nonneg_left (by omega) (by omega)
          omega
        · exact h4
        · have : (p : Int) * 1 ≤ p * l := Int.mul_le_mul_of_nonneg_left (by omega) (by omega)
          omega
      subst hl0; omega
  · have : (p : Int) ∣ (a : Int) * ((i : Int) + j + 2) := ⟨k, by grind⟩
    rcases hp.dvd_mulI this with h3 | h3
    · exact absurd h3 hna
    · have h3' : p ∣ i + j + 2 := by
        rw [← Int.natCast_dvd_natCast]; simpa using h3
      exact absurd h3' (not_dvd_small (by omega) (by omega))

theorem fact_not_dvd (hp : Prm p) : ∀ n, n < p → ¬ (p : Int) ∣ prodN (fun i => (i : Int) + 1) n
  | 0, _, hd => by
    rw [prodN_zero] at hd
    have : p ∣ 1 := by rw [← Int.natCast_dvd_natCast]; exact hd
    exact hp.not_dvd_one this
  | n + 1, h, hd => by
    rw [prodN_succ] at hd
    rcases hp.dvd_mulI hd with h1 | h1
    · exact fact_not_dvd hp n (by omega) h1
    · have : p ∣ n + 1 := by rw [← Int.natCast_dvd_natCast]; exact h1
      exact not_dvd_small (by omega) h this

theorem gauss (hp : Prm p) (hP : p = 2 * P + 1) (ha : ¬ p ∣ a) : Cong p ((a : Int) ^ P) (prodN (ge p P a) P) := by
  have h1 : Cong p (prodN (fun i => (a : Int) * (i + 1)) P) (prodN (fun i => ge p P a i * ((gp p P a i : Nat) + 1 : Int)) P) :=
    Cong.prod P (fun i hi => gp_cong hp hP ha hi)
  rw [prodN_mul, prodN_mul, prodN_const] at h1
  rw [prodN_perm (fun i => (i : Int) + 1) P (gp p P a) (fun i hi => gp_lt hp hP ha hi) (fun i j hi hj h => gp_inj hp hP ha hi hj h)] at h1
  exact Cong.cancel hp (fact_not_dvd hp P (by omega)) h1

theorem ge_floor (hp : Prm p) (hP : p = 2 * P + 1) (ha : ¬ p ∣ a) {i : Nat} (hi : i < P) : ge p P a i = sg (2 * a * (i + 1) / p) := by
  obtain ⟨h1, h2⟩ := gr_pos hp hP ha hi
  have hd := Nat.div_add_mod (a * (i + 1)) p
  have hq : 2 * a * (i + 1) / p = 2 * (a * (i + 1) / p) + (if gr p a i ≤ P then 0 else 1) := by
    have hr : gr p a i = a * (i + 1) % p := rfl
    generalize hx : a * (i + 1) = x at *
    have e : 2 * a * (i + 1) = 2 * x := by rw [Nat.mul_assoc, hx]
    rw [e]
    generalize x / p = q at *
    have e2 : 2 * x = p * (2 * q) + 2 * (x % p) := by
      have : p * (2 * q) = 2 * (p * q) := by rw [← Nat.mul_assoc, Nat.mul_comm p 2, Nat.mul_assoc]
      omega
    rw [e2, Nat.mul_add_div hp.pos, hr]
    split
    · rw [Nat.div_eq_of_lt (by omega)]
    · have : 2 * (x % p) / p = 1 := by
        apply Nat.div_eq_of_lt_le <;> omega
      rw [this]
  rw [hq, sg_add]
  have : sg (2 * (a * (i + 1) / p)) = 1 := by unfold sg; simp
  rw [this]
  unfold ge
  split <;> rfl

theorem gauss_floor (hp : Prm p) (hP : p = 2 * P + 1) (ha : ¬ p ∣ a) : Cong p ((a : Int) ^ P) (sg (sumN (fun i => 2 * a * (i + 1) / p) P)) := by
  have := gauss hp hP ha
  rw [prodN_congr _ (fun i => sg (2 * a * (i + 1) / p)) P (fun i hi => ge_floor hp hP ha hi), prodN_sg] at this
  exact this
end gauss

/-! reciprocity for odd primes -/
def tri (P : Nat) : Nat := sumN (fun i => i + 1) P

theorem half_pow {p P q : Nat} (hp : Prm p) (hP : p = 2 * P + 1) (hq : q % 2 = 1) (hd : ¬ p ∣ q) :
    Cong p ((q : Int) ^ P) (2 ^ P * sg (sumN (fun i => q * (i + 1) / p) P + tri P)) := by
  obtain ⟨h, hh⟩ : ∃ h, p + q = 2 * h := ⟨(p + q) / 2, by omega⟩
  have hdh : ¬ p ∣ h := fun hx => by
    apply hd
    have : p ∣ p + q := by rw [hh]; exact Nat.dvd_trans hx ⟨2, by omega⟩
    exact (Nat.dvd_add_right (Nat.dvd_refl p)).1 this
  have g := gauss_floor hp hP hdh
  have e : sumN (fun i => 2 * h * (i + 1) / p) P = sumN (fun i => q * (i + 1) / p) P + tri P := by
    unfold tri
    rw [← sumN_add]
    apply sumN_congr
    intro i _
    rw [← hh, Nat.add_mul, Nat.mul_add_div hp.pos]
    omega
  rw [e] at g
  have h2 : Cong p ((q : Int) ^ P) (((2 * h : Nat) : Int) ^ P) := by
    apply Cong.pow
    refine ⟨-1, ?_⟩
    rw [← hh]
    simp only [Int.natCast_add]
    omega
  rw [Int.natCast_mul, Int.mul_pow] at h2
  exact h2.trans ((Cong.refl _ _).mul g)

theorem two_pow {p P : Nat} (hp : Prm p) (hP : p = 2 * P + 1) : Cong p (2 ^ P) (sg (tri P)) := by
  have h := half_pow (q := 1) hp hP rfl hp.not_dvd_one
  have e : sumN (fun i => 1 * (i + 1) / p) P = 0 := by
    rw [sumN_congr _ (fun _ => 0) P, sumN_const, Nat.mul_zero]
    intro i hi
    exact Nat.div_eq_of_lt (by omega)
  rw [e, Nat.zero_add] at h
  have h1 : ((1 : Nat) : Int) ^ P = 1 := Int.one_pow
  rw [h1] at h
  have := h.mul (Cong.refl (p : Int) (sg (tri P)))
  rw [Int.mul_assoc, sg_sq, Int.one_mul, Int.mul_one] at this
  exact this.symm

theorem odd_pow {p P q : Nat} (hp : Prm p) (hP : p = 2 * P + 1) (hq : q % 2 = 1) (hd : ¬ p ∣ q) :
    Cong p ((q : Int) ^ P) (sg (sumN (fun i => q * (i + 1) / p) P)) := by
  have h := (half_pow hp hP hq hd).trans ((two_pow hp hP).mul (Cong.refl _ _))
  rw [sg_add, Int.mul_comm (sg (sumN _ _)), ← Int.mul_assoc, sg_sq, Int.one_mul] at h
  exact h

theorem count_mul (p x : Nat) (hp : 0 < p) : ∀ Q, sumN (fun j => if p * (j + 1) ≤ x then 1 else 0) Q = min Q (x / p)
  | 0 => by simp [sumN_zero]
  | Q + 1 => by
    rw [sumN_succ, count_mul p x hp Q]
    have := Nat.le_div_iff_mul_le (x := Q + 1) (y := x) hp
    rw [Nat.mul_comm] at this
    split
    · next h => have := this.2 h; omega
    · next h => have : ¬ Q + 1 ≤ x / p := fun hh => h (this.1 hh); omega

theorem lattice {p q P Q : Nat} (hP : p = 2 * P + 1) (hQ : q = 2 * Q + 1) (hc : Nat.Coprime p q) :
    sumN (fun i => q * (i + 1) / p) P + sumN (fun j => p * (j + 1) / q) Q = P * Q := by
  have a1 : sumN (fun i => q * (i + 1) / p) P = sumN (fun i => sumN (fun j => if p * (j + 1) ≤ q * (i + 1) then 1 else 0) Q) P := by
    apply sumN_congr
    intro i hi
    rw [count_mul p _ (by omega) Q]
    have : q * (i + 1) / p ≤ Q := by
      rw [← Nat.lt_succ_iff, Nat.div_lt_iff_lt_mul (by omega)]
      have h1 : q * (i + 1) ≤ q * P := Nat.mul_le_mul_left q (by omega)
      have h2 : q * P < Q.succ * p := by
        subst hP hQ
        grind
      omega
    omega
  have a2 : sumN (fun j => p * (j + 1) / q) Q = sumN (fun j => sumN (fun i => if q * (i + 1) ≤ p * (j + 1) then 1 else 0) P) Q := by
    apply sumN_congr
    intro i hi
    rw [count_mul q _ (by omega) P]
    have : p * (i + 1) / q ≤ P := by
      rw [← Nat.lt_succ_iff, Nat.div_lt_iff_lt_mul (by omega)]
      have h1 : p * (i + 1) ≤ p * Q := Nat.mul_le_mul_left p (by omega)
      have h2 : p * Q < P.succ * q := by
        subst hP hQ
        grind
      omega
    omega
  rw [a1, a2, sumN_swap (fun j i => if q * (i + 1) ≤ p * (j + 1) then 1 else 0) P Q, ← sumN_add]
  rw [sumN_congr _ (fun _ => Q) P, sumN_const]
  intro i hi
  rw [← sumN_add, sumN_congr _ (fun _ => 1) Q, sumN_const, Nat.mul_one]
  intro j hj
  have hne : p * (j + 1) ≠ q * (i + 1) := fun h => by
    have h1 : p ∣ i + 1 := hc.dvd_of_dvd_mul_left ⟨j + 1, h.symm⟩
    exact not_dvd_small (by omega) (by omega) h1
  split <;> split <;> omega

end HP

/-! Plain number theory, second part: least divisors, multiplicative extension, the Kronecker symbol. -/
namespace HP

/-! least divisor from 2 on -/
def lpfA (n : Nat) : Nat → Nat → Nat
  | _, 0 => n
  | d, f + 1 => if n % d = 0 then d else lpfA n (d + 1) f
def lpf (n : Nat) : Nat := lpfA n 2 n

theorem lpfA_spec {n : Nat} (hn : 2 ≤ n) : ∀ f d, 2 ≤ d → d ≤ n → n ≤ d + f → (∀ e, 2 ≤ e → e < d → ¬ e ∣ n) →
    lpfA n d f ∣ n ∧ 2 ≤ lpfA n d f ∧ ∀ e, 2 ≤ e → e < lpfA n d f → ¬ e ∣ n
  | 0, d, h1, h2, h3, h4 => by
    have : d = n := by omega
    subst this
    exact ⟨Nat.dvd_refl _, hn, h4⟩
  | f + 1, d, h1, h2, h3, h4 => by
    unfold lpfA
    split
    · next h => exact ⟨Nat.dvd_of_mod_eq_zero h, h1, h4⟩
    · next h =>
      have hdn : d ≠ n := fun e => by subst e; simp at h
      refine lpfA_spec hn f (d + 1) (by omega) (by omega) (by omega) ?_
      intro e he1 he2 hd
      by_cases hed : e = d
      · subst hed; exact h (Nat.mod_eq_zero_of_dvd hd)
      · exact h4 e he1 (by omega) hd
theorem lpf_spec {n : Nat} (hn : 2 ≤ n) : lpf n ∣ n ∧ 2 ≤ lpf n ∧ ∀ e, 2 ≤ e → e < lpf n → ¬ e ∣ n :=
  lpfA_spec hn n 2 (by omega) hn (by omega) (fun e _ _ => by omega)
theorem prm_of_least {n d : Nat} (hd : d ∣ n) (h2 : 2 ≤ d) (h : ∀ e, 2 ≤ e → e < d → ¬ e ∣ n) : Prm d := by
  refine ⟨h2, fun e he => ?_⟩
  have h0 : e ≠ 0 := fun h => by subst h; have := Nat.eq_zero_of_zero_dvd he; omega
  have hle := Nat.le_of_dvd (by omega) he
  by_cases h1 : e = 1
  · exact .inl h1
  · by_cases h3 : e = d
    · exact .inr h3
    · exact absurd (Nat.dvd_trans he hd) (h e (by omega) (by omega))
theorem lpf_prm {n : Nat} (hn : 2 ≤ n) : Prm (lpf n) := by
  obtain ⟨h1, h2, h3⟩ := lpf_spec hn
  exact prm_of_least h1 h2 h3
theorem lpf_eq {n p : Nat} (hd : p ∣ n) (hn : 0 < n) (h2 : 2 ≤ p) (h : ∀ e, 2 ≤ e → e < p → ¬ e ∣ n) : lpf n = p := by
  have := Nat.le_of_dvd hn hd
  obtain ⟨h3, h4, h5⟩ := lpf_spec (n := n) (by omega)
  rcases Nat.lt_trichotomy (lpf n) p with h6 | h6 | h6
  · exact absurd h3 (h _ h4 h6)
  · exact h6
  · exact absurd hd (h5 _ h2 h6)
theorem div_lpf_lt {n : Nat} (hn : 2 ≤ n) : n / lpf n < n := Nat.div_lt_self (by omega) (lpf_spec hn).2.1
theorem div_lpf_pos {n : Nat} (hn : 2 ≤ n) : 0 < n / lpf n :=
  Nat.div_pos (Nat.le_of_dvd (by omega) (lpf_spec hn).1) (by have := (lpf_spec hn).2.1; omega)

def ext (f : Nat → Int) (n : Nat) : Int := if _h : 2 ≤ n then f (lpf n) * ext f (n / lpf n) else 1
termination_by n
decreasing_by exact div_lpf_lt _h

theorem ext_one (f) : ext f 1 = 1 := by rw [ext]; simp
theorem ext_lpf (f) {n : Nat} (h : 2 ≤ n) : ext f n = f (lpf n) * ext f (n / lpf n) := by rw [ext]; simp [h]

theorem ext_prime_mul (f : Nat → Int) {p : Nat} (hp : Prm p) (n : Nat) (hn : 0 < n) : ext f (p * n) = f p * ext f n := by
  induction n using Nat.strongRecOn with
  | _ n ih =>
    have h2 : 2 ≤ p * n := by have := hp.two_le; have := Nat.le_mul_of_pos_right p hn; omega
    obtain ⟨q1, q2, q3⟩ := lpf_spec h2
    have hq := lpf_prm h2
    rw [ext_lpf f h2]
    by_cases hqp : lpf (p * n) = p
    · rw [hqp, Nat.mul_div_cancel_left _ hp.pos]
    · rcases hq.dvd_mul q1 with h | h
      · exact absurd (hq.eq_of_dvd hp h) hqp
      · have hlq : lpf n = lpf (p * n) := by
          refine lpf_eq h hn q2 fun e he1 he2 hd => q3 e he1 he2 (Nat.dvd_trans hd (Nat.dvd_mul_left _ _))
        have hn2 : 2 ≤ n := by have := Nat.le_of_dvd hn h; omega
        rw [Nat.mul_div_assoc _ h, ih _ (by rw [← hlq]; exact div_lpf_lt hn2) (by rw [← hlq]; exact div_lpf_pos hn2), ext_lpf f hn2, hlq]
        grind

theorem prime_ind0 {P : Nat → Prop} (h1 : P 1) (hp : ∀ p n, Prm p → 0 < n → P n → P (p * n)) (n : Nat) (hn : 0 < n) : P n := by
  induction n using Nat.strongRecOn with
  | _ n ih =>
    by_cases h2 : 2 ≤ n
    · have := hp (lpf n) (n / lpf n) (lpf_prm h2) (div_lpf_pos h2) (ih _ (div_lpf_lt h2) (div_lpf_pos h2))
      rwa [Nat.mul_div_cancel' (lpf_spec h2).1] at this
    · have : n = 1 := by omega
      subst this; exact h1
theorem prime_ind {P : (n : Nat) → 0 < n → Prop} (h1 : P 1 (by omega)) (hp : ∀ p n (h : Prm p) (hn : 0 < n), P n hn → P (p * n) (Nat.mul_pos h.pos hn)) (n : Nat) (hn : 0 < n) : P n hn :=
  prime_ind0 (P := fun n => ∀ hn : 0 < n, P n hn) (fun _ => h1) (fun p n h hn ih _ => hp p n h hn (ih hn)) n hn hn

theorem ext_mul (f : Nat → Int) (m n : Nat) (hm : 0 < m) (hn : 0 < n) : ext f (m * n) = ext f m * ext f n := by
  induction m, hm using prime_ind with
  | h1 => rw [Nat.one_mul, ext_one, Int.one_mul]
  | hp p m hp hm ih =>
    rw [Nat.mul_assoc, ext_prime_mul f hp _ (Nat.mul_pos hm hn), ih, ext_prime_mul f hp _ hm]
    grind
theorem ext_prime (f : Nat → Int) {p : Nat} (hp : Prm p) : ext f p = f p := by
  have := ext_prime_mul f hp 1 (by omega)
  rwa [Nat.mul_one, ext_one, Int.mul_one] at this
theorem ext_pow (f : Nat → Int) (m : Nat) (hm : 0 < m) : ∀ k, ext f (m ^ k) = ext f m ^ k
  | 0 => by rw [Nat.pow_zero, ext_one, Int.pow_zero]
  | k + 1 => by rw [Nat.pow_succ, ext_mul f _ _ (Nat.pow_pos hm) hm, ext_pow f m hm k, Int.pow_succ]
theorem ext_congr (f g : Nat → Int) (n : Nat) (hn : 0 < n) (h : ∀ p, Prm p → p ∣ n → f p = g p) : ext f n = ext g n := by
  induction n, hn using prime_ind with
  | h1 => rw [ext_one, ext_one]
  | hp p m hp hm ih =>
    rw [ext_prime_mul f hp m hm, ext_prime_mul g hp m hm, h p hp (Nat.dvd_mul_right _ _), ih (fun q hq hd => h q hq (Nat.dvd_trans hd (Nat.dvd_mul_left _ _)))]
theorem ext_fmul (f g : Nat → Int) (n : Nat) (hn : 0 < n) : ext (fun p => f p * g p) n = ext f n * ext g n := by
  induction n, hn using prime_ind with
  | h1 => simp [ext_one]
  | hp p m hp hm ih =>
    rw [ext_prime_mul _ hp m hm, ext_prime_mul f hp m hm, ext_prime_mul g hp m hm, ih]
    grind
theorem ext_zero_of (f : Nat → Int) (n : Nat) (hn : 0 < n) {p : Nat} (hp : Prm p) (hd : p ∣ n) (hf : f p = 0) : ext f n = 0 := by
  obtain ⟨k, rfl⟩ := hd
  have hk : 0 < k := Nat.pos_of_mul_pos_left (by omega)
  rw [ext_prime_mul f hp k hk, hf, Int.zero_mul]
theorem exists_prime {n : Nat} (h : 2 ≤ n) : ∃ p, Prm p ∧ p ∣ n := ⟨lpf n, lpf_prm h, (lpf_spec h).1⟩

/-! the symbol at odd primes, by Euler's power -/
def leg (a : Int) (p : Nat) : Int := if a ^ ((p - 1) / 2) % p = p - 1 then -1 else a ^ ((p - 1) / 2) % p

def Tri (x : Int) : Prop := x = 0 ∨ x = 1 ∨ x = -1
theorem Tri.eq {p : Nat} (hp : 3 ≤ p) {x y : Int} (hx : Tri x) (hy : Tri y) (h : Cong p x y) : x = y := by
  obtain ⟨k, hk⟩ := h
  have h2 : x - y ≤ 2 ∧ -2 ≤ x - y := by rcases hx with rfl | rfl | rfl <;> rcases hy with rfl | rfl | rfl <;> decide
  rcases Int.lt_trichotomy k 0 with h4 | h4 | h4
  · have : (p : Int) * k ≤ p * (-1) := Int.mul_le_mul_of_nonneg_left (by omega) (by omega)
    omega
  · subst h4; omega
  · have : (p : Int) * 1 ≤ p * k := Int.mul_le_mul_of_nonneg_left (by omega) (by omega)
    omega
theorem Tri.mul {x y : Int} (hx : Tri x) (hy : Tri y) : Tri (x * y) := by
  rcases hx with rfl | rfl | rfl <;> rcases hy with rfl | rfl | rfl <;> simp [Tri]
theorem tri_sg (n) : Tri (sg n) := by rcases sg_cases n with h | h <;> simp [Tri, h]
theorem Tri.neg {x : Int} (hx : Tri x) : Tri (-x) := by rcases hx with rfl | rfl | rfl <;> simp [Tri]

section
variable {p : Nat} (hp : Prm p) (h2 : p ≠ 2)
include hp h2
theorem half_eq : p = 2 * ((p - 1) / 2) + 1 := by have := hp.odd h2; omega
theorem three_le : 3 ≤ p := by have := hp.two_le; omega
theorem leg_zero {a : Int} (h : (p : Int) ∣ a) : leg a p = 0 := by
  have h3 := three_le hp h2
  have hP := half_eq hp h2
  have : a ^ ((p - 1) / 2) % p = 0 := by
    obtain ⟨k, hk⟩ : ∃ k, (p - 1) / 2 = k + 1 := ⟨(p - 1) / 2 - 1, by omega⟩
    rw [hk, Int.pow_succ]
    exact Int.emod_eq_zero_of_dvd (Int.dvd_mul_of_dvd_right h)
  unfold leg
  rw [this, if_neg (by omega)]
theorem leg_cong_tri (a : Int) : Tri (leg a p) ∧ Cong p (leg a p) (a ^ ((p - 1) / 2)) := by
  have h3 := three_le hp h2
  have hP := half_eq hp h2
  have hc : Cong p (leg a p) (a ^ ((p - 1) / 2)) := by
    unfold leg
    split
    · next h =>
      refine Cong.trans ?_ (Cong.emod p _)
      rw [h]
      exact ⟨-1, by omega⟩
    · exact Cong.emod p _
  refine ⟨?_, hc⟩
  by_cases hd : (p : Int) ∣ a
  · rw [leg_zero hp h2 hd]; exact .inl rfl
  · have ha : ¬ p ∣ (a % p).toNat := by
      intro h
      apply hd
      have e : ((a % p).toNat : Int) = a % p := Int.toNat_of_nonneg (Int.emod_nonneg _ (by omega))
      have : (p : Int) ∣ a % p := by rw [← e]; exact Int.natCast_dvd_natCast.2 h
      obtain ⟨k, hk⟩ := this
      have := Int.mul_ediv_add_emod a p
      exact ⟨a / p + k, by grind⟩
    have g := gauss_floor hp hP ha
    have e : ((a % p).toNat : Int) = a % p := Int.toNat_of_nonneg (Int.emod_nonneg _ (by omega))
    rw [e] at g
    have g2 : Cong p (a ^ ((p - 1) / 2)) (sg (sumN (fun i => 2 * (a % p).toNat * (i + 1) / p) ((p - 1) / 2))) :=
      ((Cong.emod p a).symm.pow _).trans g
    generalize sumN _ _ = s at g2
    have g3 := g2.emod_eq
    unfold leg
    rcases sg_cases s with h | h
    · rw [h] at g3
      rw [g3, Int.emod_eq_of_lt (by omega) (by omega), if_neg (by omega)]
      exact .inr (.inl rfl)
    · rw [h] at g3
      have : (-1 : Int) % p = p - 1 := by
        rw [show (-1 : Int) = (p - 1) + p * (-1) by omega, Int.add_mul_emod_self_left, Int.emod_eq_of_lt (by omega) (by omega)]
      rw [g3, this, if_pos rfl]
      exact .inr (.inr rfl)
theorem leg_tri (a : Int) : Tri (leg a p) := (leg_cong_tri hp h2 a).1
theorem leg_cong (a : Int) : Cong p (leg a p) (a ^ ((p - 1) / 2)) := (leg_cong_tri hp h2 a).2
theorem leg_eq {a x : Int} (hx : Tri x) (h : Cong p (a ^ ((p - 1) / 2)) x) : leg a p = x :=
  Tri.eq (three_le hp h2) (leg_tri hp h2 a) hx ((leg_cong hp h2 a).trans h)
theorem leg_mul (a b : Int) : leg (a * b) p = leg a p * leg b p := by
  refine leg_eq hp h2 ((leg_tri hp h2 a).mul (leg_tri hp h2 b)) ?_
  rw [Int.mul_pow]
  exact (leg_cong hp h2 a).symm.mul (leg_cong hp h2 b).symm
theorem leg_congr {a b : Int} (h : Cong p a b) : leg a p = leg b p :=
  leg_eq hp h2 (leg_tri hp h2 b) ((h.pow _).trans (leg_cong hp h2 b).symm)
theorem leg_one : leg 1 p = 1 := leg_eq hp h2 (.inr (.inl rfl)) (by rw [Int.one_pow]; exact Cong.refl _ _)
theorem leg_neg_one : leg (-1) p = sg ((p - 1) / 2) := leg_eq hp h2 (tri_sg _) (by rw [sg_pow]; exact Cong.refl _ _)
theorem leg_two : leg 2 p = sg (tri ((p - 1) / 2)) := leg_eq hp h2 (tri_sg _) (two_pow hp (half_eq hp h2))
theorem leg_recip {q : Nat} (hq : Prm q) (hq2 : q ≠ 2) : leg q p = leg p q * sg ((p - 1) / 2 * ((q - 1) / 2)) := by
  by_cases hpq : p = q
  · subst hpq
    rw [leg_zero hp h2 ⟨1, by omega⟩, Int.zero_mul]
  · have d1 : ¬ p ∣ q := fun h => hpq (hp.eq_of_dvd hq h)
    have d2 : ¬ q ∣ p := fun h => hpq (hq.eq_of_dvd hp h).symm
    have hP := half_eq hp h2
    have hQ := half_eq hq hq2
    have e1 : leg q p = sg _ := leg_eq hp h2 (tri_sg _) (odd_pow hp hP (hq.odd hq2) d1)
    have e2 : leg p q = sg _ := leg_eq hq hq2 (tri_sg _) (odd_pow hq hQ (hp.odd h2) d2)
    rw [e1, e2, ← lattice hP hQ (hp.coprime d1), ← sg_add]
    apply sg_congr
    omega
end

theorem tri_two (P : Nat) : 2 * tri P = P * (P + 1) := by
  induction P with
  | zero => rfl
  | succ n ih =>
    have : tri (n + 1) = tri n + (n + 1) := rfl
    grind

/-! residues modulo 8 -/
def two (a : Int) : Int := if a % 8 = 1 ∨ a % 8 = 7 then 1 else if a % 8 = 3 ∨ a % 8 = 5 then -1 else 0
def s4 (n : Nat) : Int := if n % 4 = 3 then -1 else 1
def s44 (m n : Nat) : Int := if m % 4 = 3 ∧ n % 4 = 3 then -1 else 1

theorem two_tri (a : Int) : Tri (two a) := by unfold two; split <;> (try split) <;> simp [Tri]
theorem mod8_cases (a : Int) : a % 8 = 0 ∨ a % 8 = 1 ∨ a % 8 = 2 ∨ a % 8 = 3 ∨ a % 8 = 4 ∨ a % 8 = 5 ∨ a % 8 = 6 ∨ a % 8 = 7 := by omega
theorem two_mul (a b : Int) : two (a * b) = two a * two b := by
  unfold two
  rw [Int.mul_emod]
  rcases mod8_cases a with h | h | h | h | h | h | h | h <;> rw [h] <;>
  rcases mod8_cases b with g | g | g | g | g | g | g | g <;> rw [g] <;> decide
def kr (a : Int) (p : Nat) : Int := if p = 2 then two a else leg a p
theorem kr_tri {p : Nat} (hp : Prm p) (a : Int) : Tri (kr a p) := by
  unfold kr; split
  · exact two_tri a
  · next h => exact leg_tri hp h a
theorem kr_mul {p : Nat} (hp : Prm p) (a b : Int) : kr (a * b) p = kr a p * kr b p := by
  unfold kr; split
  · exact two_mul a b
  · next h => exact leg_mul hp h a b

def jac (a : Int) (n : Nat) : Int := ext (kr a) n

theorem jac_tri (a : Int) (n : Nat) (hn : 0 < n) : Tri (jac a n) := by
  unfold jac
  induction n, hn using prime_ind with
  | h1 => rw [ext_one]; exact .inr (.inl rfl)
  | hp p m hp hm ih => rw [ext_prime_mul _ hp m hm]; exact (kr_tri hp a).mul ih
theorem jac_one (a : Int) : jac a 1 = 1 := ext_one _
theorem jac_mul (a : Int) (m n : Nat) (hm : 0 < m) (hn : 0 < n) : jac a (m * n) = jac a m * jac a n := ext_mul _ m n hm hn
theorem jac_prime (a : Int) {p : Nat} (hp : Prm p) : jac a p = kr a p := ext_prime _ hp
theorem jac_pow (a : Int) (m k : Nat) (hm : 0 < m) : jac a (m ^ k) = jac a m ^ k := ext_pow _ m hm k
theorem prm_two : Prm 2 := ⟨by omega, fun d hd => by have := Nat.le_of_dvd (by omega) hd; have : d ≠ 0 := fun h => by subst h; have := Nat.eq_zero_of_zero_dvd hd; omega
                                                     omega⟩
theorem jac_two (a : Int) : jac a 2 = two a := by rw [jac_prime a prm_two]; rfl
theorem jac_mul_left (a b : Int) (n : Nat) (hn : 0 < n) : jac (a * b) n = jac a n * jac b n := by
  unfold jac
  rw [← ext_fmul _ _ n hn]
  exact ext_congr _ _ n hn (fun p hp _ => kr_mul hp a b)
theorem odd_prime_of {n p : Nat} (hn : n % 2 = 1) (hd : p ∣ n) : p ≠ 2 := fun h => by subst h; omega
theorem jac_congr {a b : Int} {n : Nat} (hn : n % 2 = 1) (h : Cong n a b) : jac a n = jac b n := by
  refine ext_congr _ _ n (by omega) fun p hp hd => ?_
  unfold kr
  have := odd_prime_of hn hd
  rw [if_neg this, if_neg this]
  exact leg_congr hp this (h.dvd (Int.natCast_dvd_natCast.2 hd))
theorem jac_emod (a : Int) {n : Nat} (hn : n % 2 = 1) : jac (a % n) n = jac a n := jac_congr hn (Cong.emod _ _)

theorem odd_of_mul {p m : Nat} (hp : Prm p) (hn : p * m % 2 = 1) : p ≠ 2 ∧ m % 2 = 1 := by
  have hp2 : p ≠ 2 := odd_prime_of hn (Nat.dvd_mul_right _ _)
  exact ⟨hp2, by rw [Nat.mul_mod, hp.odd hp2] at hn; omega⟩
theorem odd_mul {p m : Nat} (hp : p % 2 = 1) (hm : m % 2 = 1) : p * m % 2 = 1 := by rw [Nat.mul_mod, hp, hm]
theorem odd_ind {P : (n : Nat) → n % 2 = 1 → Prop} (h1 : P 1 rfl) (hp : ∀ p n (h : Prm p) (h2 : p ≠ 2) (hn : n % 2 = 1), P n hn → P (p * n) (odd_mul (h.odd h2) hn)) (n : Nat) (hn : n % 2 = 1) : P n hn :=
  prime_ind0 (P := fun n => ∀ hn : n % 2 = 1, P n hn) (fun _ => h1) (fun p n h _ ih hn => hp p n h (odd_of_mul h hn).1 (odd_of_mul h hn).2 (ih _)) n (by omega) hn

theorem jac_one_left {n : Nat} (hn : n % 2 = 1) : jac 1 n = 1 := by
  induction n, hn using odd_ind with
  | h1 => exact jac_one _
  | hp p m hp h2 hm ih =>
    rw [jac_mul _ _ _ hp.pos (by omega), ih, jac_prime _ hp, kr, if_neg h2, leg_one hp h2]; rfl

theorem mod4_odd {n : Nat} (h : n % 2 = 1) : n % 4 = 1 ∨ n % 4 = 3 := by omega
theorem mod8_odd {n : Nat} (h : n % 2 = 1) : n % 8 = 1 ∨ n % 8 = 3 ∨ n % 8 = 5 ∨ n % 8 = 7 := by omega
theorem s4_mul {m n : Nat} (hm : m % 2 = 1) (hn : n % 2 = 1) : s4 (m * n) = s4 m * s4 n := by
  unfold s4
  rw [Nat.mul_mod]
  rcases mod4_odd hm with h | h <;> rcases mod4_odd hn with g | g <;> rw [h, g] <;> decide
theorem s44_mul {m n k : Nat} (hm : m % 2 = 1) (hn : n % 2 = 1) (hk : k % 2 = 1) : s44 (m * n) k = s44 m k * s44 n k := by
  unfold s44
  rw [Nat.mul_mod]
  rcases mod4_odd hm with h | h <;> rcases mod4_odd hn with g | g <;> rcases mod4_odd hk with f | f <;> rw [h, g, f] <;> decide
theorem s44_symm (m n : Nat) : s44 m n = s44 n m := by unfold s44; simp only [And.comm]
theorem sg_half {n : Nat} (hn : n % 2 = 1) : sg ((n - 1) / 2) = s4 n := by
  unfold sg s4
  rcases mod4_odd hn with h | h
  · rw [if_pos (by omega), if_neg (by omega)]
  · rw [if_neg (by omega), if_pos (by omega)]
theorem sg_mul_half {m n : Nat} (hm : m % 2 = 1) (hn : n % 2 = 1) : sg ((m - 1) / 2 * ((n - 1) / 2)) = s44 m n := by
  unfold sg s44
  rw [Nat.mul_mod]
  rcases mod4_odd hm with h | h <;> rcases mod4_odd hn with g | g
  · rw [show (m - 1) / 2 % 2 = 0 by omega, Nat.zero_mul, if_pos (by omega), if_neg (by omega)]
  · rw [show (m - 1) / 2 % 2 = 0 by omega, Nat.zero_mul, if_pos (by omega), if_neg (by omega)]
  · rw [show (n - 1) / 2 % 2 = 0 by omega, Nat.mul_zero, if_pos (by omega), if_neg (by omega)]
  · rw [show (n - 1) / 2 % 2 = 1 by omega, show (m - 1) / 2 % 2 = 1 by omega, if_neg (by omega), if_pos (by omega)]
theorem sg_tri {n : Nat} (hn : n % 2 = 1) : sg (tri ((n - 1) / 2)) = two n := by
  have h := tri_two ((n - 1) / 2)
  unfold sg two
  obtain ⟨k, hk⟩ : ∃ k, n = 8 * k + n % 8 := ⟨n / 8, by omega⟩
  rcases mod8_odd hn with g | g | g | g <;> rw [g] at hk
  · rw [show (n - 1) / 2 = 4 * k by omega] at h ⊢
    have : tri (4 * k) = 2 * (k * (4 * k + 1)) := by grind
    rw [if_pos (by omega), if_pos (by omega)]
  · rw [show (n - 1) / 2 = 4 * k + 1 by omega] at h ⊢
    have : tri (4 * k + 1) = 2 * (4 * k * k + 3 * k) + 1 := by grind
    rw [if_neg (by omega), if_neg (by omega), if_pos (by omega)]
  · rw [show (n - 1) / 2 = 4 * k + 2 by omega] at h ⊢
    have : tri (4 * k + 2) = 2 * (4 * k * k + 5 * k + 1) + 1 := by grind
    rw [if_neg (by omega), if_neg (by omega), if_pos (by omega)]
  · rw [show (n - 1) / 2 = 4 * k + 3 by omega] at h ⊢
    have : tri (4 * k + 3) = 2 * (4 * k * k + 7 * k + 3) := by grind
    rw [if_pos (by omega), if_pos (by omega)]

theorem jac_neg_one {n : Nat} (hn : n % 2 = 1) : jac (-1) n = s4 n := by
  induction n, hn using odd_ind with
  | h1 => rw [jac_one]; rfl
  | hp p m hp h2 hm ih =>
    rw [jac_mul _ _ _ hp.pos (by omega), ih, jac_prime _ hp, kr, if_neg h2, leg_neg_one hp h2, sg_half (hp.odd h2), s4_mul (hp.odd h2) hm]
theorem jac_two_left {n : Nat} (hn : n % 2 = 1) : jac 2 n = two n := by
  induction n, hn using odd_ind with
  | h1 => rw [jac_one]; rfl
  | hp p m hp h2 hm ih =>
    rw [jac_mul _ _ _ hp.pos (by omega), ih, jac_prime _ hp, kr, if_neg h2, leg_two hp h2, sg_tri (hp.odd h2), Int.natCast_mul, two_mul]

theorem jac_recip {m n : Nat} (hm : m % 2 = 1) (hn : n % 2 = 1) : jac m n = jac n m * s44 m n := by
  induction m, hm using odd_ind with
  | h1 => 
    rw [jac_one, Int.one_mul]
    have : ((1 : Nat) : Int) = 1 := rfl
    rw [this, jac_one_left hn]
    unfold s44
    rw [if_neg (by omega)]
  | hp q m hq hq2 hm ih =>
    have key : jac q n = jac n q * s44 q n := by
      clear ih
      rw [jac_prime _ hq, kr, if_neg hq2]
      induction n, hn using odd_ind with
      | h1 =>
        have : ((1 : Nat) : Int) = 1 := rfl
        rw [jac_one, this, leg_one hq hq2]
        unfold s44
        rw [if_neg (by omega)]; rfl
      | hp p n hp hp2 hn ih =>
        have ho := hp.odd hp2
        have hoq := hq.odd hq2
        rw [jac_mul _ _ _ hp.pos (by omega), ih, jac_prime _ hp, kr, if_neg hp2, leg_recip hp hp2 hq hq2, sg_mul_half ho hoq, Int.natCast_mul, leg_mul hq hq2,
          s44_symm q (p * n), s44_mul ho hn hoq, s44_symm q n]
        grind
    rw [Int.natCast_mul, jac_mul_left _ _ _ (by omega), ih, key, jac_mul _ _ _ hq.pos (by omega), s44_mul (hq.odd hq2) hm hn]
    grind

theorem jac_zero_of {a : Int} {n p : Nat} (hn : 0 < n) (hp : Prm p) (h1 : p ∣ n) (h2 : (p : Int) ∣ a) : jac a n = 0 := by
  refine ext_zero_of _ n hn hp h1 ?_
  unfold kr
  split
  · next h => 
    subst h
    unfold two
    rw [if_neg (by omega), if_neg (by omega)]
  · next h => exact leg_zero hp h h2
end HP

/-! Plain number theory, third part: the factorization as a list. -/
namespace HP

def mlt (p n : Nat) : Nat := if _h : 2 ≤ p ∧ 0 < n ∧ n % p = 0 then 1 + mlt p (n / p) else 0
termination_by n
decreasing_by exact Nat.div_lt_self _h.2.1 _h.1

theorem mlt_yes {p n : Nat} (hp : 2 ≤ p) (hn : 0 < n) (h : n % p = 0) : mlt p n = 1 + mlt p (n / p) := by
  rw [mlt, dif_pos ⟨hp, hn, h⟩]
theorem mlt_no {p n : Nat} (h : n % p ≠ 0) : mlt p n = 0 := by
  rw [mlt, dif_neg (fun h1 => h h1.2.2)]
theorem mlt_dvd (p n : Nat) : p ^ mlt p n ∣ n := by
  induction n using Nat.strongRecOn with
  | _ n ih =>
    by_cases h : 2 ≤ p ∧ 0 < n ∧ n % p = 0
    · rw [mlt_yes h.1 h.2.1 h.2.2, Nat.add_comm, Nat.pow_succ]
      obtain ⟨k, hk⟩ := ih (n / p) (Nat.div_lt_self h.2.1 h.1)
      refine ⟨k, ?_⟩
      have e : n = n / p * p := (Nat.div_mul_cancel (Nat.dvd_of_mod_eq_zero h.2.2)).symm
      generalize p ^ mlt p (n / p) = x at *
      rw [e, hk]; grind
    · rw [mlt, dif_neg h, Nat.pow_zero]; exact Nat.one_dvd _
def strip (p n : Nat) : Nat := n / p ^ mlt p n
theorem strip_mul (p n : Nat) : p ^ mlt p n * strip p n = n := Nat.mul_div_cancel' (mlt_dvd p n)
theorem strip_yes {p n : Nat} (hp : 2 ≤ p) (hn : 0 < n) (h : n % p = 0) : strip p n = strip p (n / p) := by
  unfold strip
  rw [mlt_yes hp hn h, Nat.add_comm, Nat.pow_succ, Nat.mul_comm, Nat.div_div_eq_div_mul]
theorem strip_no {p n : Nat} (h : n % p ≠ 0) : strip p n = n := by
  unfold strip; rw [mlt_no h]; simp
theorem strip_pos (p n : Nat) (hn : 0 < n) : 0 < strip p n := by
  rcases Nat.eq_zero_or_pos (strip p n) with h | h
  · have := strip_mul p n; rw [h] at this; omega
  · exact h
theorem strip_dvd (p n : Nat) : strip p n ∣ n := ⟨p ^ mlt p n, by rw [Nat.mul_comm]; exact (strip_mul p n).symm⟩
theorem strip_not {p n : Nat} (hp : 2 ≤ p) (hn : 0 < n) : ¬ p ∣ strip p n := by
  induction n using Nat.strongRecOn with
  | _ n ih =>
    by_cases h : n % p = 0
    · rw [strip_yes hp hn h]
      exact ih _ (Nat.div_lt_self hn hp) (Nat.div_pos (Nat.le_of_dvd hn (Nat.dvd_of_mod_eq_zero h)) (by omega))
    · rw [strip_no h]; intro hd; exact h (Nat.mod_eq_zero_of_dvd hd)
theorem strip_lt {p n : Nat} (hp : 2 ≤ p) (hn : 0 < n) (h : p ∣ n) : strip p n < n := by
  rw [strip_yes hp hn (Nat.mod_eq_zero_of_dvd h)]
  have h1 : n / p < n := Nat.div_lt_self hn hp
  have h2 := Nat.le_of_dvd (Nat.div_pos (Nat.le_of_dvd hn h) (by omega)) (strip_dvd p (n / p))
  omega
theorem mlt_pos {p n : Nat} (hp : 2 ≤ p) (hn : 0 < n) (h : p ∣ n) : 0 < mlt p n := by
  rw [mlt_yes hp hn (Nat.mod_eq_zero_of_dvd h)]; omega

def facs (n : Nat) : List (Nat × Nat) := if _h : 2 ≤ n then (lpf n, mlt (lpf n) n) :: facs (strip (lpf n) n) else []
termination_by n
decreasing_by exact strip_lt (lpf_spec _h).2.1 (by omega) (lpf_spec _h).1

theorem facs_small {n : Nat} (h : n ≤ 1) : facs n = [] := by rw [facs, dif_neg (by omega)]
theorem facs_big {n : Nat} (h : 2 ≤ n) : facs n = (lpf n, mlt (lpf n) n) :: facs (strip (lpf n) n) := by rw [facs, dif_pos h]
def Rough (p n : Nat) : Prop := ∀ e, 2 ≤ e → e < p → ¬ e ∣ n
theorem rough_two (n) : Rough 2 n := fun e h1 h2 => by omega
theorem rough_next {p n : Nat} (h : Rough p n) (hd : ¬ p ∣ n) : Rough (p + 1) n := fun e h1 h2 he => by
  by_cases hep : e = p
  · subst hep; exact hd he
  · exact h e h1 (by omega) he
theorem rough_dvd {p n m : Nat} (h : Rough p n) (hd : m ∣ n) : Rough p m := fun e h1 h2 he => h e h1 h2 (Nat.dvd_trans he hd)
theorem facs_round {p n : Nat} (hp : 2 ≤ p) (hn : 0 < n) (hr : Rough p n) (hd : p ∣ n) : facs n = (p, mlt p n) :: facs (strip p n) ∧ Prm p := by
  have h1 := Nat.le_of_dvd hn hd
  have e := lpf_eq hd hn hp hr
  rw [facs_big (by omega), e]
  exact ⟨rfl, e ▸ lpf_prm (by omega)⟩
theorem rough_prime {p n : Nat} (hn : 2 ≤ n) (hr : Rough p n) (h : n < p * p) : Prm n ∧ Rough n n := by
  have key : Rough n n := by
    intro e h1 h2 hd
    obtain ⟨k, hk⟩ := hd
    have hep : p ≤ e := Nat.le_of_not_lt fun h3 => hr e h1 h3 ⟨k, hk⟩
    have hk2 : 2 ≤ k := by
      rcases Nat.lt_or_ge k 2 with h3 | h3
      · have : k = 0 ∨ k = 1 := by omega
        rcases this with rfl | rfl <;> omega
      · exact h3
    have hkp : p ≤ k := Nat.le_of_not_lt fun h3 => hr k hk2 h3 ⟨e, by rw [hk, Nat.mul_comm]⟩
    have := Nat.mul_le_mul hep hkp
    omega
  exact ⟨prm_of_least (Nat.dvd_refl n) hn key, key⟩
def prodL (f : Nat → Nat → Int) : List (Nat × Nat) → Int
  | [] => 1
  | (p, e) :: l => f p e * prodL f l
theorem prodL_append (f) : ∀ l m, prodL f (l ++ m) = prodL f l * prodL f m
  | [], m => by simp [prodL]
  | (p, e) :: l, m => by simp [prodL, prodL_append f l m, Int.mul_assoc]
theorem facs_ind {P : (n : Nat) → 0 < n → Prop} (h1 : P 1 (by omega))
    (h2 : ∀ n (_ : 2 ≤ n) (h0 : 0 < n) (hs : 0 < strip (lpf n) n), P (strip (lpf n) n) hs → P n h0) (n : Nat) (hn : 0 < n) : P n hn := by
  induction n using Nat.strongRecOn with
  | _ n ih =>
    by_cases hb : 2 ≤ n
    · exact h2 n hb hn (strip_pos _ _ hn) (ih _ (strip_lt (lpf_spec hb).2.1 hn (lpf_spec hb).1) _)
    · have : n = 1 := by omega
      subst this; exact h1
theorem ext_facs (f : Nat → Int) (n : Nat) (hn : 0 < n) : ext f n = prodL (fun p e => f p ^ e) (facs n) := by
  induction n, hn using facs_ind with
  | h1 => rw [ext_one, facs_small (by omega)]; rfl
  | h2 n hb h0 hs ih =>
    have hp := lpf_prm hb
    rw [facs_big hb]
    show _ = f _ ^ _ * prodL _ _
    rw [← ih, ← ext_prime f hp, ← ext_pow _ _ hp.pos, ← ext_mul _ _ _ (Nat.pow_pos hp.pos) hs, strip_mul]
theorem prod_facs (n : Nat) (hn : 0 < n) : prodL (fun p e => (p : Int) ^ e) (facs n) = n := by
  induction n, hn using facs_ind with
  | h1 => rw [facs_small (by omega)]; rfl
  | h2 n hb h0 hs ih =>
    rw [facs_big hb]
    show (_ : Int) ^ _ * prodL _ _ = _
    rw [ih]
    have := strip_mul (lpf n) n
    generalize strip (lpf n) n = s at *
    generalize lpf n = p at *
    generalize mlt p n = e at *
    rw [← this]
    simp
theorem facs_mem {n : Nat} (hn : 0 < n) : ∀ x ∈ facs n, Prm x.1 ∧ 0 < x.2 ∧ x.1 ∣ n := by
  induction n, hn using facs_ind with
  | h1 => rw [facs_small (by omega)]; intro x hx; cases hx
  | h2 n hb h0 hs ih =>
    rw [facs_big hb]
    intro x hx
    have hl := lpf_spec hb
    rcases List.mem_cons.1 hx with rfl | hx
    · exact ⟨lpf_prm hb, mlt_pos hl.2.1 h0 hl.1, hl.1⟩
    · obtain ⟨a, b, c⟩ := ih x hx
      exact ⟨a, b, Nat.dvd_trans c (strip_dvd _ _)⟩
end HP

/-! Plain number theory, fourth part: Kronecker's symbol for all integers, the rounds of Jacobi's method, periods. -/
namespace HP

theorem jac_odd_part {a : Int} {n z m : Nat} (hm : 0 < m) (h : n = 2 ^ z * m) : jac a n = two a ^ z * jac a m := by
  rw [h, jac_mul _ _ _ (Nat.pow_pos (by omega)) hm, jac_pow _ _ _ (by omega), jac_two]

theorem jac_nat_mul (a b n : Nat) (hn : 0 < n) : jac ((a * b : Nat) : Int) n = jac a n * jac b n := by
  rw [Int.natCast_mul, jac_mul_left _ _ _ hn]
theorem jac_nat_pow (a n : Nat) (hn : n % 2 = 1) : ∀ k, jac ((a ^ k : Nat) : Int) n = jac a n ^ k
  | 0 => by
    have : ((a ^ 0 : Nat) : Int) = 1 := by simp
    rw [this, jac_one_left hn, Int.pow_zero]
  | k + 1 => by
    rw [Nat.pow_succ, jac_nat_mul _ _ _ (by omega), jac_nat_pow a n hn k, Int.pow_succ]

def flip2 (z m : Nat) : Int := if z % 2 = 1 ∧ (m % 8 = 3 ∨ m % 8 = 5) then -1 else 1
theorem two_nat (m : Nat) : two (m : Int) = if m % 8 = 1 ∨ m % 8 = 7 then 1 else if m % 8 = 3 ∨ m % 8 = 5 then -1 else 0 := by
  unfold two
  have h : ((m : Int) % 8 = 1 ↔ m % 8 = 1) ∧ ((m : Int) % 8 = 7 ↔ m % 8 = 7) ∧ ((m : Int) % 8 = 3 ↔ m % 8 = 3) ∧ ((m : Int) % 8 = 5 ↔ m % 8 = 5) := by omega
  simp only [h.1, h.2.1, h.2.2.1, h.2.2.2]
theorem two_pow_flip {m : Nat} (hm : m % 2 = 1) (z : Nat) : two (m : Int) ^ z = flip2 z m := by
  rw [two_nat]
  unfold flip2
  rcases mod8_odd hm with h | h | h | h <;> rw [h]
  · rw [if_pos (by decide), Int.one_pow, if_neg (by omega)]
  · rw [if_neg (by decide), if_pos (by decide), sg_pow]; unfold sg
    rcases Nat.mod_two_eq_zero_or_one z with g | g <;> simp [g]
  · rw [if_neg (by decide), if_pos (by decide), sg_pow]; unfold sg
    rcases Nat.mod_two_eq_zero_or_one z with g | g <;> simp [g]
  · rw [if_pos (by decide), Int.one_pow, if_neg (by omega)]

theorem jac_round {a z b m : Nat} (hm : m % 2 = 1) (hb : b % 2 = 1) (h : a = 2 ^ z * b) :
    jac a m = flip2 z m * s44 b m * jac ((m % b : Nat) : Int) b := by
  rw [h, jac_nat_mul _ _ _ (by omega), jac_nat_pow _ _ hm]
  have e2 : ((2 : Nat) : Int) = 2 := rfl
  rw [e2, jac_two_left hm, two_pow_flip hm, jac_recip hb hm, Int.natCast_emod, jac_emod _ hb]
  grind
theorem jac_end {m : Nat} (hm : m % 2 = 1) : jac 0 m = if m = 1 then 1 else 0 := by
  split
  · next h => subst h; exact jac_one _
  · next h =>
    obtain ⟨p, hp, hd⟩ := exists_prime (n := m) (by omega)
    exact jac_zero_of (by omega) hp hd ⟨0, by omega⟩

def kro (a n : Int) : Int := if n = 0 then (if a = 1 ∨ a = -1 then 1 else 0) else (if n < 0 ∧ a < 0 then -1 else 1) * jac a n.natAbs
theorem kro_pos {a n : Int} (h : 0 < n) : kro a n = jac a n.toNat := by
  unfold kro
  rw [if_neg (by omega), if_neg (by omega), Int.one_mul]
  congr 1; omega
/-! the period of a discriminant -/
theorem two_natAbs (d : Int) : two d = two (d.natAbs : Int) := by
  rcases Int.natAbs_eq d with h | h
  · rw [← h]
  · have : d = -1 * (d.natAbs : Int) := by omega
    conv => lhs; rw [this]
    rw [two_mul]
    have : two (-1) = 1 := by decide
    rw [this, Int.one_mul]
theorem jac_abs {d : Int} {n : Nat} (hn : n % 2 = 1) : jac d n = (if d < 0 then s4 n else 1) * jac (d.natAbs : Int) n := by
  split
  · next h =>
    have : d = -1 * (d.natAbs : Int) := by omega
    conv => lhs; rw [this]
    rw [jac_mul_left _ _ _ (by omega), jac_neg_one hn]
  · next h =>
    have : (d.natAbs : Int) = d := by omega
    rw [this, Int.one_mul]
theorem kr_disc {d : Int} (h : d % 4 = 1) {p : Nat} (hp : Prm p) : kr d p = jac (p : Int) d.natAbs := by
  have hd : d.natAbs % 2 = 1 := by omega
  by_cases h2 : p = 2
  · subst h2
    have e2 : ((2 : Nat) : Int) = 2 := rfl
    rw [e2, jac_two_left hd, ← two_natAbs]; rfl
  · have ho := hp.odd h2
    rw [← jac_prime d hp, jac_abs ho, jac_recip hd ho]
    by_cases hneg : d < 0
    · rw [if_pos hneg]
      have : s44 d.natAbs p = s4 p := by
        unfold s44 s4
        have : d.natAbs % 4 = 3 := by omega
        simp [this]
      rw [this]
      have hs : s4 p * s4 p = 1 := by unfold s4; split <;> rfl
      calc s4 p * (jac (p : Int) d.natAbs * s4 p) = (s4 p * s4 p) * jac (p : Int) d.natAbs := by grind
        _ = _ := by rw [hs, Int.one_mul]
    · rw [if_neg hneg]
      have : s44 d.natAbs p = 1 := by
        unfold s44
        rw [if_neg (by omega)]
      rw [this, Int.one_mul, Int.mul_one]
theorem jac_disc {d : Int} (h : d % 4 = 1) (n : Nat) (hn : 0 < n) : jac d n = jac (n : Int) d.natAbs := by
  have hd : d.natAbs % 2 = 1 := by omega
  induction n, hn using prime_ind with
  | h1 => 
    have : ((1 : Nat) : Int) = 1 := rfl
    rw [jac_one, this, jac_one_left hd]
  | hp p m hp hm ih =>
    rw [jac_mul _ _ _ hp.pos hm, jac_nat_mul _ _ _ (by omega), ih, jac_prime _ hp, kr_disc h hp]

theorem jac_even {d : Int} {n : Nat} (hn : 0 < n) (h1 : d % 2 = 0) (h2 : n % 2 = 0) : jac d n = 0 :=
  jac_zero_of hn prm_two (Nat.dvd_of_mod_eq_zero h2) (Int.dvd_of_emod_eq_zero h1)

theorem s4_congr {m n : Nat} (h : m % 4 = n % 4) : s4 m = s4 n := by unfold s4; rw [h]
theorem s44_congr {k m n : Nat} (h : m % 4 = n % 4) : s44 k m = s44 k n := by unfold s44; rw [h]
theorem exists_two_pow (n : Nat) (hn : 0 < n) : ∃ z m, n = 2 ^ z * m ∧ m % 2 = 1 := by
  refine ⟨mlt 2 n, strip 2 n, (strip_mul 2 n).symm, ?_⟩
  have := strip_not (p := 2) (n := n) (by omega) hn
  omega

theorem jac_period {d : Int} (hd0 : d ≠ 0) (hd : d % 4 = 0 ∨ d % 4 = 1) (n k : Nat) (hn : 0 < n) : jac d (n + k * d.natAbs) = jac d n := by
  rcases hd with hd | hd
  · rcases Nat.mod_two_eq_zero_or_one n with hp | hp
    · have : (n + k * d.natAbs) % 2 = 0 := by
        rw [Nat.add_mod, Nat.mul_mod, show d.natAbs % 2 = 0 by omega]; simp [hp]
      rw [jac_even (by omega) (by omega) hp, jac_even (by omega) (by omega) this]
    · have hp' : (n + k * d.natAbs) % 2 = 1 := by
        rw [Nat.add_mod, Nat.mul_mod, show d.natAbs % 2 = 0 by omega]; simp [hp]
      have h4 : (n + k * d.natAbs) % 4 = n % 4 := by
        rw [Nat.add_mod, Nat.mul_mod, show d.natAbs % 4 = 0 by omega]; simp
      obtain ⟨z, e, hz, he⟩ := exists_two_pow d.natAbs (by omega)
      rw [jac_abs hp', jac_abs hp, hz, jac_nat_mul _ _ _ (by omega), jac_nat_mul _ _ _ (by omega), jac_nat_pow _ _ (by rw [← hz]; exact hp'), jac_nat_pow _ _ hp, ← hz]
      have e2 : ((2 : Nat) : Int) = 2 := rfl
      rw [e2, jac_two_left hp', jac_two_left hp, two_pow_flip hp', two_pow_flip hp, jac_recip he hp', jac_recip he hp, s4_congr h4, s44_congr h4]
      have h8 : flip2 z (n + k * d.natAbs) = flip2 z n := by
        unfold flip2
        rcases Nat.mod_two_eq_zero_or_one z with g | g
        · simp [g]
        · have : (n + k * d.natAbs) % 8 = n % 8 := by
            have hz3 : 3 ≤ z := by
              rcases Nat.lt_or_ge z 3 with h3 | h3
              · have : z = 1 := by omega
                subst this
                omega
              · exact h3
            obtain ⟨y, rfl⟩ := Nat.exists_eq_add_of_le hz3
            rw [hz, Nat.pow_add, Nat.add_mod, Nat.mul_mod]
            have : (2 ^ 3 * 2 ^ y * e) % 8 = 0 := by
              rw [Nat.mul_assoc]; exact Nat.mul_mod_right 8 _
            rw [this]; simp
          rw [this]
      have hc : jac ((n + k * d.natAbs : Nat) : Int) e = jac (n : Int) e := by
        refine jac_congr he ⟨(k : Int) * 2 ^ z, ?_⟩
        rw [hz]
        simp only [Int.natCast_add, Int.natCast_mul, Int.natCast_pow]
        grind
      rw [h8, hc]
  · have hdo : d.natAbs % 2 = 1 := by omega
    rw [jac_disc hd _ (by omega), jac_disc hd _ hn]
    refine jac_congr hdo ⟨(k : Int), ?_⟩
    simp only [Int.natCast_add, Int.natCast_mul]
    grind
end HP

/-! Plain number theory, fifth part: bounds on products over the factorization. -/
namespace HP

theorem facs_pow_dvd {n : Nat} (hn : 0 < n) : ∀ x ∈ facs n, x.1 ^ x.2 ∣ n := by
  induction n, hn using facs_ind with
  | h1 => rw [facs_small (by omega)]; intro x hx; cases hx
  | h2 n hb h0 hs ih =>
    rw [facs_big hb]
    intro x hx
    rcases List.mem_cons.1 hx with rfl | hx
    · exact mlt_dvd _ _
    · exact Nat.dvd_trans (ih x hx) (strip_dvd _ _)
theorem lt_two_pow (e : Nat) : e < 2 ^ e := Nat.lt_two_pow_self
theorem facs_bounds {n p e : Nat} (hn : 0 < n) (h : (p, e) ∈ facs n) : Prm p ∧ 2 ≤ p ∧ 1 ≤ e ∧ p ≤ n ∧ e ≤ n ∧ p ^ e ≤ n ∧ p ^ (e - 1) ≤ n := by
  obtain ⟨h1, h2, h3⟩ := facs_mem hn _ h
  have h4 := Nat.le_of_dvd hn (facs_pow_dvd hn _ h)
  have h5 : 2 ^ e ≤ p ^ e := Nat.pow_le_pow_left h1.1 e
  have h6 := lt_two_pow e
  have h7 : p ^ (e - 1) ≤ p ^ e := Nat.pow_le_pow_right h1.pos (by omega)
  exact ⟨h1, h1.1, h2, Nat.le_of_dvd hn h3, by simp only at h4; omega, h4, by simp only at h4; omega⟩

def pwF (p e : Nat) : Int := (p : Int) ^ e
def phiF (p e : Nat) : Int := ((p ^ (e - 1) * (p - 1) : Nat) : Int)
def psiF (p e : Nat) : Int := ((p ^ (e - 1) * (p + 1) : Nat) : Int)
theorem prodL_le {f g : Nat → Nat → Int} : ∀ l : List (Nat × Nat), (∀ x ∈ l, 0 ≤ f x.1 x.2 ∧ f x.1 x.2 ≤ g x.1 x.2) → 0 ≤ prodL f l ∧ prodL f l ≤ prodL g l
  | [], _ => by simp [prodL]
  | (p, e) :: l, h => by
    obtain ⟨h1, h2⟩ := h _ (List.mem_cons_self ..)
    obtain ⟨h3, h4⟩ := prodL_le l (fun x hx => h x (List.mem_cons_of_mem _ hx))
    exact ⟨Int.mul_nonneg h1 h3, Int.mul_le_mul h2 h4 h3 (Int.le_trans h1 h2)⟩
theorem prodL_mul (f g : Nat → Nat → Int) : ∀ l : List (Nat × Nat), prodL (fun p e => f p e * g p e) l = prodL f l * prodL g l
  | [] => by simp [prodL]
  | (p, e) :: l => by
    show f p e * g p e * prodL _ l = f p e * prodL f l * (g p e * prodL g l)
    rw [prodL_mul f g l]; grind
theorem pw_one_le {p e : Nat} (h : 1 ≤ p) : 1 ≤ pwF p e := by
  unfold pwF
  have : 0 < p ^ e := Nat.pow_pos h
  exact_mod_cast this
theorem prefix_pw {n : Nat} (hn : 0 < n) {l r : List (Nat × Nat)} (h : facs n = l ++ r) : 1 ≤ prodL pwF l ∧ prodL pwF l ≤ n := by
  have hone : ∀ m : List (Nat × Nat), (∀ x ∈ m, x ∈ facs n) → 1 ≤ prodL pwF m := by
    intro m hm
    have := prodL_le (f := fun _ _ => 1) (g := pwF) m (fun x hx => ⟨by decide, pw_one_le (by have := (facs_mem hn x (hm x hx)).1.1; omega)⟩)
    have e1 : ∀ m : List (Nat × Nat), prodL (fun _ _ => 1) m = 1 := by
      intro m; induction m with
      | nil => rfl
      | cons x m ih => obtain ⟨p, e⟩ := x; show 1 * prodL _ m = 1; rw [ih]; rfl
    rw [e1] at this
    exact this.2
  have h1 := hone l (fun x hx => by rw [h]; exact List.mem_append_left _ hx)
  have h2 := hone r (fun x hx => by rw [h]; exact List.mem_append_right _ hx)
  have h3 : prodL pwF l * prodL pwF r = n := by
    rw [← prodL_append, ← h]; exact prod_facs n hn
  refine ⟨h1, ?_⟩
  have : prodL pwF l * 1 ≤ prodL pwF l * prodL pwF r := Int.mul_le_mul_of_nonneg_left h2 (by omega)
  omega

theorem pow_pred {p e : Nat} (he : 1 ≤ e) : p ^ e = p ^ (e - 1) * p := by
  obtain ⟨k, rfl⟩ : ∃ k, e = k + 1 := ⟨e - 1, by omega⟩
  rw [Nat.pow_succ]; rfl
theorem phiF_le {p e : Nat} (hp : 2 ≤ p) (he : 1 ≤ e) : 0 ≤ phiF p e ∧ phiF p e ≤ pwF p e ∧ 1 ≤ phiF p e := by
  unfold phiF pwF
  have h1 : p ^ (e - 1) * (p - 1) ≤ p ^ (e - 1) * p := Nat.mul_le_mul_left _ (by omega)
  rw [← pow_pred he] at h1
  have h2 : 1 ≤ p ^ (e - 1) * (p - 1) := Nat.mul_pos (Nat.pow_pos (by omega)) (by omega)
  exact ⟨by omega, by exact_mod_cast h1, by exact_mod_cast h2⟩
theorem psiF_le {p e : Nat} (hp : 2 ≤ p) (he : 1 ≤ e) : 0 ≤ psiF p e ∧ psiF p e ≤ pwF p e * pwF p e := by
  unfold psiF pwF
  have h1 : p ^ (e - 1) * (p + 1) ≤ p ^ e * p ^ e := by
    have h2 : p ^ 1 ≤ p ^ e := Nat.pow_le_pow_right (by omega) he
    rw [Nat.pow_one] at h2
    have h3 : p * 2 ≤ p * p ^ e := Nat.mul_le_mul_left _ (by omega)
    have h4 : p ^ (e - 1) * (p + 1) ≤ p ^ (e - 1) * (p * p ^ e) := Nat.mul_le_mul_left _ (by omega)
    rw [← Nat.mul_assoc, ← pow_pred he] at h4
    exact h4
  exact ⟨by omega, by exact_mod_cast h1⟩
theorem mem_prefix {n : Nat} {l r : List (Nat × Nat)} (h : facs n = l ++ r) {x : Nat × Nat} (hx : x ∈ l) : x ∈ facs n := by rw [h]; exact List.mem_append_left _ hx
theorem phi_prefix {n : Nat} (hn : 0 < n) {l r : List (Nat × Nat)} (h : facs n = l ++ r) : 0 ≤ prodL phiF l ∧ prodL phiF l ≤ n := by
  obtain ⟨h1, h2⟩ := prefix_pw hn h
  have h3 := prodL_le (f := phiF) (g := pwF) l (fun x hx => by
    obtain ⟨p, e⟩ := x
    obtain ⟨a, b, c, _⟩ := facs_bounds hn (mem_prefix h hx)
    have := phiF_le b c
    exact ⟨this.1, this.2.1⟩)
  omega
theorem psi_prefix {n : Nat} (hn : 0 < n) {l r : List (Nat × Nat)} (h : facs n = l ++ r) : 0 ≤ prodL psiF l ∧ prodL psiF l ≤ (n : Int) * n := by
  obtain ⟨h1, h2⟩ := prefix_pw hn h
  have h3 := prodL_le (f := psiF) (g := fun p e => pwF p e * pwF p e) l (fun x hx => by
    obtain ⟨p, e⟩ := x
    obtain ⟨a, b, c, _⟩ := facs_bounds hn (mem_prefix h hx)
    exact psiF_le b c)
  rw [prodL_mul] at h3
  have h4 : prodL pwF l * prodL pwF l ≤ (n : Int) * n := Int.mul_le_mul h2 h2 (by omega) (by omega)
  exact ⟨h3.1, Int.le_trans h3.2 h4⟩
def phi (n : Nat) : Int := prodL phiF (facs n)
def psi (n : Nat) : Int := prodL psiF (facs n)
end HP

/-! Plain number theory, sixth part: the extended Euclidean algorithm with truncated division. -/
namespace HP

def Sgn (x : Int) : Prop := x = 1 ∨ x = -1

def XI (a b g rest u next : Int) : Prop :=
  ∃ (x y z : Int) (R R' U N : Nat), Sgn x ∧ Sgn y ∧ Sgn z ∧ g = x * R ∧ rest = y * R' ∧ u = z * U ∧ next = -(x * y * z) * N ∧
    N * R + U * R' = b.natAbs ∧ U ≤ b.natAbs ∧ N ≤ b.natAbs ∧ b ∣ g - u * a ∧ b ∣ rest - next * a ∧ Int.gcd g rest = Int.gcd a b

theorem sgn_of (a : Int) : ∃ x, Sgn x ∧ a = x * a.natAbs := by
  by_cases h : 0 ≤ a
  · exact ⟨1, .inl rfl, by omega⟩
  · exact ⟨-1, .inr rfl, by omega⟩

theorem xi_start {a b : Int} (hb : b ≠ 0) : XI a b a b 1 0 := by
  obtain ⟨x, hx, ha⟩ := sgn_of a
  obtain ⟨y, hy, hbb⟩ := sgn_of b
  exact ⟨x, y, 1, a.natAbs, b.natAbs, 1, 0, hx, hy, .inl rfl, ha, hbb, by omega, by simp, by omega, by omega, by omega, ⟨0, by omega⟩, ⟨1, by omega⟩, rfl⟩

theorem sgn_tdiv {x y : Int} {R R' : Nat} (hx : Sgn x) (hy : Sgn y) : (x * R).tdiv (y * R') = x * y * ((R / R' : Nat) : Int) := by
  have h : ((R : Int)).tdiv R' = ((R / R' : Nat) : Int) := by
    rw [Int.tdiv_eq_ediv_of_nonneg (by omega)]; simp
  rcases hx with rfl | rfl <;> rcases hy with rfl | rfl
  · rw [Int.one_mul, Int.one_mul, h]; omega
  · rw [Int.one_mul, Int.neg_mul, Int.one_mul, Int.tdiv_neg, h]; omega
  · rw [Int.neg_mul, Int.one_mul, Int.one_mul, Int.neg_tdiv, h]; omega
  · rw [Int.neg_mul, Int.one_mul, Int.neg_mul, Int.one_mul, Int.neg_tdiv, Int.tdiv_neg, h]; omega

theorem sgn_sq {x : Int} (hx : Sgn x) : x * x = 1 := by rcases hx with rfl | rfl <;> rfl
theorem sgn_abs {x : Int} (hx : Sgn x) (n : Nat) : (x * n).natAbs = n := by rcases hx with rfl | rfl <;> omega
theorem sgn_mul {x y : Int} (hx : Sgn x) (hy : Sgn y) : Sgn (x * y) := by
  rcases hx with rfl | rfl <;> rcases hy with rfl | rfl <;> simp [Sgn]
theorem sgn_neg {x : Int} (hx : Sgn x) : Sgn (-x) := by rcases hx with rfl | rfl <;> simp [Sgn]

theorem gcd_sub_mul (g r q : Int) : Int.gcd r (g - q * r) = Int.gcd g r := by
  have h1 : ((Int.gcd g r : Nat) : Int) ∣ g := Int.gcd_dvd_left ..
  have h2 : ((Int.gcd g r : Nat) : Int) ∣ r := Int.gcd_dvd_right ..
  have h3 : ((Int.gcd r (g - q * r) : Nat) : Int) ∣ r := Int.gcd_dvd_left ..
  have h4 : ((Int.gcd r (g - q * r) : Nat) : Int) ∣ g - q * r := Int.gcd_dvd_right ..
  apply Nat.dvd_antisymm
  · apply Int.dvd_gcd _ h3 |> fun h => h
    have : ((Int.gcd r (g - q * r) : Nat) : Int) ∣ (g - q * r) + q * r := Int.dvd_add h4 (Int.dvd_mul_of_dvd_right h3)
    rwa [Int.sub_add_cancel] at this
  · exact Int.dvd_gcd h2 (Int.dvd_sub h1 (Int.dvd_mul_of_dvd_right h2))

theorem dvd_step {b g u r n a q : Int} (h : b ∣ g - u * a) (h' : b ∣ r - n * a) : b ∣ (g - q * r) - (u - q * n) * a := by
  obtain ⟨k, hk⟩ := h
  obtain ⟨l, hl⟩ := h'
  exact ⟨k - q * l, by grind⟩
theorem xi_step {a b g rest u next : Int} (h : XI a b g rest u next) (hr : rest ≠ 0) :
    XI a b rest (g - g.tdiv rest * rest) next (u - g.tdiv rest * next) ∧ (g - g.tdiv rest * rest).natAbs < rest.natAbs ∧
    (g.tdiv rest).natAbs ≤ g.natAbs ∧ (g.tdiv rest * rest).natAbs ≤ g.natAbs ∧ (g.tdiv rest * next).natAbs ≤ b.natAbs ∧ (u - g.tdiv rest * next).natAbs ≤ b.natAbs ∧ u.natAbs ≤ b.natAbs := by
  obtain ⟨x, y, z, R, R', U, N, hx, hy, hz, rfl, rfl, rfl, rfl, h1, h2, h3, h4, h5, h6⟩ := h
  have hR' : 0 < R' := by
    rcases Nat.eq_zero_or_pos R' with h | h
    · subst h; simp at hr
    · exact h
  rw [sgn_tdiv hx hy]
  have e1 := Nat.div_add_mod R R'
  have e2 := Nat.mod_lt R hR'
  generalize hq : R / R' = q at *
  generalize R % R' = t at *
  have xx := sgn_sq hx
  have yy := sgn_sq hy
  have zz := sgn_sq hz
  have hqR : q * R' ≤ R := by rw [Nat.mul_comm]; omega
  have hRe : (R : Int) = R' * q + t := by exact_mod_cast e1.symm
  have ea : x * R - x * y * (q : Int) * (y * R') = x * t := by
    rw [hRe]
    have : x * y * (q : Int) * (y * R') = x * (y * y) * (q * R') := by grind
    rw [this, yy]; grind
  have eb : z * U - x * y * (q : Int) * (-(x * y * z) * N) = z * ((U + q * N : Nat) : Int) := by
    have : x * y * (q : Int) * (-(x * y * z) * N) = -((x * x) * (y * y) * z * (q * N)) := by grind
    rw [this, xx, yy]
    simp only [Int.natCast_add, Int.natCast_mul]
    grind
  have hN : (U + q * N) * R' ≤ b.natAbs := by
    have : q * N * R' ≤ N * R := by
      have := Nat.mul_le_mul_left N hqR
      grind
    rw [Nat.add_mul]; omega
  have hN2 : U + q * N ≤ b.natAbs := Nat.le_trans (Nat.le_mul_of_pos_right _ hR') hN
  have hqN : q * N ≤ b.natAbs := by omega
  rw [ea, eb]
  refine ⟨⟨y, x, -(x * y * z), R', t, N, U + q * N, hy, hx, sgn_neg (sgn_mul (sgn_mul hx hy) hz), rfl, rfl, rfl, ?_, ?_, h3, hN2, h5, ?_, ?_⟩, ?_, ?_, ?_, ?_, ?_, ?_⟩
  · have : -(y * x * -(x * y * z)) = (x * x) * (y * y) * z := by grind
    rw [this, xx, yy]; simp
  · rw [← h1, ← e1]; grind
  · rw [← ea, ← eb]
    exact dvd_step h4 h5
  · rw [← ea, gcd_sub_mul, h6]
  · rw [sgn_abs hx, sgn_abs hy]; exact e2
  · rw [sgn_abs (sgn_mul hx hy), sgn_abs hx, ← hq]; exact Nat.div_le_self _ _
  · have : x * y * (q : Int) * (y * R') = (x * (y * y)) * ((q * R' : Nat) : Int) := by simp; grind
    rw [this, yy, Int.mul_one, sgn_abs hx, sgn_abs hx]; exact hqR
  · have : x * y * (q : Int) * (-(x * y * z) * N) = -((x * x) * (y * y) * z) * ((q * N : Nat) : Int) := by simp; grind
    rw [this, xx, yy, Int.one_mul, Int.one_mul, sgn_abs (sgn_neg hz)]; exact hqN
  · rw [sgn_abs hz]; exact hN2
  · rw [sgn_abs hz]; exact h2

def XU (a b u : Int) : Prop := 0 ≤ u ∧ u < b.natAbs / Int.gcd a b ∧ b ∣ Int.gcd a b - u * a

theorem xi_end {a b g u next : Int} (hb : b ≠ 0) (h : XI a b g 0 u next) : g.natAbs = Int.gcd a b ∧ b ∣ g - u * a ∧ u.natAbs ≤ b.natAbs ∧ 0 < Int.gcd a b := by
  obtain ⟨x, y, z, R, R', U, N, hx, hy, hz, rfl, h0, rfl, rfl, h1, h2, h3, h4, h5, h6⟩ := h
  rw [Int.gcd_zero_right] at h6
  refine ⟨h6, h4, by rw [sgn_abs hz]; exact h2, ?_⟩
  exact Int.gcd_pos_of_ne_zero_right a hb

theorem xu_mod {a b u : Int} (hb : b ≠ 0) (h : b ∣ Int.gcd a b - u * a) : XU a b (u % ((b.natAbs / Int.gcd a b : Nat) : Int)) := by
  have hg : 0 < Int.gcd a b := Int.gcd_pos_of_ne_zero_right a hb
  have hgb : Int.gcd a b ∣ b.natAbs := Nat.gcd_dvd_right a.natAbs b.natAbs
  have hga : ((Int.gcd a b : Nat) : Int) ∣ a := Int.gcd_dvd_left ..
  have hm : 0 < b.natAbs / Int.gcd a b := Nat.div_pos (Nat.le_of_dvd (by omega) hgb) hg
  refine ⟨Int.emod_nonneg _ (by omega), ?_, ?_⟩
  · have := Int.emod_lt_of_pos u (show (0 : Int) < ((b.natAbs / Int.gcd a b : Nat) : Int) by omega)
    exact_mod_cast this
  · have e := Int.mul_ediv_add_emod u ((b.natAbs / Int.gcd a b : Nat) : Int)
    obtain ⟨k, hk⟩ := h
    obtain ⟨l, hl⟩ := hga
    have hbb : (b.natAbs : Int) = (Int.gcd a b : Int) * ((b.natAbs / Int.gcd a b : Nat) : Int) := by
      exact_mod_cast (Nat.mul_div_cancel' hgb).symm
    generalize ((b.natAbs / Int.gcd a b : Nat) : Int) = m at *
    generalize u / m = q at *
    generalize hG : ((Int.gcd a b : Nat) : Int) = G at *
    have hd : b ∣ (b.natAbs : Int) := by rcases Int.natAbs_eq b with h | h
                                         · rw [← h]; exact Int.dvd_refl _
                                         · exact ⟨-1, by omega⟩
    obtain ⟨s, hs⟩ := hd
    refine ⟨k + q * l * s, ?_⟩
    have : q * m * a = q * l * (b.natAbs : Int) := by rw [hbb, hl]; grind
    grind

end HP

/-! Plain number theory, seventh part: inverses, the Chinese remainder theorem. -/
namespace HP

def invM (a m : Int) : Int := ((((List.range m.toNat).find? (fun (x : Nat) => (a * x - 1) % m = 0)).getD 0 : Nat) : Int)

theorem small_dvd {m x : Int} (hd : m ∣ x) (h1 : x < m) (h2 : -m < x) : x = 0 := by
  obtain ⟨k, hk⟩ := hd
  rcases Int.lt_trichotomy k 0 with h4 | h4 | h4
  · have : m * k ≤ m * (-1) := Int.mul_le_mul_of_nonneg_left (by omega) (by omega)
    omega
  · subst h4; omega
  · have : m * 1 ≤ m * k := Int.mul_le_mul_of_nonneg_left (by omega) (by omega)
    omega
theorem inv_unique {a m x y : Int} (hx : 0 ≤ x ∧ x < m ∧ m ∣ a * x - 1) (hy : 0 ≤ y ∧ y < m ∧ m ∣ a * y - 1) : x = y := by
  obtain ⟨x1, x2, k, hk⟩ := hx
  obtain ⟨y1, y2, l, hl⟩ := hy
  have := small_dvd (m := m) (x := x - y) ⟨y * k - x * l, by grind⟩ (by omega) (by omega)
  omega
theorem invM_eq {a m x : Int} (h0 : 0 ≤ x) (h1 : x < m) (h : m ∣ a * x - 1) : invM a m = x := by
  unfold invM
  have hx : ((List.range m.toNat).find? (fun (x : Nat) => (a * x - 1) % m = 0)).isSome := by
    rw [List.find?_isSome]
    refine ⟨x.toNat, List.mem_range.2 (by omega), ?_⟩
    rw [Int.toNat_of_nonneg h0]
    simpa using Int.emod_eq_zero_of_dvd h
  obtain ⟨y, hy⟩ := Option.isSome_iff_exists.1 hx
  rw [hy]
  have h2 := List.find?_some hy
  have h3 := List.mem_range.1 (List.mem_of_find?_eq_some hy)
  simp only [decide_eq_true_eq] at h2
  exact inv_unique ⟨by simp, by simp; omega, by simpa using Int.dvd_of_emod_eq_zero h2⟩ ⟨h0, h1, h⟩
theorem invM_range (a : Int) {m : Int} (hm : 0 < m) : 0 ≤ invM a m ∧ invM a m < m := by
  unfold invM
  cases h : (List.range m.toNat).find? (fun (x : Nat) => (a * x - 1) % m = 0) with
  | none => exact ⟨by simp, by simpa using hm⟩
  | some y =>
    have h3 := List.mem_range.1 (List.mem_of_find?_eq_some h)
    exact ⟨by simp, by simp; omega⟩

theorem xu_inv {a b u : Int} (hb : 0 < b) (h : XU a b u) : u = invM (a / Int.gcd a b) (b / Int.gcd a b) := by
  obtain ⟨h1, h2, k, hk⟩ := h
  have hg : 0 < Int.gcd a b := Int.gcd_pos_of_ne_zero_right a (by omega)
  have hga : ((Int.gcd a b : Nat) : Int) ∣ a := Int.gcd_dvd_left ..
  have hgb : ((Int.gcd a b : Nat) : Int) ∣ b := Int.gcd_dvd_right ..
  rw [show (b.natAbs : Int) = b by omega] at h2
  generalize hG : ((Int.gcd a b : Nat) : Int) = G at *
  obtain ⟨s, rfl⟩ := hga
  obtain ⟨t, rfl⟩ := hgb
  have hG0 : 0 < G := by omega
  rw [Int.mul_ediv_cancel_left _ (by omega)] at h2 ⊢
  rw [Int.mul_ediv_cancel_left _ (by omega)]
  refine (invM_eq h1 h2 ⟨-k, ?_⟩).symm
  have : G * (s * u - 1) = G * (t * -k) := by grind
  exact Int.eq_of_mul_eq_mul_left (by omega) this
/-! the Chinese remainder theorem -/
def crtStep (c : Int × Int) (r m : Int) : Except Int (Int × Int) :=
  if m < 1 ∨ 2147483647 < m then .error 2
  else if (r % m - c.1) % (Int.gcd c.2 m : Int) ≠ 0 then .error 24
  else if 2147483647 / (m / (Int.gcd c.2 m : Int)) < c.2 then .error 7
  else .ok (c.1 + c.2 * (((r % m - c.1) / (Int.gcd c.2 m : Int) % (m / (Int.gcd c.2 m : Int))) * invM (c.2 / (Int.gcd c.2 m : Int)) (m / (Int.gcd c.2 m : Int)) % (m / (Int.gcd c.2 m : Int))), c.2 * (m / (Int.gcd c.2 m : Int)))
def crt (c : Int × Int) : List (Int × Int) → Except Int (Int × Int)
  | [] => .ok c
  | (r, m) :: l => match crtStep c r m with
    | .ok c' => crt c' l
    | .error e => .error e
def crtOut : Except Int (Int × Int) → Int × Int × Int
  | .ok c => (c.1, c.2, 0)
  | .error e => (0, 0, e)
def CrtOk (c : Int × Int) : Prop := 0 ≤ c.1 ∧ c.1 < c.2 ∧ c.2 ≤ 2147483647

theorem crt_drop {c : Int × Int} {l : List (Int × Int)} {k : Nat} {r m : Int} (h : l[k]? = some (r, m)) :
    crt c (l.drop k) = match crtStep c r m with | .ok c' => crt c' (l.drop (k + 1)) | .error e => .error e := by
  obtain ⟨hk, he⟩ := List.getElem?_eq_some_iff.1 h
  rw [List.drop_eq_getElem_cons hk, he]
  rfl
theorem crt_err {c : Int × Int} {l : List (Int × Int)} {k : Nat} {r m e : Int} (h : l[k]? = some (r, m)) (hs : crtStep c r m = .error e) : crt c (l.drop k) = .error e := by
  rw [crt_drop h, hs]
theorem crt_ok {c c' : Int × Int} {l : List (Int × Int)} {k : Nat} {r m : Int} (h : l[k]? = some (r, m)) (hs : crtStep c r m = .ok c') : crt c (l.drop k) = crt c' (l.drop (k + 1)) := by
  rw [crt_drop h, hs]
theorem crtStep_2 {c : Int × Int} {r m : Int} (h : m < 1 ∨ 2147483647 < m) : crtStep c r m = .error 2 := by unfold crtStep; rw [if_pos h]
theorem crtStep_24 {c : Int × Int} {r m : Int} (h : 1 ≤ m ∧ m ≤ 2147483647) (hd : ¬ (r % m - c.1) % (Int.gcd c.2 m : Int) = 0) : crtStep c r m = .error 24 := by
  unfold crtStep; rw [if_neg (by omega), if_pos hd]
theorem crtStep_7 {c : Int × Int} {r m : Int} (h : 1 ≤ m ∧ m ≤ 2147483647) (hd : (r % m - c.1) % (Int.gcd c.2 m : Int) = 0) (hl : 2147483647 / (m / (Int.gcd c.2 m : Int)) < c.2) : crtStep c r m = .error 7 := by
  unfold crtStep; rw [if_neg (by omega), if_neg (fun x => x hd), if_pos hl]
theorem crtStep_ok {c : Int × Int} {r m : Int} (h : 1 ≤ m ∧ m ≤ 2147483647) (hd : (r % m - c.1) % (Int.gcd c.2 m : Int) = 0) (hl : ¬ 2147483647 / (m / (Int.gcd c.2 m : Int)) < c.2) :
    crtStep c r m = .ok (c.1 + c.2 * (((r % m - c.1) / (Int.gcd c.2 m : Int) % (m / (Int.gcd c.2 m : Int))) * invM (c.2 / (Int.gcd c.2 m : Int)) (m / (Int.gcd c.2 m : Int)) % (m / (Int.gcd c.2 m : Int))), c.2 * (m / (Int.gcd c.2 m : Int))) := by
  unfold crtStep; rw [if_neg (by omega), if_neg (fun x => x hd), if_neg hl]
theorem crt_range {c : Int × Int} {s k : Int} (hc : CrtOk c) (hs : 1 ≤ s) (hk0 : 0 ≤ k) (hk1 : k < s) (hM : c.2 ≤ 2147483647 / s) :
    CrtOk (c.1 + c.2 * k, c.2 * s) ∧ 0 ≤ c.2 * k ∧ c.2 * k ≤ 2147483647 ∧ 0 ≤ c.2 * s ∧ c.2 * s ≤ 2147483647 := by
  obtain ⟨h1, h2, h3⟩ := hc
  have e1 : c.2 * s ≤ 2147483647 := by
    have := Int.mul_le_mul_of_nonneg_right hM (show 0 ≤ s by omega)
    have h4 := Int.ediv_mul_le 2147483647 (show s ≠ 0 by omega)
    omega
  have e2 : c.2 * k ≤ c.2 * (s - 1) := Int.mul_le_mul_of_nonneg_left (by omega) (by omega)
  have e3 : c.2 * (s - 1) = c.2 * s - c.2 := by grind
  have e4 : 0 ≤ c.2 * k := Int.mul_nonneg (by omega) hk0
  have e5 : 0 ≤ c.2 * s := Int.mul_nonneg (by omega) (by omega)
  exact ⟨⟨by simp only; omega, by simp only; omega, e1⟩, e4, by omega, e5, e1⟩
theorem div_pos_le {m G : Int} (hG : 0 < G) (hm : 0 < m) (hd : G ∣ m) : 0 < m / G ∧ m / G ≤ m := by
  obtain ⟨q, rfl⟩ := hd
  rw [Int.mul_ediv_cancel_left _ (by omega)]
  have h : 0 < q := Int.pos_of_mul_pos_right hm (by omega) |> fun h => h
  refine ⟨h, ?_⟩
  have := Int.mul_le_mul_of_nonneg_right (show 1 ≤ G by omega) (show 0 ≤ q by omega)
  omega
theorem tmod_zero_iff {d G : Int} : d.tmod G = 0 ↔ d % G = 0 := by
  constructor
  · intro h; exact Int.emod_eq_zero_of_dvd (Int.dvd_of_tmod_eq_zero h)
  · intro h; exact Int.tmod_eq_zero_of_dvd (Int.dvd_of_emod_eq_zero h)
theorem mul_bd {x y : Int} (hx0 : 0 ≤ x) (hx : x ≤ 2147483647) (hy0 : 0 ≤ y) (hy : y ≤ 2147483647) : 0 ≤ x * y ∧ x * y ≤ 4611686014132420609 := by
  refine ⟨Int.mul_nonneg hx0 hy0, ?_⟩
  have := Int.mul_le_mul_of_nonneg_right hx hy0
  omega
end HP

/-! Plain number theory, eighth part: which list is a factorization; square-free parts and fundamental discriminants. -/
namespace HP

def natL : List (Nat × Nat) → Nat
  | [] => 1
  | (p, e) :: l => p ^ e * natL l
def Asc : Nat → List (Nat × Nat) → Prop
  | _, [] => True
  | b, (p, e) :: l => b < p ∧ Prm p ∧ 0 < e ∧ Asc p l
theorem natL_pos : ∀ {b : Nat} {l : List (Nat × Nat)}, Asc b l → 0 < natL l
  | _, [], _ => by decide
  | _, (p, e) :: l, ⟨_, h2, _, h4⟩ => Nat.mul_pos (Nat.pow_pos h2.pos) (natL_pos h4)
theorem Prm.dvd_of_dvd_pow {q p : Nat} (hq : Prm q) : ∀ {e : Nat}, q ∣ p ^ e → q ∣ p
  | 0, h => absurd h hq.not_dvd_one
  | e + 1, h => by
    rw [Nat.pow_succ] at h
    rcases hq.dvd_mul h with h5 | h5
    · exact hq.dvd_of_dvd_pow h5
    · exact h5
theorem asc_prime_dvd : ∀ {b : Nat} {l : List (Nat × Nat)} {q : Nat}, Asc b l → Prm q → q ∣ natL l → b < q
  | _, [], q, _, hq, hd => absurd hd hq.not_dvd_one
  | b, (p, e) :: l, q, ⟨h1, h2, h3, h4⟩, hq, hd => by
    rcases hq.dvd_mul hd with h | h
    · have hqp : q ∣ p := hq.dvd_of_dvd_pow h
      have := hq.eq_of_dvd h2 hqp
      omega
    · have := asc_prime_dvd h4 hq h
      omega
theorem mlt_pow_mul {p m : Nat} (hp : 2 ≤ p) (hm : 0 < m) (hd : ¬ p ∣ m) : ∀ e, mlt p (p ^ e * m) = e ∧ strip p (p ^ e * m) = m
  | 0 => by
    have h : m % p ≠ 0 := fun h => hd (Nat.dvd_of_mod_eq_zero h)
    rw [Nat.pow_zero, Nat.one_mul, mlt_no h, strip_no h]
    exact ⟨rfl, rfl⟩
  | e + 1 => by
    have hpos : 0 < p ^ (e + 1) * m := Nat.mul_pos (Nat.pow_pos (by omega)) hm
    have h0 : p ^ (e + 1) * m % p = 0 := Nat.mod_eq_zero_of_dvd ⟨p ^ e * m, by rw [Nat.pow_succ]; grind⟩
    have h1 : p ^ (e + 1) * m / p = p ^ e * m := by
      have : p ^ (e + 1) * m = p * (p ^ e * m) := by rw [Nat.pow_succ]; grind
      rw [this, Nat.mul_div_cancel_left _ (by omega)]
    obtain ⟨i1, i2⟩ := mlt_pow_mul hp hm hd e
    rw [mlt_yes hp hpos h0, strip_yes hp hpos h0, h1, i1, i2]
    exact ⟨by omega, rfl⟩
theorem facs_of : ∀ {b : Nat} (l : List (Nat × Nat)), Asc b l → facs (natL l) = l
  | _, [], _ => facs_small (by decide)
  | b, (p, e) :: l, ⟨h1, h2, h3, h4⟩ => by
    have hpos := natL_pos h4
    have hnd : ¬ p ∣ natL l := fun hd => by have := asc_prime_dvd h4 h2 hd; omega
    obtain ⟨m1, m2⟩ := mlt_pow_mul h2.1 hpos hnd e
    have hn : 0 < p ^ e * natL l := Nat.mul_pos (Nat.pow_pos h2.pos) hpos
    have hdv : p ∣ p ^ e * natL l := Nat.dvd_trans (by obtain ⟨k, rfl⟩ : ∃ k, e = k + 1 := ⟨e - 1, by omega⟩
                                                       exact ⟨p ^ k, by rw [Nat.pow_succ, Nat.mul_comm]⟩) (Nat.dvd_mul_right _ _)
    have hr : Rough p (p ^ e * natL l) := by
      intro c hc1 hc2 hcd
      obtain ⟨q, hq, hqc⟩ := exists_prime hc1
      have hql : q ≤ c := Nat.le_of_dvd (by omega) hqc
      have := asc_prime_dvd (b := p - 1) (l := (p, e) :: l) ⟨by have := h2.pos; omega, h2, h3, h4⟩ hq (Nat.dvd_trans hqc hcd)
      omega
    show facs (p ^ e * natL l) = _
    rw [(facs_round h2.1 hn hr hdv).1, m1, m2, facs_of l h4]
theorem facs_asc (n : Nat) (hn : 0 < n) : ∀ b, (∀ q, Prm q → q ∣ n → b < q) → Asc b (facs n) := by
  induction n, hn using facs_ind with
  | h1 => intro b _; rw [facs_small (by omega)]; trivial
  | h2 n hb h0 hs ih =>
    intro b hbq
    rw [facs_big hb]
    have hl := lpf_spec hb
    refine ⟨hbq _ (lpf_prm hb) hl.1, lpf_prm hb, mlt_pos hl.2.1 h0 hl.1, ih _ fun q hq hd => ?_⟩
    have h1 : q ∣ n := Nat.dvd_trans hd (strip_dvd _ _)
    have h2 : ¬ q < lpf n := fun h => hl.2.2 q hq.1 h h1
    have h3 : q ≠ lpf n := fun h => by subst h; exact strip_not hl.2.1 h0 hd
    omega
theorem facs_asc1 (n : Nat) (hn : 0 < n) : Asc 1 (facs n) := facs_asc n hn 1 fun _ hq _ => hq.1
theorem natL_facs (n : Nat) (hn : 0 < n) : natL (facs n) = n := by
  have h := prod_facs n hn
  have e : ∀ l : List (Nat × Nat), prodL (fun p e => (p : Int) ^ e) l = (natL l : Nat) := by
    intro l
    induction l with
    | nil => rfl
    | cons x l ih =>
      obtain ⟨p, e⟩ := x
      show (p : Int) ^ e * _ = ((p ^ e * natL l : Nat) : Int)
      rw [ih]; simp
  rw [e] at h
  exact_mod_cast h

def frL (l : List (Nat × Nat)) : Int := prodL (fun p e => ((p ^ (e % 2) : Nat) : Int)) l
def sqL (l : List (Nat × Nat)) : Int := prodL (fun p e => ((p ^ (e / 2) : Nat) : Int)) l
end HP

/-! Plain number theory, ninth part: the fundamental discriminant as the program computes it. -/
namespace HP

def frF (p e : Nat) : Int := ((p ^ (e % 2) : Nat) : Int)
def sqF (p e : Nat) : Int := ((p ^ (e / 2) : Nat) : Int)
theorem prodL_next (f : Nat → Nat → Int) {l : List (Nat × Nat)} {i p e : Nat} (h : l[i]? = some (p, e)) : prodL f (l.take (i + 1)) = prodL f (l.take i) * f p e := by
  obtain ⟨hi, he⟩ := List.getElem?_eq_some_iff.1 h
  rw [List.take_succ_eq_append_getElem hi, he, prodL_append]
  simp [prodL]
theorem part_bd {f : Nat → Nat → Int} (hf : ∀ p e, 2 ≤ p → 1 ≤ e → 1 ≤ f p e ∧ f p e ≤ pwF p e) {n : Nat} (hn : 0 < n) {l r : List (Nat × Nat)} (h : facs n = l ++ r) : 1 ≤ prodL f l ∧ prodL f l ≤ n := by
  obtain ⟨_, h2⟩ := prefix_pw hn h
  have hm : ∀ x ∈ l, 2 ≤ x.1 ∧ 1 ≤ x.2 := fun x hx => by
    obtain ⟨_, b, c, _⟩ := facs_bounds (p := x.1) (e := x.2) hn (mem_prefix h hx)
    exact ⟨b, c⟩
  have h3 := prodL_le (f := f) (g := pwF) l (fun x hx => by
    have := hf x.1 x.2 (hm x hx).1 (hm x hx).2
    exact ⟨by omega, this.2⟩)
  refine ⟨?_, by omega⟩
  have h4 := prodL_le (f := fun _ _ => 1) (g := f) l (fun x hx => ⟨by decide, (hf x.1 x.2 (hm x hx).1 (hm x hx).2).1⟩)
  have e1 : ∀ m : List (Nat × Nat), prodL (fun _ _ => 1) m = 1 := by
    intro m; induction m with
    | nil => rfl
    | cons x m ih => obtain ⟨p, e⟩ := x; show 1 * prodL _ m = 1; rw [ih]; rfl
  rw [e1] at h4
  exact h4.2
theorem pow_bd {p a b : Nat} (hp : 2 ≤ p) (h : a ≤ b) : 1 ≤ ((p ^ a : Nat) : Int) ∧ ((p ^ a : Nat) : Int) ≤ pwF p b := by
  have h1 : p ^ a ≤ p ^ b := Nat.pow_le_pow_right (by omega) h
  have h2 : 0 < p ^ a := Nat.pow_pos (by omega)
  unfold pwF
  exact ⟨by omega, by exact_mod_cast h1⟩
theorem fr_bd {n : Nat} (hn : 0 < n) {l r : List (Nat × Nat)} (h : facs n = l ++ r) : 1 ≤ frL l ∧ frL l ≤ n :=
  part_bd (f := frF) (fun p e hp he => pow_bd hp (by omega)) hn h
theorem sq_bd {n : Nat} (hn : 0 < n) {l r : List (Nat × Nat)} (h : facs n = l ++ r) : 1 ≤ sqL l ∧ sqL l ≤ n :=
  part_bd (f := sqF) (fun p e hp he => pow_bd hp (by omega)) hn h
def fundT (d : Int) : Int := (if d < 0 then -1 else 1) * frL (facs d.natAbs)
def fundOut (d : Int) : Int × Int × Int :=
  if d = 0 ∨ 2147483647 < d ∨ d < -2147483647 then (0, 0, 2)
  else if 1 < d % 4 then (0, 0, 15)
  else if fundT d % 4 = 1 then (fundT d, sqL (facs d.natAbs), 0)
  else (4 * fundT d, sqL (facs d.natAbs) / 2, 0)

theorem fund_cases (d : Int) : fundOut d = (0, 0, 2) ∧ (d = 0 ∨ 2147483647 < d ∨ d < -2147483647) ∨ fundOut d = (0, 0, 15) ∧ ¬ (d = 0 ∨ 2147483647 < d ∨ d < -2147483647) ∧ 1 < d % 4 ∨
    ¬ (d = 0 ∨ 2147483647 < d ∨ d < -2147483647) ∧ ¬ 1 < d % 4 ∧ (fundT d % 4 = 1 ∧ fundOut d = (fundT d, sqL (facs d.natAbs), 0) ∨ ¬ fundT d % 4 = 1 ∧ fundOut d = (4 * fundT d, sqL (facs d.natAbs) / 2, 0)) := by
  unfold fundOut
  by_cases h : d = 0 ∨ 2147483647 < d ∨ d < -2147483647
  · exact .inl ⟨by rw [if_pos h], h⟩
  · by_cases h1 : 1 < d % 4
    · exact .inr (.inl ⟨by rw [if_neg h, if_pos h1], h, h1⟩)
    · refine .inr (.inr ⟨h, h1, ?_⟩)
      by_cases h2 : fundT d % 4 = 1
      · exact .inl ⟨h2, by rw [if_neg h, if_neg h1, if_pos h2]⟩
      · exact .inr ⟨h2, by rw [if_neg h, if_neg h1, if_neg h2]⟩

end HP

/-! Plain number theory, tenth part: inverses as the program hands them back. -/
namespace HP

theorem gcd_emod (a m : Int) : Int.gcd (a % m) m = Int.gcd a m := by
  have e : a % m = a - a / m * m := by have := Int.mul_ediv_add_emod a m; rw [Int.mul_comm]; omega
  rw [Int.gcd_comm (a % m), e, gcd_sub_mul]
theorem inv_of_cofactor {a m s : Int} (hm : 0 < m) (h : m ∣ 1 - s * (a % m)) : s % m = invM a m := by
  refine (invM_eq (Int.emod_nonneg _ (by omega)) (Int.emod_lt_of_pos _ hm) ?_).symm
  have h1 := (Cong.emod m s).symm
  have h2 := (Cong.emod m a).symm
  have h3 : Cong m 1 (s * (a % m)) := h
  have h4 : Cong m (s * (a % m)) (s % m * a) := h1.mul h2.symm
  have h5 := (h3.trans h4).symm
  have e : s % m * a = a * (s % m) := by grind
  rw [e] at h5
  exact h5
theorem invM_mod {a m : Int} (hm : 0 < m) (h : Int.gcd a m = 1) : m ∣ a * invM a m - 1 := by
  have hx : ∃ u : Int, m ∣ 1 - u * (a % m) := by
    -- by the extended algorithm's own invariant
    have key : ∀ (n : Nat) (g rest u next : Int), rest.natAbs = n → XI (a % m) m g rest u next → ∃ g u next, XI (a % m) m g 0 u next := by
      intro n
      induction n using Nat.strongRecOn with
      | _ n ih =>
        intro g rest u next hn hI
        by_cases hr : rest = 0
        · subst hr; exact ⟨g, u, next, hI⟩
        · obtain ⟨n1, n2, _⟩ := xi_step hI hr
          exact ih _ (by omega) _ _ _ _ rfl n1
    obtain ⟨g, u, next, hI⟩ := key _ (a % m) m 1 0 rfl (xi_start (by omega))
    obtain ⟨e1, e2, _, _⟩ := xi_end (by omega) hI
    rw [gcd_emod, h] at e1
    have hg : g = 1 ∨ g = -1 := by omega
    rcases hg with rfl | rfl
    · exact ⟨u, e2⟩
    · refine ⟨-u, ?_⟩
      have e : 1 - -u * (a % m) = -(-1 - u * (a % m)) := by grind
      rw [e]; exact Int.dvd_neg.2 e2
  obtain ⟨u, hu⟩ := hx
  rw [← inv_of_cofactor hm hu]
  have h1 := Cong.emod m u
  have h2 := Cong.emod m a
  have h3 : Cong m 1 (u * (a % m)) := hu
  have h4 : Cong m (u * (a % m)) (u % m * a) := h1.symm.mul h2
  have h5 := (h3.trans h4).symm
  have e : u % m * a = a * (u % m) := by grind
  rw [e] at h5
  exact h5
end HP

/-! Plain number theory, eleventh part: the combined congruence is equivalent to each. -/
namespace HP

theorem gcd_div_coprime {M m : Int} (h1 : 1 ≤ M) : Int.gcd (M / (Int.gcd M m : Int)) (m / (Int.gcd M m : Int)) = 1 :=
  Int.gcd_ediv_gcd_ediv_gcd (Int.gcd_pos_of_ne_zero_left m (by omega))

theorem crt_alg {rm r m q g t c1 e k i x s y : Int} (hq : rm - r = m * q) (ht : m = g * t) (he : rm - c1 = g * e) (hx : k - e * i = t * x) (hy : s * i - 1 = t * y) :
    c1 + g * s * k - r = m * (s * x + e * y + q) := by
  have h1 : k = e * i + t * x := by omega
  have h2 : s * i = 1 + t * y := by omega
  have h3 : g * s * k = g * e * (s * i) + g * t * (s * x) := by rw [h1]; grind
  rw [h2] at h3
  have h4 : g * e * (1 + t * y) = g * e + g * t * (e * y) := by grind
  rw [h3, h4, ← ht, ← he]
  have h5 : m * (s * x + e * y + q) = m * (s * x) + m * (e * y) + m * q := by grind
  rw [h5, ← hq]
  omega
theorem crtStep_sound {c c' : Int × Int} {r m : Int} (hc : CrtOk c) (h : crtStep c r m = .ok c') :
    CrtOk c' ∧ c.2 ∣ c'.2 ∧ c.2 ∣ c'.1 - c.1 ∧ 1 ≤ m ∧ m ∣ c'.2 ∧ m ∣ c'.1 - r := by
  unfold crtStep at h
  split at h
  · cases h
  · next hm =>
    split at h
    · cases h
    · next hd =>
      split at h
      · cases h
      · next hl =>
        have hm1 : 1 ≤ m := by omega
        have hM1 : 1 ≤ c.2 := by have := hc.1; have := hc.2.1; omega
        have hg : 0 < Int.gcd c.2 m := Int.gcd_pos_of_ne_zero_left m (by omega)
        have hg' : (0 : Int) < (Int.gcd c.2 m : Nat) := by omega
        have hgM : ((Int.gcd c.2 m : Nat) : Int) ∣ c.2 := Int.gcd_dvd_left ..
        have hgm : ((Int.gcd c.2 m : Nat) : Int) ∣ m := Int.gcd_dvd_right ..
        obtain ⟨hsp, hsm⟩ := div_pos_le (show (0 : Int) < (Int.gcd c.2 m : Nat) by omega) (show 0 < m by omega) hgm
        have hinv := invM_mod hsp (gcd_div_coprime (m := m) hM1)
        have hd0 : ((Int.gcd c.2 m : Nat) : Int) ∣ r % m - c.1 := by
          apply Int.dvd_of_emod_eq_zero
          rcases Decidable.em ((r % m - c.1) % (Int.gcd c.2 m : Int) = 0) with h | h
          · exact h
          · exact absurd h hd
        have hkr := crt_range hc (show 1 ≤ m / (Int.gcd c.2 m : Int) by omega)
          (Int.emod_nonneg ((r % m - c.1) / (Int.gcd c.2 m : Int) % (m / (Int.gcd c.2 m : Int)) * invM (c.2 / (Int.gcd c.2 m : Int)) (m / (Int.gcd c.2 m : Int))) (by omega)) (Int.emod_lt_of_pos _ hsp) (by omega)
        have hc' := (Except.ok.inj h).symm
        subst hc'
        refine ⟨hkr.1, ⟨_, rfl⟩, ?_, hm1, ?_, ?_⟩
        · exact ⟨_, by simp only; rw [Int.add_comm, Int.add_sub_cancel]⟩
        · simp only
          generalize ((Int.gcd c.2 m : Nat) : Int) = g at *
          obtain ⟨s, hs⟩ := hgM
          obtain ⟨t, ht⟩ := hgm
          have hg0 : g ≠ 0 := by omega
          have : m / g = t := by rw [ht, Int.mul_ediv_cancel_left _ hg0]
          rw [this, hs]
          exact ⟨s, by rw [ht]; grind⟩
        · simp only
          have hrm := Cong.emod m r
          obtain ⟨q, hq⟩ := hrm
          generalize hG : ((Int.gcd c.2 m : Nat) : Int) = g at *
          obtain ⟨s, hs⟩ := hgM
          obtain ⟨t, ht⟩ := hgm
          obtain ⟨e, he⟩ := hd0
          have hg0 : g ≠ 0 := by omega
          have e1 : m / g = t := by rw [ht, Int.mul_ediv_cancel_left _ hg0]
          have e2 : c.2 / g = s := by rw [hs, Int.mul_ediv_cancel_left _ hg0]
          have e3 : (r % m - c.1) / g = e := by rw [he, Int.mul_ediv_cancel_left _ hg0]
          rw [e1, e2] at hinv
          rw [e1, e2, e3]
          generalize invM s t = i at *
          have k1 : Cong t (e % t * i % t) (e * i) := (Cong.emod t _).trans ((Cong.emod t e).mul (Cong.refl _ _))
          obtain ⟨x, hx⟩ := k1
          obtain ⟨y, hy⟩ := hinv
          generalize e % t * i % t = k at *
          exact ⟨s * x + e * y + q, by rw [hs]; exact crt_alg hq ht he hx hy⟩

theorem crt_sound : ∀ (l : List (Int × Int)) (c c' : Int × Int), CrtOk c → crt c l = .ok c' →
    CrtOk c' ∧ c.2 ∣ c'.2 ∧ c.2 ∣ c'.1 - c.1 ∧ ∀ x ∈ l, 1 ≤ x.2 ∧ x.2 ∣ c'.2 ∧ x.2 ∣ c'.1 - x.1
  | [], c, c', hc, h => by
    cases h
    exact ⟨hc, ⟨1, by omega⟩, ⟨0, by omega⟩, fun x hx => by cases hx⟩
  | (r, m) :: l, c, c', hc, h => by
    unfold crt at h
    split at h
    · next d hd =>
      obtain ⟨s1, s2, s3, s4, s5, s6⟩ := crtStep_sound hc hd
      obtain ⟨i1, i2, i3, i4⟩ := crt_sound l d c' s1 h
      have key : ∀ {a b c d e : Int}, a ∣ b → b ∣ c - d → a ∣ d - e → a ∣ c - e := by
        intro a b c d e h1 h2 h3
        have := Int.dvd_add (Int.dvd_trans h1 h2) h3
        have e0 : c - d + (d - e) = c - e := by omega
        rwa [e0] at this
      refine ⟨i1, Int.dvd_trans s2 i2, key s2 i3 s3, fun x hx => ?_⟩
      rcases List.mem_cons.1 hx with rfl | hx
      · exact ⟨s4, Int.dvd_trans s5 i2, key s5 i3 s6⟩
      · exact i4 x hx
    · cases h

theorem crt_final {l : List (Int × Int)} {R M : Int} (h : crt (0, 1) l = .ok (R, M)) :
    (0 ≤ R ∧ R < M) ∧ M ≤ 2147483647 ∧ ∀ (i : Nat) (r m : Int), l[i]? = some (r, m) → 1 ≤ m ∧ m ≤ 2147483647 ∧ M % m = 0 ∧ r % m = R % m := by
  obtain ⟨h1, _, _, h4⟩ := crt_sound l (0, 1) (R, M) ⟨by decide, by decide, by decide⟩ h
  refine ⟨⟨h1.1, h1.2.1⟩, h1.2.2, fun i r m hi => ?_⟩
  obtain ⟨a, b, c⟩ := h4 _ (List.mem_of_getElem? hi)
  have hM : 0 < M := by have := h1.1; have := h1.2.1; simp only at *; omega
  have := Int.le_of_dvd hM b
  have h2 := h1.2.2
  simp only at *
  exact ⟨a, by omega, Int.emod_eq_zero_of_dvd b, (Cong.emod_eq c).symm⟩
end HP

/-! Plain number theory: a fundamental discriminant is its own, with conductor 1. -/
namespace HP

end HP

/-! Plain number theory: primes as a test, the primes up to a bound, what the sieve marks. -/
namespace HP

end HP

/-! Plain number theory: Fermat, Euler. -/
namespace HP

theorem phi_big {n : Nat} (h : 2 ≤ n) : phi n = phiF (lpf n) (mlt (lpf n) n) * phi (strip (lpf n) n) := by
  unfold phi
  rw [facs_big h]; rfl
theorem phi_one : phi 1 = 1 := by unfold phi; rw [facs_small (by omega)]; rfl
end HP

/-! Plain number theory: the order of a residue, and how it is found. -/
namespace HP

def IsOrd (a m : Int) (d : Nat) : Prop := 0 < d ∧ ∀ n : Nat, Cong m (a ^ n) 1 ↔ d ∣ n

theorem IsOrd.unique {a m : Int} {d e : Nat} (h : IsOrd a m d) (g : IsOrd a m e) : d = e :=
  Nat.dvd_antisymm ((h.2 e).1 ((g.2 e).2 (Nat.dvd_refl e))) ((g.2 d).1 ((h.2 d).2 (Nat.dvd_refl d)))
theorem natL_append : ∀ l m, natL (l ++ m) = natL l * natL m
  | [], m => by simp [natL]
  | (p, e) :: l, m => by
    show p ^ e * natL (l ++ m) = p ^ e * natL l * natL m
    rw [natL_append l m, Nat.mul_assoc]
theorem facs_not {n : Nat} (hn : 0 < n) : ∀ x ∈ facs n, ¬ x.1 ^ (x.2 + 1) ∣ n := by
  induction n, hn using facs_ind with
  | h1 => rw [facs_small (by omega)]; intro x hx; cases hx
  | h2 n hb h0 hs ih =>
    have hsm := strip_mul (lpf n) n
    have hl := lpf_spec hb
    have hnd := strip_not (p := lpf n) (n := n) hl.2.1 h0
    have hp := lpf_prm hb
    rw [facs_big hb]
    intro x hx hd
    rcases List.mem_cons.1 hx with rfl | hx
    · simp only at hd
      have h1 : lpf n ^ mlt (lpf n) n * lpf n ∣ lpf n ^ mlt (lpf n) n * strip (lpf n) n := by
        rw [hsm, ← Nat.pow_succ]; exact hd
      exact hnd (Nat.dvd_of_mul_dvd_mul_left (Nat.pow_pos hp.pos) h1)
    · obtain ⟨g1, g2, g3⟩ := facs_mem hs x hx
      have hne : ¬ x.1 ∣ lpf n := fun h => by
        have := g1.eq_of_dvd hp h
        rw [this] at g3
        exact hnd g3
      have hc : Nat.Coprime (x.1 ^ (x.2 + 1)) (lpf n ^ mlt (lpf n) n) := Nat.Coprime.pow _ _ (g1.coprime hne)
      rw [← hsm] at hd
      exact ih x hx (hc.dvd_of_dvd_mul_left hd)
theorem natL_prime {q : Nat} (hq : Prm q) : ∀ {l : List (Nat × Nat)}, (∀ x ∈ l, Prm x.1) → q ∣ natL l → ∃ x ∈ l, x.1 = q
  | [], _, h => absurd h (by show ¬ q ∣ 1; exact hq.not_dvd_one)
  | (p, e) :: l, hp, h => by
    have h' : q ∣ p ^ e * natL l := h
    rcases hq.dvd_mul h' with h | h
    · have h1 := hq.dvd_of_dvd_pow h
      have h2 := hq.eq_of_dvd (hp _ (List.mem_cons_self ..)) h1
      exact ⟨_, List.mem_cons_self .., h2.symm⟩
    · obtain ⟨x, hx, hxq⟩ := natL_prime hq (fun x hx => hp x (List.mem_cons_of_mem _ hx)) h
      exact ⟨x, List.mem_cons_of_mem _ hx, hxq⟩

theorem phi_pos {m : Nat} (hm : 0 < m) : 1 ≤ phi m := by
  induction m, hm using facs_ind with
  | h1 => rw [phi_one]; omega
  | h2 n hb h0 hs ih =>
    rw [phi_big hb]
    have h1 := (phiF_le (p := lpf n) (e := mlt (lpf n) n) (lpf_spec hb).2.1 (mlt_pos (lpf_spec hb).2.1 h0 (lpf_spec hb).1)).2.2
    have := Int.mul_le_mul h1 ih (by omega) (by omega)
    simpa using this
theorem phi_le {m : Nat} (hm : 0 < m) : phi m ≤ m := (phi_prefix hm (l := facs m) (r := []) (by simp)).2
def isDv (n d : Nat) : Bool := decide (0 < d) && decide (n % d = 0)
def dvs (n : Nat) : List Nat := (List.range (n + 1)).filter (isDv n)
theorem range_sorted (n : Nat) : (List.range n).Pairwise (· < ·) := List.pairwise_lt_range
theorem dvs_sorted (n : Nat) : (dvs n).Pairwise (· < ·) := (range_sorted _).filter _
theorem isDv_iff {n d : Nat} : isDv n d = true ↔ 0 < d ∧ d ∣ n := by
  unfold isDv
  rw [Bool.and_eq_true, decide_eq_true_iff, decide_eq_true_iff, Nat.dvd_iff_mod_eq_zero]
theorem dvs_mem {n d : Nat} (hn : 0 < n) : d ∈ dvs n ↔ d ∣ n := by
  unfold dvs
  rw [List.mem_filter, List.mem_range, isDv_iff]
  refine ⟨fun h => h.2.2, fun h => ⟨?_, Nat.pos_of_dvd_of_pos h hn, h⟩⟩
  have := Nat.le_of_dvd hn h
  omega
end HP

/-! Plain number theory: phi and psi, prime by prime. -/
namespace HP

def stepN (f : Nat → Nat → Int) (l : List (Nat × Nat)) (i : Nat) : Int := prodL f (l.take i) * natL (l.drop i)
theorem stepN_zero (f : Nat → Nat → Int) (l : List (Nat × Nat)) : stepN f l 0 = natL l := by unfold stepN; simp [prodL]
theorem stepN_end (f : Nat → Nat → Int) (l : List (Nat × Nat)) : stepN f l l.length = prodL f l := by
  unfold stepN; rw [List.take_length, List.drop_length]; simp [natL]
theorem stepN_step {f : Nat → Nat → Int} {l : List (Nat × Nat)} {i p e : Nat} {c : Int} (h : l[i]? = some (p, e)) (hp : 0 < p) (he : 1 ≤ e) (hf : f p e = ((p ^ (e - 1) : Nat) : Int) * c) :
    stepN f l i / p * c = stepN f l (i + 1) ∧ (stepN f l i).tdiv p * c = stepN f l (i + 1) := by
  have hil : i < l.length := (List.getElem?_eq_some_iff.1 h).1
  have hd : l.drop i = (p, e) :: l.drop (i + 1) := by
    rw [List.drop_eq_getElem_cons hil, (List.getElem?_eq_some_iff.1 h).2]
  have e1 : stepN f l i = (prodL f (l.take i) * ((p ^ (e - 1) : Nat) : Int) * natL (l.drop (i + 1))) * p := by
    unfold stepN
    rw [hd]
    show prodL f (l.take i) * ((p ^ e * natL (l.drop (i + 1)) : Nat) : Int) = _
    rw [pow_pred he, Int.natCast_mul, Int.natCast_mul]
    grind
  have e2 : stepN f l (i + 1) = prodL f (l.take i) * ((p ^ (e - 1) : Nat) : Int) * natL (l.drop (i + 1)) * c := by
    unfold stepN
    rw [prodL_next f h, hf]
    grind
  have hp0 : (p : Int) ≠ 0 := by omega
  rw [e1, e2, Int.mul_ediv_cancel _ hp0, Int.mul_tdiv_cancel _ hp0]
  exact ⟨rfl, rfl⟩
theorem natL_pw : ∀ l : List (Nat × Nat), prodL pwF l = (natL l : Int)
  | [] => rfl
  | (p, e) :: l => by
    show pwF p e * prodL pwF l = ((p ^ e * natL l : Nat) : Int)
    rw [natL_pw l, Int.natCast_mul]; unfold pwF; simp
theorem psiF_eq {p e : Nat} : psiF p e = ((p ^ (e - 1) : Nat) : Int) * ((p : Int) + 1) := by
  unfold psiF
  rw [Int.natCast_mul]; rfl
end HP

/-! Plain number theory: a monic polynomial has at most as many roots modulo a prime as its degree; primitive roots exist. -/
namespace HP

end HP

/-! Plain number theory: square roots modulo a prime. -/
namespace HP

end HP

/-! Plain number theory: the divisors as they are gathered prime by prime, and sorted. -/
namespace HP

def dvE (p : Nat) (L : List Nat) : Nat → List Nat
  | 0 => L
  | j + 1 => dvE p L j ++ L.map (· * p ^ (j + 1))
def dvF (L : List Nat) : List (Nat × Nat) → List Nat
  | [] => L
  | (p, e) :: l => dvF (dvE p L e) l
theorem dvF_append : ∀ (l m : List (Nat × Nat)) (L : List Nat), dvF L (l ++ m) = dvF (dvF L l) m
  | [], _, _ => rfl
  | (_, _) :: l, m, _ => dvF_append l m _
theorem dvE_mem {p x : Nat} {L : List Nat} : ∀ e, x ∈ dvE p L e ↔ ∃ j, j ≤ e ∧ ∃ y, y ∈ L ∧ x = y * p ^ j
  | 0 => by
    constructor
    · intro h; exact ⟨0, Nat.le_refl _, x, h, by rw [Nat.pow_zero, Nat.mul_one]⟩
    · rintro ⟨j, hj, y, hy, rfl⟩
      obtain rfl : j = 0 := by omega
      rw [Nat.pow_zero, Nat.mul_one]; exact hy
  | e + 1 => by
    rw [dvE, List.mem_append, dvE_mem e, List.mem_map]
    constructor
    · rintro (⟨j, hj, h⟩ | ⟨y, hy, rfl⟩)
      · exact ⟨j, by omega, h⟩
      · exact ⟨e + 1, Nat.le_refl _, y, hy, rfl⟩
    · rintro ⟨j, hj, y, hy, rfl⟩
      by_cases h : j = e + 1
      · subst h; exact .inr ⟨y, hy, rfl⟩
      · exact .inl ⟨j, by omega, y, hy, rfl⟩
theorem dvE_len (p : Nat) (L : List Nat) : ∀ e, (dvE p L e).length = L.length * (e + 1)
  | 0 => by simp [dvE]
  | e + 1 => by rw [dvE, List.length_append, dvE_len p L e, List.length_map, Nat.mul_add L.length (e + 1), Nat.mul_one]
theorem dvE_dvd {p m : Nat} {L : List Nat} (hp : Prm p) (hm : 0 < m) (hpm : ¬ p ∣ m) (hL : ∀ x, x ∈ L ↔ x ∣ m) (e x : Nat) : x ∈ dvE p L e ↔ x ∣ m * p ^ e := by
  rw [dvE_mem]
  constructor
  · rintro ⟨j, hj, y, hy, rfl⟩
    exact Nat.mul_dvd_mul ((hL y).1 hy) (Nat.pow_dvd_pow p hj)
  · intro h
    have hx0 : 0 < x := Nat.pos_of_dvd_of_pos h (Nat.mul_pos hm (Nat.pow_pos hp.pos))
    have h1 := strip_mul p x
    have h2 := strip_not (p := p) (n := x) hp.1 hx0
    have hy : strip p x ∣ m := by
      have h3 : strip p x ∣ m * p ^ e := Nat.dvd_trans (strip_dvd p x) h
      have hc : Nat.Coprime (strip p x) (p ^ e) := (Nat.Coprime.pow_left e (hp.coprime h2)).symm
      exact hc.dvd_of_dvd_mul_right h3
    have hk : p ^ mlt p x ∣ p ^ e := by
      have h3 : p ^ mlt p x ∣ m * p ^ e := Nat.dvd_trans (mlt_dvd p x) h
      have hc : Nat.Coprime (p ^ mlt p x) m := Nat.Coprime.pow_left _ (hp.coprime hpm)
      exact hc.dvd_of_dvd_mul_left h3
    have hke : mlt p x ≤ e := by
      apply Nat.le_of_not_lt
      intro h3
      have h4 := Nat.le_of_dvd (Nat.pow_pos hp.pos) hk
      have h5 : p ^ e < p ^ mlt p x := Nat.pow_lt_pow_right hp.1 h3
      omega
    exact ⟨mlt p x, hke, strip p x, (hL _).2 hy, by rw [Nat.mul_comm]; exact h1.symm⟩
theorem dvE_nodup {p m : Nat} {L : List Nat} (hp : Prm p) (hm : 0 < m) (hpm : ¬ p ∣ m) (hL : ∀ x, x ∈ L ↔ x ∣ m) (hn : L.Nodup) : ∀ e, (dvE p L e).Nodup
  | 0 => hn
  | e + 1 => by
    rw [dvE, List.nodup_append]
    refine ⟨dvE_nodup hp hm hpm hL hn e, ?_, ?_⟩
    · unfold List.Nodup
      rw [List.pairwise_map]
      refine List.Pairwise.imp ?_ hn
      intro a b hab h
      exact hab (Nat.eq_of_mul_eq_mul_right (Nat.pow_pos hp.pos) h)
    · intro a ha b hb hab
      subst hab
      obtain ⟨j, hj, y, hy, h1⟩ := (dvE_mem e).1 ha
      obtain ⟨z, hz, h2⟩ := List.mem_map.1 hb
      obtain ⟨k, hk⟩ : ∃ k, e + 1 = j + 1 + k := ⟨e - j, by omega⟩
      have h3 : y * p ^ j = z * (p ^ (j + 1 + k)) := by rw [← hk, h2]; exact h1.symm
      have h4 : y = z * p ^ k * p := by
        apply Nat.eq_of_mul_eq_mul_right (Nat.pow_pos hp.pos (n := j))
        rw [h3, Nat.pow_add, Nat.pow_succ]
        grind
      have h5 := (hL y).1 hy
      exact hpm (Nat.dvd_trans ⟨z * p ^ k, by rw [h4, Nat.mul_comm]⟩ h5)
theorem dvF_spec {N : Nat} (hN : 0 < N) : ∀ (r l : List (Nat × Nat)) (L : List Nat), facs N = l ++ r → (∀ x, x ∈ L ↔ x ∣ natL l) → L.Nodup → (∀ x, x ∈ dvF L r ↔ x ∣ N) ∧ (dvF L r).Nodup
  | [], l, L, hl, hL, hn => by
    have e : natL l = N := by rw [← natL_facs N hN, hl, List.append_nil]
    rw [e] at hL
    exact ⟨hL, hn⟩
  | (p, e) :: r, l, L, hl, hL, hn => by
    have hmem : (p, e) ∈ facs N := by rw [hl]; simp
    have hp : Prm p := (facs_mem hN _ hmem).1
    have hnot := facs_not hN _ hmem
    have hNe : N = natL l * (p ^ e * natL r) := by rw [← natL_facs N hN, hl, natL_append]; rfl
    have hlp : 0 < natL l := Nat.pos_of_ne_zero fun h => by rw [h, Nat.zero_mul] at hNe; omega
    have hpl : ¬ p ∣ natL l := fun h => hnot (by
      rw [hNe]
      have h1 : p * p ^ e ∣ natL l * p ^ e := Nat.mul_dvd_mul_right h _
      rw [show natL l * (p ^ e * natL r) = natL l * p ^ e * natL r by grind, show p ^ (e + 1) = p * p ^ e by rw [Nat.pow_succ, Nat.mul_comm]]
      exact Nat.dvd_trans h1 ⟨natL r, rfl⟩)
    refine dvF_spec hN r (l ++ [(p, e)]) (dvE p L e) (by rw [hl, List.append_assoc]; rfl) ?_ (dvE_nodup hp hlp hpl hL hn e)
    have e1 : natL (l ++ [(p, e)]) = natL l * p ^ e := by
      rw [natL_append]
      show natL l * (p ^ e * 1) = _
      rw [Nat.mul_one]
    rw [e1]
    exact dvE_dvd hp hlp hpl hL e
theorem dvF_facs {N : Nat} (hN : 0 < N) : (∀ x, x ∈ dvF [1] (facs N) ↔ x ∣ N) ∧ (dvF [1] (facs N)).Nodup :=
  dvF_spec hN (facs N) [] [1] rfl (fun x => by
    rw [List.mem_singleton]
    exact (Nat.dvd_one).symm) (by simp)
theorem dvF_pre {N : Nat} (hN : 0 < N) {l r : List (Nat × Nat)} (h : facs N = l ++ r) : ∀ x ∈ dvF [1] l, x ∣ natL l := by
  have hA := facs_asc1 N hN
  intro x
  have hl : 0 < natL l := by
    have hNe : N = natL l * natL r := by rw [← natL_facs N hN, h, natL_append]
    exact Nat.pos_of_ne_zero fun h => by rw [h, Nat.zero_mul] at hNe; omega
  have key : ∀ (m : List (Nat × Nat)) (L : List Nat) (k : Nat), (∀ x ∈ L, x ∣ k) → ∀ x ∈ dvF L m, x ∣ k * natL m := by
    intro m
    induction m with
    | nil => intro L k hL x hx; rw [show k * natL [] = k from Nat.mul_one k]; exact hL x hx
    | cons y m ih =>
      obtain ⟨p, e⟩ := y
      intro L k hL x hx
      have := ih (dvE p L e) (k * p ^ e) (fun x hx => by
        obtain ⟨j, hj, y, hy, rfl⟩ := (dvE_mem e).1 hx
        exact Nat.mul_dvd_mul (hL y hy) (Nat.pow_dvd_pow p hj)) x hx
      rw [Nat.mul_assoc] at this
      exact this
  intro hx
  have := key l [1] 1 (fun x hx => by rw [List.mem_singleton.1 hx]; exact Nat.dvd_refl _) x hx
  rwa [Nat.one_mul] at this
def cntF (_ e : Nat) : Int := (e : Int) + 1
theorem dvF_len : ∀ (m : List (Nat × Nat)) (L : List Nat), ((dvF L m).length : Int) = L.length * prodL cntF m
  | [], L => by simp [dvF, prodL]
  | (p, e) :: m, L => by
    rw [dvF, dvF_len m, dvE_len]
    show _ = (L.length : Int) * (((e : Int) + 1) * prodL cntF m)
    rw [Int.natCast_mul, Int.natCast_add, Int.mul_assoc]; rfl
theorem cntF_bd {p e : Nat} (hp : 2 ≤ p) (_ : 1 ≤ e) : 1 ≤ cntF p e ∧ cntF p e ≤ pwF p e := by
  unfold cntF pwF
  have h1 := lt_two_pow e
  have h2 : 2 ^ e ≤ p ^ e := Nat.pow_le_pow_left hp e
  have h3 : e + 1 ≤ p ^ e := by omega
  have h4 : ((e + 1 : Nat) : Int) ≤ ((p ^ e : Nat) : Int) := Int.ofNat_le.2 h3
  rw [Int.natCast_pow, Int.natCast_add] at h4
  exact ⟨by omega, h4⟩
theorem cnt_bd {N : Nat} (hN : 0 < N) {l r : List (Nat × Nat)} (h : facs N = l ++ r) : 1 ≤ prodL cntF l ∧ prodL cntF l ≤ N := part_bd (fun _ _ => cntF_bd) hN h
theorem dvF_length {N : Nat} (hN : 0 < N) {l r : List (Nat × Nat)} (h : facs N = l ++ r) : (dvF [1] l).length ≤ N ∧ 1 ≤ (dvF [1] l).length := by
  have h1 := dvF_len l [1]
  have h2 := cnt_bd hN h
  simp only [List.length_singleton] at h1
  omega
theorem sorted_extI : ∀ {l m : List Int}, l.Pairwise (· < ·) → m.Pairwise (· < ·) → (∀ x, x ∈ l ↔ x ∈ m) → l = m
  | [], [], _, _, _ => rfl
  | [], y :: m, _, _, h => by have := (h y).2 (List.mem_cons_self ..); cases this
  | x :: l, [], _, _, h => by have := (h x).1 (List.mem_cons_self ..); cases this
  | x :: l, y :: m, hl, hm, h => by
    rw [List.pairwise_cons] at hl hm
    have e : x = y := by
      rcases List.mem_cons.1 ((h x).1 (List.mem_cons_self ..)) with h1 | h1
      · exact h1
      · rcases List.mem_cons.1 ((h y).2 (List.mem_cons_self ..)) with h2 | h2
        · exact h2.symm
        · have := hm.1 _ h1; have := hl.1 _ h2; omega
    subst e
    congr 1
    refine sorted_extI hl.2 hm.2 fun z => ⟨fun hz => ?_, fun hz => ?_⟩
    · rcases List.mem_cons.1 ((h z).1 (List.mem_cons_of_mem _ hz)) with h1 | h1
      · have := hl.1 _ hz; omega
      · exact h1
    · rcases List.mem_cons.1 ((h z).2 (List.mem_cons_of_mem _ hz)) with h1 | h1
      · have := hm.1 _ hz; omega
      · exact h1
def castL (l : List Nat) : List Int := l.map fun (x : Nat) => (x : Int)
theorem sort_dvs {N : Nat} (hN : 0 < N) {D : List Nat} (hD : ∀ x, x ∈ D ↔ x ∣ N) (hn : D.Nodup) : (castL D).mergeSort (fun x y => decide (x ≤ y)) = castL (dvs N) := by
  have hperm := List.mergeSort_perm (castL D) (fun x y => decide (x ≤ y))
  have hsort : ((castL D).mergeSort (fun x y => decide (x ≤ y))).Pairwise (fun x y => decide (x ≤ y) = true) :=
    List.pairwise_mergeSort (fun a b c h1 h2 => by rw [decide_eq_true_iff] at *; omega) (fun a b => by rw [Bool.or_eq_true, decide_eq_true_iff, decide_eq_true_iff]; omega) _
  have hnd : (castL D).Nodup := by
    unfold castL List.Nodup
    rw [List.pairwise_map]
    refine List.Pairwise.imp ?_ hn
    intro a b hab h
    exact hab (by omega)
  have hnd2 : ((castL D).mergeSort (fun x y => decide (x ≤ y))).Nodup := hperm.nodup_iff.2 hnd
  refine sorted_extI ?_ ?_ ?_
  · refine (hsort.and hnd2).imp ?_
    rintro a b ⟨h1, h2⟩
    rw [decide_eq_true_iff] at h1
    omega
  · unfold castL
    rw [List.pairwise_map]
    refine (dvs_sorted N).imp ?_
    intro a b h
    omega
  · intro x
    rw [hperm.mem_iff]
    unfold castL
    rw [List.mem_map, List.mem_map]
    constructor
    · rintro ⟨y, hy, rfl⟩; exact ⟨y, (dvs_mem hN).2 ((hD y).1 hy), rfl⟩
    · rintro ⟨y, hy, rfl⟩; exact ⟨y, (hD y).2 ((dvs_mem hN).1 hy), rfl⟩
end HP

/-! Plain: digits to the base 2^32. -/
namespace HP

def W32 : Nat := 4294967296
theorem w32_eq : W32 = 4294967296 := rfl
theorem w32_mono {m n : Nat} (h : m ≤ n) : W32 ^ m ≤ W32 ^ n := Nat.pow_le_pow_right (by decide) h
theorem w32_pos (n : Nat) : 0 < W32 ^ n := Nat.pow_pos (by decide)
def valF (F : Nat → Nat) : Nat → Nat
  | 0 => 0
  | n + 1 => valF F n + F n * W32 ^ n
theorem valF_ext {F G : Nat → Nat} : ∀ n, (∀ i, i < n → F i = G i) → valF F n = valF G n
  | 0, _ => rfl
  | n + 1, h => by rw [valF, valF, valF_ext n (fun i hi => h i (by omega)), h n (by omega)]
theorem valF_lt {F : Nat → Nat} : ∀ n, (∀ i, i < n → F i < W32) → valF F n < W32 ^ n
  | 0, _ => by simp [valF]
  | n + 1, h => by
    have h1 := valF_lt n (fun i hi => h i (by omega))
    have h2 : F n + 1 ≤ W32 := h n (by omega)
    have h3 : (F n + 1) * W32 ^ n ≤ W32 * W32 ^ n := Nat.mul_le_mul_right _ h2
    rw [Nat.add_mul, Nat.one_mul] at h3
    rw [valF, Nat.pow_succ, Nat.mul_comm (W32 ^ n)]
    omega
def dg (x i : Nat) : Nat := x / W32 ^ i % W32
theorem dg_lt (x i : Nat) : dg x i < W32 := Nat.mod_lt _ (by decide)
theorem valF_dg (x : Nat) : ∀ n, valF (dg x) n = x % W32 ^ n
  | 0 => by simp [valF, Nat.mod_one]
  | n + 1 => by
    rw [valF, valF_dg x n, Nat.pow_succ, Nat.mod_mul, dg, Nat.mul_comm (x / W32 ^ n % W32)]
theorem valF_dg' {x n : Nat} (h : x < W32 ^ n) : valF (dg x) n = x := by rw [valF_dg, Nat.mod_eq_of_lt h]
theorem dg_valF {F : Nat → Nat} : ∀ (n i : Nat), (∀ i, i < n → F i < W32) → i < n → dg (valF F n) i = F i
  | 0, _, _, h => absurd h (Nat.not_lt_zero _)
  | n + 1, i, hF, hi => by
    have hlt := valF_lt n (fun i hi => hF i (by omega))
    by_cases h : i = n
    · subst h
      unfold dg
      rw [valF, Nat.add_mul_div_right _ _ (w32_pos i), Nat.div_eq_of_lt hlt, Nat.zero_add, Nat.mod_eq_of_lt (hF i (by omega))]
    · have ih := dg_valF n i (fun i hi => hF i (by omega)) (by omega)
      unfold dg at ih ⊢
      rw [valF]
      obtain ⟨k, hk⟩ : ∃ k, n = i + 1 + k := ⟨n - i - 1, by omega⟩
      have e : F n * W32 ^ n = F n * W32 ^ k * W32 * W32 ^ i := by
        rw [hk, Nat.pow_add, Nat.pow_succ]; grind
      rw [e, Nat.add_mul_div_right _ _ (w32_pos i), Nat.add_mul_mod_self_right]
      exact ih
def Len (x n : Nat) : Prop := x < W32 ^ n ∧ (n = 0 ∨ W32 ^ (n - 1) ≤ x)
theorem Len.unique {x m n : Nat} (h : Len x m) (g : Len x n) : m = n := by
  have key : ∀ {a b : Nat}, Len x a → Len x b → ¬ a < b := fun {a b} ha hb hab => by
    rcases hb.2 with h0 | h0
    · omega
    · have h1 : W32 ^ a ≤ W32 ^ (b - 1) := Nat.pow_le_pow_right (by decide) (by omega)
      have := ha.1
      omega
  have := key h g
  have := key g h
  omega
theorem Len.le {x n k : Nat} (h : Len x n) (hx : x < W32 ^ k) : n ≤ k := by
  rcases h.2 with h0 | h0
  · omega
  · apply Nat.le_of_not_lt
    intro h1
    have h2 : W32 ^ k ≤ W32 ^ (n - 1) := Nat.pow_le_pow_right (by decide) (by omega)
    omega
theorem len_zero : Len 0 0 := ⟨by simp, .inl rfl⟩
theorem Len.zero_iff {x n : Nat} (h : Len x n) : n = 0 ↔ x = 0 := by
  constructor
  · intro h0
    have := h.1
    rw [h0, Nat.pow_zero] at this
    omega
  · intro h0
    rcases h.2 with h1 | h1
    · exact h1
    · have := w32_pos (n - 1)
      omega
theorem len_one {x : Nat} (h0 : x ≠ 0) (h : x < W32) : Len x 1 := ⟨by rw [Nat.pow_one]; exact h, .inr (by simp; omega)⟩
theorem len_two {x : Nat} (h0 : W32 ≤ x) (h : x < 18446744073709551616) : Len x 2 := ⟨by rw [show W32 ^ 2 = 18446744073709551616 by decide]; exact h, .inr (by simpa using h0)⟩
theorem dg0 (x : Nat) : dg x 0 = x % 4294967296 := by unfold dg; rw [Nat.pow_zero, Nat.div_one]; rfl
theorem dg1 {x : Nat} (h : x < 18446744073709551616) : dg x 1 = x / 4294967296 := by
  unfold dg; rw [Nat.pow_one]
  show x / 4294967296 % 4294967296 = _
  omega
def upd (F : Nat → Nat) (k d : Nat) : Nat → Nat := fun i => if i = k then d else F i
theorem upd_at (F : Nat → Nat) (k d : Nat) : upd F k d k = d := by unfold upd; rw [if_pos rfl]
theorem upd_ne (F : Nat → Nat) {k i : Nat} (d : Nat) (h : i ≠ k) : upd F k d i = F i := by unfold upd; rw [if_neg h]
theorem valF_upd_ge (F : Nat → Nat) {k : Nat} (d : Nat) : ∀ n, n ≤ k → valF (upd F k d) n = valF F n := fun n hn => valF_ext n fun i hi => upd_ne F d (by omega)
theorem add_step {F a b : Nat → Nat} {i s c c' d : Nat} (h : valF F i + c * W32 ^ i = valF a i + valF b i) (hs : s = a i + b i + c) (hd : s = d + c' * W32) (hF : F i = d) :
    valF F (i + 1) + c' * W32 ^ (i + 1) = valF a (i + 1) + valF b (i + 1) := by
  rw [valF, valF, valF, hF, Nat.pow_succ]
  have e : a i + b i + c = d + c' * W32 := by rw [← hs, hd]
  have e2 : (a i + b i + c) * W32 ^ i = (d + c' * W32) * W32 ^ i := by rw [e]
  rw [Nat.add_mul, Nat.add_mul, Nat.add_mul] at e2
  rw [Nat.mul_comm (W32 ^ i) W32, ← Nat.mul_assoc]
  generalize W32 ^ i = P at *
  generalize c' * W32 * P = x1 at *
  generalize d * P = x2 at *
  generalize a i * P = x3 at *
  generalize b i * P = x4 at *
  generalize c * P = x5 at *
  omega
end HP

/-! Plain: school multiplication to the base 2^32. -/
namespace HP
theorem mul_digit {x y h c : Nat} (hx : x < 4294967296) (hy : y < 4294967296) (hh : h < 4294967296) (hc : c < 4294967296) : x * y ≤ 18446744065119617025 ∧ x * y + h + c < 18446744073709551616 ∧ (x * y + h + c) / 4294967296 < 4294967296 := by
  have h1 : x * y ≤ 4294967295 * 4294967295 := Nat.mul_le_mul (by omega) (by omega)
  refine ⟨by omega, by omega, ?_⟩
  apply Nat.div_lt_of_lt_mul
  omega
def MulI (H H0 G : Nat → Nat) (x c i j : Nat) : Prop :=
  (∀ k, i + j ≤ k → H k = H0 k) ∧ (∀ k, H k < W32) ∧ c < W32 ∧ valF H (i + j) + c * W32 ^ (i + j) = valF H0 (i + j) + x * valF G j * W32 ^ i
theorem mulI_start {H0 G : Nat → Nat} {x i : Nat} (h : ∀ k, H0 k < W32) : MulI H0 H0 G x 0 i 0 :=
  ⟨fun _ _ => rfl, h, by decide, by simp [valF]⟩
theorem mulI_step {H H0 G : Nat → Nat} {x c i j t : Nat} (h : MulI H H0 G x c i j) (hx : x < W32) (hG : G j < W32) (ht : t = x * G j + H (i + j) + c) : MulI (upd H (i + j) (t % 4294967296)) H0 G x (t / 4294967296) i (j + 1) := by
  obtain ⟨h1, h2, h3, h4⟩ := h
  have hb := mul_digit hx hG (h2 (i + j)) h3
  refine ⟨fun k hk => ?_, fun k => ?_, ?_, ?_⟩
  · rw [upd_ne _ _ (by omega)]; exact h1 k (by omega)
  · by_cases hk : k = i + j
    · subst hk; rw [upd_at]; exact Nat.mod_lt _ (by decide)
    · rw [upd_ne _ _ hk]; exact h2 k
  · rw [ht]; exact hb.2.2
  · have e0 : i + (j + 1) = (i + j) + 1 := by omega
    rw [e0, valF, valF, valF_upd_ge _ _ _ (Nat.le_refl (i + j)), upd_at, ← h1 (i + j) (Nat.le_refl _), valF, Nat.pow_succ]
    have e1 : t = t % 4294967296 + t / 4294967296 * W32 := by rw [w32_eq]; omega
    have e2 : x * G j + H (i + j) + c = t % 4294967296 + t / 4294967296 * W32 := by rw [← ht]; exact e1
    have e3 : (x * G j + H (i + j) + c) * W32 ^ (i + j) = (t % 4294967296 + t / 4294967296 * W32) * W32 ^ (i + j) := by rw [e2]
    have e4 : x * (valF G j + G j * W32 ^ j) * W32 ^ i = x * valF G j * W32 ^ i + x * G j * W32 ^ (i + j) := by
      rw [Nat.mul_add, Nat.add_mul, Nat.pow_add, Nat.mul_comm (W32 ^ i) (W32 ^ j), ← Nat.mul_assoc, ← Nat.mul_assoc]
    rw [e4]
    rw [Nat.add_mul, Nat.add_mul, Nat.add_mul] at e3
    rw [Nat.mul_comm (W32 ^ (i + j)) W32, ← Nat.mul_assoc]
    generalize W32 ^ (i + j) = P at *
    generalize t / 4294967296 * W32 * P = x1 at *
    generalize t % 4294967296 * P = x2 at *
    generalize x * G j * P = x3 at *
    generalize H (i + j) * P = x4 at *
    generalize c * P = x5 at *
    generalize x * valF G j * W32 ^ i = x6 at *
    omega
def MulO (H F G : Nat → Nat) (i m : Nat) : Prop := (∀ k, H k < W32) ∧ valF H (i + m) = valF F i * valF G m
theorem mulO_start (F G : Nat → Nat) (m : Nat) : MulO (fun _ => 0) F G 0 m := by
  refine ⟨fun _ => (by decide : 0 < W32), ?_⟩
  rw [Nat.zero_add]
  show valF (fun _ => 0) m = 0 * _
  rw [Nat.zero_mul]
  have : ∀ n, valF (fun _ => 0) n = 0 := by
    intro n
    induction n with
    | zero => rfl
    | succ n ih => rw [valF, ih]; simp
  exact this m
theorem mulO_step {H H0 F G : Nat → Nat} {c i m : Nat} (h0 : MulO H0 F G i m) (h : MulI H H0 G (F i) c i m) : MulO (upd H (i + m) c) F G (i + 1) m := by
  obtain ⟨h1, h2, h3, h4⟩ := h
  refine ⟨fun k => ?_, ?_⟩
  · by_cases hk : k = i + m
    · subst hk; rw [upd_at]; exact h3
    · rw [upd_ne _ _ hk]; exact h2 k
  · rw [show i + 1 + m = (i + m) + 1 by omega, valF, valF_upd_ge _ _ _ (Nat.le_refl (i + m)), upd_at, h4, h0.2, valF, Nat.add_mul]
    congr 1
    rw [Nat.mul_right_comm]
end HP
