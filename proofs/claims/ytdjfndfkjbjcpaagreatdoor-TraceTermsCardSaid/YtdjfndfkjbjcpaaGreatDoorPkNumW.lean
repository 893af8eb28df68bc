/- Own texts joined: NumW, NumX, NumY, NumZ. -/
import Derived.Test.YtdjfndfkjbjcpaaGreatDoorNumA
/-! Plain number theory: multiplicative functions; sums over the divisors. -/
namespace HP

theorem asc_lt : ∀ {b : Nat} {l : List (Nat × Nat)}, Asc b l → ∀ x ∈ l, b < x.1
  | _, [], _, x, h => by cases h
  | b, (p, e) :: l, ⟨h1, _, _, h4⟩, x, h => by
    rcases List.mem_cons.1 h with rfl | h
    · exact h1
    · have := asc_lt h4 x h; omega
theorem dvd_pow_one {p e : Nat} (he : 1 ≤ e) : p ∣ p ^ e := by
  have := Nat.pow_dvd_pow p he
  rwa [Nat.pow_one] at this
theorem facs_iff {N : Nat} (hN : 0 < N) (p e : Nat) : (p, e) ∈ facs N ↔ Prm p ∧ 1 ≤ e ∧ p ^ e ∣ N ∧ ¬ p ^ (e + 1) ∣ N := by
  constructor
  · intro h
    exact ⟨(facs_mem hN _ h).1, (facs_mem hN _ h).2.1, facs_pow_dvd hN _ h, facs_not hN _ h⟩
  · rintro ⟨hp, he, hd, hn⟩
    have h1 : p ∣ natL (facs N) := by
      rw [natL_facs N hN]
      exact Nat.dvd_trans (dvd_pow_one he) hd
    obtain ⟨⟨q, k⟩, hx, rfl⟩ := natL_prime hp (fun x hx => (facs_mem hN x hx).1) h1
    have h2 := facs_pow_dvd hN _ hx
    have h3 := facs_not hN _ hx
    have : k = e := by
      rcases Nat.lt_trichotomy k e with h | h | h
      · exact absurd (Nat.dvd_trans (Nat.pow_dvd_pow q h) hd) h3
      · exact h
      · exact absurd (Nat.dvd_trans (Nat.pow_dvd_pow q h) h2) hn
    subst this; exact hx
end HP

/-! Plain number theory: products over the primes up to a bound, taken one number at a time; the lists of the dimension formulas. -/
namespace HP

def ixL (k : Nat) : List (Nat × Nat) → Nat
  | [] => 0
  | (p, _) :: l => if p < k then ixL k l + 1 else 0
theorem ixL_low {k : Nat} : ∀ {l : List (Nat × Nat)}, (∀ x ∈ l, k ≤ x.1) → ixL k l = 0
  | [], _ => rfl
  | (p, e) :: l, h => by
    have := h _ (List.mem_cons_self ..)
    rw [ixL, if_neg (by simp at this; omega)]
theorem ixL_high {k : Nat} : ∀ {l : List (Nat × Nat)}, (∀ x ∈ l, x.1 < k) → ixL k l = l.length
  | [], _ => rfl
  | (p, e) :: l, h => by
    have := h _ (List.mem_cons_self ..)
    rw [ixL, if_pos (by simpa using this), ixL_high fun x hx => h x (List.mem_cons_of_mem _ hx)]; rfl
theorem ixL_yes {k e : Nat} : ∀ {b : Nat} {l : List (Nat × Nat)}, Asc b l → (k, e) ∈ l → l[ixL k l]? = some (k, e) ∧ ixL (k + 1) l = ixL k l + 1
  | _, [], _, h => by cases h
  | b, (p, f) :: l, ⟨h1, h2, h3, h4⟩, h => by
    rcases List.mem_cons.1 h with h | h
    · cases h
      have hlow : ixL (k + 1) l = 0 := ixL_low fun x hx => by have := asc_lt h4 x hx; omega
      rw [ixL, if_neg (by omega), ixL, if_pos (by omega), hlow]
      exact ⟨rfl, rfl⟩
    · have hlt : p < k := asc_lt h4 _ h
      obtain ⟨i1, i2⟩ := ixL_yes h4 h
      rw [ixL, if_pos hlt, ixL, if_pos (by omega), i2]
      exact ⟨i1, rfl⟩
theorem ixL_no {k : Nat} : ∀ {b : Nat} {l : List (Nat × Nat)}, Asc b l → (∀ e, (k, e) ∉ l) → ixL (k + 1) l = ixL k l
  | _, [], _, _ => rfl
  | b, (p, f) :: l, ⟨h1, h2, h3, h4⟩, h => by
    have hne : p ≠ k := fun hp => h f (by rw [hp]; exact List.mem_cons_self ..)
    by_cases hlt : p < k
    · rw [ixL, if_pos (by omega), ixL, if_pos hlt, ixL_no h4 fun e he => h e (List.mem_cons_of_mem _ he)]
    · rw [ixL, if_neg (by omega), ixL, if_neg hlt]
theorem mlt_of {p e n : Nat} (hp : 2 ≤ p) (hn : 0 < n) (h1 : p ^ e ∣ n) (h2 : ¬ p ^ (e + 1) ∣ n) : mlt p n = e := by
  obtain ⟨m, rfl⟩ := h1
  have hm : ¬ p ∣ m := fun h => h2 (by rw [Nat.pow_succ]; exact Nat.mul_dvd_mul_left _ h)
  exact (mlt_pow_mul hp (Nat.pos_of_ne_zero fun h => by rw [h, Nat.mul_zero] at hn; omega) hm e).1
theorem mem_mlt {n p : Nat} (hn : 0 < n) (hp : Prm p) (hd : p ∣ n) : (p, mlt p n) ∈ facs n := by
  obtain ⟨⟨q, k⟩, hx, rfl⟩ := natL_prime hp (fun x hx => (facs_mem hn x hx).1) (show p ∣ natL (facs n) by rw [natL_facs n hn]; exact hd)
  have h := (facs_iff hn q k).1 hx
  rw [mlt_of hp.1 hn h.2.2.1 h.2.2.2]
  exact hx
def ixN (n k : Nat) : Nat := ixL k (facs n)
theorem ixN_two {n : Nat} (hn : 0 < n) : ixN n 2 = 0 := ixL_low fun x hx => (facs_mem hn x hx).1.1
theorem ixN_end {n k : Nat} (hn : 0 < n) (hk : n < k) : ixN n k = (facs n).length := ixL_high fun x hx => by
  have := Nat.le_of_dvd hn (facs_mem hn x hx).2.2
  omega
theorem ixN_yes {n k : Nat} (hn : 0 < n) (hp : Prm k) (hd : k ∣ n) : (facs n)[ixN n k]? = some (k, mlt k n) ∧ ixN n (k + 1) = ixN n k + 1 :=
  ixL_yes (facs_asc1 n hn) (mem_mlt hn hp hd)
theorem ixN_no {n k : Nat} (hn : 0 < n) (h : ¬ (Prm k ∧ k ∣ n)) : ixN n (k + 1) = ixN n k :=
  ixL_no (facs_asc1 n hn) fun _ he => h ⟨(facs_mem hn _ he).1, (facs_mem hn _ he).2.2⟩
def stpN (f : Nat → Nat → Int) (n k : Nat) : Int := stepN f (facs n) (ixN n k)
theorem stpN_two (f) {n : Nat} (hn : 0 < n) : stpN f n 2 = n := by unfold stpN; rw [ixN_two hn, stepN_zero, natL_facs n hn]
theorem stpN_end (f) {n k : Nat} (hn : 0 < n) (hk : n < k) : stpN f n k = prodL f (facs n) := by unfold stpN; rw [ixN_end hn hk, stepN_end]
theorem stpN_no (f) {n k : Nat} (hn : 0 < n) (h : ¬ (Prm k ∧ k ∣ n)) : stpN f n (k + 1) = stpN f n k := by unfold stpN; rw [ixN_no hn h]

theorem psiN_bd {N : Nat} (hN : 0 < N) (i : Nat) : 0 ≤ stepN psiF (facs N) i ∧ stepN psiF (facs N) i ≤ (N : Int) * N := by
  have h := (List.take_append_drop i (facs N)).symm
  have hle := prodL_le (f := psiF) (g := fun p e => pwF p e * pwF p e) ((facs N).take i) (fun x hx => by
    obtain ⟨p, e⟩ := x
    obtain ⟨a, b, c, _⟩ := facs_bounds hN (mem_prefix h hx)
    exact psiF_le b c)
  rw [prodL_mul] at hle
  have e : prodL pwF ((facs N).take i) * natL ((facs N).drop i) = N := by
    rw [natL_pw, ← Int.natCast_mul, ← natL_append, ← h, natL_facs N hN]
  have hp := (prefix_pw hN h).1
  have hd : (1 : Int) ≤ natL ((facs N).drop i) := by
    have : natL ((facs N).drop i) ≠ 0 := fun h0 => by rw [h0] at e; simp at e; omega
    omega
  unfold stepN
  refine ⟨Int.mul_nonneg hle.1 (by omega), ?_⟩
  have h1 := Int.mul_le_mul_of_nonneg_right hle.2 (show (0 : Int) ≤ natL ((facs N).drop i) by omega)
  have h2 : prodL pwF ((facs N).take i) * prodL pwF ((facs N).take i) * natL ((facs N).drop i) ≤ (N : Int) * N := by
    rw [Int.mul_assoc, e]
    have h3 : prodL pwF ((facs N).take i) * 1 ≤ prodL pwF ((facs N).take i) * natL ((facs N).drop i) := Int.mul_le_mul_of_nonneg_left hd (by omega)
    rw [e, Int.mul_one] at h3
    exact Int.mul_le_mul_of_nonneg_right h3 (by omega)
  exact Int.le_trans h1 h2

end HP

/-! Plain: the factorizations of the numbers up to 120, reckoned by the kernel. -/
namespace HP

def prmC (p : Nat) : Bool := decide (2 ≤ p) && (List.range (p - 2)).all fun d => !(p % (d + 2) == 0)
theorem prmC_prm {p : Nat} (h : prmC p = true) : Prm p := by
  unfold prmC at h
  rw [Bool.and_eq_true, decide_eq_true_iff, List.all_eq_true] at h
  obtain ⟨h1, h2⟩ := h
  refine ⟨h1, fun d hd => ?_⟩
  have hle := Nat.le_of_dvd (by omega) hd
  rcases Nat.lt_trichotomy d 1 with h | h | h
  · have : d = 0 := by omega
    subst this
    have := Nat.eq_zero_of_zero_dvd hd
    omega
  · exact .inl h
  · right
    apply Nat.le_antisymm hle
    apply Nat.le_of_not_lt
    intro hlt
    have := h2 (d - 2) (List.mem_range.2 (by omega))
    rw [show d - 2 + 2 = d by omega, Nat.mod_eq_zero_of_dvd hd] at this
    simp at this
theorem prm_prmC {p : Nat} (h : Prm p) : prmC p = true := by
  unfold prmC
  rw [Bool.and_eq_true, decide_eq_true_iff, List.all_eq_true]
  refine ⟨h.1, fun d hd => ?_⟩
  have hd := List.mem_range.1 hd
  have : ¬ p % (d + 2) = 0 := fun h0 => by
    rcases h.2 _ (Nat.dvd_of_mod_eq_zero h0) with h1 | h1 <;> omega
  simpa using this
theorem prmC_iff {p : Nat} : prmC p = true ↔ Prm p := ⟨prmC_prm, prm_prmC⟩
def mltC (p : Nat) : Nat → Nat → Nat
  | 0, _ => 0
  | f + 1, n => if n % p = 0 then mltC p f (n / p) + 1 else 0
def facA : Nat → Nat → Nat → List (Nat × Nat)
  | 0, _, _ => []
  | f + 1, p, n => if n < 2 then [] else if n % p = 0 then (p, mltC p 7 n) :: facA f (p + 1) (n / p ^ mltC p 7 n) else facA f (p + 1) n
def facC (n : Nat) : List (Nat × Nat) := facA n 2 n
def ascC : Nat → List (Nat × Nat) → Bool
  | _, [] => true
  | b, (p, e) :: l => decide (b < p) && prmC p && decide (0 < e) && ascC p l
theorem ascC_asc : ∀ {b : Nat} {l : List (Nat × Nat)}, ascC b l = true → Asc b l
  | _, [], _ => trivial
  | b, (p, e) :: l, h => by
    unfold ascC at h
    rw [Bool.and_eq_true, Bool.and_eq_true, Bool.and_eq_true, decide_eq_true_iff, decide_eq_true_iff] at h
    exact ⟨h.1.1.1, prmC_prm h.1.1.2, h.1.2, ascC_asc h.2⟩
def allB (n : Nat) (f : Nat → Bool) : Bool := (List.range n).all f
theorem allB_at {n : Nat} {f : Nat → Bool} (h : allB n f = true) {i : Nat} (hi : i < n) : f i = true := by
  unfold allB at h
  rw [List.all_eq_true] at h
  exact h i (List.mem_range.2 hi)
theorem fac_all : allB 121 (fun n => decide (n = 0) || (ascC 1 (facC n) && (natL (facC n) == n))) = true := by decide +kernel
theorem facs_C {n : Nat} (h1 : 1 ≤ n) (h2 : n ≤ 120) : facs n = facC n := by
  have h := allB_at fac_all (show n < 121 by omega)
  rw [Bool.or_eq_true, decide_eq_true_iff, Bool.and_eq_true, beq_iff_eq] at h
  rcases h with h | ⟨ha, hb⟩
  · omega
  · have := facs_of _ (ascC_asc ha)
    rwa [hb] at this
def prodC (f : Nat → Nat → Int) (n : Nat) : Int := prodL f (facC n)
theorem psi_C {n : Nat} (h1 : 1 ≤ n) (h2 : n ≤ 120) : psi n = prodC psiF n := by unfold psi prodC; rw [facs_C h1 h2]
theorem phi_C {n : Nat} (h1 : 1 ≤ n) (h2 : n ≤ 120) : phi n = prodC phiF n := by unfold phi prodC; rw [facs_C h1 h2]
end HP

/-! Plain: the sums over roots of the dimension formulas; the sum over the divisors. -/
namespace HP

theorem tdiv_bd {d k B : Int} (h1 : -B ≤ d) (h2 : d ≤ B) : -B ≤ d.tdiv k ∧ d.tdiv k ≤ B := by
  have h := Int.natAbs_tdiv d k
  have h3 := Nat.div_le_self d.natAbs k.natAbs
  change (d.tdiv k).natAbs = d.natAbs / k.natAbs at h
  generalize d.tdiv k = x at *
  generalize d.natAbs / k.natAbs = y at *
  omega
theorem psi_sm {n : Nat} (h1 : 1 ≤ n) (h2 : n ≤ 120) : 1 ≤ psi n ∧ psi n ≤ 400 := by
  have h : allB 121 (fun n => decide (n = 0) || (decide (1 ≤ prodC psiF n) && decide (prodC psiF n ≤ 400))) = true := by decide +kernel
  have := allB_at h (show n < 121 by omega)
  simp only [Bool.or_eq_true, Bool.and_eq_true, decide_eq_true_eq] at this
  rw [psi_C h1 h2]
  exact this.resolve_left (by omega)
end HP

