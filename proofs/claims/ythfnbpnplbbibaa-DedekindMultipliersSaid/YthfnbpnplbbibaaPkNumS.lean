/- Own texts joined: NumS, NumT, NumU, NumV, NumQ, NumR, NumP, NumI, NumF. -/
import Derived.Test.YthfnbpnplbbibaaNumA
import Derived.Test.YthfnbpnplbbibaaNumD
/- Dedekind sums: reciprocity, by counting. -/
namespace HP
theorem sumN_mul (a : Nat) (f : Nat → Nat) : ∀ n, sumN (fun i => a * f i) n = a * sumN f n
  | 0 => (Nat.mul_zero a).symm
  | n + 1 => by rw [sumN_succ, sumN_succ, sumN_mul a f n, Nat.mul_add]
theorem sumN_shift (f : Nat → Nat) : ∀ n, sumN f (n + 1) = f 0 + sumN (fun i => f (i + 1)) n
  | 0 => by rw [sumN_succ, sumN_zero, sumN_zero]; omega
  | n + 1 => by rw [sumN_succ, sumN_shift f n, sumN_succ]; omega
theorem sum1 : ∀ n, 2 * sumN (fun i => i) n + n = n * n
  | 0 => rfl
  | n + 1 => by
    have := sum1 n
    rw [sumN_succ]
    grind
theorem sum2 : ∀ n, 6 * sumN (fun i => i * i) n + 3 * (n * n) = n * (2 * n * n + 1)
  | 0 => rfl
  | n + 1 => by
    have := sum2 n
    rw [sumN_succ]
    grind
/-- what is multiplied by a unit runs through all residues -/
theorem unit_perm {h k : Nat} (hk : 0 < k) (hc : Nat.gcd h k = 1) (f : Nat → Nat) : sumN (fun i => f (h * i % k)) k = sumN f k :=
  sumN_perm f k (fun i => h * i % k) (fun i _ => Nat.mod_lt _ hk) fun i j hi hj e => by
    have hd : ∀ a b : Nat, a < k → b < k → a ≤ b → h * a % k = h * b % k → a = b := fun a b ha hb hab e => by
      have h1 : k ∣ h * b - h * a := Nat.dvd_of_mod_eq_zero (Nat.sub_mod_eq_zero_of_mod_eq e.symm)
      rw [← Nat.mul_sub] at h1
      have h2 : k ∣ b - a := Nat.Coprime.dvd_of_dvd_mul_left (Nat.Coprime.symm hc) h1
      rcases Nat.eq_zero_or_pos (b - a) with h3 | h3
      · omega
      · have := Nat.le_of_dvd h3 h2; omega
    rcases Nat.le_total i j with hij | hij
    · exact hd i j hi hj hij e
    · exact (hd j i hj hi hij e.symm).symm
/-- the sums that play a part -/
def dE (h k : Nat) : Nat := sumN (fun i => i * (h * i % k)) k
def dA (h k : Nat) : Nat := sumN (fun i => i * (h * i / k)) k
def dF1 (h k : Nat) : Nat := sumN (fun i => h * i / k) k
def dF2 (h k : Nat) : Nat := sumN (fun i => h * i / k * (h * i / k)) k
def sq2 (k : Nat) : Nat := sumN (fun i => i * i) k
def sq1 (k : Nat) : Nat := sumN (fun i => i) k
theorem dE_dA (h k : Nat) : dE h k + k * dA h k = h * sq2 k := by
  unfold dE dA sq2
  rw [← sumN_mul, ← sumN_mul, ← sumN_add]
  refine sumN_congr _ _ _ fun i _ => ?_
  have := Nat.div_add_mod (h * i) k
  generalize h * i / k = q at *
  generalize h * i % k = r at *
  grind
theorem dF2_dA {h k : Nat} (hk : 0 < k) (hc : Nat.gcd h k = 1) : h * h * sq2 k + k * k * dF2 h k = sq2 k + 2 * h * k * dA h k := by
  have e : sq2 k = sumN (fun i => h * i % k * (h * i % k)) k := (unit_perm hk hc fun x => x * x).symm
  rw [show sq2 k + 2 * h * k * dA h k = sumN (fun i => h * i % k * (h * i % k)) k + 2 * h * k * dA h k by rw [← e]]
  unfold dF2 dA sq2
  rw [← sumN_mul, ← sumN_mul, ← sumN_mul, ← sumN_add, ← sumN_add]
  refine sumN_congr _ _ _ fun i _ => ?_
  have := Nat.div_add_mod (h * i) k
  generalize h * i / k = q at *
  generalize h * i % k = r at *
  grind
theorem dF1_sq {h k : Nat} (hk : 0 < k) (hc : Nat.gcd h k = 1) : h * sq1 k = k * dF1 h k + sq1 k := by
  have e : sq1 k = sumN (fun i => h * i % k) k := (unit_perm hk hc fun x => x).symm
  rw [show k * dF1 h k + sq1 k = k * dF1 h k + sumN (fun i => h * i % k) k by rw [← e]]
  unfold dF1 sq1
  rw [← sumN_mul, ← sumN_mul, ← sumN_add]
  exact sumN_congr _ _ _ fun i _ => (Nat.div_add_mod (h * i) k).symm
theorem tri_if (f : Nat) : ∀ H, f ≤ H → f * f + f = 2 * sumN (fun j => if j + 1 ≤ f then j + 1 else 0) H
  | 0, h => by obtain rfl : f = 0 := by omega
               rfl
  | H + 1, h => by
    rw [sumN_succ]
    by_cases e : f = H + 1
    · subst e
      rw [if_pos (Nat.le_refl _)]
      have h1 : sumN (fun j => if j + 1 ≤ H + 1 then j + 1 else 0) H = sumN (fun j => if j + 1 ≤ H then j + 1 else 0) H := sumN_congr _ _ _ fun j hj => by rw [if_pos (by omega), if_pos (by omega)]
      have := tri_if H H (Nat.le_refl _)
      rw [h1]
      grind
    · rw [if_neg (by omega), tri_if f H (by omega)]
      omega
theorem cnt_ge {h k : Nat} (hh : 0 < h) (hk : 0 < k) (hc : Nat.gcd h k = 1) {J : Nat} (hJ0 : 0 < J) (hJ : J < h) : sumN (fun i => if J ≤ h * i / k then 1 else 0) k + k * J / h = k - 1 := by
  have hg : k * J / h ≤ k - 1 := by
    have : k * J / h < k := Nat.div_lt_of_lt_mul (by rw [Nat.mul_comm h]; exact Nat.mul_lt_mul_of_pos_left hJ hk)
    omega
  obtain ⟨q, rfl⟩ : ∃ q, k = q + 1 := ⟨k - 1, by omega⟩
  have e1 : ∀ i, (if J ≤ h * i / (q + 1) then 1 else 0) + (if h * i ≤ (q + 1) * J then 1 else 0) = 1 + (if h * i = (q + 1) * J then 1 else 0) := fun i => by
    have := Nat.le_div_iff_mul_le (x := J) (y := h * i) (show 0 < q + 1 by omega)
    rw [Nat.mul_comm J] at this
    by_cases h1 : J ≤ h * i / (q + 1)
    · rw [if_pos h1]
      have := this.1 h1
      split <;> split <;> omega
    · rw [if_neg h1]
      have h2 : ¬ (q + 1) * J ≤ h * i := fun x => h1 (this.2 x)
      rw [if_pos (by omega), if_neg (by omega)]
  have e2 : ∀ i, i < q + 1 → (if J ≤ h * i / (q + 1) then 1 else 0) + (if h * i ≤ (q + 1) * J then 1 else 0) = 1 := fun i hi => by
    rw [e1 i, if_neg]
    intro e
    have h1 : h ∣ (q + 1) * J := ⟨i, e.symm⟩
    have h2 : h ∣ J := Nat.Coprime.dvd_of_dvd_mul_left hc h1
    have := Nat.le_of_dvd hJ0 h2
    omega
  have e3 : sumN (fun i => if J ≤ h * i / (q + 1) then 1 else 0) (q + 1) + sumN (fun i => if h * i ≤ (q + 1) * J then 1 else 0) (q + 1) = (q + 1) * 1 := by
    rw [← sumN_add, ← sumN_const 1 (q + 1)]
    exact sumN_congr _ _ _ e2
  rw [sumN_shift (fun i => if h * i ≤ (q + 1) * J then 1 else 0), Nat.mul_zero, if_pos (Nat.zero_le _), count_mul h ((q + 1) * J) hh q, Nat.min_eq_right (by simpa using hg)] at e3
  rw [Nat.add_sub_cancel]
  omega
theorem dF_dA {h k : Nat} (hh : 0 < h) (hk : 0 < k) (hc : Nat.gcd h k = 1) : dF2 h k + dF1 h k + 2 * dA k h = (k - 1) * (h * (h - 1)) := by
  obtain ⟨H, rfl⟩ : ∃ H, h = H + 1 := ⟨h - 1, by omega⟩
  have h1 : dF2 (H + 1) k + dF1 (H + 1) k = 2 * sumN (fun i => sumN (fun j => if j + 1 ≤ (H + 1) * i / k then j + 1 else 0) H) k := by
    unfold dF2 dF1
    rw [← sumN_add, ← sumN_mul]
    refine sumN_congr _ _ _ fun i hi => tri_if _ H ?_
    have : (H + 1) * i / k < H + 1 := Nat.div_lt_of_lt_mul (by rw [Nat.mul_comm k]; exact Nat.mul_lt_mul_of_pos_left hi (by omega))
    omega
  have h2 : sumN (fun i => sumN (fun j => if j + 1 ≤ (H + 1) * i / k then j + 1 else 0) H) k = sumN (fun j => (j + 1) * sumN (fun i => if j + 1 ≤ (H + 1) * i / k then 1 else 0) k) H := by
    rw [sumN_swap (fun i j => if j + 1 ≤ (H + 1) * i / k then j + 1 else 0)]
    refine sumN_congr _ _ _ fun j _ => ?_
    rw [← sumN_mul]
    refine sumN_congr _ _ _ fun i _ => ?_
    split
    · rw [Nat.mul_one]
    · rw [Nat.mul_zero]
  have h3 : dA k (H + 1) = sumN (fun j => (j + 1) * (k * (j + 1) / (H + 1))) H := by
    unfold dA
    rw [sumN_shift, Nat.zero_mul, Nat.zero_add]
  have h4 : sumN (fun j => (j + 1) * sumN (fun i => if j + 1 ≤ (H + 1) * i / k then 1 else 0) k) H + dA k (H + 1) = (k - 1) * sumN (fun j => j + 1) H := by
    rw [h3, ← sumN_add, ← sumN_mul]
    refine sumN_congr _ _ _ fun j hj => ?_
    rw [← Nat.mul_add, cnt_ge (by omega) hk hc (by omega) (by omega), Nat.mul_comm]
  have h5 : 2 * sumN (fun j => j + 1) H = (H + 1) * H := by
    have := sum1 (H + 1)
    rw [sumN_shift, Nat.zero_add] at this
    grind
  rw [h1, h2, Nat.add_sub_cancel, ← h5]
  have := congrArg (2 * ·) h4
  simp only [Nat.mul_add] at this
  rw [this]
  grind
/-- 6 k s(h, k) -/
def dN (h k : Nat) : Int := (h : Int) * (k - 1) * (2 * k - 1) - 6 * dA h k - 3 * sq1 k
theorem dN_E {h k : Nat} : (k : Int) * dN h k = 6 * dE h k - 3 * k * sq1 k := by
  have h1 := congrArg (fun n : Nat => (n : Int)) (dE_dA h k)
  have h2 := congrArg (fun n : Nat => (n : Int)) (sum2 k)
  have h3 : sumN (fun i => i * i) k = sq2 k := rfl
  rw [h3] at h2
  push_cast at h1 h2
  unfold dN
  grind
theorem f1_core {h k f t : Int} (h2 : h * t = k * f + t) (s2 : 2 * t + k = k * k) : k * (2 * f) = k * ((h - 1) * (k - 1)) := by grind
theorem rec_ring (h k a b f2 f q t t' : Int) : k * (2 * h * (h * (k - 1) * (2 * k - 1) - 6 * a - 3 * t) + 2 * k * (k * (h - 1) * (2 * h - 1) - 6 * b - 3 * t')) - k * (h * h + k * k + 1 - 3 * h * k) =
    -6 * (q + 2 * h * k * a - (h * h * q + k * k * f2)) - 3 * h * k * (2 * t + k - k * k) - 6 * k * k * (f2 + f + 2 * b - (k - 1) * (h * (h - 1))) - 3 * k * k * (2 * t' + h - h * h) - (h * h - 1) * (6 * q + 3 * (k * k) - k * (2 * k * k + 1)) + 3 * k * k * (2 * f - (h - 1) * (k - 1)) := by grind
theorem rec_core {h k a b f2 f q t t' : Int} (h1 : h * h * q + k * k * f2 = q + 2 * h * k * a) (h3 : f2 + f + 2 * b = (k - 1) * (h * (h - 1))) (s1 : 6 * q + 3 * (k * k) = k * (2 * k * k + 1)) (s2 : 2 * t + k = k * k) (s3 : 2 * t' + h = h * h) (f1 : 2 * f = (h - 1) * (k - 1)) :
    k * (2 * h * (h * (k - 1) * (2 * k - 1) - 6 * a - 3 * t) + 2 * k * (k * (h - 1) * (2 * h - 1) - 6 * b - 3 * t')) = k * (h * h + k * k + 1 - 3 * h * k) := by
  have e := rec_ring h k a b f2 f q t t'
  rw [← h1, h3, s1, s2, s3, f1] at e
  simp only [Int.sub_self, Int.mul_zero, Int.add_zero] at e
  exact Int.sub_eq_zero.1 e
/-- Dedekind's reciprocity -/
theorem recip {h k : Nat} (hh : 0 < h) (hk : 0 < k) (hc : Nat.gcd h k = 1) : 2 * (h : Int) * dN h k + 2 * k * dN k h = h * h + k * k + 1 - 3 * h * k := by
  have h1 := congrArg (fun n : Nat => (n : Int)) (dF2_dA hk hc)
  have h2 := congrArg (fun n : Nat => (n : Int)) (dF1_sq hk hc)
  have h3 := congrArg (fun n : Nat => (n : Int)) (dF_dA hh hk hc)
  have s1 := congrArg (fun n : Nat => (n : Int)) (sum2 k)
  have s2 := congrArg (fun n : Nat => (n : Int)) (sum1 k)
  have s3 := congrArg (fun n : Nat => (n : Int)) (sum1 h)
  have e1 : sumN (fun i => i * i) k = sq2 k := rfl
  have e2 : sumN (fun i => i) k = sq1 k := rfl
  have e3 : sumN (fun i => i) h = sq1 h := rfl
  rw [e1] at s1
  rw [e2] at s2
  rw [e3] at s3
  push_cast at h1 h2 h3 s1 s2 s3
  have c1 : ((k - 1 : Nat) : Int) = k - 1 := by omega
  have c2 : ((h - 1 : Nat) : Int) = h - 1 := by omega
  rw [c1, c2] at h3
  have hk0 : (k : Int) ≠ 0 := by omega
  have f1 : 2 * (dF1 h k : Int) = (h - 1) * (k - 1) := Int.eq_of_mul_eq_mul_left hk0 (f1_core h2 s2)
  exact Int.eq_of_mul_eq_mul_left hk0 (rec_core h1 h3 s1 s2 s3 f1)
end HP

/- Dedekind sums of integers; Rademacher's function and its cocycle. -/
namespace HP
theorem dE_congr {h h' k : Nat} (e : h % k = h' % k) : dE h k = dE h' k := by
  unfold dE
  refine sumN_congr _ _ _ fun i _ => ?_
  rw [Nat.mul_mod h i k, e, ← Nat.mul_mod]
theorem dN_of_dE {h h' k : Nat} (hk : 0 < k) (e : dE h k = dE h' k) : dN h k = dN h' k := by
  apply Int.eq_of_mul_eq_mul_left (show (k : Int) ≠ 0 by omega)
  rw [dN_E, dN_E, e]
theorem dN_congr {h h' k : Nat} (hk : 0 < k) (e : h % k = h' % k) : dN h k = dN h' k := dN_of_dE hk (dE_congr e)
theorem not_dvd_mul {h k i : Nat} (hc : Nat.gcd h k = 1) (h0 : 0 < i) (hi : i < k) : h * i % k ≠ 0 := fun e => by
  have h1 : k ∣ i := Nat.Coprime.dvd_of_dvd_mul_left (Nat.Coprime.symm hc) (Nat.dvd_of_mod_eq_zero e)
  have := Nat.le_of_dvd h0 h1
  omega
theorem dE_neg {h h' k : Nat} (hk : 0 < k) (hc : Nat.gcd h k = 1) (e : (h + h') % k = 0) : dE h k + dE h' k = k * sq1 k := by
  unfold dE sq1
  rw [← sumN_add, ← sumN_mul]
  refine sumN_congr _ _ _ fun i hi => ?_
  rcases Nat.eq_zero_or_pos i with h0 | h0
  · subst h0; simp
  · have h1 : (h * i % k + h' * i % k) % k = 0 := by
      rw [← Nat.add_mod, ← Nat.add_mul, Nat.mul_mod, e, Nat.zero_mul, Nat.zero_mod]
    have h2 := not_dvd_mul hc h0 hi
    have h3 := Nat.mod_lt (h * i) hk
    have h4 := Nat.mod_lt (h' * i) hk
    generalize h * i % k = r at *
    generalize h' * i % k = r' at *
    have h5 : r + r' = k := by
      obtain ⟨q, hq⟩ := Nat.dvd_of_mod_eq_zero h1
      have hq1 : q = 1 := by
        rcases Nat.lt_or_ge q 2 with h | h
        · rcases Nat.eq_zero_or_pos q with h | h
          · rw [h] at hq; omega
          · omega
        · have : k * 2 ≤ k * q := Nat.mul_le_mul_left _ h
          omega
      rw [hq1] at hq
      omega
    rw [← Nat.mul_add, h5, Nat.mul_comm]
theorem dN_neg {h h' k : Nat} (hk : 0 < k) (hc : Nat.gcd h k = 1) (e : (h + h') % k = 0) : dN h' k = -dN h k := by
  have h1 := congrArg (fun n : Nat => (n : Int)) (dE_neg hk hc e)
  push_cast at h1
  apply Int.eq_of_mul_eq_mul_left (show (k : Int) ≠ 0 by omega)
  rw [Int.mul_neg, dN_E, dN_E]
  have h2 : (3 : Int) * k * sq1 k = 3 * (k * sq1 k) := by rw [Int.mul_assoc]
  rw [h2]
  omega
theorem dN_one (h : Nat) : dN h 1 = 0 := by
  have := dN_E (h := h) (k := 1)
  have h1 : dE h 1 = 0 := by show 0 + 0 * _ = 0; simp
  have h2 : sq1 1 = 0 := rfl
  rw [h1, h2] at this
  simpa using this
/-- of any integer -/
def dZ (d : Int) (k : Nat) : Int := dN (d % k).toNat k
theorem emod_toNat {d : Int} {k : Nat} (hk : 0 < k) : (((d % k).toNat : Nat) : Int) = d % k := by
  have := Int.emod_nonneg d (show (k : Int) ≠ 0 by omega)
  omega
theorem dZ_congr {d d' : Int} {k : Nat} (h : (k : Int) ∣ d - d') : dZ d k = dZ d' k := by
  unfold dZ
  rw [Int.emod_eq_emod_iff_emod_sub_eq_zero.2 (Int.emod_eq_zero_of_dvd h)]
theorem dZ_nat {h k : Nat} (hk : 0 < k) : dZ (h : Int) k = dN h k := by
  unfold dZ
  apply dN_congr hk
  have : ((h : Int) % k).toNat = h % k := by omega
  rw [this, Nat.mod_mod]
theorem gcd_emodZ (d : Int) (k : Nat) : Int.gcd (d % k) k = Int.gcd d k := by
  apply Nat.dvd_antisymm
  · refine Int.natCast_dvd_natCast.1 (Int.dvd_coe_gcd ?_ ?_)
    · have h1 := Int.gcd_dvd_left (d % k) k
      have h2 := Int.gcd_dvd_right (d % k) k
      have e := Int.mul_ediv_add_emod d k
      have h3 := Int.dvd_add (Int.dvd_mul_of_dvd_left h2 (c := d / k)) h1
      rwa [e] at h3
    · exact Int.gcd_dvd_right ..
  · refine Int.natCast_dvd_natCast.1 (Int.dvd_coe_gcd ?_ ?_)
    · have h1 := Int.gcd_dvd_left d k
      have h2 := Int.gcd_dvd_right d k
      have e := Int.mul_ediv_add_emod d k
      rw [show d % k = d - k * (d / k) by omega]
      exact Int.dvd_sub h1 (Int.dvd_mul_of_dvd_left h2)
    · exact Int.gcd_dvd_right ..
theorem sign_self (c : Int) : c.sign * c = c.natAbs := by
  rcases Int.lt_trichotomy c 0 with h | h | h
  · rw [Int.sign_eq_neg_one_of_neg h]; omega
  · subst h; rfl
  · rw [Int.sign_eq_one_of_pos h]; omega
theorem gcd_toNat {d : Int} {k : Nat} (hk : 0 < k) (hc : Int.gcd d k = 1) : Nat.gcd (d % k).toNat k = 1 := by
  have h1 : Int.gcd (d % k) k = 1 := by rw [gcd_emodZ]; exact hc
  rwa [← emod_toNat hk] at h1
theorem dZ_neg {d : Int} {k : Nat} (hk : 0 < k) (hc : Int.gcd d k = 1) : dZ (-d) k = -dZ d k := by
  unfold dZ
  apply dN_neg hk (gcd_toNat hk hc)
  have h1 := emod_toNat (d := d) hk
  have h2 := emod_toNat (d := -d) hk
  have h3 : (k : Int) ∣ (((d % k).toNat + (-d % k).toNat : Nat) : Int) := by
    rw [Int.natCast_add, h1, h2]
    have e1 := Int.mul_ediv_add_emod d k
    have e2 := Int.mul_ediv_add_emod (-d) k
    refine ⟨-(d / k) - (-d / k), ?_⟩
    rw [Int.mul_sub, Int.mul_neg]
    omega
  exact Nat.mod_eq_zero_of_dvd (Int.natCast_dvd_natCast.1 h3)
/-- reciprocity for any two coprime positive numbers -/
theorem dZ_recip {c d : Int} (hc : c ≠ 0) (hd : d ≠ 0) (hg : Int.gcd d c = 1) : 2 * d * dZ d c.natAbs - 2 * c * dZ (-c) d.natAbs = c * c + d * d + 1 - 3 * (c.sign * d.sign) * (c * d) := by
  have hk : 0 < c.natAbs := by omega
  have hl : 0 < d.natAbs := by omega
  have hgn : Nat.gcd d.natAbs c.natAbs = 1 := hg
  have r := recip hl hk hgn
  have e1 : d * dZ d c.natAbs = d.natAbs * dN d.natAbs c.natAbs := by
    rcases Int.lt_or_lt_of_ne hd with h | h
    · have e : d = -(d.natAbs : Int) := by omega
      have h1 := dZ_neg (d := (d.natAbs : Int)) hk hgn
      rw [← e, dZ_nat hk] at h1
      rw [h1, Int.mul_neg]
      have : (d.natAbs : Int) = -d := by omega
      rw [this, Int.neg_mul]
    · have e : (d.natAbs : Int) = d := by omega
      have h1 := dZ_nat (h := d.natAbs) hk
      rw [e] at h1
      rw [h1, e]
  have hgc : Int.gcd (c.natAbs : Int) d.natAbs = 1 := by rw [Int.gcd_natCast_natCast, Nat.gcd_comm]; exact hgn
  have e2 : c * dZ (-c) d.natAbs = -(c.natAbs * dN c.natAbs d.natAbs) := by
    rcases Int.lt_or_lt_of_ne hc with h | h
    · have e : (c.natAbs : Int) = -c := by omega
      have h1 := dZ_nat (h := c.natAbs) hl
      rw [e] at h1
      rw [h1, e, Int.neg_mul, Int.neg_neg]
    · have e : (c.natAbs : Int) = c := by omega
      have h1 := dZ_neg (d := (c.natAbs : Int)) hl hgc
      rw [dZ_nat hl, e] at h1
      rw [h1, e, Int.mul_neg]
  have e3 : c.sign * d.sign * (c * d) = c.natAbs * d.natAbs := by
    rw [show c.sign * d.sign * (c * d) = (c.sign * c) * (d.sign * d) by grind, sign_self, sign_self]
  have e4 : (c.natAbs : Int) * c.natAbs = c * c := Int.natAbs_mul_self
  have e5 : (d.natAbs : Int) * d.natAbs = d * d := Int.natAbs_mul_self
  rw [Int.mul_assoc 3, e3, Int.mul_assoc 2 d, e1, Int.mul_assoc 2 c, e2, ← e4, ← e5]
  rw [Int.mul_assoc 2, Int.mul_assoc 2, Int.mul_assoc 3, Int.mul_comm (d.natAbs : Int) (c.natAbs : Int)] at r
  omega
/-- 2 by 2 matrices -/
structure Mx where
  a : Int
  b : Int
  c : Int
  d : Int
def Mx.One (x : Mx) : Prop := x.a * x.d - x.b * x.c = 1
def Mx.mul (x y : Mx) : Mx := ⟨x.a * y.a + x.b * y.c, x.a * y.b + x.b * y.d, x.c * y.a + x.d * y.c, x.c * y.b + x.d * y.d⟩
theorem Mx.One.mul {x y : Mx} (hx : x.One) (hy : y.One) : (x.mul y).One := by
  unfold Mx.One Mx.mul at *
  simp only
  have e : (x.a * y.a + x.b * y.c) * (x.c * y.b + x.d * y.d) - (x.a * y.b + x.b * y.d) * (x.c * y.a + x.d * y.c) = (x.a * x.d - x.b * x.c) * (y.a * y.d - y.b * y.c) := by grind
  rw [e, hx, hy]
  rfl
theorem Mx.One.gcd {x : Mx} (h : x.One) : Int.gcd x.d x.c = 1 := by
  have h1 : ((Int.gcd x.d x.c : Nat) : Int) ∣ 1 := by
    rw [← h]
    exact Int.dvd_sub (Int.dvd_mul_of_dvd_right (Int.gcd_dvd_left ..)) (Int.dvd_mul_of_dvd_right (Int.gcd_dvd_right ..))
  have h2 := Int.natAbs_dvd_natAbs.2 h1
  simpa using h2
theorem dvd_core {K h : Nat} {X : Int} (hg : Nat.gcd h K = 1) (hd : (K : Int) ∣ h * X) : (K : Int) ∣ X := by
  have h1 := Int.natAbs_dvd_natAbs.2 hd
  rw [Int.natAbs_mul, Int.natAbs_natCast, Int.natAbs_natCast] at h1
  have h2 : K ∣ X.natAbs := Nat.Coprime.dvd_of_dvd_mul_left (Nat.Coprime.symm hg) h1
  exact Int.dvd_trans (Int.natCast_dvd_natCast.2 h2) (Int.natAbs_dvd.2 (Int.dvd_refl _))
theorem rad_ring0 (a b c d h k q s N N' : Int) : h * (a + d - 2 * N) - k * (b * s - a * q - k + 2 * N' + 3 * h + h * q) =
    a * (k * q + h - d) - h * (k * q + h - d) - (2 * h * N + 2 * k * N' - (h * h + k * k + 1 - 3 * h * k)) + (a * d - b * c - 1) + b * (c - k * s) := by grind
theorem rad_ring {a b c d h k q s N N' : Int} (hD : k * q + h = d) (hS : c = k * s) (hT : a * d - b * c = 1) (hR : 2 * h * N + 2 * k * N' = h * h + k * k + 1 - 3 * h * k) : h * (a + d - 2 * N) = k * (b * s - a * q - k + 2 * N' + 3 * h + h * q) := by
  have e := rad_ring0 a b c d h k q s N N'
  rw [hR, hT, hD] at e
  rw [show c - k * s = 0 by omega] at e
  simp only [Int.sub_self, Int.mul_zero, Int.add_zero] at e
  exact Int.sub_eq_zero.1 e
/-- Rademacher's function -/
def rad (x : Mx) : Int := if x.c = 0 then x.b * x.d else (x.a + x.d - 2 * dZ x.d x.c.natAbs) / x.c
theorem rad_zero {x : Mx} (h : x.c = 0)   : rad x = x.b * x.d := if_pos h
theorem rad_mul {x : Mx} (hx : x.One) (hc : x.c ≠ 0) : x.c * rad x = x.a + x.d - 2 * dZ x.d x.c.natAbs := by
  unfold rad
  rw [if_neg hc]
  refine Int.mul_ediv_cancel' ?_
  have hk : 0 < x.c.natAbs := by omega
  rw [← Int.natAbs_dvd]
  have hg := gcd_toNat (d := x.d) hk hx.gcd
  have hm := emod_toNat (d := x.d) hk
  have hdiv := Int.mul_ediv_add_emod x.d x.c.natAbs
  by_cases h1 : x.c.natAbs = 1
  · rw [h1]; exact Int.one_dvd _
  · have hh : 0 < (x.d % x.c.natAbs).toNat := Nat.pos_of_ne_zero fun e => by rw [e, Nat.gcd_zero_left] at hg; exact h1 hg
    have r := recip hh hk hg
    have ed : dZ x.d x.c.natAbs = dN (x.d % x.c.natAbs).toNat x.c.natAbs := rfl
    rw [← ed] at r
    generalize (x.d % x.c.natAbs).toNat = h at *
    rw [← hm] at hdiv
    generalize dZ x.d x.c.natAbs = N at *
    generalize dN x.c.natAbs h = N' at *
    generalize x.d / x.c.natAbs = q at *
    obtain ⟨s, hs⟩ : (x.c.natAbs : Int) ∣ x.c := Int.natAbs_dvd.2 (Int.dvd_refl _)
    have hdet := hx
    unfold Mx.One at hdet
    refine dvd_core hg ⟨x.b * s - x.a * q - x.c.natAbs + 2 * N' + 3 * h + h * q, ?_⟩
    exact rad_ring hdiv hs hdet r
end HP

/- Rademacher's function: translations, turns, and the cocycle. -/
namespace HP
theorem sgn_tri (x : Int) : (x.sign = -1 ∧ x < 0) ∨ (x.sign = 0 ∧ x = 0) ∨ (x.sign = 1 ∧ 0 < x) := by
  rcases Int.lt_trichotomy x 0 with h | h | h
  · exact .inl ⟨Int.sign_eq_neg_one_of_neg h, h⟩
  · exact .inr (.inl ⟨by rw [h]; rfl, h⟩)
  · exact .inr (.inr ⟨Int.sign_eq_one_of_pos h, h⟩)
theorem sign_id {c p q g h : Int} (e : c = p * h - q * g) (h1 : g ≠ 0 ∨ h ≠ 0) (h2 : p ≠ 0 ∨ q ≠ 0) : c.sign * g.sign * p.sign + p.sign * q.sign = c.sign * h.sign * q.sign + g.sign * h.sign := by
  have hP := Int.sign_mul p h
  have hQ := Int.sign_mul q g
  generalize p * h = P at *
  generalize q * g = Q at *
  have tP := sgn_tri P
  have tQ := sgn_tri Q
  have tc := sgn_tri c
  rcases sgn_tri p with ⟨a, _⟩ | ⟨a, _⟩ | ⟨a, _⟩ <;> rcases sgn_tri q with ⟨b, _⟩ | ⟨b, _⟩ | ⟨b, _⟩ <;> rcases sgn_tri g with ⟨c1, _⟩ | ⟨c1, _⟩ | ⟨c1, _⟩ <;> rcases sgn_tri h with ⟨d, _⟩ | ⟨d, _⟩ | ⟨d, _⟩ <;> rw [a, d] at hP <;> rw [b, c1] at hQ <;> rw [a, b, c1, d] <;> omega
theorem rad_T {x : Mx} (hx : x.One) (n : Int) : rad ⟨x.a, x.a * n + x.b, x.c, x.c * n + x.d⟩ = rad x + n := by
  by_cases hc : x.c = 0
  · rw [rad_zero hc, rad_zero (show (Mx.mk x.a (x.a * n + x.b) x.c (x.c * n + x.d)).c = 0 from hc)]
    show (x.a * n + x.b) * (x.c * n + x.d) = _
    have := hx
    unfold Mx.One at this
    rw [hc] at this ⊢
    simp only [Int.mul_zero, Int.sub_zero, Int.zero_mul, Int.zero_add] at *
    rw [Int.add_mul, Int.mul_right_comm, this, Int.one_mul, Int.add_comm]
  · have hx2 : (Mx.mk x.a (x.a * n + x.b) x.c (x.c * n + x.d)).One := by
      have := hx
      unfold Mx.One at *
      show x.a * (x.c * n + x.d) - (x.a * n + x.b) * x.c = 1
      rw [← this]
      grind
    have h1 := rad_mul hx hc
    have h2 := rad_mul hx2 hc
    have e : dZ (x.c * n + x.d) x.c.natAbs = dZ x.d x.c.natAbs := dZ_congr (by
      rw [Int.add_sub_cancel]
      exact Int.dvd_mul_of_dvd_left (Int.natAbs_dvd.2 (Int.dvd_refl _)))
    apply Int.eq_of_mul_eq_mul_left hc
    rw [h2, Int.mul_add, h1]
    show x.a + (x.c * n + x.d) - 2 * dZ (x.c * n + x.d) x.c.natAbs = _
    rw [e]
    omega
theorem rad_neg {x : Mx} (hx : x.One) : rad ⟨-x.a, -x.b, -x.c, -x.d⟩ = rad x := by
  by_cases hc : x.c = 0
  · rw [rad_zero hc, rad_zero (show (Mx.mk (-x.a) (-x.b) (-x.c) (-x.d)).c = 0 by show -x.c = 0; omega)]
    show -x.b * -x.d = _
    rw [Int.neg_mul_neg]
  · have hx2 : (Mx.mk (-x.a) (-x.b) (-x.c) (-x.d)).One := by
      have := hx
      unfold Mx.One at *
      show -x.a * -x.d - -x.b * -x.c = 1
      rw [Int.neg_mul_neg, Int.neg_mul_neg, this]
    have h1 := rad_mul hx hc
    have h2 := rad_mul hx2 (show -x.c ≠ 0 by omega)
    have e : dZ (-x.d) x.c.natAbs = -dZ x.d x.c.natAbs := dZ_neg (by omega) (by
      have := hx.gcd
      rw [← Int.gcd_neg] at this
      rcases Int.natAbs_eq x.c with h | h
      · rw [← h, ← Int.gcd_neg]; exact this
      · rw [show ((x.c.natAbs : Nat) : Int) = -x.c by omega]; exact this)
    apply Int.eq_of_mul_eq_mul_left (show -x.c ≠ 0 by omega)
    rw [h2, Int.neg_mul, h1]
    show -x.a + -x.d - 2 * dZ (-x.d) (-x.c).natAbs = _
    rw [Int.natAbs_neg, e]
    omega
theorem unit_right {a b : Int} (h : a * b = 1) : b = 1 ∨ b = -1 := by
  have h1 : a.natAbs * b.natAbs = 1 := by rw [← Int.natAbs_mul, h]; rfl
  have hb : b.natAbs = 1 := Nat.dvd_one.1 ⟨_, by rw [Nat.mul_comm]; exact h1.symm⟩
  omega
theorem radS_ring (a b c d u v N N' s : Int) : c * d * u - c * d * (v - 3 * s) =
    c * (d * u - (b + -c - 2 * N')) - d * (c * v - (a + d - 2 * N)) - (a * d - b * c - 1) + (2 * d * N - 2 * c * N' - (c * c + d * d + 1 - 3 * s * (c * d))) := by grind
theorem rad_S {x : Mx} (hx : x.One) : rad ⟨x.b, -x.a, x.d, -x.c⟩ = rad x - 3 * (x.c.sign * x.d.sign) := by
  have hx2 : (Mx.mk x.b (-x.a) x.d (-x.c)).One := by
    have := hx
    unfold Mx.One at *
    show x.b * -x.c - -x.a * x.d = 1
    rw [← this]
    grind
  have hd1 := hx
  unfold Mx.One at hd1
  by_cases hc : x.c = 0
  · have hd : x.d ≠ 0 := fun e => by rw [hc, e] at hd1; simp at hd1
    have h2 := rad_mul hx2 hd
    rw [rad_zero hc, hc, Int.sign_zero, Int.zero_mul, Int.mul_zero, Int.sub_zero]
    have hdd : x.d = 1 ∨ x.d = -1 := by
      rw [hc, Int.mul_zero, Int.sub_zero] at hd1
      exact unit_right hd1
    have h0 : dZ (-0 : Int) 1 = 0 := dN_one _
    rcases hdd with e | e
    · have h3 : (1 : Int) * rad ⟨x.b, -x.a, x.d, -0⟩ = x.b + -0 - 2 * dZ (-0) 1 := by
        rw [hc, e] at h2; rw [e]; exact h2
      rw [h0] at h3
      rw [e] at *
      omega
    · have h3 : (-1 : Int) * rad ⟨x.b, -x.a, x.d, -0⟩ = x.b + -0 - 2 * dZ (-0) 1 := by
        rw [hc, e] at h2; rw [e]; exact h2
      rw [h0] at h3
      rw [e] at *
      omega
  · have h1 := rad_mul hx hc
    by_cases hd : x.d = 0
    · rw [rad_zero (show (Mx.mk x.b (-x.a) x.d (-x.c)).c = 0 from hd), hd, Int.sign_zero, Int.mul_zero, Int.mul_zero, Int.sub_zero]
      show -x.a * -x.c = rad x
      rw [Int.neg_mul_neg]
      rw [hd, Int.mul_zero, Int.zero_sub] at hd1
      have hcc : x.c = 1 ∨ x.c = -1 := by
        have : x.b * (-x.c) = 1 := by rw [Int.mul_neg]; exact hd1
        rcases unit_right this with h | h <;> omega
      have h0 : dZ (0 : Int) 1 = 0 := dN_one _
      rcases hcc with e | e
      · rw [hd, e] at h1
        have h1 : (1 : Int) * rad x = x.a + 0 - 2 * dZ 0 1 := h1
        rw [h0] at h1
        rw [e]
        omega
      · rw [hd, e] at h1
        have h1 : (-1 : Int) * rad x = x.a + 0 - 2 * dZ 0 1 := h1
        rw [h0] at h1
        rw [e]
        omega
    · have h2 := rad_mul hx2 hd
      have r := dZ_recip hc hd hx.gcd
      have h2 : x.d * rad ⟨x.b, -x.a, x.d, -x.c⟩ = x.b + -x.c - 2 * dZ (-x.c) x.d.natAbs := h2
      generalize rad ⟨x.b, -x.a, x.d, -x.c⟩ = u at *
      generalize rad x = v at *
      generalize dZ (-x.c) x.d.natAbs = N' at *
      generalize dZ x.d x.c.natAbs = N at *
      generalize x.c.sign * x.d.sign = s at *
      have hcd : x.c * x.d ≠ 0 := Int.mul_ne_zero hc hd
      apply Int.eq_of_mul_eq_mul_left hcd
      have e := radS_ring x.a x.b x.c x.d u v N N' s
      rw [h1, h2, hd1, r] at e
      simp only [Int.sub_self, Int.mul_zero, Int.add_zero] at e
      exact Int.sub_eq_zero.1 e
theorem Mx.One.row {x : Mx} (h : x.One) : x.c ≠ 0 ∨ x.d ≠ 0 := by
  by_cases hc : x.c = 0
  · refine .inr fun hd => ?_
    unfold Mx.One at h
    rw [hc, hd] at h
    simp at h
  · exact .inl hc
/-- the cocycle -/
theorem rad_coc {x : Mx} (hx : x.One) : ∀ (n : Nat) (y : Mx), y.c.natAbs ≤ n → y.One → rad (x.mul y) = rad x + rad y - 3 * (x.c.sign * y.c.sign * (x.mul y).c.sign)
  | n, y, hn, hy => by
    by_cases hc : y.c = 0
    · rw [rad_zero hc, hc, Int.sign_zero, Int.mul_zero, Int.zero_mul, Int.mul_zero, Int.sub_zero]
      have hd := hy
      unfold Mx.One at hd
      rw [hc, Int.mul_zero, Int.sub_zero] at hd
      have h1 := rad_T hx (y.b * y.d)
      rcases unit_right hd with e | e
      · rw [e, Int.mul_one] at hd
        rw [← h1, e]
        unfold Mx.mul
        rw [hc, hd, e]
        congr 2 <;> grind
      · rw [e, Int.mul_neg, Int.mul_one] at hd
        have hx2 : (Mx.mk x.a (x.a * (y.b * y.d) + x.b) x.c (x.c * (y.b * y.d) + x.d)).One := by
          have := hx
          unfold Mx.One at *
          show x.a * (x.c * (y.b * y.d) + x.d) - (x.a * (y.b * y.d) + x.b) * x.c = 1
          rw [← this]
          grind
        rw [← h1, ← rad_neg hx2, e]
        unfold Mx.mul
        rw [hc, show y.a = -1 by omega, e]
        congr 2 <;> grind
    · cases n with
      | zero => omega
      | succ n =>
        -- y = y1 S T^m
        have hr0 := Int.emod_nonneg y.d hc
        have hr1 := Int.emod_lt y.d hc
        have hdiv := Int.mul_ediv_add_emod y.d y.c
        generalize hm : y.d / y.c = m at *
        generalize y.d % y.c = r at *
        have hy1 : (Mx.mk (-(y.b - y.a * m)) y.a (-r) y.c).One := by
          have := hy
          unfold Mx.One at *
          show -(y.b - y.a * m) * y.c - y.a * -r = 1
          rw [← this, ← hdiv]
          grind
        have ih := rad_coc hx n (Mx.mk (-(y.b - y.a * m)) y.a (-r) y.c) (by show (-r).natAbs ≤ n; omega) hy1
        have hxy1 := hx.mul hy1
        have e1 := rad_S hxy1
        have e2 := rad_S hy1
        have hys : (Mx.mk y.a (y.b - y.a * m) y.c r).One := by
          have := hy
          unfold Mx.One at *
          show y.a * r - (y.b - y.a * m) * y.c = 1
          rw [← this, ← hdiv]
          grind
        have hxs := hx.mul hys
        have e3 := rad_T hys m
        have e4 := rad_T hxs m
        have f1 : (Mx.mk y.a (y.a * m + (y.b - y.a * m)) y.c (y.c * m + r)) = y := by
          rw [hdiv, show y.a * m + (y.b - y.a * m) = y.b by omega]
        have f2 : (Mx.mk (x.mul ⟨y.a, y.b - y.a * m, y.c, r⟩).a ((x.mul ⟨y.a, y.b - y.a * m, y.c, r⟩).a * m + (x.mul ⟨y.a, y.b - y.a * m, y.c, r⟩).b) (x.mul ⟨y.a, y.b - y.a * m, y.c, r⟩).c ((x.mul ⟨y.a, y.b - y.a * m, y.c, r⟩).c * m + (x.mul ⟨y.a, y.b - y.a * m, y.c, r⟩).d)) = x.mul y := by
          unfold Mx.mul
          simp only
          rw [← hdiv]
          congr 1 <;> grind
        have f3 : (Mx.mk (Mx.mk (-(y.b - y.a * m)) y.a (-r) y.c).b (-(Mx.mk (-(y.b - y.a * m)) y.a (-r) y.c).a) (Mx.mk (-(y.b - y.a * m)) y.a (-r) y.c).d (-(Mx.mk (-(y.b - y.a * m)) y.a (-r) y.c).c)) = ⟨y.a, y.b - y.a * m, y.c, r⟩ := by
          simp only [Int.neg_neg]
        have f4 : (Mx.mk (x.mul ⟨-(y.b - y.a * m), y.a, -r, y.c⟩).b (-(x.mul ⟨-(y.b - y.a * m), y.a, -r, y.c⟩).a) (x.mul ⟨-(y.b - y.a * m), y.a, -r, y.c⟩).d (-(x.mul ⟨-(y.b - y.a * m), y.a, -r, y.c⟩).c)) = x.mul ⟨y.a, y.b - y.a * m, y.c, r⟩ := by
          unfold Mx.mul
          simp only
          congr 1 <;> grind
        rw [f1] at e3
        rw [f2] at e4
        rw [f3] at e2
        rw [f4] at e1
        have sid := sign_id (c := x.c) (p := (x.mul ⟨-(y.b - y.a * m), y.a, -r, y.c⟩).c) (q := (x.mul ⟨-(y.b - y.a * m), y.a, -r, y.c⟩).d) (g := -r) (h := y.c) (by
          have := hy1
          unfold Mx.One at this
          unfold Mx.mul
          simp only at this ⊢
          rw [show (x.c * -(y.b - y.a * m) + x.d * -r) * y.c - (x.c * y.a + x.d * y.c) * -r = x.c * (-(y.b - y.a * m) * y.c - y.a * -r) by grind, this, Int.mul_one]) (.inr hc) hxy1.row
        have hcq : (x.mul y).c = (x.mul ⟨-(y.b - y.a * m), y.a, -r, y.c⟩).d := by
          unfold Mx.mul
          rfl
        have g1 : (Mx.mk (-(y.b - y.a * m)) y.a (-r) y.c).c = -r := rfl
        have g2 : (Mx.mk (-(y.b - y.a * m)) y.a (-r) y.c).d = y.c := rfl
        rw [g1] at ih e2
        rw [g2] at e2
        rw [hcq]
        generalize (x.mul ⟨-(y.b - y.a * m), y.a, -r, y.c⟩).c = p at *
        generalize (x.mul ⟨-(y.b - y.a * m), y.a, -r, y.c⟩).d = q at *
        generalize x.c.sign * (-r).sign * p.sign = s1 at *
        generalize p.sign * q.sign = s2 at *
        generalize x.c.sign * y.c.sign * q.sign = s3 at *
        generalize (-r).sign * y.c.sign = s4 at *
        omega
end HP

/- Rademacher's function modulo 12: a homomorphism; the sums of eta quotients; words. -/
namespace HP
/-- a sign: upper triangular with a negative entry -/
def lowB (sc sd : Int) : Int := if sc = 0 ∧ sd = -1 then 6 else 0
def psi12 (x : Mx) : Int := rad x - 3 * x.c.sign + lowB x.c.sign x.d.sign
/-- how far it is from a homomorphism -/
def del (sx dx sy dy sz dz : Int) : Int := -3 * (sx * sy * sz) - 3 * sz + 3 * sx + 3 * sy + lowB sz dz - lowB sx dx - lowB sy dy
theorem psi12_mul {x y : Mx} (hx : x.One) (hy : y.One) : psi12 (x.mul y) = psi12 x + psi12 y + del x.c.sign x.d.sign y.c.sign y.d.sign (x.mul y).c.sign (x.mul y).d.sign := by
  have h := rad_coc hx y.c.natAbs y (Nat.le_refl _) hy
  unfold psi12 del
  omega
theorem del_dvd {x y : Mx} (hx : x.One) (hy : y.One) : (12 : Int) ∣ del x.c.sign x.d.sign y.c.sign y.d.sign (x.mul y).c.sign (x.mul y).d.sign := by
  have hz := hx.mul hy
  have dx := hx
  have dy := hy
  have dz := hz
  unfold Mx.One at dx dy dz
  by_cases hc : x.c = 0
  · have ez : (x.mul y).c = x.d * y.c := by unfold Mx.mul; show x.c * y.a + x.d * y.c = _; rw [hc]; omega
    have ed : (x.mul y).d = x.d * y.d := by unfold Mx.mul; show x.c * y.b + x.d * y.d = _; rw [hc]; omega
    rw [ez, ed, hc]
    rw [hc, Int.mul_zero, Int.sub_zero] at dx
    rcases unit_right dx with e | e
    · rw [e, Int.one_mul, Int.one_mul]
      unfold del lowB
      refine ⟨0, ?_⟩
      simp
      omega
    · have f1 : (-1 * y.c).sign = -y.c.sign := by rw [show -1 * y.c = -y.c by omega, Int.sign_neg]
      have f2 : (-1 * y.d).sign = -y.d.sign := by rw [show -1 * y.d = -y.d by omega, Int.sign_neg]
      rw [e, f1, f2]
      have r := hy.row
      unfold del lowB
      rcases sgn_tri y.c with ⟨a, _⟩ | ⟨a, _⟩ | ⟨a, _⟩ <;> rcases sgn_tri y.d with ⟨b, _⟩ | ⟨b, _⟩ | ⟨b, _⟩ <;> rw [a, b] <;> first | (exfalso; omega) | (simp; done) | (simp; omega)
  · by_cases hg : y.c = 0
    · have ez : (x.mul y).c = x.c * y.a := by unfold Mx.mul; show x.c * y.a + x.d * y.c = _; rw [hg]; omega
      rw [ez, hg]
      rw [hg, Int.mul_zero, Int.sub_zero] at dy
      have ey : y.a = y.d := by
        rcases unit_right dy with e | e
        · rw [e] at dy ⊢; omega
        · rw [e] at dy ⊢; omega
      rw [ey, Int.sign_mul]
      unfold del lowB
      rcases unit_right dy with e | e
      · rw [e]
        rcases sgn_tri x.c with ⟨a, _⟩ | ⟨a, _⟩ | ⟨a, _⟩ <;> rw [a] <;> first | (exfalso; omega) | (simp; done) | (simp; omega)
      · rw [e]
        rcases sgn_tri x.c with ⟨a, _⟩ | ⟨a, _⟩ | ⟨a, _⟩ <;> rw [a] <;> first | (exfalso; omega) | (simp; done) | (simp; omega)
    · by_cases hzc : (x.mul y).c = 0
      · rw [hzc, Int.mul_zero, Int.sub_zero] at dz
        have ea : (x.mul y).a = (x.mul y).d := by
          rcases unit_right dz with e | e
          · rw [e] at dz ⊢; omega
          · rw [e] at dz ⊢; omega
        have eg : y.c = -(x.c * (x.mul y).d) := by
          have h1 : x.a * (x.mul y).c - x.c * (x.mul y).a = (x.a * x.d - x.b * x.c) * y.c := by
            unfold Mx.mul
            simp only
            grind
          rw [hzc, ea, dx] at h1
          omega
        have es : y.c.sign = -(x.c.sign * (x.mul y).d.sign) := by rw [eg, Int.sign_neg, Int.sign_mul]
        rw [hzc, es]
        unfold del lowB
        rcases unit_right dz with e | e
        · rw [e]
          rcases sgn_tri x.c with ⟨a, _⟩ | ⟨a, _⟩ | ⟨a, _⟩ <;> rw [a] <;> first | (exfalso; omega) | (simp; done) | (simp; omega)
        · rw [e]
          rcases sgn_tri x.c with ⟨a, _⟩ | ⟨a, _⟩ | ⟨a, _⟩ <;> rw [a] <;> first | (exfalso; omega) | (simp; done) | (simp; omega)
      · unfold del lowB
        rcases sgn_tri x.c with ⟨a, _⟩ | ⟨a, _⟩ | ⟨a, _⟩ <;> rcases sgn_tri y.c with ⟨b, _⟩ | ⟨b, _⟩ | ⟨b, _⟩ <;> rcases sgn_tri (x.mul y).c with ⟨c, _⟩ | ⟨c, _⟩ | ⟨c, _⟩ <;> rw [a, b, c] <;> first | (exfalso; omega) | (simp)
/-- a word's next letters: m = T^q S m' -/
theorem word_step {m : Mx} (hm : m.One) {q r : Int} (ha : m.a = q * m.c + r) : (Mx.mk m.c m.d (-r) (q * m.d - m.b)).One ∧ (12 : Int) ∣ psi12 m - (q + 9 + psi12 ⟨m.c, m.d, -r, q * m.d - m.b⟩) := by
  have h1 : (Mx.mk m.c m.d (-r) (q * m.d - m.b)).One := by
    have := hm
    unfold Mx.One at *
    show m.c * (q * m.d - m.b) - m.d * -r = 1
    rw [← this, ha]
    grind
  have hx : (Mx.mk q (-1) 1 0).One := by show q * 0 - -1 * 1 = 1; omega
  refine ⟨h1, ?_⟩
  have e : (Mx.mk q (-1) 1 0).mul ⟨m.c, m.d, -r, q * m.d - m.b⟩ = m := by
    unfold Mx.mul
    simp only
    rw [show q * m.c + -1 * -r = m.a by omega, show q * m.d + -1 * (q * m.d - m.b) = m.b by omega, show 1 * m.c + 0 * -r = m.c by omega, show 1 * m.d + 0 * (q * m.d - m.b) = m.d by omega]
  have h2 := psi12_mul hx h1
  have h3 := del_dvd hx h1
  rw [e] at h2 h3
  have h4 : psi12 (Mx.mk q (-1) 1 0) = q - 3 := by
    have h5 := rad_mul hx (show (1 : Int) ≠ 0 by omega)
    have h6 : (1 : Int) * rad (Mx.mk q (-1) 1 0) = q + 0 - 2 * dZ 0 1 := h5
    have h0 : dZ (0 : Int) 1 = 0 := dN_one _
    rw [h0] at h6
    show rad (Mx.mk q (-1) 1 0) - 3 * 1 + lowB 1 0 = q - 3
    have : lowB 1 0 = 0 := rfl
    omega
  rw [h4] at h2
  obtain ⟨t, ht⟩ := h3
  rw [ht] at h2
  exact ⟨t - 1, by omega⟩
theorem word_end {m : Mx} (hm : m.One) (hc : m.c = 0) : psi12 m = m.a * m.b + if m.a < 0 then 6 else 0 := by
  have h := hm
  unfold Mx.One at h
  rw [hc, Int.mul_zero, Int.sub_zero] at h
  unfold psi12 lowB
  rw [rad_zero hc, hc]
  rcases unit_right h with e | e
  · rw [e] at h ⊢
    rw [show m.a = 1 by omega]
    simp
  · rw [e] at h ⊢
    rw [show m.a = -1 by omega]
    simp
/-- modulo 12, what Abelian answers -/
theorem psi12_rad (m : Mx) : rad m = psi12 m + 3 * m.c.sign - lowB m.c.sign m.d.sign := by unfold psi12; omega
/-- a matrix seen from a divisor of its lower left entry -/
def Mx.at (x : Mx) (d : Int) : Mx := ⟨x.a, x.b * d, x.c / d, x.d⟩
theorem Mx.One.at {x : Mx} (h : x.One) {d : Int} (hd : d ∣ x.c) : (x.at d).One := by
  unfold Mx.One Mx.at at *
  obtain ⟨q, hq⟩ := hd
  by_cases h0 : d = 0
  · rw [h0, Int.zero_mul] at hq
    rw [hq, Int.mul_zero] at h
    show x.a * x.d - x.b * d * (x.c / d) = 1
    rw [hq, Int.zero_ediv, Int.mul_zero]
    exact h
  · show x.a * x.d - x.b * d * (x.c / d) = 1
    rw [hq, Int.mul_ediv_cancel_left _ h0, Int.mul_assoc, ← hq]
    exact h
theorem sign_div {c d : Int} (hd : 0 < d) (h : d ∣ c) : (c / d).sign = c.sign := by
  obtain ⟨q, rfl⟩ := h
  rw [Int.mul_ediv_cancel_left _ (by omega), Int.sign_mul, Int.sign_eq_one_of_pos hd, Int.one_mul]
end HP

/- Dedekind sums as fractions. -/
namespace HP
/-- the Dedekind sum -/
def sR (h : Int) (k : Nat) : Rat := (dZ h k : Rat) / (6 * (k : Rat))
theorem ratN {n : Nat} (h : 0 < n) : (n : Rat) ≠ 0 := by
  intro e
  have := Rat.natCast_eq_zero_iff.1 e
  omega
theorem sR_recip {h k : Nat} (hh : 0 < h) (hk : 0 < k) (hc : Nat.gcd h k = 1) : sR h k + sR k h = (((h * h + k * k + 1 - 3 * (h * k) : Int) : Rat)) / ((12 * (h * k) : Int) : Rat) := by
  have r := recip hh hk hc
  rw [← dZ_nat hk, ← dZ_nat hh] at r
  unfold sR
  generalize dZ (h : Int) k = N at *
  generalize dZ (k : Int) h = N' at *
  have e : (h * h + k * k + 1 - 3 * (h * k) : Int) = 2 * h * N + 2 * k * N' := by rw [r, Int.mul_assoc]
  rw [e]
  have h1 := ratN hh
  have h2 := ratN hk
  push_cast
  grind
theorem sumN_le {f : Nat → Nat} {B : Nat} : ∀ n, (∀ i, i < n → f i ≤ B) → sumN f n ≤ n * B
  | 0, _ => Nat.zero_le _
  | n + 1, h => by
    have h1 := sumN_le n fun i hi => h i (by omega)
    have h2 := h n (by omega)
    rw [sumN_succ, Nat.add_mul, Nat.one_mul]
    omega
theorem dN_bd {h k : Nat} (hk : 0 < k) : (dN h k).natAbs ≤ 6 * (k * k) := by
  have e := dN_E (h := h) (k := k)
  have h1 : dE h k ≤ k * (k * k) := sumN_le k fun i hi => Nat.mul_le_mul (Nat.le_of_lt hi) (Nat.le_of_lt (Nat.mod_lt _ hk))
  have h2 : sq1 k ≤ k * k := sumN_le k fun i hi => Nat.le_of_lt hi
  have h3 : k * sq1 k ≤ k * (k * k) := Nat.mul_le_mul_left _ h2
  have h4 : (k * (dN h k).natAbs : Nat) ≤ k * (6 * (k * k)) := by
    have h5 : ((k : Int) * dN h k).natAbs = k * (dN h k).natAbs := by rw [Int.natAbs_mul, Int.natAbs_natCast]
    have h6 : (3 : Int) * k * sq1 k = 3 * ((k * sq1 k : Nat) : Int) := by rw [Int.natCast_mul, Int.mul_assoc]
    have h7 : k * (6 * (k * k)) = 6 * (k * (k * k)) := Nat.mul_left_comm _ _ _
    rw [← h5, e, h6, h7]
    omega
  exact Nat.le_of_mul_le_mul_left h4 hk
theorem rat_bd {a b : Int} (hb : b ≠ 0) : (Rat.divInt a b).num.natAbs ≤ a.natAbs ∧ (Rat.divInt a b).den ≤ b.natAbs := by
  rw [Rat.num_divInt, Rat.den_divInt, if_neg hb]
  constructor
  · rw [Int.natAbs_ediv_of_dvd (by
      refine Int.dvd_trans ?_ (Int.dvd_mul_left _ _)
      exact Int.gcd_dvd_right ..), Int.natAbs_mul, Int.natAbs_sign_of_ne_zero hb, Nat.one_mul]
    exact Nat.div_le_self _ _
  · exact Nat.div_le_self _ _
/-- a fraction of which both parts are short -/
def RB (q : Rat) : Prop := ln q.num.natAbs ≤ 1000 ∧ ln q.den ≤ 1000
theorem RB.of {a b : Int} (hb : b ≠ 0) (h1 : ln a.natAbs ≤ 1000) (h2 : ln b.natAbs ≤ 1000) : RB (Rat.divInt a b) := by
  obtain ⟨e1, e2⟩ := rat_bd (a := a) hb
  have m : ∀ {x y : Nat}, x ≤ y → ln x ≤ ln y := fun h => ln_le (Nat.lt_of_le_of_lt h (lt_ln _))
  exact ⟨Nat.le_trans (m e1) h1, Nat.le_trans (m e2) h2⟩
theorem sR_diff {h h0 : Int} {k k0 : Nat} (hk : 0 < k) (hk0 : 0 < k0) (s : Int) : sR h0 k0 - s * sR h k = Rat.divInt (dZ h0 k0 * k - s * (dZ h k * k0)) (6 * (k0 * k)) := by
  rw [Rat.divInt_eq_div]
  unfold sR
  have h1 := ratN hk
  have h2 := ratN hk0
  push_cast
  grind
theorem ln_of {x k : Nat} (h : x < 2 ^ (32 * k)) : ln x ≤ k := ln_le (by rw [w32_two]; exact h)
theorem sR_RB {h h0 s : Int} {k k0 : Nat} (hk : 0 < k) (hk0 : 0 < k0) (hkb : k ≤ 1073741824) (hkb0 : k0 ≤ 1073741824) (hs : s.natAbs ≤ 1) : RB (sR h0 k0 - s * sR h k) := by
  rw [sR_diff hk hk0]
  have b1 : (dZ h0 k0).natAbs ≤ 6 * (1073741824 * 1073741824) := Nat.le_trans (dN_bd hk0) (Nat.mul_le_mul_left _ (Nat.mul_le_mul hkb0 hkb0))
  have b2 : (dZ h k).natAbs ≤ 6 * (1073741824 * 1073741824) := Nat.le_trans (dN_bd hk) (Nat.mul_le_mul_left _ (Nat.mul_le_mul hkb hkb))
  have b3 : (k0 * k : Nat) ≤ 1073741824 * 1073741824 := Nat.mul_le_mul hkb0 hkb
  have b4 : 0 < k0 * k := Nat.mul_pos hk0 hk
  have e : ((6 : Int) * (k0 * k)).natAbs = 6 * (k0 * k) := by rw [← Int.natCast_mul]; omega
  refine RB.of (by rw [← Int.natCast_mul]; omega) ?_ ?_
  · have c1 : (dZ h0 k0 * k).natAbs ≤ 6 * (1073741824 * 1073741824) * 1073741824 := by rw [Int.natAbs_mul, Int.natAbs_natCast]; exact Nat.mul_le_mul b1 hkb
    have c2 : (s * (dZ h k * k0)).natAbs ≤ 1 * (6 * (1073741824 * 1073741824) * 1073741824) := by rw [Int.natAbs_mul, Int.natAbs_mul, Int.natAbs_natCast]; exact Nat.mul_le_mul hs (Nat.mul_le_mul b2 hkb0)
    have c3 := Int.natAbs_sub_le (dZ h0 k0 * k) (s * (dZ h k * k0))
    refine Nat.le_trans (ln_of (k := 4) (Nat.lt_of_le_of_lt (Nat.le_trans c3 (Nat.add_le_add c1 c2)) (by decide +kernel))) (by omega)
  · rw [e]
    exact Nat.le_trans (ln_of (k := 3) (Nat.lt_of_le_of_lt (Nat.mul_le_mul_left _ b3) (by decide +kernel))) (by omega)
/-- 4 k^2 s(h, k), so far -/
def fourP (h k : Nat) : Nat → Int
  | 0 => 0
  | j + 1 => fourP h k j + if j = 0 then 0 else (2 * (j : Int) - k) * (2 * ((h * j % k : Nat) : Int) - k)
theorem four_ring {X k s1 s2 s3 j r : Int} (ih : X + k * k = 4 * s1 - 2 * k * s2 - 2 * k * s3 + (j + 1) * (k * k)) :
    X + (2 * (j + 1) - k) * (2 * r - k) + k * k = 4 * (s1 + (j + 1) * r) - 2 * k * (s2 + (j + 1)) - 2 * k * (s3 + r) + (j + 1 + 1) * (k * k) := by grind
theorem fourP_sum (h k : Nat) : ∀ j, fourP h k (j + 1) + k * k = 4 * ((sumN (fun i => i * (h * i % k)) (j + 1) : Nat) : Int) - 2 * k * ((sumN (fun i => i) (j + 1) : Nat) : Int) - 2 * k * ((sumN (fun i => h * i % k) (j + 1) : Nat) : Int) + (j + 1) * (k * k)
  | 0 => by
    have e1 : sumN (fun i => i * (h * i % k)) 1 = 0 := by show 0 + 0 * _ = 0; simp
    have e2 : sumN (fun i => i) 1 = 0 := rfl
    have e3 : sumN (fun i => h * i % k) 1 = 0 := by show 0 + h * 0 % k = 0; simp
    rw [e1, e2, e3]
    show (0 + 0 : Int) + _ = _
    simp
  | j + 1 => by
    have ih := fourP_sum h k j
    have e : fourP h k (j + 1 + 1) = fourP h k (j + 1) + (2 * ((j + 1 : Nat) : Int) - k) * (2 * ((h * (j + 1) % k : Nat) : Int) - k) := by
      rw [fourP, if_neg (by omega)]
    have e1 : sumN (fun i => i * (h * i % k)) (j + 1 + 1) = sumN (fun i => i * (h * i % k)) (j + 1) + (j + 1) * (h * (j + 1) % k) := rfl
    have e2 : sumN (fun i => i) (j + 1 + 1) = sumN (fun i => i) (j + 1) + (j + 1) := rfl
    have e3 : sumN (fun i => h * i % k) (j + 1 + 1) = sumN (fun i => h * i % k) (j + 1) + h * (j + 1) % k := rfl
    rw [e, e1, e2, e3]
    generalize h * (j + 1) % k = r at *
    generalize sumN (fun i => i * (h * i % k)) (j + 1) = s1 at *
    generalize sumN (fun i => i) (j + 1) = s2 at *
    generalize sumN (fun i => h * i % k) (j + 1) = s3 at *
    clear e e1 e2 e3
    push_cast at *
    generalize fourP h k (j + 1) = X at *
    exact four_ring ih
theorem four_dN {h k : Nat} (hk : 0 < k) (hc : Nat.gcd h k = 1) : 3 * fourP h k k = 2 * k * dN h k := by
  obtain ⟨j, rfl⟩ : ∃ j, k = j + 1 := ⟨k - 1, by omega⟩
  have h1 := fourP_sum h (j + 1) j
  have h2 : sumN (fun i => h * i % (j + 1)) (j + 1) = sq1 (j + 1) := unit_perm hk hc fun x => x
  have h3 : sumN (fun i => i * (h * i % (j + 1))) (j + 1) = dE h (j + 1) := rfl
  have h4 : sumN (fun i => i) (j + 1) = sq1 (j + 1) := rfl
  have h5 := dN_E (h := h) (k := j + 1)
  have h6 := congrArg (fun n : Nat => (n : Int)) (sum1 (j + 1))
  rw [h2, h3, h4] at h1
  simp only [h4] at h6
  push_cast at *
  generalize (dE h (j + 1) : Int) = E at *
  generalize (sq1 (j + 1) : Int) = S at *
  generalize dN h (j + 1) = N at *
  generalize fourP h (j + 1) (j + 1) = X at *
  generalize (j : Int) = J at *
  grind
/-- 6 k s(h, k) against the square of h -/
theorem dN_sq {h k : Nat} (hk : 0 < k) (hc : Nat.gcd h k = 1) : (k : Int) ∣ 2 * h * dN h k - (h * h + 1) := by
  rcases Nat.eq_zero_or_pos h with h0 | h0
  · subst h0
    rw [Nat.gcd_zero_left] at hc
    rw [hc]
    exact Int.one_dvd _
  · have r := recip h0 hk hc
    refine ⟨k - 3 * h - 2 * dN k h, ?_⟩
    rw [Int.mul_sub, Int.mul_sub]
    have e1 : (k : Int) * (3 * h) = 3 * h * k := by grind
    have e2 : (k : Int) * (2 * dN k h) = 2 * k * dN k h := by grind
    omega
end HP

/- Multipliers of eta quotients: the fractional part of a sum over the divisors. -/
namespace HP
/-- the fractional part -/
def frp (q : Rat) : Rat := q - (q.floor : Rat)
theorem floor_div {n k : Int} (hk : 0 < k) : ((n : Rat) / (k : Rat)).floor = n / k := by
  have hk' : (0 : Rat) < (k : Rat) := Rat.intCast_pos.2 hk
  have h1 := Int.mul_ediv_add_emod n k
  have h2 := Int.emod_nonneg n (show k ≠ 0 by omega)
  have h3 := Int.emod_lt_of_pos n hk
  apply Int.le_antisymm
  · refine Int.le_of_lt_add_one (Rat.floor_lt_iff.2 ((Rat.div_lt_iff hk').2 ?_))
    rw [← Rat.intCast_mul]
    refine Rat.intCast_lt_intCast.2 ?_
    grind
  · refine Rat.le_floor_iff.2 (Rat.not_lt.1 fun h => ?_)
    have h4 := (Rat.div_lt_iff hk').1 h
    rw [← Rat.intCast_mul] at h4
    have h5 := Rat.intCast_lt_intCast.1 h4
    grind
theorem frp_div {n k : Int} (hk : 0 < k) : frp ((n : Rat) / (k : Rat)) = ((n % k : Int) : Rat) / (k : Rat) := by
  unfold frp
  rw [floor_div hk]
  have hk' : (k : Rat) ≠ 0 := Rat.ne_of_gt (Rat.intCast_pos.2 hk)
  have h1 := congrArg (fun z : Int => (z : Rat)) (Int.mul_ediv_add_emod n k)
  push_cast at h1
  generalize ((n / k : Int) : Rat) = u at *
  generalize ((n % k : Int) : Rat) = v at *
  grind
/-- the sum over the divisors, in units of 1/24 -/
def psiS (m : Mx) : List (Int × Int) → Int
  | [] => 0
  | p :: l => p.2 * psi12 (m.at p.1) + psiS m l
def totS : List (Int × Int) → Int
  | [] => 0
  | p :: l => p.2 + totS l
def wgtS : List (Int × Int) → Int
  | [] => 0
  | p :: l => p.1 * p.2 + wgtS l
/-- the multiplier -/
def mulV (m : Mx) (l : List (Int × Int)) : Rat := frp ((psiS m l : Rat) / ((24 : Int) : Rat))
/-- the sum of Rademacher's functions over the divisors -/
def radS (m : Mx) : List (Int × Int) → Int
  | [] => 0
  | p :: l => p.2 * rad (m.at p.1) + radS m l
def Mx.neg (m : Mx) : Mx := ⟨-m.a, -m.b, -m.c, -m.d⟩
theorem Mx.One.neg {m : Mx} (h : m.One) : m.neg.One := by
  unfold Mx.One Mx.neg at *
  grind
theorem Mx.neg_at {m : Mx} {d : Int} (hd : d ∣ m.c) : m.neg.at d = (m.at d).neg := by
  unfold Mx.neg Mx.at
  simp only
  rw [Int.neg_ediv_of_dvd hd, Int.neg_mul]
theorem psi_pos {m : Mx} (h : 0 < m.c) {d : Int} (hd : 0 < d) (hc : d ∣ m.c) : psi12 (m.at d) = rad (m.at d) - 3 := by
  unfold psi12 lowB
  have s : (m.at d).c.sign = 1 := by rw [show (m.at d).c.sign = m.c.sign from sign_div hd hc]; exact Int.sign_eq_one_of_pos h
  rw [s]
  simp
theorem psi_neg {m : Mx} (hm : m.One) (h : m.c < 0) {d : Int} (hd : 0 < d) (hc : d ∣ m.c) : psi12 (m.at d) = rad (m.neg.at d) + 3 := by
  have e : rad (m.neg.at d) = rad (m.at d) := by rw [Mx.neg_at hc]; exact rad_neg (hm.at hc)
  rw [e]
  unfold psi12 lowB
  have s : (m.at d).c.sign = -1 := by rw [show (m.at d).c.sign = m.c.sign from sign_div hd hc]; exact Int.sign_eq_neg_one_of_neg h
  rw [s]
  simp
theorem psi_zero {m : Mx} (h : m.c = 0) {d : Int} : psi12 (m.at d) = d * (m.b * m.d) + if m.d < 0 then 6 else 0 := by
  have hc : (m.at d).c = 0 := by show m.c / d = 0; rw [h, Int.zero_ediv]
  unfold psi12 lowB
  rw [rad_zero hc, hc]
  show m.b * d * m.d - 3 * Int.sign 0 + (if Int.sign 0 = 0 ∧ m.d.sign = -1 then 6 else 0) = _
  by_cases hd : m.d < 0
  · rw [if_pos ⟨rfl, Int.sign_eq_neg_one_of_neg hd⟩, if_pos hd]
    simp
    grind
  · rw [if_neg (fun k => hd (Int.sign_eq_neg_one_iff_neg.1 k.2)), if_neg hd]
    simp
    grind
theorem psiS_pos {m : Mx} (h : 0 < m.c) : ∀ {l : List (Int × Int)}, (∀ p ∈ l, 0 < p.1 ∧ p.1 ∣ m.c) → psiS m l = radS m l - 3 * totS l
  | [], _ => rfl
  | p :: l, k => by
    have ih := psiS_pos h (l := l) fun q hq => k q (List.mem_cons_of_mem _ hq)
    obtain ⟨h1, h2⟩ := k p List.mem_cons_self
    show p.2 * psi12 (m.at p.1) + psiS m l = p.2 * rad (m.at p.1) + radS m l - 3 * (p.2 + totS l)
    rw [psi_pos h h1 h2, ih]
    grind
theorem psiS_neg {m : Mx} (hm : m.One) (h : m.c < 0) : ∀ {l : List (Int × Int)}, (∀ p ∈ l, 0 < p.1 ∧ p.1 ∣ m.c) → psiS m l = radS m.neg l + 3 * totS l
  | [], _ => rfl
  | p :: l, k => by
    have ih := psiS_neg hm h (l := l) fun q hq => k q (List.mem_cons_of_mem _ hq)
    obtain ⟨h1, h2⟩ := k p List.mem_cons_self
    show p.2 * psi12 (m.at p.1) + psiS m l = p.2 * rad (m.neg.at p.1) + radS m.neg l + 3 * (p.2 + totS l)
    rw [psi_neg hm h h1 h2, ih]
    grind
theorem psiS_zero {m : Mx} (h : m.c = 0) : ∀ {l : List (Int × Int)}, psiS m l = wgtS l * (m.b * m.d) + if m.d < 0 then 6 * totS l else 0
  | [] => by
    show (0 : Int) = 0 * _ + if m.d < 0 then 6 * 0 else 0
    split <;> simp
  | p :: l => by
    have ih := psiS_zero h (l := l)
    show p.2 * psi12 (m.at p.1) + psiS m l = (p.1 * p.2 + wgtS l) * (m.b * m.d) + if m.d < 0 then 6 * (p.2 + totS l) else 0
    rw [psi_zero h, ih]
    by_cases hd : m.d < 0
    · rw [if_pos hd, if_pos hd, if_pos hd]
      grind
    · rw [if_neg hd, if_neg hd, if_neg hd]
      grind
/-- the program's summand -/
theorem rad_at {m : Mx} (hm : m.One) (h : 0 < m.c) {d : Int} (hd : 0 < d) (hc : d ∣ m.c) :
    (d : Rat) * (((m.a + m.d : Int) : Rat) / ((12 * m.c : Int) : Rat)) - sR m.d (m.c / d).natAbs = (rad (m.at d) : Rat) / ((12 : Int) : Rat) := by
  obtain ⟨q, hq⟩ := hc
  have e1 : m.c / d = q := by rw [hq, Int.mul_ediv_cancel_left _ (by omega)]
  have hq0 : 0 < q := by
    rw [hq] at h
    exact Int.pos_of_mul_pos_right h hd
  have e := rad_mul (hm.at (d := d) ⟨q, hq⟩) (show m.c / d ≠ 0 by omega)
  rw [show (m.at d).c = q from e1] at e
  replace e : q * rad (m.at d) = m.a + m.d - 2 * dZ m.d q.natAbs := e
  unfold sR
  rw [e1, hq]
  generalize rad (m.at d) = R at *
  generalize dZ m.d q.natAbs = Z at *
  have hn : ((q.natAbs : Nat) : Rat) = (q : Rat) := by
    have : ((q.natAbs : Nat) : Int) = q := by omega
    exact congrArg (fun z : Int => (z : Rat)) this
  rw [hn]
  have hd' : (d : Rat) ≠ 0 := Rat.ne_of_gt (Rat.intCast_pos.2 hd)
  have hq' : (q : Rat) ≠ 0 := Rat.ne_of_gt (Rat.intCast_pos.2 hq0)
  have e2 := congrArg (fun z : Int => (z : Rat)) e
  push_cast at e2 ⊢
  grind
/-- Rademacher's function as the program has it -/
theorem phi_rad {m : Mx} (hm : m.One) (h : m.c ≠ 0) : ((m.a + m.d : Int) : Rat) / (m.c : Rat) - ((12 * m.c.sign : Int) : Rat) * sR m.d m.c.natAbs = (rad m : Rat) := by
  have e := rad_mul hm h
  have s := sign_self m.c
  have hs : m.c.sign * m.c.natAbs = m.c := Int.sign_mul_natAbs m.c
  unfold sR
  generalize rad m = R at *
  generalize dZ m.d m.c.natAbs = Z at *
  have hk : ((m.c.natAbs : Nat) : Rat) ≠ 0 := ratN (by omega)
  have hc' : (m.c : Rat) ≠ 0 := by
    intro k
    exact h (Rat.intCast_inj.1 k)
  have e2 := congrArg (fun z : Int => (z : Rat)) e
  have e3 := congrArg (fun z : Int => (z : Rat)) hs
  have e4 := congrArg (fun z : Int => (z : Rat)) s
  push_cast at e2 e3 e4 ⊢
  generalize ((m.c.natAbs : Nat) : Rat) = k at *
  generalize ((m.c.sign : Int) : Rat) = t at *
  grind
/-- Rademacher's function as the reference has it -/
theorem phi_four {m : Mx} (hm : m.One) (h : m.c ≠ 0) : (m.a + m.d) * m.c.natAbs - 3 * fourP (m.d % m.c.natAbs).toNat m.c.natAbs m.c.natAbs = m.c * m.c * (m.c.sign * rad m) := by
  have hk : 0 < m.c.natAbs := by omega
  have e := rad_mul hm h
  have hg : Int.gcd m.d m.c.natAbs = 1 := by
    have := hm.gcd
    show Nat.gcd m.d.natAbs (m.c.natAbs : Int).natAbs = 1
    rw [Int.natAbs_natCast]
    exact this
  have f := four_dN hk (gcd_toNat hk hg)
  have s := sign_self m.c
  have hs : m.c.sign * m.c.natAbs = m.c := Int.sign_mul_natAbs m.c
  have h2 : (m.c.natAbs : Int) * m.c.natAbs = m.c * m.c := Int.natAbs_mul_self
  rw [f]
  unfold dZ at e
  generalize dN (m.d % m.c.natAbs).toNat m.c.natAbs = Z at *
  generalize rad m = R at *
  generalize ((m.c.natAbs : Nat) : Int) = k at *
  generalize m.c.sign = t at *
  grind
/-- the reference's sum over the divisors -/
def totR (m : Mx) : List (Int × Int) → Int
  | [] => 0
  | p :: l => p.2 * (p.1 * (m.a + m.d) * m.c - 3 * p.1 * p.1 * fourP (m.d % (m.c / p.1)).toNat (m.c / p.1).toNat (m.c / p.1).toNat) + totR m l
theorem totR_one {m : Mx} (hm : m.One) (h : 0 < m.c) {d : Int} (hd : 0 < d) (hc : d ∣ m.c) :
    d * (m.a + m.d) * m.c - 3 * d * d * fourP (m.d % (m.c / d)).toNat (m.c / d).toNat (m.c / d).toNat = m.c * m.c * rad (m.at d) := by
  obtain ⟨q, hq⟩ := hc
  have e1 : m.c / d = q := by rw [hq, Int.mul_ediv_cancel_left _ (by omega)]
  have hq0 : 0 < q := by
    rw [hq] at h
    exact Int.pos_of_mul_pos_right h hd
  have e := phi_four (hm.at (d := d) ⟨q, hq⟩) (show m.c / d ≠ 0 by omega)
  rw [show (m.at d).c = q from e1, Int.sign_eq_one_of_pos hq0] at e
  replace e : (m.a + m.d) * q.natAbs - 3 * fourP (m.d % (q.natAbs : Int)).toNat q.natAbs q.natAbs = q * q * (1 * rad (m.at d)) := e
  have hn : (q.natAbs : Int) = q := by omega
  have ht : q.toNat = q.natAbs := by omega
  rw [e1, ht]
  rw [hn] at e
  generalize fourP (m.d % q).toNat q.natAbs q.natAbs = F at *
  generalize rad (m.at d) = R at *
  rw [hq]
  grind
theorem totR_eq {m : Mx} (hm : m.One) (h : 0 < m.c) : ∀ {l : List (Int × Int)}, (∀ p ∈ l, 0 < p.1 ∧ p.1 ∣ m.c) → totR m l = m.c * m.c * radS m l
  | [], _ => (Int.mul_zero _).symm
  | p :: l, k => by
    have ih := totR_eq hm h (l := l) fun q hq => k q (List.mem_cons_of_mem _ hq)
    obtain ⟨h1, h2⟩ := k p List.mem_cons_self
    have e := totR_one hm h h1 h2
    show p.2 * (p.1 * (m.a + m.d) * m.c - 3 * p.1 * p.1 * fourP (m.d % (m.c / p.1)).toNat (m.c / p.1).toNat (m.c / p.1).toNat) + totR m l = m.c * m.c * (p.2 * rad (m.at p.1) + radS m l)
    rw [e, ih]
    grind
theorem frp_scale {n k c : Int} (hk : 0 < k) (hc : 0 < c) : frp ((n : Rat) / (k : Rat)) = Rat.divInt (n * c % (k * c)) (k * c) := by
  rw [Rat.divInt_eq_div, ← frp_div (Int.mul_pos hk hc)]
  congr 1
  have hk' : (k : Rat) ≠ 0 := Rat.ne_of_gt (Rat.intCast_pos.2 hk)
  have hc' : (c : Rat) ≠ 0 := Rat.ne_of_gt (Rat.intCast_pos.2 hc)
  push_cast
  grind
/-- the multiplier as the reference has it -/
theorem mulV_pos {m : Mx} (hm : m.One) (h : 0 < m.c) {l : List (Int × Int)} (k : ∀ p ∈ l, 0 < p.1 ∧ p.1 ∣ m.c) :
    mulV m l = Rat.divInt (((0 - 3 * totS l) * m.c * m.c + totR m l) % (24 * m.c * m.c)) (24 * m.c * m.c) := by
  have hcc := Int.mul_pos h h
  unfold mulV
  rw [frp_scale (by omega) hcc, totR_eq hm h k, psiS_pos h k, Int.mul_assoc 24]
  congr 2
  grind
theorem mulV_neg {m : Mx} (hm : m.One) (h : m.c < 0) {l : List (Int × Int)} (k : ∀ p ∈ l, 0 < p.1 ∧ p.1 ∣ m.c) :
    mulV m l = Rat.divInt (((6 * totS l - 3 * totS l) * m.neg.c * m.neg.c + totR m.neg l) % (24 * m.neg.c * m.neg.c)) (24 * m.neg.c * m.neg.c) := by
  have h' : 0 < m.neg.c := by show 0 < -m.c; omega
  have k' : ∀ p ∈ l, 0 < p.1 ∧ p.1 ∣ m.neg.c := fun p hp => ⟨(k p hp).1, Int.dvd_neg.2 (k p hp).2⟩
  have hcc := Int.mul_pos h' h'
  unfold mulV
  rw [frp_scale (by omega) hcc, totR_eq hm.neg h' k', psiS_neg hm h k, Int.mul_assoc 24]
  congr 2
  grind
theorem mulV_zero {m : Mx} (h : m.c = 0) {l : List (Int × Int)} :
    mulV m l = Rat.divInt ((wgtS l * (m.b * m.d) + if m.d < 0 then 6 * totS l else 0) % 24) 24 := by
  unfold mulV
  rw [psiS_zero h, frp_div (by omega), Rat.divInt_eq_div]
theorem tmod24 (b w t : Int) : (b.tmod 24 * w + t) % 24 = (w * b + t) % 24 := by
  have h1 := Int.mul_tdiv_add_tmod b 24
  apply Int.emod_eq_emod_iff_emod_sub_eq_zero.2
  apply Int.emod_eq_zero_of_dvd
  refine ⟨-(b.tdiv 24 * w), ?_⟩
  grind
/-- one step of the program's sum -/
theorem step24 (n r R : Int) : (n : Rat) / ((24 : Int) : Rat) + (r : Rat) / ((2 : Int) : Rat) * ((R : Rat) / ((12 : Int) : Rat)) = ((n + r * R : Int) : Rat) / ((24 : Int) : Rat) := by
  push_cast
  grind
theorem start24 (t : Int) : (0 : Rat) - (t : Rat) / ((8 : Int) : Rat) = ((-(3 * t) : Int) : Rat) / ((24 : Int) : Rat) ∧ (t : Rat) / ((4 : Int) : Rat) - (t : Rat) / ((8 : Int) : Rat) = ((3 * t : Int) : Rat) / ((24 : Int) : Rat) := by
  push_cast
  constructor <;> grind
theorem radS_snoc (m : Mx) : ∀ (l : List (Int × Int)) (p : Int × Int), radS m (l ++ [p]) = radS m l + p.2 * rad (m.at p.1)
  | [], p => by show p.2 * rad (m.at p.1) + 0 = 0 + _; omega
  | q :: l, p => by
    have ih := radS_snoc m l p
    show q.2 * rad (m.at q.1) + radS m (l ++ [p]) = q.2 * rad (m.at q.1) + radS m l + _
    rw [ih, Int.add_assoc]
theorem totS_snoc : ∀ (l : List (Int × Int)) (p : Int × Int), totS (l ++ [p]) = totS l + p.2
  | [], p => by show p.2 + 0 = 0 + _; omega
  | q :: l, p => by
    have ih := totS_snoc l p
    show q.2 + totS (l ++ [p]) = q.2 + totS l + _
    rw [ih, Int.add_assoc]
theorem wgtS_snoc : ∀ (l : List (Int × Int)) (p : Int × Int), wgtS (l ++ [p]) = wgtS l + p.1 * p.2
  | [], p => by show p.1 * p.2 + 0 = 0 + _; omega
  | q :: l, p => by
    have ih := wgtS_snoc l p
    show q.1 * q.2 + wgtS (l ++ [p]) = q.1 * q.2 + wgtS l + _
    rw [ih, Int.add_assoc]
theorem totR_snoc (m : Mx) : ∀ (l : List (Int × Int)) (p : Int × Int), totR m (l ++ [p]) = totR m l + totR m [p]
  | [], p => by show _ = 0 + _; rw [Int.zero_add]; rfl
  | q :: l, p => by
    have ih := totR_snoc m l p
    show _ + totR m (l ++ [p]) = _ + totR m l + _
    rw [ih, Int.add_assoc]
/-- Rademacher's function is small -/
theorem rad_bd {m : Mx} (hm : m.One) (hc : m.c ≠ 0) : (rad m).natAbs ≤ (m.a + m.d).natAbs + 12 * (m.c.natAbs * m.c.natAbs) := by
  have e := congrArg Int.natAbs (rad_mul hm hc)
  rw [Int.natAbs_mul] at e
  have b : (dZ m.d m.c.natAbs).natAbs ≤ 6 * (m.c.natAbs * m.c.natAbs) := dN_bd (by omega)
  have h1 : 1 * (rad m).natAbs ≤ m.c.natAbs * (rad m).natAbs := Nat.mul_le_mul_right _ (by omega)
  generalize dZ m.d m.c.natAbs = Z at *
  generalize m.c.natAbs * m.c.natAbs = K at *
  omega
end HP

/- Fractions as the program reckons them: numerator and denominator of Lean's Rat. -/
namespace HP
theorem over_num {n d : Int} (hd : 0 < d) : (Rat.divInt n d).num = n / (Int.gcd n d : Nat) ∧ ((Rat.divInt n d).den : Int) = d / (Int.gcd n d : Nat) := by
  rw [Rat.num_divInt, Rat.den_divInt, if_neg (by omega), Int.sign_eq_one_of_pos hd, Int.one_mul, Int.gcd_comm]
  refine ⟨rfl, ?_⟩
  rw [Int.natCast_ediv]
  congr 1
  omega
theorem over_whole (n : Int) : (Rat.divInt n 1).num = n ∧ (Rat.divInt n 1).den = 1 := by
  have h := over_num (n := n) (d := 1) (by omega)
  rw [Int.gcd_one] at h
  exact ⟨by rw [h.1]; exact Int.ediv_one _, by have := h.2; omega⟩
theorem over_cop {n d : Int} (hd : 0 < d) (hg : Int.gcd n d = 1) : (Rat.divInt n d).num = n ∧ ((Rat.divInt n d).den : Int) = d := by
  have h := over_num (n := n) hd
  rw [hg] at h
  exact ⟨by rw [h.1]; exact Int.ediv_one _, by rw [h.2]; exact Int.ediv_one _⟩
theorem over_neg (n d : Int) : Rat.divInt (-n) (-d) = Rat.divInt n d := Rat.neg_divInt_neg n d
theorem over_self (q : Rat) : Rat.divInt q.num q.den = q := Rat.num_divInt_den q
theorem rat_add (a b : Rat) : a + b = Rat.divInt (a.num * b.den + b.num * a.den) (a.den * b.den) := by
  rw [Rat.add_def', ← Rat.divInt_ofNat, Int.natCast_mul]
theorem rat_add_one {a b : Rat} (ha : a.den = 1) (hb : b.den = 1) : (a + b).num = a.num + b.num ∧ (a + b).den = 1 := by
  have h := rat_add a b
  rw [ha, hb] at h
  rw [h]
  have e := over_whole (a.num * ((1 : Nat) : Int) + b.num * ((1 : Nat) : Int))
  refine ⟨e.1.trans (by omega), e.2⟩
theorem rat_mul (a b : Rat) : a * b = Rat.divInt (a.num * b.num) (a.den * b.den) := by
  rw [Rat.mul_def, Rat.normalize_eq_mkRat, ← Rat.divInt_ofNat, Int.natCast_mul]
theorem rat_neg (a : Rat) : -a = Rat.divInt (-a.num) a.den := by
  rw [← Rat.neg_divInt, Rat.num_divInt_den]
theorem rat_sub (a b : Rat) : a - b = a + -b := Rat.sub_eq_add_neg a b
/-- the reference's fraction -/
theorem frac_pos {n d : Int} (hd : 0 < d) {g : Int} (hg : g = (Int.gcd n d : Nat)) : n.tdiv g = (Rat.divInt n d).num ∧ d.tdiv g = ((Rat.divInt n d).den : Int) := by
  have h := over_num (n := n) hd
  rw [h.1, h.2, hg]
  exact ⟨Int.tdiv_eq_ediv_of_dvd (Int.gcd_dvd_left ..), Int.tdiv_eq_ediv_of_dvd (Int.gcd_dvd_right ..)⟩
end HP

/- Dedekind sums: the program's loop, and the inverse by Euclid's algorithm. -/
namespace HP
theorem sR_congr {d d' : Int} {k : Nat} (h : (k : Int) ∣ d - d') : sR d k = sR d' k := by
  unfold sR
  rw [dZ_congr h]
theorem sR_emod (d : Int) (k : Nat) : sR (d % k) k = sR d k := sR_congr ⟨-(d / k), by have := Int.mul_ediv_add_emod d k; grind⟩
theorem sR_one (h : Int) : sR h 1 = 0 := by
  unfold sR dZ
  rw [dN_one]
  push_cast
  grind
/-- 6 k s(h, k) is an integer -/
theorem sR_six {h : Int} {k : Nat} (hk : 0 < k) : sR h k * ((6 * k : Int) : Rat) = (dZ h k : Rat) := by
  unfold sR
  have := ratN hk
  push_cast
  grind
theorem sum_ring {o s a b t T : Rat} (h : o + s * a = T) (e : a + b = t) : o + s * t + -s * b = T := by grind
/-- one step of the loop -/
theorem sum_step {h k : Nat} (hh : 0 < h) (hk : 0 < k) (hc : Nat.gcd h k = 1) {o s T : Rat} (e : o + s * sR h k = T) :
    o + s * Rat.divInt (h * h + k * k + 1 - 3 * (h * k)) (12 * (h * k)) + -s * sR ((k % h : Nat) : Int) h = T ∧ Nat.gcd (k % h) h = 1 := by
  have r := sR_recip hh hk hc
  rw [← Rat.divInt_eq_div] at r
  have c : sR ((k % h : Nat) : Int) h = sR k h := by
    rw [Int.natCast_emod]
    exact sR_emod _ _
  rw [c]
  refine ⟨sum_ring e r, ?_⟩
  rw [← Nat.gcd_rec]
  exact hc
theorem sum_end {k : Nat} (hc : Nat.gcd 0 k = 1) {o s T : Rat} (e : o + s * sR ((0 : Nat) : Int) k = T) : o = T := by
  rw [Nat.gcd_zero_left] at hc
  rw [hc, sR_one] at e
  grind
/-- Euclid's algorithm with the factors of one number -/
structure EI (h k x y u v : Int) : Prop where
  x0 : 0 ≤ x
  y0 : 0 ≤ y
  ub : u.natAbs ≤ k.natAbs
  vb : v.natAbs ≤ k.natAbs
  sum : u.natAbs * y + v.natAbs * x = k
  opp : (0 ≤ u ∧ v ≤ 0) ∨ (u ≤ 0 ∧ 0 ≤ v)
  xu : k ∣ x - u * h
  yv : k ∣ y - v * h
  cop : Int.gcd x y = 1
theorem EI.start {h k : Int} (h0 : 0 ≤ h) (hk : 0 < k) (hc : Int.gcd h k = 1) : EI h k h k 1 0 where
  x0 := h0
  y0 := by omega
  ub := by omega
  vb := by omega
  sum := by show ((1 : Nat) : Int) * k + ((0 : Nat) : Int) * h = k; omega
  opp := .inl ⟨by omega, by omega⟩
  xu := ⟨0, by omega⟩
  yv := ⟨1, by omega⟩
  cop := hc
theorem abs_step {u v q : Int} (hq : 0 ≤ q) (o : (0 ≤ u ∧ v ≤ 0) ∨ (u ≤ 0 ∧ 0 ≤ v)) : ((u - q * v).natAbs : Int) = u.natAbs + q * v.natAbs ∧ ((0 ≤ v ∧ u - q * v ≤ 0) ∨ (v ≤ 0 ∧ 0 ≤ u - q * v)) := by
  rcases o with ⟨h1, h2⟩ | ⟨h1, h2⟩
  · have h3 : (v.natAbs : Int) = -v := by omega
    have h4 := Int.mul_nonneg hq (show 0 ≤ -v by omega)
    rw [h3]
    have h5 : q * -v = -(q * v) := Int.mul_neg ..
    rw [h5] at h4
    rw [h5]
    clear h5
    generalize q * v = w at *
    omega
  · have h3 : (v.natAbs : Int) = v := by omega
    have h4 := Int.mul_nonneg hq h2
    rw [h3]
    generalize q * v = w at *
    omega
theorem EI.step {h k x y u v : Int} (i : EI h k x y u v) (hy : 0 < y) (hk : 0 < k) : EI h k y (x - x / y * y) v (u - x / y * v) := by
  have q0 : 0 ≤ x / y := Int.ediv_nonneg i.x0 i.y0
  have e : x - x / y * y = x % y := by have := Int.mul_ediv_add_emod x y; grind
  have r0 := Int.emod_nonneg x (show y ≠ 0 by omega)
  obtain ⟨a1, a2⟩ := abs_step q0 i.opp
  have s : (v.natAbs : Int) * (x - x / y * y) + ((u - x / y * v).natAbs : Int) * y = k := by
    rw [a1]
    have := i.sum
    grind
  refine ⟨i.y0, by omega, i.vb, ?_, s, a2, i.yv, ?_, ?_⟩
  · have h1 : 0 ≤ (v.natAbs : Int) * (x - x / y * y) := Int.mul_nonneg (by omega) (by omega)
    have h2 : ((u - x / y * v).natAbs : Int) * 1 ≤ ((u - x / y * v).natAbs : Int) * y := Int.mul_le_mul_of_nonneg_left (by omega) (by omega)
    omega
  · obtain ⟨a, ha⟩ := i.xu
    obtain ⟨b, hb⟩ := i.yv
    refine ⟨a - x / y * b, ?_⟩
    generalize x / y = q at *
    grind
  · rw [e]
    have g := gcd_emodZ x y.toNat
    rw [Int.toNat_of_nonneg i.y0, i.cop] at g
    rwa [Int.gcd_comm]
/-- at the end u is the inverse of h -/
theorem EI.inv {h k x u v : Int} (i : EI h k x 0 u v) : k ∣ 1 - u * h := by
  have h1 := i.cop
  rw [Int.gcd_zero_right] at h1
  have h2 := i.x0
  have h3 : x = 1 := by omega
  rw [← h3]
  exact i.xu
/-- the reference's sum is small -/
theorem fourP_bd {h k : Nat} (hk : 0 < k) : ∀ j, j ≤ k → (fourP h k j).natAbs ≤ j * (k * k)
  | 0, _ => Nat.zero_le _
  | j + 1, hj => by
    have ih := fourP_bd (h := h) hk j (by omega)
    unfold fourP
    have r := Nat.mod_lt (h * j) hk
    generalize h * j % k = t at *
    have t1 : (if j = 0 then (0 : Int) else (2 * (j : Int) - k) * (2 * (t : Int) - k)).natAbs ≤ k * k := by
      split
      · exact Nat.zero_le _
      · rw [Int.natAbs_mul]
        exact Nat.mul_le_mul (by omega) (by omega)
    rw [Nat.succ_mul]
    generalize (if j = 0 then (0 : Int) else (2 * (j : Int) - k) * (2 * (t : Int) - k)) = u at *
    generalize k * k = K at *
    generalize j * K = J at *
    omega
/-- the sum is small beside its divisors: all the program's terms fit -/
theorem term_bd {h k : Nat} (hh : 0 < h) (hk : 0 < k) {M : Nat} (h1 : h ≤ M) (h2 : k ≤ M) : ((h * h + k * k + 1 - 3 * (h * k) : Int)).natAbs ≤ 3 * (M * M) ∧ ((12 * (h * k) : Int)).natAbs ≤ 12 * (M * M) := by
  have a := Nat.mul_le_mul h1 h1
  have b := Nat.mul_le_mul h2 h2
  have c := Nat.mul_le_mul h1 h2
  have d := Nat.mul_le_mul (Nat.le_trans hh h1) (Nat.le_trans hh h1)
  have e1 : ((h : Int) * h) = ((h * h : Nat) : Int) := (Int.natCast_mul ..).symm
  have e2 : ((k : Int) * k) = ((k * k : Nat) : Int) := (Int.natCast_mul ..).symm
  have e3 : ((h : Int) * k) = ((h * k : Nat) : Int) := (Int.natCast_mul ..).symm
  rw [e1, e2, e3]
  have f := Nat.mul_le_mul hh hk
  generalize h * h = x at *
  generalize k * k = y at *
  generalize h * k = z at *
  generalize M * M = w at *
  omega
/-- 12 k h s(h, k) is h^2 + 1 modulo k -/
theorem integral_law {h : Int} {k : Nat} (hk : 0 < k) (hc : Int.gcd h k = 1) : (k : Int) ∣ dZ h k * (2 * (h % k)) - (h % k * (h % k) + 1) := by
  have e := dN_sq hk (gcd_toNat hk hc)
  rw [emod_toNat hk] at e
  obtain ⟨t, ht⟩ := e
  refine ⟨t, ?_⟩
  show dN (h % k).toNat k * (2 * (h % k)) - (h % k * (h % k) + 1) = k * t
  rw [← ht]
  generalize dN (h % k).toNat k = Z at *
  grind
end HP

/- Words in S and T: sizes, and the abelian class. -/
namespace HP
/-- the sizes stay -/
theorem word_bd {m : Mx} (hm : m.One) (hc : m.c ≠ 0) {q r : Int} (ha : m.a = q * m.c + r) (hr : 2 * r.natAbs ≤ m.c.natAbs) {B : Nat} (hB : 1 ≤ B) (hd : m.d.natAbs ≤ B) :
    (q * m.d - m.b).natAbs ≤ B ∧ q.natAbs ≤ m.a.natAbs + 1 := by
  constructor
  · have e : m.c * (q * m.d - m.b) = 1 - m.d * r := by
      have := hm
      unfold Mx.One at this
      rw [ha] at this
      grind
    have e2 := congrArg Int.natAbs e
    rw [Int.natAbs_mul] at e2
    have l1 : (1 - m.d * r).natAbs ≤ 1 + m.d.natAbs * r.natAbs := by
      have h := Int.natAbs_sub_le 1 (m.d * r)
      rw [Int.natAbs_mul] at h
      exact h
    have l2 : m.d.natAbs * r.natAbs ≤ B * r.natAbs := Nat.mul_le_mul_right _ hd
    generalize (q * m.d - m.b).natAbs = D at *
    generalize (1 - m.d * r).natAbs = E at *
    generalize m.d.natAbs * r.natAbs = F at *
    have h0 : 0 < m.c.natAbs := by omega
    generalize m.c.natAbs = c at *
    generalize r.natAbs = s at *
    apply Nat.le_of_not_lt
    intro h
    have l3 : c * (B + 1) ≤ c * D := Nat.mul_le_mul_left _ h
    have l4 : 2 * (B * s) ≤ B * c := by
      have := Nat.mul_le_mul_left B hr
      rwa [Nat.mul_left_comm] at this
    have l5 : 1 * c ≤ B * c := Nat.mul_le_mul_right _ hB
    rw [Nat.mul_add, Nat.mul_one, Nat.mul_comm c B] at l3
    omega
  · have e : q * m.c = m.a - r := by omega
    have e2 := congrArg Int.natAbs e
    rw [Int.natAbs_mul] at e2
    have l1 : (m.a - r).natAbs ≤ m.a.natAbs + r.natAbs := Int.natAbs_sub_le ..
    have h0 : 0 < m.c.natAbs := by omega
    generalize (m.a - r).natAbs = E at *
    generalize m.c.natAbs = c at *
    generalize r.natAbs = s at *
    generalize m.a.natAbs = a at *
    generalize q.natAbs = Q at *
    apply Nat.le_of_not_lt
    intro h
    have l3 : (a + 1 + 1) * c ≤ Q * c := Nat.mul_le_mul_right _ h
    have l4 : a * 1 ≤ a * c := Nat.mul_le_mul_left _ h0
    rw [Nat.add_mul, Nat.add_mul] at l3
    omega
def sumL : List Int → Int
  | [] => 0
  | x :: l => x + sumL l
theorem sumL_snoc : ∀ (l : List Int) (x : Int), sumL (l ++ [x]) = sumL l + x
  | [], x => by show x + 0 = 0 + x; omega
  | y :: l, x => by
    have ih := sumL_snoc l x
    show y + sumL (l ++ [x]) = y + sumL l + x
    omega
/-- the word so far: m is what is left of M -/
structure WordI (M m : Mx) (l : List Int) : Prop where
  one : m.One
  cls : (12 : Int) ∣ psi12 M - (9 * l.length + sumL l + psi12 m)
theorem WordI.start {M : Mx} (h : M.One) : WordI M M [] := ⟨h, ⟨0, by show psi12 M - (9 * ((0 : Nat) : Int) + 0 + psi12 M) = _; omega⟩⟩
theorem WordI.step {M m : Mx} {l : List Int} (i : WordI M m l) {q r : Int} (ha : m.a = q * m.c + r) : WordI M ⟨m.c, m.d, -r, q * m.d - m.b⟩ (l ++ [q]) := by
  obtain ⟨h1, h2⟩ := word_step i.one ha
  refine ⟨h1, ?_⟩
  obtain ⟨a, ha⟩ := i.cls
  obtain ⟨b, hb⟩ := h2
  rw [sumL_snoc, List.length_append]
  refine ⟨a + b, ?_⟩
  show _ - (9 * ((l.length + 1 : Nat) : Int) + _ + _) = _
  omega
/-- the class that is reckoned from the word -/
theorem WordI.fin {M m : Mx} {l : List Int} (i : WordI M m l) (hc : m.c = 0) {t : Int} (ht : (12 : Int) ∣ t - sumL (l ++ [m.a * m.b])) :
    (12 : Int) ∣ psi12 M - (9 * l.length + t + if m.a < 0 then 6 else 0) := by
  have e := word_end i.one hc
  obtain ⟨a, ha⟩ := i.cls
  obtain ⟨b, hb⟩ := ht
  rw [sumL_snoc] at hb
  refine ⟨a - b, ?_⟩
  generalize (if m.a < 0 then (6 : Int) else 0) = w at *
  omega
theorem tmod_dvd (x n : Int) : n ∣ x.tmod n - x := ⟨-(x.tdiv n), by have := Int.mul_tdiv_add_tmod x n; grind⟩
/-- the law of the abelian class -/
theorem abel_law {M : Mx} {a : Int} (h : (12 : Int) ∣ psi12 M - a) : (12 : Int) ∣ rad M - (a + 3 * M.c.sign - if M.c = 0 ∧ M.d < 0 then 6 else 0) := by
  obtain ⟨b, hb⟩ := h
  refine ⟨b, ?_⟩
  rw [psi12_rad]
  have e : lowB M.c.sign M.d.sign = if M.c = 0 ∧ M.d < 0 then 6 else 0 := by
    unfold lowB
    by_cases hk : M.c = 0 ∧ M.d < 0
    · rw [if_pos hk, if_pos ⟨Int.sign_eq_zero_iff_zero.2 hk.1, Int.sign_eq_neg_one_iff_neg.2 hk.2⟩]
    · rw [if_neg hk, if_neg fun k => hk ⟨Int.sign_eq_zero_iff_zero.1 k.1, Int.sign_eq_neg_one_iff_neg.1 k.2⟩]
  rw [e]
  generalize (if M.c = 0 ∧ M.d < 0 then (6 : Int) else 0) = w at *
  omega
end HP

